/- The reference: a point by three numbers and one by two are added. -/
import Derived.Test.YtldhmjfjbalakaaQe21143a30bc9
set_option maxRecDepth 100000
set_option maxHeartbeats 16000000
namespace Go.Proofs.Ytldhmjfjbalakaa
open Go.RowKit
theorem four_w (w : World) (o1 o2 o3 o4 : Obj) : ((((w.alloc o1).alloc o2).alloc o3).alloc o4).heap[w.heap.size]? = some o1 ∧ ((((w.alloc o1).alloc o2).alloc o3).alloc o4).heap[w.heap.size + 1]? = some o2 ∧ ((((w.alloc o1).alloc o2).alloc o3).alloc o4).heap[w.heap.size + 2]? = some o3 ∧ ((((w.alloc o1).alloc o2).alloc o3).alloc o4).heap[w.heap.size + 3]? = some o4 ∧ ((((w.alloc o1).alloc o2).alloc o3).alloc o4).heap.size = w.heap.size + 4 := by
 obtain ⟨h1, h2, h3, h4⟩ := three_w w o1 o2 o3
 refine ⟨(Ext.alloc _ _).at_ h1, (Ext.alloc _ _).at_ h2, (Ext.alloc _ _).at_ h3, ?_, by simp⟩
 have := heap_alloc_new (((w.alloc o1).alloc o2).alloc o3) o4
 rwa [h4] at this
def mixP (M x y z qx qy : Nat) : Nat × Nat × Nat := if z = 0 then (qx, qy, 1) else let u1 := mm M z z; let u2 := mm M qx u1; let u3 := mm M u1 z; let u4 := mm M qy u3; let u5 := sm M u2 x; let u6 := sm M u4 y; let u7 := mm M u5 u5; let u8 := mm M u7 u5; let u9 := mm M x u7; let u10 := mm M u6 u6; let u11 := sm M u10 u8; let u12 := sm M u11 u9; let u13 := sm M u12 u9; let u14 := sm M u9 u13; let u15 := mm M u6 u14; let u16 := mm M y u8; let u17 := sm M u15 u16; let u18 := mm M z u5; if u5 = 0 then (if u6 = 0 then twP M x y z else (0, 0, 0)) else (u13, u17, u18)
theorem mixed_n {C : Crv} {ccs : Array Value} {v : Value} {p : Nat × Nat × Nat} {B1 B2 : Option Addr} {m1 m2 qx qy : Nat} (hF : C.Fine) (h8 : 8 < C.M) (w : World) (hc : RC w C (.agg ccs)) (hj : JN w C v p) (hq1 : RU w B1 m1 (digs 4294967296 qx)) (hq2 : RU w B2 m2 (digs 4294967296 qy)) (hqx : qx < C.M) (hqy : qy < C.M) :
 Calls Try.prog 58 #[.agg ccs, v, .agg #[.bool false, .slice B1 (digs 4294967296 qx).length m1, .slice B2 (digs 4294967296 qy).length m2]] w fun e w' => ∃ o, e = .returned o ∧ JN w' C o (mixP C.M p.1 p.2.1 p.2.2 qx qy) ∧ Ext w w' := by
 obtain ⟨A1, A2, A3, k1, k2, k3, rfl, hj1, hj2, hj3, hx, hy, hz⟩ := hj
 obtain ⟨x, y, z⟩ := p
 simp only at hj1 hj2 hj3 hx hy hz ⊢
 obtain ⟨Ap, An, Ab, Ax, Ay, cp, cn, cb, cx, cy, hccs, hP, hN, hB, hX1, hY1⟩ := hc
 injection hccs with hccs
 have hRC0 : RC w C (.agg ccs) := ⟨Ap, An, Ab, Ax, Ay, cp, cn, cb, cx, cy, by rw [hccs], hP, hN, hB, hX1, hY1⟩
 obtain ⟨W0, hW0⟩ : ∃ W0, W0 = (((w.alloc (.cells ccs 31)).alloc (.cells #[.slice A1 (digs 4294967296 x).length k1, .slice A2 (digs 4294967296 y).length k2, .slice A3 (digs 4294967296 z).length k3] 95)).alloc (.cells #[.bool false, .slice B1 (digs 4294967296 qx).length m1, .slice B2 (digs 4294967296 qy).length m2] 34)).alloc (.cells #[.slice none 0 0, .slice none 0 0, .slice none 0 0] 95) := ⟨_, rfl⟩
 obtain ⟨q, hq⟩ : ∃ q, w.heap.size = q := ⟨_, rfl⟩
 have hE0 : Ext w W0 := by rw [hW0]; exact (((Ext.alloc _ _).trans (Ext.alloc _ _)).trans (Ext.alloc _ _)).trans (Ext.alloc _ _)
 obtain ⟨hcb, hjb, hqb, hrb, hz0⟩ := four_w w (.cells ccs 31) (.cells #[.slice A1 (digs 4294967296 x).length k1, .slice A2 (digs 4294967296 y).length k2, .slice A3 (digs 4294967296 z).length k3] 95) (.cells #[.bool false, .slice B1 (digs 4294967296 qx).length m1, .slice B2 (digs 4294967296 qy).length m2] 34) (.cells #[.slice none 0 0, .slice none 0 0, .slice none 0 0] 95)
 rw [← hW0, hq] at hcb hjb hqb hrb hz0
 have j0 := blk_cell hjb 0
 have j1 := blk_cell hjb 1
 have j2 := blk_cell hjb 2
 have t1 := blk_cell hqb 1
 have t2 := blk_cell hqb 2
 have cP := blk_cell hcb 0
 rw [hccs] at cP
 simp only [List.getElem?_toArray, List.getElem?_cons_zero, List.getElem?_cons_succ] at j0 j1 j2 t1 t2 cP
 have hRC := Lib.hid (hRC0.ext hE0)
 have Hccs := Lib.hid (show ccs.size = 6 by rw [hccs]; rfl)
 have HRP := Lib.hid (RN.up hP hE0)
 have HX1 := Lib.hid (RN.up hj1 hE0)
 have HX2 := Lib.hid (RN.up hj2 hE0)
 have HX3 := Lib.hid (RN.up hj3 hE0)
 have HX4 := Lib.hid (RN.up hq1 hE0)
 have HX5 := Lib.hid (RN.up hq2 hE0)
 have HF := Lib.hid hF
 have H8 := Lib.hid h8
 have hM0 : 0 < C.M := by omega
 have HE0 := Lib.hid hE0
 have Hz0 := Lib.hid hz0
 replace hx := Lib.hid hx
 replace hy := Lib.hid hy
 replace hz := Lib.hid hz
 replace hqx := Lib.hid hqx
 replace hqy := Lib.hid hqy
 clear hRC0 hccs hP hN hB hX1 hY1 hj1 hj2 hj3 hF h8 hE0 hz0 hq1 hq2 hqb
 by_cases hz0 : z = 0
 · rw [show mixP C.M x y z qx qy = (qx, qy, 1) by rw [mixP, if_pos hz0]]
   replace hz0 := Lib.hid hz0
   go_enter Try.func58, Try.ntmps58
   go_upto_region 1 with fail
   rw [← hW0]
   have Hq := Lib.hid hq
   have HW0 := Lib.hid hW0
   have hE := Ext.refl W0
   clear hq hW0
   refine Par.region_txt 4 [0, 1, 3, 7] [] (fun j f X => match j with
    | 0 => f 0 = .pointer (some ⟨q + 1, 2, none⟩)
    | 1 => f 1 = .slice A3 (digs 4294967296 z).length k3
    | 2 => f 2 = .int .i64 ((digs 4294967296 z).length : Int)
    | 3 => f 3 = .bool true
    | _ => True) (by kernel_rfl) [(17, 0), (18, 1), (19, 2), (20, 3)] (by kernel_rfl) ?_
   refine Par.v0 1 3 ?_
   refine Par.ld1 2 2 0 (hE.cell j2) ?_
   refine Par.S 3 1 [(17, 0), (18, 1)] (fun f X hX hR K hK => ?_) ?_
   · have e1 : f 1 = _ := hR.out 1 rfl
     simp only [yA, yB, yC, yD, yE, e1]
     refine ⟨?_⟩
     go_simp
     exact Par.k hK (s := by simp only [yA, yB, yC, yD, yE, e1])
   refine Par.S 4 0 [(17, 0), (18, 1), (19, 2)] (fun f X hX hR K hK => ?_) ?_
   · have e2 : f 2 = _ := hR.out 2 rfl
     have hz1 : decide (((digs 4294967296 z).length : Int) = 0) = true := zdec_true hz0.out
     have hz2 : decide ((digs 4294967296 z).length = 0) = true := zden_true hz0.out
     have hz4 : ((((digs 4294967296 z).length : Nat) : Int) == 0) = true := zbeq_true hz0.out
     simp only [yA, yB, yC, yD, yE, e2]
     refine ⟨?_⟩
     go_simp
     exact Par.k hK (s := by simp only [yA, yB, yC, yD, yE, e2])
   refine Par.AllOps.fin ⟨fun f X hX hR hal hap => ?_⟩
   have e3 : f 3 = _ := hR 3 (by decide)
   simp only [yA, yB, yD, yE, e3]
   clear hR hal hap e3
   refine Par.Chain.done ?_
   replace hE := hE.trans hX
   clear hX  
   rename World => X1_k
   have hb1 := hE.at_ hrb
   go_upto_region 2 with fail
   refine Par.region_ext (by kernel_rfl) 6 [0, 1, 0, 4, 0, 31, 63] [] (fun j f X => match j with
    | 0 => f 0 = .pointer (some ⟨q + 2, 1, none⟩)
    | 1 => f 1 = .slice B1 (digs 4294967296 qx).length m1
    | 2 => f 2 = .pointer (some ⟨q + 2, 2, none⟩)
    | 3 => f 3 = .slice B2 (digs 4294967296 qy).length m2
    | 4 => ∃ A1 c1, f 4 = .slice A1 (digs 4294967296 1).length c1 ∧ RU X A1 c1 (digs 4294967296 1)
    | 5 => ∃ A c, f 5 = .agg #[.slice B1 (digs 4294967296 qx).length m1, .slice B2 (digs 4294967296 qy).length m2, .slice A (digs 4294967296 1).length c] ∧ RU X A c (digs 4294967296 1)
    | _ => True) (by kernel_rfl) [(21, 0), (22, 1), (23, 2), (24, 3), (25, 4), (26, 5)] (by kernel_rfl) ?_
   refine Par.v0 1 5 ?_
   refine Par.ld1 2 4 0 (hE.cell t1) ?_
   refine Par.v0 3 3 ?_
   refine Par.ld1 4 2 2 (hE.cell t2) ?_
   refine Par.c0 5 1 (fun _ => #[Value.int IntKind.u64 1]) (F' := 39) (fun f X hX hR => ?_) ?_
   · refine (of_r 1 X (by omega)).mono ?_
     rintro e w2 ⟨A1, c1, rfl, hO, hB⟩
     exact ⟨_, rfl, hB, fun Y hY => ⟨A1, c1, rfl, RN.up hO hY⟩⟩
   refine Par.S 6 0 [(21, 0), (22, 1), (23, 2), (24, 3), (25, 4)] (fun f X hX hR K hK => ?_) ?_
   · have e1 : f 1 = _ := hR.out 1 rfl
     have e3 : f 3 = _ := hR.out 3 rfl
     obtain ⟨A2_4, c2_4, (e4 : f 4 = _), o2_4⟩ := hR.out 4 rfl
     simp only [yA, yB, yC, yD, yE, e1, e3, e4]
     refine ⟨?_⟩
     go_simp
     exact hK.out _ _ _ (by simp only [yA, yB, yC, yD, yE, e1, e3, e4]) (Ext.refl _) trivial (fun Y hY => ⟨_, _, rfl, RN.up o2_4 hY⟩)
   refine Par.AllOps.fin ⟨fun f X hX hR hal hap => ?_⟩
   obtain ⟨A2_4, c2_4, (e4 : f 4 = _), o2_4⟩ := hR 4 (by decide)
   obtain ⟨Az, cz, (e5 : f 5 = _), oz⟩ := hR 5 (by decide)
   simp only [yA, yB, yD, yE, e4, e5]
   clear hR hal hap e4 e5
   refine Par.Chain.next (fun K hK => ⟨Par.want (by kernel_rfl) (wp_storeV (cs' := #[.slice B1 (digs 4294967296 qx).length m1, .slice B2 (digs 4294967296 qy).length m2, .slice Az (digs 4294967296 1).length cz]) (t := 95) 95 (.tmp 6) (.tmp 26) rfl rfl rfl rfl (hX.at_ hb1) infoRJ rfl (sl_one _ _ _ _ _ _ _ _ _) (fun Y hY1 hY2 hY3 => hK.out _ _ ?_))⟩)
   refine Par.Chain.done ?_
   go_wp2
   exact end_rj rfl rfl rfl hY1 ⟨_, rfl, ⟨_, _, _, _, _, _, rfl, (RN.up HX4.out (hE.trans hX)).offJ hY2 (hX.at_ hb1) (by kernel_rfl), (RN.up HX5.out (hE.trans hX)).offJ hY2 (hX.at_ hb1) (by kernel_rfl), oz.offJ hY2 (hX.at_ hb1) (by kernel_rfl), hqx.out, hqy.out, (show 1 < C.M by have := H8.out; omega)⟩, hY2.ext (HE0.out.trans (hE.trans hX)) (by have := Hq.out; omega)⟩
 obtain ⟨u1, e_u1⟩ : ∃ v, mm C.M z z = v := ⟨_, rfl⟩
 have L_u1 := Lib.hid (show u1 < C.M by rw [← e_u1]; exact mm_lt hM0 _ _)
 have E_u1 := Lib.hid e_u1
 clear e_u1
 obtain ⟨u2, e_u2⟩ : ∃ v, mm C.M qx u1 = v := ⟨_, rfl⟩
 have L_u2 := Lib.hid (show u2 < C.M by rw [← e_u2]; exact mm_lt hM0 _ _)
 have E_u2 := Lib.hid e_u2
 clear e_u2
 obtain ⟨u3, e_u3⟩ : ∃ v, mm C.M u1 z = v := ⟨_, rfl⟩
 have L_u3 := Lib.hid (show u3 < C.M by rw [← e_u3]; exact mm_lt hM0 _ _)
 have E_u3 := Lib.hid e_u3
 clear e_u3
 obtain ⟨u4, e_u4⟩ : ∃ v, mm C.M qy u3 = v := ⟨_, rfl⟩
 have L_u4 := Lib.hid (show u4 < C.M by rw [← e_u4]; exact mm_lt hM0 _ _)
 have E_u4 := Lib.hid e_u4
 clear e_u4
 obtain ⟨u5, e_u5⟩ : ∃ v, sm C.M u2 x = v := ⟨_, rfl⟩
 have L_u5 := Lib.hid (show u5 < C.M by rw [← e_u5]; exact sm_lt hM0 _ _)
 have E_u5 := Lib.hid e_u5
 clear e_u5
 obtain ⟨u6, e_u6⟩ : ∃ v, sm C.M u4 y = v := ⟨_, rfl⟩
 have L_u6 := Lib.hid (show u6 < C.M by rw [← e_u6]; exact sm_lt hM0 _ _)
 have E_u6 := Lib.hid e_u6
 clear e_u6
 obtain ⟨u7, e_u7⟩ : ∃ v, mm C.M u5 u5 = v := ⟨_, rfl⟩
 have L_u7 := Lib.hid (show u7 < C.M by rw [← e_u7]; exact mm_lt hM0 _ _)
 have E_u7 := Lib.hid e_u7
 clear e_u7
 obtain ⟨u8, e_u8⟩ : ∃ v, mm C.M u7 u5 = v := ⟨_, rfl⟩
 have L_u8 := Lib.hid (show u8 < C.M by rw [← e_u8]; exact mm_lt hM0 _ _)
 have E_u8 := Lib.hid e_u8
 clear e_u8
 obtain ⟨u9, e_u9⟩ : ∃ v, mm C.M x u7 = v := ⟨_, rfl⟩
 have L_u9 := Lib.hid (show u9 < C.M by rw [← e_u9]; exact mm_lt hM0 _ _)
 have E_u9 := Lib.hid e_u9
 clear e_u9
 obtain ⟨u10, e_u10⟩ : ∃ v, mm C.M u6 u6 = v := ⟨_, rfl⟩
 have L_u10 := Lib.hid (show u10 < C.M by rw [← e_u10]; exact mm_lt hM0 _ _)
 have E_u10 := Lib.hid e_u10
 clear e_u10
 obtain ⟨u11, e_u11⟩ : ∃ v, sm C.M u10 u8 = v := ⟨_, rfl⟩
 have L_u11 := Lib.hid (show u11 < C.M by rw [← e_u11]; exact sm_lt hM0 _ _)
 have E_u11 := Lib.hid e_u11
 clear e_u11
 obtain ⟨u12, e_u12⟩ : ∃ v, sm C.M u11 u9 = v := ⟨_, rfl⟩
 have L_u12 := Lib.hid (show u12 < C.M by rw [← e_u12]; exact sm_lt hM0 _ _)
 have E_u12 := Lib.hid e_u12
 clear e_u12
 obtain ⟨u13, e_u13⟩ : ∃ v, sm C.M u12 u9 = v := ⟨_, rfl⟩
 have L_u13 := Lib.hid (show u13 < C.M by rw [← e_u13]; exact sm_lt hM0 _ _)
 have E_u13 := Lib.hid e_u13
 clear e_u13
 obtain ⟨u14, e_u14⟩ : ∃ v, sm C.M u9 u13 = v := ⟨_, rfl⟩
 have L_u14 := Lib.hid (show u14 < C.M by rw [← e_u14]; exact sm_lt hM0 _ _)
 have E_u14 := Lib.hid e_u14
 clear e_u14
 obtain ⟨u15, e_u15⟩ : ∃ v, mm C.M u6 u14 = v := ⟨_, rfl⟩
 have L_u15 := Lib.hid (show u15 < C.M by rw [← e_u15]; exact mm_lt hM0 _ _)
 have E_u15 := Lib.hid e_u15
 clear e_u15
 obtain ⟨u16, e_u16⟩ : ∃ v, mm C.M y u8 = v := ⟨_, rfl⟩
 have L_u16 := Lib.hid (show u16 < C.M by rw [← e_u16]; exact mm_lt hM0 _ _)
 have E_u16 := Lib.hid e_u16
 clear e_u16
 obtain ⟨u17, e_u17⟩ : ∃ v, sm C.M u15 u16 = v := ⟨_, rfl⟩
 have L_u17 := Lib.hid (show u17 < C.M by rw [← e_u17]; exact sm_lt hM0 _ _)
 have E_u17 := Lib.hid e_u17
 clear e_u17
 obtain ⟨u18, e_u18⟩ : ∃ v, mm C.M z u5 = v := ⟨_, rfl⟩
 have L_u18 := Lib.hid (show u18 < C.M by rw [← e_u18]; exact mm_lt hM0 _ _)
 have E_u18 := Lib.hid e_u18
 clear e_u18
 obtain ⟨res, hres0⟩ : ∃ r, mixP C.M x y z qx qy = r := ⟨_, rfl⟩
 have hres := Lib.hid (show res = if u5 = 0 then (if u6 = 0 then twP C.M x y z else (0, 0, 0)) else (u13, u17, u18) by rw [← hres0, mixP, if_neg hz0]; simp only [E_u1.out, E_u2.out, E_u3.out, E_u4.out, E_u5.out, E_u6.out, E_u7.out, E_u8.out, E_u9.out, E_u10.out, E_u11.out, E_u12.out, E_u13.out, E_u14.out, E_u15.out, E_u16.out, E_u17.out, E_u18.out])
 rw [hres0]
 clear hres0
 replace hz0 := Lib.hid hz0
 go_enter Try.func58, Try.ntmps58
 go_upto_region 1 with fail
 rw [← hW0]
 have Hq := Lib.hid hq
 have HW0 := Lib.hid hW0
 have hE := Ext.refl W0
 clear hq hW0
 refine Par.region_txt 4 [0, 1, 3, 7] [] (fun j f X => match j with
  | 0 => f 0 = .pointer (some ⟨q + 1, 2, none⟩)
  | 1 => f 1 = .slice A3 (digs 4294967296 z).length k3
  | 2 => f 2 = .int .i64 ((digs 4294967296 z).length : Int)
  | 3 => f 3 = .bool false
  | _ => True) (by kernel_rfl) [(17, 0), (18, 1), (19, 2), (20, 3)] (by kernel_rfl) ?_
 refine Par.v0 1 3 ?_
 refine Par.ld1 2 2 0 (hE.cell j2) ?_
 refine Par.S 3 1 [(17, 0), (18, 1)] (fun f X hX hR K hK => ?_) ?_
 · have e1 : f 1 = _ := hR.out 1 rfl
   simp only [yA, yB, yC, yD, yE, e1]
   refine ⟨?_⟩
   go_simp
   exact Par.k hK (s := by simp only [yA, yB, yC, yD, yE, e1])
 refine Par.S 4 0 [(17, 0), (18, 1), (19, 2)] (fun f X hX hR K hK => ?_) ?_
 · have e2 : f 2 = _ := hR.out 2 rfl
   have hz1 : decide (((digs 4294967296 z).length : Int) = 0) = false := zdec_false hz0.out
   have hz2 : decide ((digs 4294967296 z).length = 0) = false := zden_false hz0.out
   have hz4 : ((((digs 4294967296 z).length : Nat) : Int) == 0) = false := zbeq_false hz0.out
   simp only [yA, yB, yC, yD, yE, e2]
   refine ⟨?_⟩
   go_simp
   exact Par.k hK (s := by simp only [yA, yB, yC, yD, yE, e2])
 refine Par.AllOps.fin ⟨fun f X hX hR hal hap => ?_⟩
 have e3 : f 3 = _ := hR 3 (by decide)
 simp only [yA, yB, yD, yE, e3]
 clear hR hal hap e3
 refine Par.Chain.done ?_
 replace hE := hE.trans hX
 clear hX  
 rename World => X1_k
 go_upto_region 3 with fail
 refine Par.region_txt 7 [0, 0, 2, 0, 8, 31, 63] [] (fun j f X => match j with
  | 0 => f 0 = .agg ccs
  | 1 => f 1 = .pointer (some ⟨q + 1, 2, none⟩)
  | 2 => f 2 = .slice A3 (digs 4294967296 z).length k3
  | 3 => f 3 = .pointer (some ⟨q + 1, 2, none⟩)
  | 4 => f 4 = .slice A3 (digs 4294967296 z).length k3
  | 5 => ∃ A1 c1, f 5 = .slice A1 (digs 4294967296 u1).length c1 ∧ RU X A1 c1 (digs 4294967296 u1)
  | 6 => ∃ A1 c1, f 6 = .slice A1 (digs 4294967296 u1).length c1 ∧ RU X A1 c1 (digs 4294967296 u1)
  | _ => True) (by kernel_rfl) [(27, 0), (28, 1), (29, 2), (30, 3), (31, 4), (32, 5), (7, 6)] (by kernel_rfl) ?_
 refine lV0 1 6 (hE.at_ hcb) (by rw [Hccs.out]; exact infoRC) ?_
 refine Par.v0 2 5 ?_
 refine Par.ld1 3 4 1 (hE.cell j2) ?_
 refine Par.v0 4 3 ?_
 refine Par.ld1 5 2 3 (hE.cell j2) ?_
 refine rc 6 1 0 2 4 (fun _ _ hX h => ⟨_, _, h, (RN.up HX3.out (hE.trans hX))⟩) (fun _ _ hX h => ⟨_, _, h, (RN.up HX3.out (hE.trans hX))⟩) (fun X hX _ _ _ _ h h' => times_r X HF.out (hRC.out.ext (hE.trans hX)) h h' hz.out hz.out) E_u1.out ?_
 refine Par.S 7 0 [(27, 0), (28, 1), (29, 2), (30, 3), (31, 4), (32, 5)] (fun f X hX hR K hK => ?_) ?_
 · obtain ⟨A3_5, c3_5, (e5 : f 5 = _), o3_5⟩ := hR.out 5 rfl
   simp only [yA, yB, yC, yD, yE, e5]
   refine ⟨?_⟩
   go_simp
   exact hK.out _ _ _ (by simp only [yA, yB, yC, yD, yE, e5]) (Ext.refl _) trivial (fun Y hY => ⟨A3_5, c3_5, rfl, RN.up o3_5 hY⟩)
 refine Par.AllOps.fin ⟨fun f X hX hR hal hap => ?_⟩
 obtain ⟨A3_5, c3_5, (e5 : f 5 = _), o3_5⟩ := hR 5 (by decide)
 obtain ⟨A3_6, c3_6, (e6 : f 6 = _), o3_6⟩ := hR 6 (by decide)
 simp only [yA, yB, yD, yE, e5, e6]
 clear hR hal hap e5 e6
 refine Par.Chain.done ?_
 replace hE := hE.trans hX
 have N7 := Lib.hid o3_6
 clear hX o3_5 o3_6 
 rename World => X3_k
 go_upto_region 4 with fail
 refine Par.region_txt 6 [0, 0, 2, 0, 15, 31] [] (fun j f X => match j with
  | 0 => f 0 = .agg ccs
  | 1 => f 1 = .pointer (some ⟨q + 2, 1, none⟩)
  | 2 => f 2 = .slice B1 (digs 4294967296 qx).length m1
  | 3 => f 3 = .slice A3_6 (digs 4294967296 u1).length c3_6
  | 4 => ∃ A1 c1, f 4 = .slice A1 (digs 4294967296 u2).length c1 ∧ RU X A1 c1 (digs 4294967296 u2)
  | 5 => ∃ A1 c1, f 5 = .slice A1 (digs 4294967296 u2).length c1 ∧ RU X A1 c1 (digs 4294967296 u2)
  | _ => True) (by kernel_rfl) [(33, 0), (34, 1), (35, 2), (36, 3), (37, 4), (8, 5)] (by kernel_rfl) ?_
 refine lV0 1 5 (hE.at_ hcb) (by rw [Hccs.out]; exact infoRC) ?_
 refine Par.v0 2 4 ?_
 refine Par.ld1 3 3 1 (hE.cell t1) ?_
 refine Par.v0 4 2 ?_
 refine rc 5 1 0 2 3 (fun _ _ hX h => ⟨_, _, h, (RN.up HX4.out (hE.trans hX))⟩) (fun _ _ hX h => ⟨_, _, h, (RN.up N7.out hX)⟩) (fun X hX _ _ _ _ h h' => times_r X HF.out (hRC.out.ext (hE.trans hX)) h h' hqx.out L_u1.out) E_u2.out ?_
 refine Par.S 6 0 [(33, 0), (34, 1), (35, 2), (36, 3), (37, 4)] (fun f X hX hR K hK => ?_) ?_
 · obtain ⟨A4_4, c4_4, (e4 : f 4 = _), o4_4⟩ := hR.out 4 rfl
   simp only [yA, yB, yC, yD, yE, e4]
   refine ⟨?_⟩
   go_simp
   exact hK.out _ _ _ (by simp only [yA, yB, yC, yD, yE, e4]) (Ext.refl _) trivial (fun Y hY => ⟨A4_4, c4_4, rfl, RN.up o4_4 hY⟩)
 refine Par.AllOps.fin ⟨fun f X hX hR hal hap => ?_⟩
 obtain ⟨A4_4, c4_4, (e4 : f 4 = _), o4_4⟩ := hR 4 (by decide)
 obtain ⟨A4_5, c4_5, (e5 : f 5 = _), o4_5⟩ := hR 5 (by decide)
 simp only [yA, yB, yD, yE, e4, e5]
 clear hR hal hap e4 e5
 refine Par.Chain.done ?_
 replace hE := hE.trans hX
 replace N7 := Lib.hid (RN.up N7.out hX)
 have N8 := Lib.hid o4_5
 clear hX o4_4 o4_5
 rename World => X4_k
 go_upto_region 5 with fail
 refine Par.region_ext (by kernel_rfl) 10 [0, 0, 2, 0, 0, 0, 32, 120, 255, 511] [] (fun j f X => match j with
  | 0 => f 0 = .agg ccs
  | 1 => f 1 = .pointer (some ⟨q + 2, 2, none⟩)
  | 2 => f 2 = .slice B2 (digs 4294967296 qy).length m2
  | 3 => f 3 = .agg ccs
  | 4 => f 4 = .slice A3_6 (digs 4294967296 u1).length c3_6
  | 5 => f 5 = .pointer (some ⟨q + 1, 2, none⟩)
  | 6 => f 6 = .slice A3 (digs 4294967296 z).length k3
  | 7 => ∃ A1 c1, f 7 = .slice A1 (digs 4294967296 u3).length c1 ∧ RU X A1 c1 (digs 4294967296 u3)
  | 8 => ∃ A1 c1, f 8 = .slice A1 (digs 4294967296 u4).length c1 ∧ RU X A1 c1 (digs 4294967296 u4)
  | 9 => ∃ A1 c1, f 9 = .slice A1 (digs 4294967296 u4).length c1 ∧ RU X A1 c1 (digs 4294967296 u4)
  | _ => True) (by kernel_rfl) [(38, 0), (39, 1), (40, 2), (41, 3), (42, 4), (43, 5), (44, 6), (45, 7), (46, 8), (9, 9)] (by kernel_rfl) ?_
 refine lV0 1 9 (hE.at_ hcb) (by rw [Hccs.out]; exact infoRC) ?_
 refine Par.v0 2 8 ?_
 refine Par.ld1 3 7 1 (hE.cell t2) ?_
 refine lV0 4 6 (hE.at_ hcb) (by rw [Hccs.out]; exact infoRC) ?_
 refine Par.v0 5 5 ?_
 refine Par.v0 6 4 ?_
 refine Par.ld1 7 3 5 (hE.cell j2) ?_
 refine rc 8 2 3 4 6 (fun _ _ hX h => ⟨_, _, h, (RN.up N7.out hX)⟩) (fun _ _ hX h => ⟨_, _, h, (RN.up HX3.out (hE.trans hX))⟩) (fun X hX _ _ _ _ h h' => times_r X HF.out (hRC.out.ext (hE.trans hX)) h h' L_u1.out hz.out) E_u3.out ?_
 refine rc 9 1 0 2 7 (fun _ _ hX h => ⟨_, _, h, (RN.up HX5.out (hE.trans hX))⟩) (fun _ _ _ h => h) (fun X hX _ _ _ _ h h' => times_r X HF.out (hRC.out.ext (hE.trans hX)) h h' hqy.out L_u3.out) E_u4.out ?_
 refine Par.S 10 0 [(38, 0), (39, 1), (40, 2), (41, 3), (42, 4), (43, 5), (44, 6), (45, 7), (46, 8)] (fun f X hX hR K hK => ?_) ?_
 · obtain ⟨A5_8, c5_8, (e8 : f 8 = _), o5_8⟩ := hR.out 8 rfl
   simp only [yA, yB, yC, yD, yE, e8]
   refine ⟨?_⟩
   go_simp
   exact hK.out _ _ _ (by simp only [yA, yB, yC, yD, yE, e8]) (Ext.refl _) trivial (fun Y hY => ⟨A5_8, c5_8, rfl, RN.up o5_8 hY⟩)
 refine Par.AllOps.fin ⟨fun f X hX hR hal hap => ?_⟩
 obtain ⟨A5_7, c5_7, (e7 : f 7 = _), o5_7⟩ := hR 7 (by decide)
 obtain ⟨A5_8, c5_8, (e8 : f 8 = _), o5_8⟩ := hR 8 (by decide)
 obtain ⟨A5_9, c5_9, (e9 : f 9 = _), o5_9⟩ := hR 9 (by decide)
 simp only [yA, yB, yD, yE, e7, e8, e9]
 clear hR hal hap e7 e8 e9
 refine Par.Chain.done ?_
 replace hE := hE.trans hX
 replace N7 := Lib.hid (RN.up N7.out hX)
 replace N8 := Lib.hid (RN.up N8.out hX)
 have N9 := Lib.hid o5_9
 clear hX o5_7 o5_8 o5_9
 rename World => X5_k
 go_upto_region 6 with fail
 refine Par.region_txt 6 [0, 0, 0, 4, 15, 31] [] (fun j f X => match j with
  | 0 => f 0 = .agg ccs
  | 1 => f 1 = .slice A4_5 (digs 4294967296 u2).length c4_5
  | 2 => f 2 = .pointer (some ⟨q + 1, 0, none⟩)
  | 3 => f 3 = .slice A1 (digs 4294967296 x).length k1
  | 4 => ∃ A1 c1, f 4 = .slice A1 (digs 4294967296 u5).length c1 ∧ RU X A1 c1 (digs 4294967296 u5)
  | 5 => ∃ A1 c1, f 5 = .slice A1 (digs 4294967296 u5).length c1 ∧ RU X A1 c1 (digs 4294967296 u5)
  | _ => True) (by kernel_rfl) [(47, 0), (48, 1), (49, 2), (50, 3), (51, 4), (10, 5)] (by kernel_rfl) ?_
 refine lV0 1 5 (hE.at_ hcb) (by rw [Hccs.out]; exact infoRC) ?_
 refine Par.v0 2 4 ?_
 refine Par.v0 3 3 ?_
 refine Par.ld1 4 2 2 (hE.cell j0) ?_
 refine rc 5 1 0 1 3 (fun _ _ hX h => ⟨_, _, h, (RN.up N8.out hX)⟩) (fun _ _ hX h => ⟨_, _, h, (RN.up HX1.out (hE.trans hX))⟩) (fun X hX _ _ _ _ h h' => minus_r X HF.out (hRC.out.ext (hE.trans hX)) h h' L_u2.out hx.out) E_u5.out ?_
 refine Par.S 6 0 [(47, 0), (48, 1), (49, 2), (50, 3), (51, 4)] (fun f X hX hR K hK => ?_) ?_
 · obtain ⟨A6_4, c6_4, (e4 : f 4 = _), o6_4⟩ := hR.out 4 rfl
   simp only [yA, yB, yC, yD, yE, e4]
   refine ⟨?_⟩
   go_simp
   exact hK.out _ _ _ (by simp only [yA, yB, yC, yD, yE, e4]) (Ext.refl _) trivial (fun Y hY => ⟨A6_4, c6_4, rfl, RN.up o6_4 hY⟩)
 refine Par.AllOps.fin ⟨fun f X hX hR hal hap => ?_⟩
 obtain ⟨A6_4, c6_4, (e4 : f 4 = _), o6_4⟩ := hR 4 (by decide)
 obtain ⟨A6_5, c6_5, (e5 : f 5 = _), o6_5⟩ := hR 5 (by decide)
 simp only [yA, yB, yD, yE, e4, e5]
 clear hR hal hap e4 e5
 refine Par.Chain.done ?_
 replace hE := hE.trans hX
 replace N7 := Lib.hid (RN.up N7.out hX)
 replace N8 := Lib.hid (RN.up N8.out hX)
 replace N9 := Lib.hid (RN.up N9.out hX)
 have N10 := Lib.hid o6_5
 clear hX o6_4 o6_5
 rename World => X6_k
 go_upto_region 7 with fail
 refine Par.region_txt 6 [0, 0, 0, 4, 15, 31] [] (fun j f X => match j with
  | 0 => f 0 = .agg ccs
  | 1 => f 1 = .slice A5_9 (digs 4294967296 u4).length c5_9
  | 2 => f 2 = .pointer (some ⟨q + 1, 1, none⟩)
  | 3 => f 3 = .slice A2 (digs 4294967296 y).length k2
  | 4 => ∃ A1 c1, f 4 = .slice A1 (digs 4294967296 u6).length c1 ∧ RU X A1 c1 (digs 4294967296 u6)
  | 5 => ∃ A1 c1, f 5 = .slice A1 (digs 4294967296 u6).length c1 ∧ RU X A1 c1 (digs 4294967296 u6)
  | _ => True) (by kernel_rfl) [(52, 0), (53, 1), (54, 2), (55, 3), (56, 4), (11, 5)] (by kernel_rfl) ?_
 refine lV0 1 5 (hE.at_ hcb) (by rw [Hccs.out]; exact infoRC) ?_
 refine Par.v0 2 4 ?_
 refine Par.v0 3 3 ?_
 refine Par.ld1 4 2 2 (hE.cell j1) ?_
 refine rc 5 1 0 1 3 (fun _ _ hX h => ⟨_, _, h, (RN.up N9.out hX)⟩) (fun _ _ hX h => ⟨_, _, h, (RN.up HX2.out (hE.trans hX))⟩) (fun X hX _ _ _ _ h h' => minus_r X HF.out (hRC.out.ext (hE.trans hX)) h h' L_u4.out hy.out) E_u6.out ?_
 refine Par.S 6 0 [(52, 0), (53, 1), (54, 2), (55, 3), (56, 4)] (fun f X hX hR K hK => ?_) ?_
 · obtain ⟨A7_4, c7_4, (e4 : f 4 = _), o7_4⟩ := hR.out 4 rfl
   simp only [yA, yB, yC, yD, yE, e4]
   refine ⟨?_⟩
   go_simp
   exact hK.out _ _ _ (by simp only [yA, yB, yC, yD, yE, e4]) (Ext.refl _) trivial (fun Y hY => ⟨A7_4, c7_4, rfl, RN.up o7_4 hY⟩)
 refine Par.AllOps.fin ⟨fun f X hX hR hal hap => ?_⟩
 obtain ⟨A7_4, c7_4, (e4 : f 4 = _), o7_4⟩ := hR 4 (by decide)
 obtain ⟨A7_5, c7_5, (e5 : f 5 = _), o7_5⟩ := hR 5 (by decide)
 simp only [yA, yB, yD, yE, e4, e5]
 clear hR hal hap e4 e5
 refine Par.Chain.done ?_
 replace hE := hE.trans hX
 replace N7 := Lib.hid (RN.up N7.out hX)
 replace N8 := Lib.hid (RN.up N8.out hX)
 replace N9 := Lib.hid (RN.up N9.out hX)
 replace N10 := Lib.hid (RN.up N10.out hX)
 have N11 := Lib.hid o7_5
 clear hX o7_4 o7_5
 rename World => X7_k
 by_cases hh0 : u5 = 0
 · by_cases hr0 : u6 = 0
   · obtain rfl : res = twP C.M x y z := by rw [hres.out, if_pos hh0, if_pos hr0]
     replace hh0 := Lib.hid hh0
     replace hr0 := Lib.hid hr0
     go_upto_region 8 with fail
     refine Par.region_txt 3 [0, 1, 3] [] (fun j f X => match j with
      | 0 => f 0 = .slice A6_5 (digs 4294967296 u5).length c6_5
      | 1 => f 1 = .int .i64 ((digs 4294967296 u5).length : Int)
      | 2 => f 2 = .bool true
      | _ => True) (by kernel_rfl) [(57, 0), (58, 1), (59, 2)] (by kernel_rfl) ?_
     refine Par.v0 1 2 ?_
     refine Par.S 2 1 [(57, 0)] (fun f X hX hR K hK => ?_) ?_
     · have e0 : f 0 = _ := hR.out 0 rfl
       simp only [yA, yB, yC, yD, yE, e0]
       refine ⟨?_⟩
       go_simp
       exact Par.k hK (s := by simp only [yA, yB, yC, yD, yE, e0])
     refine Par.S 3 0 [(57, 0), (58, 1)] (fun f X hX hR K hK => ?_) ?_
     · have e1 : f 1 = _ := hR.out 1 rfl
       have hz1 : decide (((digs 4294967296 u5).length : Int) = 0) = true := zdec_true hh0.out
       have hz2 : decide ((digs 4294967296 u5).length = 0) = true := zden_true hh0.out
       have hz4 : ((((digs 4294967296 u5).length : Nat) : Int) == 0) = true := zbeq_true hh0.out
       simp only [yA, yB, yC, yD, yE, e1]
       refine ⟨?_⟩
       go_simp
       exact Par.k hK (s := by simp only [yA, yB, yC, yD, yE, e1])
     refine Par.AllOps.fin ⟨fun f X hX hR hal hap => ?_⟩
     have e2 : f 2 = _ := hR 2 (by decide)
     simp only [yA, yB, yD, yE, e2]
     clear hR hal hap e2
     refine Par.Chain.done ?_
     replace hE := hE.trans hX
     replace N7 := Lib.hid (RN.up N7.out hX)
     replace N8 := Lib.hid (RN.up N8.out hX)
     replace N9 := Lib.hid (RN.up N9.out hX)
     replace N10 := Lib.hid (RN.up N10.out hX)
     replace N11 := Lib.hid (RN.up N11.out hX)
     clear hX
     rename World => X8_k
     go_upto_region 9 with fail
     refine Par.region_txt 3 [0, 1, 3] [] (fun j f X => match j with
      | 0 => f 0 = .slice A7_5 (digs 4294967296 u6).length c7_5
      | 1 => f 1 = .int .i64 ((digs 4294967296 u6).length : Int)
      | 2 => f 2 = .bool true
      | _ => True) (by kernel_rfl) [(60, 0), (61, 1), (62, 2)] (by kernel_rfl) ?_
     refine Par.v0 1 2 ?_
     refine Par.S 2 1 [(60, 0)] (fun f X hX hR K hK => ?_) ?_
     · have e0 : f 0 = _ := hR.out 0 rfl
       simp only [yA, yB, yC, yD, yE, e0]
       refine ⟨?_⟩
       go_simp
       exact Par.k hK (s := by simp only [yA, yB, yC, yD, yE, e0])
     refine Par.S 3 0 [(60, 0), (61, 1)] (fun f X hX hR K hK => ?_) ?_
     · have e1 : f 1 = _ := hR.out 1 rfl
       have hz1 : decide (((digs 4294967296 u6).length : Int) = 0) = true := zdec_true hr0.out
       have hz2 : decide ((digs 4294967296 u6).length = 0) = true := zden_true hr0.out
       have hz4 : ((((digs 4294967296 u6).length : Nat) : Int) == 0) = true := zbeq_true hr0.out
       simp only [yA, yB, yC, yD, yE, e1]
       refine ⟨?_⟩
       go_simp
       exact Par.k hK (s := by simp only [yA, yB, yC, yD, yE, e1])
     refine Par.AllOps.fin ⟨fun f X hX hR hal hap => ?_⟩
     have e2 : f 2 = _ := hR 2 (by decide)
     simp only [yA, yB, yD, yE, e2]
     clear hR hal hap e2
     refine Par.Chain.done ?_
     replace hE := hE.trans hX
     replace N7 := Lib.hid (RN.up N7.out hX)
     replace N8 := Lib.hid (RN.up N8.out hX)
     replace N9 := Lib.hid (RN.up N9.out hX)
     replace N10 := Lib.hid (RN.up N10.out hX)
     replace N11 := Lib.hid (RN.up N11.out hX)
     clear hX
     rename World => X9_k
     have hb1 := hE.at_ hrb
     go_upto_region 10 with fail
     refine Par.region_txt 3 [0, 0, 3, 7] [] (fun j f X => match j with
      | 0 => f 0 = .agg ccs
      | 1 => f 1 = .agg #[.slice A1 (digs 4294967296 x).length k1, .slice A2 (digs 4294967296 y).length k2, .slice A3 (digs 4294967296 z).length k3]
      | 2 => ∃ o, f 2 = o ∧ JN X C o (twP C.M x y z)
      | _ => True) (by kernel_rfl) [(63, 0), (64, 1), (65, 2)] (by kernel_rfl) ?_
     refine lV0 1 2 (hE.at_ hcb) (by rw [Hccs.out]; exact infoRC) ?_
     refine lV0 2 1 (hE.at_ hjb) infoRJ ?_
     refine Par.c0 3 0 (fun f => #[f 0, f 1]) (F' := 56) (fun f X hX hR => ?_) ?_
     · have e0 : f 0 = _ := hR.out 0 rfl
       have e1 : f 1 = _ := hR.out 1 rfl
       simp only [e0, e1]
       refine (twice_n (p := (x, y, z)) HF.out H8.out X (hRC.out.ext (hE.trans hX)) ⟨A1, A2, A3, k1, k2, k3, rfl, RN.up HX1.out (hE.trans hX), RN.up HX2.out (hE.trans hX), RN.up HX3.out (hE.trans hX), hx.out, hy.out, hz.out⟩).mono ?_
       rintro e w2 ⟨o, rfl, hj, hB⟩
       exact ⟨o, rfl, hB, fun Y hY => ⟨_, rfl, hj.ext hY⟩⟩
     refine Par.AllOps.fin ⟨fun f X hX hR hal hap => ?_⟩
     obtain ⟨vo, (e2 : f 2 = _), jo⟩ := hR 2 (by decide)
     simp only [yA, yB, yD, yE, e2]
     clear hR hal hap e2
     obtain ⟨D1, D2, D3, d1, d2, d3, ev, g1, g2, g3, g4, g5, g6⟩ := jo
     subst ev
     refine Par.Chain.next (fun K hK => ⟨Par.want (by kernel_rfl) (wp_storeV (cs' := #[.slice D1 (digs 4294967296 (twP C.M x y z).1).length d1, .slice D2 (digs 4294967296 (twP C.M x y z).2.1).length d2, .slice D3 (digs 4294967296 (twP C.M x y z).2.2).length d3]) (t := 95) 95 (.tmp 6) (.tmp 65) rfl rfl rfl rfl (hX.at_ hb1) infoRJ rfl (sl_one _ _ _ _ _ _ _ _ _) (fun Y hY1 hY2 hY3 => hK.out _ _ ?_))⟩)
     refine Par.Chain.done ?_
     go_wp2
     exact end_rj rfl rfl rfl hY1 ⟨_, rfl, ⟨_, _, _, _, _, _, rfl, g1.offJ hY2 (hX.at_ hb1) (by kernel_rfl), g2.offJ hY2 (hX.at_ hb1) (by kernel_rfl), g3.offJ hY2 (hX.at_ hb1) (by kernel_rfl), g4, g5, g6⟩, hY2.ext (HE0.out.trans (hE.trans hX)) (by have := Hq.out; omega)⟩
   · obtain rfl : res = (0, 0, 0) := by rw [hres.out, if_pos hh0, if_neg hr0]
     replace hh0 := Lib.hid hh0
     replace hr0 := Lib.hid hr0
     go_upto_region 8 with fail
     refine Par.region_txt 3 [0, 1, 3] [] (fun j f X => match j with
      | 0 => f 0 = .slice A6_5 (digs 4294967296 u5).length c6_5
      | 1 => f 1 = .int .i64 ((digs 4294967296 u5).length : Int)
      | 2 => f 2 = .bool true
      | _ => True) (by kernel_rfl) [(57, 0), (58, 1), (59, 2)] (by kernel_rfl) ?_
     refine Par.v0 1 2 ?_
     refine Par.S 2 1 [(57, 0)] (fun f X hX hR K hK => ?_) ?_
     · have e0 : f 0 = _ := hR.out 0 rfl
       simp only [yA, yB, yC, yD, yE, e0]
       refine ⟨?_⟩
       go_simp
       exact Par.k hK (s := by simp only [yA, yB, yC, yD, yE, e0])
     refine Par.S 3 0 [(57, 0), (58, 1)] (fun f X hX hR K hK => ?_) ?_
     · have e1 : f 1 = _ := hR.out 1 rfl
       have hz1 : decide (((digs 4294967296 u5).length : Int) = 0) = true := zdec_true hh0.out
       have hz2 : decide ((digs 4294967296 u5).length = 0) = true := zden_true hh0.out
       have hz4 : ((((digs 4294967296 u5).length : Nat) : Int) == 0) = true := zbeq_true hh0.out
       simp only [yA, yB, yC, yD, yE, e1]
       refine ⟨?_⟩
       go_simp
       exact Par.k hK (s := by simp only [yA, yB, yC, yD, yE, e1])
     refine Par.AllOps.fin ⟨fun f X hX hR hal hap => ?_⟩
     have e2 : f 2 = _ := hR 2 (by decide)
     simp only [yA, yB, yD, yE, e2]
     clear hR hal hap e2
     refine Par.Chain.done ?_
     replace hE := hE.trans hX
     replace N7 := Lib.hid (RN.up N7.out hX)
     replace N8 := Lib.hid (RN.up N8.out hX)
     replace N9 := Lib.hid (RN.up N9.out hX)
     replace N10 := Lib.hid (RN.up N10.out hX)
     replace N11 := Lib.hid (RN.up N11.out hX)
     clear hX
     rename World => X8_k
     go_upto_region 9 with fail
     refine Par.region_txt 3 [0, 1, 3] [] (fun j f X => match j with
      | 0 => f 0 = .slice A7_5 (digs 4294967296 u6).length c7_5
      | 1 => f 1 = .int .i64 ((digs 4294967296 u6).length : Int)
      | 2 => f 2 = .bool false
      | _ => True) (by kernel_rfl) [(60, 0), (61, 1), (62, 2)] (by kernel_rfl) ?_
     refine Par.v0 1 2 ?_
     refine Par.S 2 1 [(60, 0)] (fun f X hX hR K hK => ?_) ?_
     · have e0 : f 0 = _ := hR.out 0 rfl
       simp only [yA, yB, yC, yD, yE, e0]
       refine ⟨?_⟩
       go_simp
       exact Par.k hK (s := by simp only [yA, yB, yC, yD, yE, e0])
     refine Par.S 3 0 [(60, 0), (61, 1)] (fun f X hX hR K hK => ?_) ?_
     · have e1 : f 1 = _ := hR.out 1 rfl
       have hz1 : decide (((digs 4294967296 u6).length : Int) = 0) = false := zdec_false hr0.out
       have hz2 : decide ((digs 4294967296 u6).length = 0) = false := zden_false hr0.out
       have hz4 : ((((digs 4294967296 u6).length : Nat) : Int) == 0) = false := zbeq_false hr0.out
       simp only [yA, yB, yC, yD, yE, e1]
       refine ⟨?_⟩
       go_simp
       exact Par.k hK (s := by simp only [yA, yB, yC, yD, yE, e1])
     refine Par.AllOps.fin ⟨fun f X hX hR hal hap => ?_⟩
     have e2 : f 2 = _ := hR 2 (by decide)
     simp only [yA, yB, yD, yE, e2]
     clear hR hal hap e2
     refine Par.Chain.done ?_
     replace hE := hE.trans hX
     replace N7 := Lib.hid (RN.up N7.out hX)
     replace N8 := Lib.hid (RN.up N8.out hX)
     replace N9 := Lib.hid (RN.up N9.out hX)
     replace N10 := Lib.hid (RN.up N10.out hX)
     replace N11 := Lib.hid (RN.up N11.out hX)
     clear hX
     rename World => X9_k
     have hb1 := hE.at_ hrb
     obtain ⟨z0, z1, z2, f0, f1, f2⟩ := pt_facts hb1
     go_wp2
     exact end_rj rfl rfl rfl (pt_set hb1 _ _ _) ⟨_, rfl, ⟨none, none, none, 0, 0, 0, by rw [digs_zero]; rfl, RN.nil0 _, RN.nil0 _, RN.nil0 _, hM0, hM0, hM0⟩, pt_ext (HE0.out.trans hE) (by have := Hq.out; omega) _ _ _⟩
 · obtain rfl : res = (u13, u17, u18) := by rw [hres.out, if_neg hh0]
   replace hh0 := Lib.hid hh0
   go_upto_region 8 with fail
   refine Par.region_txt 3 [0, 1, 3] [] (fun j f X => match j with
    | 0 => f 0 = .slice A6_5 (digs 4294967296 u5).length c6_5
    | 1 => f 1 = .int .i64 ((digs 4294967296 u5).length : Int)
    | 2 => f 2 = .bool false
    | _ => True) (by kernel_rfl) [(57, 0), (58, 1), (59, 2)] (by kernel_rfl) ?_
   refine Par.v0 1 2 ?_
   refine Par.S 2 1 [(57, 0)] (fun f X hX hR K hK => ?_) ?_
   · have e0 : f 0 = _ := hR.out 0 rfl
     simp only [yA, yB, yC, yD, yE, e0]
     refine ⟨?_⟩
     go_simp
     exact Par.k hK (s := by simp only [yA, yB, yC, yD, yE, e0])
   refine Par.S 3 0 [(57, 0), (58, 1)] (fun f X hX hR K hK => ?_) ?_
   · have e1 : f 1 = _ := hR.out 1 rfl
     have hz1 : decide (((digs 4294967296 u5).length : Int) = 0) = false := zdec_false hh0.out
     have hz2 : decide ((digs 4294967296 u5).length = 0) = false := zden_false hh0.out
     have hz4 : ((((digs 4294967296 u5).length : Nat) : Int) == 0) = false := zbeq_false hh0.out
     simp only [yA, yB, yC, yD, yE, e1]
     refine ⟨?_⟩
     go_simp
     exact Par.k hK (s := by simp only [yA, yB, yC, yD, yE, e1])
   refine Par.AllOps.fin ⟨fun f X hX hR hal hap => ?_⟩
   have e2 : f 2 = _ := hR 2 (by decide)
   simp only [yA, yB, yD, yE, e2]
   clear hR hal hap e2
   refine Par.Chain.done ?_
   replace hE := hE.trans hX
   replace N7 := Lib.hid (RN.up N7.out hX)
   replace N8 := Lib.hid (RN.up N8.out hX)
   replace N9 := Lib.hid (RN.up N9.out hX)
   replace N10 := Lib.hid (RN.up N10.out hX)
   replace N11 := Lib.hid (RN.up N11.out hX)
   clear hX
   rename World => X8_k
   go_upto_region 12 with fail
   refine Par.region_txt 5 [0, 0, 0, 7, 15] [] (fun j f X => match j with
    | 0 => f 0 = .agg ccs
    | 1 => f 1 = .slice A6_5 (digs 4294967296 u5).length c6_5
    | 2 => f 2 = .slice A6_5 (digs 4294967296 u5).length c6_5
    | 3 => ∃ A1 c1, f 3 = .slice A1 (digs 4294967296 u7).length c1 ∧ RU X A1 c1 (digs 4294967296 u7)
    | 4 => ∃ A1 c1, f 4 = .slice A1 (digs 4294967296 u7).length c1 ∧ RU X A1 c1 (digs 4294967296 u7)
    | _ => True) (by kernel_rfl) [(67, 0), (68, 1), (69, 2), (70, 3), (12, 4)] (by kernel_rfl) ?_
   refine lV0 1 4 (hE.at_ hcb) (by rw [Hccs.out]; exact infoRC) ?_
   refine Par.v0 2 3 ?_
   refine Par.v0 3 2 ?_
   refine rc 4 1 0 1 2 (fun _ _ hX h => ⟨_, _, h, (RN.up N10.out hX)⟩) (fun _ _ hX h => ⟨_, _, h, (RN.up N10.out hX)⟩) (fun X hX _ _ _ _ h h' => times_r X HF.out (hRC.out.ext (hE.trans hX)) h h' L_u5.out L_u5.out) E_u7.out ?_
   refine Par.S 5 0 [(67, 0), (68, 1), (69, 2), (70, 3)] (fun f X hX hR K hK => ?_) ?_
   · obtain ⟨A12_3, c12_3, (e3 : f 3 = _), o12_3⟩ := hR.out 3 rfl
     simp only [yA, yB, yC, yD, yE, e3]
     refine ⟨?_⟩
     go_simp
     exact hK.out _ _ _ (by simp only [yA, yB, yC, yD, yE, e3]) (Ext.refl _) trivial (fun Y hY => ⟨A12_3, c12_3, rfl, RN.up o12_3 hY⟩)
   refine Par.AllOps.fin ⟨fun f X hX hR hal hap => ?_⟩
   obtain ⟨A12_3, c12_3, (e3 : f 3 = _), o12_3⟩ := hR 3 (by decide)
   obtain ⟨A12_4, c12_4, (e4 : f 4 = _), o12_4⟩ := hR 4 (by decide)
   simp only [yA, yB, yD, yE, e3, e4]
   clear hR hal hap e3 e4
   refine Par.Chain.done ?_
   replace hE := hE.trans hX
   replace N7 := Lib.hid (RN.up N7.out hX)
   replace N8 := Lib.hid (RN.up N8.out hX)
   replace N9 := Lib.hid (RN.up N9.out hX)
   replace N10 := Lib.hid (RN.up N10.out hX)
   replace N11 := Lib.hid (RN.up N11.out hX)
   have N12 := Lib.hid o12_4
   clear hX o12_3 o12_4
   rename World => X12_k
   go_upto_region 13 with fail
   refine Par.region_txt 5 [0, 0, 0, 7, 15] [] (fun j f X => match j with
    | 0 => f 0 = .agg ccs
    | 1 => f 1 = .slice A12_4 (digs 4294967296 u7).length c12_4
    | 2 => f 2 = .slice A6_5 (digs 4294967296 u5).length c6_5
    | 3 => ∃ A1 c1, f 3 = .slice A1 (digs 4294967296 u8).length c1 ∧ RU X A1 c1 (digs 4294967296 u8)
    | 4 => ∃ A1 c1, f 4 = .slice A1 (digs 4294967296 u8).length c1 ∧ RU X A1 c1 (digs 4294967296 u8)
    | _ => True) (by kernel_rfl) [(71, 0), (72, 1), (73, 2), (74, 3), (13, 4)] (by kernel_rfl) ?_
   refine lV0 1 4 (hE.at_ hcb) (by rw [Hccs.out]; exact infoRC) ?_
   refine Par.v0 2 3 ?_
   refine Par.v0 3 2 ?_
   refine rc 4 1 0 1 2 (fun _ _ hX h => ⟨_, _, h, (RN.up N12.out hX)⟩) (fun _ _ hX h => ⟨_, _, h, (RN.up N10.out hX)⟩) (fun X hX _ _ _ _ h h' => times_r X HF.out (hRC.out.ext (hE.trans hX)) h h' L_u7.out L_u5.out) E_u8.out ?_
   refine Par.S 5 0 [(71, 0), (72, 1), (73, 2), (74, 3)] (fun f X hX hR K hK => ?_) ?_
   · obtain ⟨A13_3, c13_3, (e3 : f 3 = _), o13_3⟩ := hR.out 3 rfl
     simp only [yA, yB, yC, yD, yE, e3]
     refine ⟨?_⟩
     go_simp
     exact hK.out _ _ _ (by simp only [yA, yB, yC, yD, yE, e3]) (Ext.refl _) trivial (fun Y hY => ⟨A13_3, c13_3, rfl, RN.up o13_3 hY⟩)
   refine Par.AllOps.fin ⟨fun f X hX hR hal hap => ?_⟩
   obtain ⟨A13_3, c13_3, (e3 : f 3 = _), o13_3⟩ := hR 3 (by decide)
   obtain ⟨A13_4, c13_4, (e4 : f 4 = _), o13_4⟩ := hR 4 (by decide)
   simp only [yA, yB, yD, yE, e3, e4]
   clear hR hal hap e3 e4
   refine Par.Chain.done ?_
   replace hE := hE.trans hX
   replace N7 := Lib.hid (RN.up N7.out hX)
   replace N8 := Lib.hid (RN.up N8.out hX)
   replace N9 := Lib.hid (RN.up N9.out hX)
   replace N10 := Lib.hid (RN.up N10.out hX)
   replace N11 := Lib.hid (RN.up N11.out hX)
   replace N12 := Lib.hid (RN.up N12.out hX)
   have N13 := Lib.hid o13_4
   clear hX o13_3 o13_4
   rename World => X13_k
   go_upto_region 14 with fail
   refine Par.region_txt 6 [0, 0, 2, 0, 15, 31] [] (fun j f X => match j with
    | 0 => f 0 = .agg ccs
    | 1 => f 1 = .pointer (some ⟨q + 1, 0, none⟩)
    | 2 => f 2 = .slice A1 (digs 4294967296 x).length k1
    | 3 => f 3 = .slice A12_4 (digs 4294967296 u7).length c12_4
    | 4 => ∃ A1 c1, f 4 = .slice A1 (digs 4294967296 u9).length c1 ∧ RU X A1 c1 (digs 4294967296 u9)
    | 5 => ∃ A1 c1, f 5 = .slice A1 (digs 4294967296 u9).length c1 ∧ RU X A1 c1 (digs 4294967296 u9)
    | _ => True) (by kernel_rfl) [(75, 0), (76, 1), (77, 2), (78, 3), (79, 4), (14, 5)] (by kernel_rfl) ?_
   refine lV0 1 5 (hE.at_ hcb) (by rw [Hccs.out]; exact infoRC) ?_
   refine Par.v0 2 4 ?_
   refine Par.ld1 3 3 1 (hE.cell j0) ?_
   refine Par.v0 4 2 ?_
   refine rc 5 1 0 2 3 (fun _ _ hX h => ⟨_, _, h, (RN.up HX1.out (hE.trans hX))⟩) (fun _ _ hX h => ⟨_, _, h, (RN.up N12.out hX)⟩) (fun X hX _ _ _ _ h h' => times_r X HF.out (hRC.out.ext (hE.trans hX)) h h' hx.out L_u7.out) E_u9.out ?_
   refine Par.S 6 0 [(75, 0), (76, 1), (77, 2), (78, 3), (79, 4)] (fun f X hX hR K hK => ?_) ?_
   · obtain ⟨A14_4, c14_4, (e4 : f 4 = _), o14_4⟩ := hR.out 4 rfl
     simp only [yA, yB, yC, yD, yE, e4]
     refine ⟨?_⟩
     go_simp
     exact hK.out _ _ _ (by simp only [yA, yB, yC, yD, yE, e4]) (Ext.refl _) trivial (fun Y hY => ⟨A14_4, c14_4, rfl, RN.up o14_4 hY⟩)
   refine Par.AllOps.fin ⟨fun f X hX hR hal hap => ?_⟩
   obtain ⟨A14_4, c14_4, (e4 : f 4 = _), o14_4⟩ := hR 4 (by decide)
   obtain ⟨A14_5, c14_5, (e5 : f 5 = _), o14_5⟩ := hR 5 (by decide)
   simp only [yA, yB, yD, yE, e4, e5]
   clear hR hal hap e4 e5
   refine Par.Chain.done ?_
   replace hE := hE.trans hX
   replace N7 := Lib.hid (RN.up N7.out hX)
   replace N8 := Lib.hid (RN.up N8.out hX)
   replace N9 := Lib.hid (RN.up N9.out hX)
   replace N10 := Lib.hid (RN.up N10.out hX)
   replace N11 := Lib.hid (RN.up N11.out hX)
   replace N12 := Lib.hid (RN.up N12.out hX)
   replace N13 := Lib.hid (RN.up N13.out hX)
   have N14 := Lib.hid o14_5
   clear hX o14_4 o14_5
   rename World => X14_k
   go_upto_region 15 with fail
   refine Par.region_ext (by kernel_rfl) 14 [0, 0, 0, 0, 0, 0, 56, 0, 252, 0, 1022, 0, 4095, 8191] [] (fun j f X => match j with
    | 0 => f 0 = .agg ccs
    | 1 => f 1 = .agg ccs
    | 2 => f 2 = .agg ccs
    | 3 => f 3 = .agg ccs
    | 4 => f 4 = .slice A7_5 (digs 4294967296 u6).length c7_5
    | 5 => f 5 = .slice A7_5 (digs 4294967296 u6).length c7_5
    | 6 => ∃ A1 c1, f 6 = .slice A1 (digs 4294967296 u10).length c1 ∧ RU X A1 c1 (digs 4294967296 u10)
    | 7 => f 7 = .slice A13_4 (digs 4294967296 u8).length c13_4
    | 8 => ∃ A1 c1, f 8 = .slice A1 (digs 4294967296 u11).length c1 ∧ RU X A1 c1 (digs 4294967296 u11)
    | 9 => f 9 = .slice A14_5 (digs 4294967296 u9).length c14_5
    | 10 => ∃ A1 c1, f 10 = .slice A1 (digs 4294967296 u12).length c1 ∧ RU X A1 c1 (digs 4294967296 u12)
    | 11 => f 11 = .slice A14_5 (digs 4294967296 u9).length c14_5
    | 12 => ∃ A1 c1, f 12 = .slice A1 (digs 4294967296 u13).length c1 ∧ RU X A1 c1 (digs 4294967296 u13)
    | 13 => ∃ A1 c1, f 13 = .slice A1 (digs 4294967296 u13).length c1 ∧ RU X A1 c1 (digs 4294967296 u13)
    | _ => True) (by kernel_rfl) [(80, 0), (81, 1), (82, 2), (83, 3), (84, 4), (85, 5), (86, 6), (87, 7), (88, 8), (89, 9), (90, 10), (91, 11), (92, 12), (15, 13)] (by kernel_rfl) ?_
   refine lV0 1 13 (hE.at_ hcb) (by rw [Hccs.out]; exact infoRC) ?_
   refine lV0 2 12 (hE.at_ hcb) (by rw [Hccs.out]; exact infoRC) ?_
   refine lV0 3 11 (hE.at_ hcb) (by rw [Hccs.out]; exact infoRC) ?_
   refine lV0 4 10 (hE.at_ hcb) (by rw [Hccs.out]; exact infoRC) ?_
   refine Par.v0 5 9 ?_
   refine Par.v0 6 8 ?_
   refine rc 7 7 3 4 5 (fun _ _ hX h => ⟨_, _, h, (RN.up N11.out hX)⟩) (fun _ _ hX h => ⟨_, _, h, (RN.up N11.out hX)⟩) (fun X hX _ _ _ _ h h' => times_r X HF.out (hRC.out.ext (hE.trans hX)) h h' L_u6.out L_u6.out) E_u10.out ?_
   refine Par.v0 8 6 ?_
   refine rc 9 5 2 6 7 (fun _ _ _ h => h) (fun _ _ hX h => ⟨_, _, h, (RN.up N13.out hX)⟩) (fun X hX _ _ _ _ h h' => minus_r X HF.out (hRC.out.ext (hE.trans hX)) h h' L_u10.out L_u8.out) E_u11.out ?_
   refine Par.v0 10 4 ?_
   refine rc 11 3 1 8 9 (fun _ _ _ h => h) (fun _ _ hX h => ⟨_, _, h, (RN.up N14.out hX)⟩) (fun X hX _ _ _ _ h h' => minus_r X HF.out (hRC.out.ext (hE.trans hX)) h h' L_u11.out L_u9.out) E_u12.out ?_
   refine Par.v0 12 2 ?_
   refine rc 13 1 0 10 11 (fun _ _ _ h => h) (fun _ _ hX h => ⟨_, _, h, (RN.up N14.out hX)⟩) (fun X hX _ _ _ _ h h' => minus_r X HF.out (hRC.out.ext (hE.trans hX)) h h' L_u12.out L_u9.out) E_u13.out ?_
   refine Par.S 14 0 [(80, 0), (81, 1), (82, 2), (83, 3), (84, 4), (85, 5), (86, 6), (87, 7), (88, 8), (89, 9), (90, 10), (91, 11), (92, 12)] (fun f X hX hR K hK => ?_) ?_
   · obtain ⟨A15_12, c15_12, (e12 : f 12 = _), o15_12⟩ := hR.out 12 rfl
     simp only [yA, yB, yC, yD, yE, e12]
     refine ⟨?_⟩
     go_simp
     exact hK.out _ _ _ (by simp only [yA, yB, yC, yD, yE, e12]) (Ext.refl _) trivial (fun Y hY => ⟨A15_12, c15_12, rfl, RN.up o15_12 hY⟩)
   refine Par.AllOps.fin ⟨fun f X hX hR hal hap => ?_⟩
   obtain ⟨A15_6, c15_6, (e6 : f 6 = _), o15_6⟩ := hR 6 (by decide)
   obtain ⟨A15_8, c15_8, (e8 : f 8 = _), o15_8⟩ := hR 8 (by decide)
   obtain ⟨A15_10, c15_10, (e10 : f 10 = _), o15_10⟩ := hR 10 (by decide)
   obtain ⟨A15_12, c15_12, (e12 : f 12 = _), o15_12⟩ := hR 12 (by decide)
   obtain ⟨A15_13, c15_13, (e13 : f 13 = _), o15_13⟩ := hR 13 (by decide)
   simp only [yA, yB, yD, yE, e6, e8, e10, e12, e13]
   clear hR hal hap e6 e8 e10 e12 e13
   refine Par.Chain.done ?_
   replace hE := hE.trans hX
   replace N7 := Lib.hid (RN.up N7.out hX)
   replace N8 := Lib.hid (RN.up N8.out hX)
   replace N9 := Lib.hid (RN.up N9.out hX)
   replace N10 := Lib.hid (RN.up N10.out hX)
   replace N11 := Lib.hid (RN.up N11.out hX)
   replace N12 := Lib.hid (RN.up N12.out hX)
   replace N13 := Lib.hid (RN.up N13.out hX)
   replace N14 := Lib.hid (RN.up N14.out hX)
   have N15 := Lib.hid o15_13
   clear hX o15_6 o15_8 o15_10 o15_12 o15_13
   rename World => X15_k
   go_upto_region 16 with fail
   refine Par.region_ext (by kernel_rfl) 15 [0, 0, 0, 0, 0, 0, 56, 126, 0, 0, 512, 0, 4094, 8191, 16383] [] (fun j f X => match j with
    | 0 => f 0 = .agg ccs
    | 1 => f 1 = .agg ccs
    | 2 => f 2 = .slice A7_5 (digs 4294967296 u6).length c7_5
    | 3 => f 3 = .agg ccs
    | 4 => f 4 = .slice A14_5 (digs 4294967296 u9).length c14_5
    | 5 => f 5 = .slice A15_13 (digs 4294967296 u13).length c15_13
    | 6 => ∃ A1 c1, f 6 = .slice A1 (digs 4294967296 u14).length c1 ∧ RU X A1 c1 (digs 4294967296 u14)
    | 7 => ∃ A1 c1, f 7 = .slice A1 (digs 4294967296 u15).length c1 ∧ RU X A1 c1 (digs 4294967296 u15)
    | 8 => f 8 = .agg ccs
    | 9 => f 9 = .pointer (some ⟨q + 1, 1, none⟩)
    | 10 => f 10 = .slice A2 (digs 4294967296 y).length k2
    | 11 => f 11 = .slice A13_4 (digs 4294967296 u8).length c13_4
    | 12 => ∃ A1 c1, f 12 = .slice A1 (digs 4294967296 u16).length c1 ∧ RU X A1 c1 (digs 4294967296 u16)
    | 13 => ∃ A1 c1, f 13 = .slice A1 (digs 4294967296 u17).length c1 ∧ RU X A1 c1 (digs 4294967296 u17)
    | 14 => ∃ A1 c1, f 14 = .slice A1 (digs 4294967296 u17).length c1 ∧ RU X A1 c1 (digs 4294967296 u17)
    | _ => True) (by kernel_rfl) [(93, 0), (94, 1), (95, 2), (96, 3), (97, 4), (98, 5), (99, 6), (100, 7), (101, 8), (102, 9), (103, 10), (104, 11), (105, 12), (106, 13), (16, 14)] (by kernel_rfl) ?_
   refine lV0 1 14 (hE.at_ hcb) (by rw [Hccs.out]; exact infoRC) ?_
   refine lV0 2 13 (hE.at_ hcb) (by rw [Hccs.out]; exact infoRC) ?_
   refine Par.v0 3 12 ?_
   refine lV0 4 11 (hE.at_ hcb) (by rw [Hccs.out]; exact infoRC) ?_
   refine Par.v0 5 10 ?_
   refine Par.v0 6 9 ?_
   refine rc 7 8 3 4 5 (fun _ _ hX h => ⟨_, _, h, (RN.up N14.out hX)⟩) (fun _ _ hX h => ⟨_, _, h, (RN.up N15.out hX)⟩) (fun X hX _ _ _ _ h h' => minus_r X HF.out (hRC.out.ext (hE.trans hX)) h h' L_u9.out L_u13.out) E_u14.out ?_
   refine rc 8 7 1 2 6 (fun _ _ hX h => ⟨_, _, h, (RN.up N11.out hX)⟩) (fun _ _ _ h => h) (fun X hX _ _ _ _ h h' => times_r X HF.out (hRC.out.ext (hE.trans hX)) h h' L_u6.out L_u14.out) E_u15.out ?_
   refine lV0 9 6 (hE.at_ hcb) (by rw [Hccs.out]; exact infoRC) ?_
   refine Par.v0 10 5 ?_
   refine Par.ld1 11 4 9 (hE.cell j1) ?_
   refine Par.v0 12 3 ?_
   refine rc 13 2 8 10 11 (fun _ _ hX h => ⟨_, _, h, (RN.up HX2.out (hE.trans hX))⟩) (fun _ _ hX h => ⟨_, _, h, (RN.up N13.out hX)⟩) (fun X hX _ _ _ _ h h' => times_r X HF.out (hRC.out.ext (hE.trans hX)) h h' hy.out L_u8.out) E_u16.out ?_
   refine rc 14 1 0 7 12 (fun _ _ _ h => h) (fun _ _ _ h => h) (fun X hX _ _ _ _ h h' => minus_r X HF.out (hRC.out.ext (hE.trans hX)) h h' L_u15.out L_u16.out) E_u17.out ?_
   refine Par.S 15 0 [(93, 0), (94, 1), (95, 2), (96, 3), (97, 4), (98, 5), (99, 6), (100, 7), (101, 8), (102, 9), (103, 10), (104, 11), (105, 12), (106, 13)] (fun f X hX hR K hK => ?_) ?_
   · obtain ⟨A16_13, c16_13, (e13 : f 13 = _), o16_13⟩ := hR.out 13 rfl
     simp only [yA, yB, yC, yD, yE, e13]
     refine ⟨?_⟩
     go_simp
     exact hK.out _ _ _ (by simp only [yA, yB, yC, yD, yE, e13]) (Ext.refl _) trivial (fun Y hY => ⟨A16_13, c16_13, rfl, RN.up o16_13 hY⟩)
   refine Par.AllOps.fin ⟨fun f X hX hR hal hap => ?_⟩
   obtain ⟨A16_6, c16_6, (e6 : f 6 = _), o16_6⟩ := hR 6 (by decide)
   obtain ⟨A16_7, c16_7, (e7 : f 7 = _), o16_7⟩ := hR 7 (by decide)
   obtain ⟨A16_12, c16_12, (e12 : f 12 = _), o16_12⟩ := hR 12 (by decide)
   obtain ⟨A16_13, c16_13, (e13 : f 13 = _), o16_13⟩ := hR 13 (by decide)
   obtain ⟨A16_14, c16_14, (e14 : f 14 = _), o16_14⟩ := hR 14 (by decide)
   simp only [yA, yB, yD, yE, e6, e7, e12, e13, e14]
   clear hR hal hap e6 e7 e12 e13 e14
   refine Par.Chain.done ?_
   replace hE := hE.trans hX
   replace N7 := Lib.hid (RN.up N7.out hX)
   replace N8 := Lib.hid (RN.up N8.out hX)
   replace N9 := Lib.hid (RN.up N9.out hX)
   replace N10 := Lib.hid (RN.up N10.out hX)
   replace N11 := Lib.hid (RN.up N11.out hX)
   replace N12 := Lib.hid (RN.up N12.out hX)
   replace N13 := Lib.hid (RN.up N13.out hX)
   replace N14 := Lib.hid (RN.up N14.out hX)
   replace N15 := Lib.hid (RN.up N15.out hX)
   have N16 := Lib.hid o16_14
   clear hX o16_6 o16_7 o16_12 o16_13 o16_14
   rename World => X16_k
   have hb1 := hE.at_ hrb
   go_upto_region 17 with fail
   refine Par.region_txt 8 [0, 0, 0, 0, 8, 0, 60, 127, 255] [] (fun j f X => match j with
    | 0 => f 0 = .slice A15_13 (digs 4294967296 u13).length c15_13
    | 1 => f 1 = .slice A16_14 (digs 4294967296 u17).length c16_14
    | 2 => f 2 = .agg ccs
    | 3 => f 3 = .pointer (some ⟨q + 1, 2, none⟩)
    | 4 => f 4 = .slice A3 (digs 4294967296 z).length k3
    | 5 => f 5 = .slice A6_5 (digs 4294967296 u5).length c6_5
    | 6 => ∃ A1 c1, f 6 = .slice A1 (digs 4294967296 u18).length c1 ∧ RU X A1 c1 (digs 4294967296 u18)
    | 7 => ∃ A c, f 7 = .agg #[.slice A15_13 (digs 4294967296 u13).length c15_13, .slice A16_14 (digs 4294967296 u17).length c16_14, .slice A (digs 4294967296 u18).length c] ∧ RU X A c (digs 4294967296 u18)
    | _ => True) (by kernel_rfl) [(107, 0), (108, 1), (109, 2), (110, 3), (111, 4), (112, 5), (113, 6), (114, 7)] (by kernel_rfl) ?_
   refine Par.v0 1 7 ?_
   refine Par.v0 2 6 ?_
   refine lV0 3 5 (hE.at_ hcb) (by rw [Hccs.out]; exact infoRC) ?_
   refine Par.v0 4 4 ?_
   refine Par.ld1 5 3 3 (hE.cell j2) ?_
   refine Par.v0 6 2 ?_
   refine rc 7 1 2 4 5 (fun _ _ hX h => ⟨_, _, h, (RN.up HX3.out (hE.trans hX))⟩) (fun _ _ hX h => ⟨_, _, h, (RN.up N10.out hX)⟩) (fun X hX _ _ _ _ h h' => times_r X HF.out (hRC.out.ext (hE.trans hX)) h h' hz.out L_u5.out) E_u18.out ?_
   refine Par.S 8 0 [(107, 0), (108, 1), (109, 2), (110, 3), (111, 4), (112, 5), (113, 6)] (fun f X hX hR K hK => ?_) ?_
   · have e0 : f 0 = _ := hR.out 0 rfl
     have e1 : f 1 = _ := hR.out 1 rfl
     obtain ⟨A17_6, c17_6, (e6 : f 6 = _), o17_6⟩ := hR.out 6 rfl
     simp only [yA, yB, yC, yD, yE, e0, e1, e6]
     refine ⟨?_⟩
     go_simp
     exact hK.out _ _ _ (by simp only [yA, yB, yC, yD, yE, e0, e1, e6]) (Ext.refl _) trivial (fun Y hY => ⟨_, _, rfl, RN.up o17_6 hY⟩)
   refine Par.AllOps.fin ⟨fun f X hX hR hal hap => ?_⟩
   obtain ⟨A17_6, c17_6, (e6 : f 6 = _), o17_6⟩ := hR 6 (by decide)
   obtain ⟨Az, cz, (e7 : f 7 = _), oz⟩ := hR 7 (by decide)
   simp only [yA, yB, yD, yE, e6, e7]
   clear hR hal hap e6 e7
   refine Par.Chain.next (fun K hK => ⟨Par.want (by kernel_rfl) (wp_storeV (cs' := #[.slice A15_13 (digs 4294967296 u13).length c15_13, .slice A16_14 (digs 4294967296 u17).length c16_14, .slice Az (digs 4294967296 u18).length cz]) (t := 95) 95 (.tmp 6) (.tmp 114) rfl rfl rfl rfl (hX.at_ hb1) infoRJ rfl (sl_one _ _ _ _ _ _ _ _ _) (fun Y hY1 hY2 hY3 => hK.out _ _ ?_))⟩)
   refine Par.Chain.done ?_
   go_wp2
   exact end_rj rfl rfl rfl hY1 ⟨_, rfl, ⟨_, _, _, _, _, _, rfl, (RN.up N15.out hX).offJ hY2 (hX.at_ hb1) (by kernel_rfl), (RN.up N16.out hX).offJ hY2 (hX.at_ hb1) (by kernel_rfl), oz.offJ hY2 (hX.at_ hb1) (by kernel_rfl), L_u13.out, L_u17.out, L_u18.out⟩, hY2.ext (HE0.out.trans (hE.trans hX)) (by have := Hq.out; omega)⟩
def invLoop (m r s t u : Nat) : Nat × Nat := if _h : s = 0 then (r, t) else invLoop m s (r % s) u ((t + m - r / s * u % m) % m)
termination_by s
decreasing_by exact Nat.mod_lt _ (by omega)
theorem invLoop_zero (m r t u : Nat) : invLoop m r 0 t u = (r, t) := by rw [invLoop]; simp
theorem invLoop_step {m r s t u : Nat} (h : s ≠ 0) : invLoop m r s t u = invLoop m s (r % s) u ((t + m - r / s * u % m) % m) := by rw [invLoop]; simp [h]
def invNum (x m : Nat) : Nat × Bool := if (invLoop m m (x % m) 0 1).1 = 1 then ((invLoop m m (x % m) 0 1).2, true) else (0, false)
theorem refInverse_any (A A' : Option Addr) (c c' X M : Nat) (w : World) (h : RU w A c (digs 4294967296 X)) (h' : RU w A' c' (digs 4294967296 M)) (hl : (digs 4294967296 X).length < 30000) (hlM : (digs 4294967296 M).length ≤ 30000) (hM2 : 2 ≤ M) :
 Calls Try.prog 59 #[.slice A (digs 4294967296 X).length c, .slice A' (digs 4294967296 M).length c'] w fun e w' => ∃ A1 c1, e = .returned (.tuple #[.slice A1 (digs 4294967296 (invNum X M).1).length c1, .bool (invNum X M).2]) ∧ RU w' A1 c1 (digs 4294967296 (invNum X M).1) ∧ Below w.heap.size w w' := by
 have hm := Lib.hid (refMod_any A A' c c' X M w h h' (by omega) (by omega))
 have Hl := Lib.hid hlM
 go_enter Try.func59, Try.ntmps59
 go_wp2_with fail
 refine hm.out.mono ?_
 rintro e w1 ⟨A1, c1, rfl, hR1, hB1⟩
 have hof := Lib.hid (refOf_any 1 w1 (by omega))
 go_wp2_with fail
 refine hof.out.mono ?_
 rintro e w2 ⟨A2, c2, rfl, hO2, hB2⟩
 have hB02 := hB1.trans (hB2.mono hB1.size)
 have zA := h'.up hB02
 have zB := hR1.up hB2
 have zD := hO2.ru
 have hXm := Nat.mod_lt X (show 0 < M by omega)
 clear hR1 hO2 hB1 hB2 hof hm h
 go_wp2
 go_loopw [6, 7, 8, 9] (fun rv sv tv uv wr => ∃ (A1 A2 A3 A4 : Option Addr) (c1 c2 c3 c4 r s t u : Nat), rv = .slice A1 (digs 4294967296 r).length c1 ∧ sv = .slice A2 (digs 4294967296 s).length c2 ∧ tv = .slice A3 (digs 4294967296 t).length c3 ∧ uv = .slice A4 (digs 4294967296 u).length c4 ∧
  RU wr A1 c1 (digs 4294967296 r) ∧ RU wr A2 c2 (digs 4294967296 s) ∧ RU wr A3 c3 (digs 4294967296 t) ∧ RU wr A4 c4 (digs 4294967296 u) ∧ r ≤ M ∧ s ≤ M ∧ t ≤ M ∧ u ≤ M ∧ Hid (invLoop M r s t u = invLoop M M (X % M) 0 1) ∧ Below w.heap.size w wr)
  (fun _ sv _ _ wr => readDigs wr sv)
 case atStart => exact ⟨A', A1, none, A2, c', c1, 0, c2, M, X % M, 0, 1, rfl, rfl, by rw [digs_zero]; rfl, rfl, zA, zB, by rw [digs_zero]; exact (OB.nil_ w2 0).ru, zD, by omega, by omega, by omega, by omega, Lib.hid rfl, hB02⟩
 case round =>
  clear zA zB zD hB02 hXm
  obtain ⟨A1, A2, A3, A4, c1, c2, c3, c4, r, s, t, u, rfl, rfl, rfl, rfl, zA, zB, zC, zD, hr, hs, ht, hu, hI, hB⟩ := hrel
  have zw := hB.size
  have zM := h'.up hB
  by_cases h0 : s = 0
  · subst h0
    have hI' := hI.out
    rw [invLoop_zero] at hI'
    rw [digs_zero] at *
    have hof := Lib.hid (refOf_any 1 wr (by omega))
    have hcm := Lib.hid fun W (hW : Below wr.heap.size wr W) (A5 : Option Addr) (c5 : Nat) (h5 : RU W A5 c5 (digs 4294967296 1)) => refCmp_any _ _ A1 A5 c1 c5 r 1 W (zA.up hW) h5
    by_cases h1 : r = 1
    · have hans : invNum X M = (t, true) := by rw [invNum, ← hI', if_pos h1]
      have hc1 : cmpV r 1 = 0 := by rw [h1]; decide
      rw [hc1] at hcm
      have Hans := Lib.hid hans
      clear hans hI hI' h1 hc1
      go_wp2_with fail
      refine hof.out.mono ?_
      rintro e w' ⟨A5, c5, rfl, hO5, hB5⟩
      have Hcm := Lib.hid (hcm.out w' hB5 A5 c5 hO5.ru)
      go_wp2_with fail
      refine Hcm.out.mono ?_
      rintro e w' ⟨rfl, nd, rfl⟩
      have hf := (zC.up hB5).ud nd
      have hBf := below_drewN (hB.trans (hB5.mono zw)) nd
      clear hcm Hcm hof
      go_wp2
      go_ret2
      exact ⟨A3, c3, by rw [Hans.out]; rfl, by rw [Hans.out]; exact hf, hBf⟩
    · have hans : invNum X M = (0, false) := by rw [invNum, ← hI', if_neg h1]
      have hc1 : cmpV r 1 ≠ 0 := fun e => h1 (cmpV_zero e)
      generalize cmpV r 1 = cv at *
      have t2 : (cv != 0) = true := by simpa using hc1
      have Hans := Lib.hid hans
      clear hans hI hI' h1
      go_wp2_with fail
      refine hof.out.mono ?_
      rintro e w' ⟨A5, c5, rfl, hO5, hB5⟩
      have Hcm := Lib.hid (hcm.out w' hB5 A5 c5 hO5.ru)
      go_wp2_with fail
      refine Hcm.out.mono ?_
      rintro e w' ⟨rfl, nd, rfl⟩
      have hBf := below_drewN (hB.trans (hB5.mono zw)) nd
      clear hcm Hcm hof
      go_wp2
      go_ret2
      exact ⟨none, 0, by rw [Hans.out, digs_zero]; rfl, by rw [Hans.out, digs_zero]; exact (OB.nil_ _ 0).ru, hBf⟩
  · have kp : (0 : Int) < ((digs 4294967296 s).length : Int) := by
     have : 0 < (digs 4294967296 s).length := by rw [digs_pos (by omega) (by omega)]; simp
     omega
    have hlM := Hl.out
    have hq1 := refQuo_any _ _ A1 A2 c1 c2 r s wr zA zB (fun b hb => hb) (fun b hb => hb) (by have := dig32_len hr hlM; omega) (by omega)
    have hqM : r / s ≤ M := Nat.le_trans (Nat.div_le_self _ _) hr
    have hlM2 : r % s ≤ M := Nat.le_trans (Nat.mod_le _ _) hr
    have Hq1 := Lib.hid hq1
    have Hrd := Lib.hid zB.readD
    have hmod := Nat.mod_lt r (show 0 < s by omega)
    have hstep := Lib.hid (show invLoop M s (r % s) u ((t + M - r / s * u % M) % M) = invLoop M M (X % M) 0 1 by rw [← hI.out, invLoop_step h0])
    clear hq1 hI
    go_wp2_with fail
    refine Hq1.out.mono ?_
    rintro e w4 ⟨A5, c5, A6, c6, rfl, y5, y6, hB4⟩
    have s4 := hB4.size
    have Hm1 := Lib.hid (refMul_any _ _ A5 A4 c5 c4 (r / s) u w4 y5.ru (zD.up hB4) (fun b hb => hb) (fun b hb => hb) (by have := dig32_len hqM hlM; omega) (by have := dig32_len hu hlM; omega))
    go_wp2_with fail
    refine Hm1.out.mono ?_
    rintro e w5 ⟨A7, c7, rfl, y7, hB5⟩
    have hB45 := hB4.trans (hB5.mono s4)
    have hr5 := refMod_any A7 A' c7 c' (r / s * u) M w5 y7.ru (zM.up hB45) (by have := dig32_mul (dig32_len hqM hlM) (dig32_len hu hlM); omega) (by omega)
    have hlessM := Nat.mod_lt (r / s * u) (show 0 < M by omega)
    generalize r / s * u % M = less at *
    have Hr5 := Lib.hid hr5
    clear hr5
    go_wp2_with fail
    refine Hr5.out.mono ?_
    rintro e w6 ⟨A8, c8, rfl, y8, hB6⟩
    have hB46 := hB45.trans (hB6.mono (by have := hB45.size; omega))
    have Ha6 := Lib.hid (refAdd_any _ _ A3 A' c3 c' t M w6 (zC.up hB46) (zM.up hB46) (fun b hb => hb) (fun b hb => hb) (by have := dig32_len ht hlM; omega) (by omega))
    go_wp2_with fail
    refine Ha6.out.mono ?_
    rintro e w7 ⟨A9, c9, rfl, y9, hB7⟩
    have hB47 := hB46.trans (hB7.mono hB46.size)
    have hs7 := refSub_any _ _ A9 A8 c9 c8 (t + M) less w7 y9.ru (y8.up hB7) (fun b hb => hb) (fun b hb => hb) (by have := dig32_add ht (Nat.le_refl M) hlM; omega) (by omega)
    have hdif : t + M - less ≤ M + M := by omega
    have hlast := dig32_add (Nat.le_refl M) (Nat.le_refl M) hlM
    have hld := dig32_len hdif hlast
    generalize t + M - less = dif at *
    have Hs7 := Lib.hid hs7
    clear hs7
    go_wp2_with fail
    refine Hs7.out.mono ?_
    rintro e w8 ⟨A10, c10, rfl, y10, hB8⟩
    have hB48 := hB47.trans (hB8.mono hB47.size)
    have Hr8 := Lib.hid (refMod_any A10 A' c10 c' dif M w8 y10.ru (zM.up hB48) (by omega) (by omega))
    have hdm := Nat.mod_lt dif (show 0 < M by omega)
    go_wp2_with fail
    refine Hr8.out.mono ?_
    rintro e w9 ⟨A11, c11, rfl, y11, hB9⟩
    have hB49 := hB48.trans (hB9.mono hB48.size)
    have hBw9 := hB.trans (hB49.mono zw)
    have f2 := zB.up hB49
    have hB49' : Below w4.heap.size w4 w9 := (((hB5.trans (hB6.mono hB5.size)).trans (hB7.mono (by have := hB5.size; have := hB6.size; omega))).trans (hB8.mono (by have := hB5.size; have := hB6.size; have := hB7.size; omega))).trans (hB9.mono (by have := hB5.size; have := hB6.size; have := hB7.size; have := hB8.size; omega))
    have f6 := RN.up y6 hB49'
    have f4 := zD.up hB49
    have Hrd9 := Lib.hid f6.readD
    clear zA zB zC zD zM y5 y6 y7 y8 y9 y10 hB4 hB5 hB6 hB7 hB8 hB9 hB45 hB46 hB47 hB48 hB49 hB49' hB Hq1 Hm1 Hr5 Ha6 Hs7 Hr8
    go_wp2
    go_roundw
    case rel => exact ⟨A2, A6, A4, A11, c2, c6, c4, c11, s, r % s, u, dif % M, rfl, rfl, rfl, rfl, f2, f6, f4, y11, hs, hlM2, hu, by omega, hstep, hBw9⟩
    case measure => rw [Hrd.out, Hrd9.out]; exact hmod
theorem dg_last_pos32 {x : Nat} (hx : 0 < x) : 0 < dg (digs 4294967296 x) ((digs 4294967296 x).length - 1) := by
 have hne : digs 4294967296 x ≠ [] := by rw [digs_pos (by omega) hx]; simp
 have h := digs_last (B := 4294967296) (by omega) x hne
 have hpos := List.length_pos_iff.2 hne
 rw [List.getLast_eq_getElem] at h
 rw [dg, getD_eq' (by omega)]
 omega
theorem half_step (t k : Nat) : t / 2 ^ k / 2 = t / 2 ^ (k + 1) := by rw [Nat.div_div_eq_div_mul, Nat.pow_succ]
theorem refBits_any (P : Nat → Prop) (A : Option Addr) (c : Nat) (x : Nat) (w : World) (h : RN w P A c (digs 4294967296 x)) :
 Calls Try.prog 55 #[.slice A (digs 4294967296 x).length c] w fun e w' => e = .returned (.int .i64 (nbits x : Int)) ∧ w = w' := by
 rcases Nat.eq_zero_or_pos x with rfl | hx
 · rw [digs_zero]
   go_enter Try.func55, Try.ntmps55
   go_wp2
   go_ret
   exact ⟨rfl, rfl⟩
 · have htop := fun k hk h1 h2 => nbits_top (m := 32) (by omega) hx (k := k) hk h1 h2
   have hpos := dg_last_pos32 hx
   have hD := Dig.digs x
   obtain ⟨h1, h2, h3⟩ := h.cap
   have hne : 0 < (digs 4294967296 x).length := by rw [digs_pos (by omega) hx]; simp
   rw [show (2 : Nat) ^ 32 = 4294967296 by decide] at htop
   generalize digs 4294967296 x = l at *
   obtain ⟨n, hn⟩ : ∃ n, l.length = n + 1 := ⟨l.length - 1, by omega⟩
   obtain ⟨ad, rfl, _, q1⟩ := h.at_ (i := n) (by omega)
   rw [hn, Nat.add_sub_cancel] at htop hpos
   have hl := hD.dgLt n
   generalize dg l n = t at *
   rw [hn] at h1 h3 ⊢
   have Htop := Lib.hid htop
   have Hpos := Lib.hid hpos
   clear htop hpos hx hn hne h hD
   have Hl := Lib.hid hl
   clear hl
   go_enter Try.func55, Try.ntmps55
   go_wp2
   go_loop [4, 5] (fun kv tv => ∃ k z : Nat, kv = .int .i64 (k : Int) ∧ tv = .int .u64 (z : Int) ∧ Hid (z = t / 2 ^ k) ∧ Hid (z < 4294967296) ∧ k ≤ 32 ∧ (k = 0 ∨ 2 ^ (k - 1) ≤ t)) (fun kv _ => (33 - intOf kv).toNat)
   case atStart => exact ⟨0, t, rfl, rfl, Lib.hid (by simp), Hl, by omega, .inl rfl⟩
   case round =>
    obtain ⟨k, z, rfl, rfl, hz, hzl, hk, hor⟩ := hrel
    have Hor := Lib.hid hor
    clear hor
    by_cases h0 : z = 0
    · have hfin : nbits x = 32 * n + k := by
       have e := hz.out
       rw [h0] at e
       have hlt : t < 2 ^ k := by
        rcases Nat.lt_or_ge t (2 ^ k) with h | h
        · exact h
        · have := Nat.div_pos h (Nat.pow_pos (by omega)); omega
       have hk0 : 0 < k := by
        rcases Nat.eq_zero_or_pos k with rfl | h
        · have := Hpos.out; simp at hlt; omega
        · exact h
       rcases Hor.out with h | h
       · omega
       · exact Htop.out k hk0 h hlt
      have Hfin := Lib.hid hfin
      subst h0
      clear hfin
      go_wp2
      go_ret
      exact ⟨ret_int (by rw [Hfin.out]; simp), rfl⟩
    · have hk' : k < 32 := by
       rcases Nat.lt_or_ge k 32 with h | h
       · exact h
       · exfalso
         apply h0
         rw [hz.out]
         exact Nat.div_eq_of_lt (Nat.lt_of_lt_of_le Hl.out (by rw [show (4294967296 : Nat) = 2 ^ 32 by decide]; exact Nat.pow_le_pow_right (by omega) h))
      have hge : 2 ^ k ≤ t := by
       rcases Nat.lt_or_ge t (2 ^ k) with h | h
       · exfalso; apply h0; rw [hz.out]; exact Nat.div_eq_of_lt h
       · exact h
      have Hge := Lib.hid hge
      obtain ⟨z', hz', e1⟩ : ∃ z' : Nat, z / 2 = z' ∧ (z : Int) / 2 = (z' : Int) := ⟨z / 2, rfl, by omega⟩
      have hzz : Hid (z' = t / 2 ^ (k + 1)) := Lib.hid (by rw [← hz', hz.out, half_step])
      have hzl' : Hid (z' < 4294967296) := Lib.hid (by have := hzl.out; omega)
      have p1 : (0 : Int) < (z : Int) := by omega
      clear hge hz' h0
      go_wp2
      go_round
      case rel => exact ⟨k + 1, z', by go_num, by first | rfl | exact congrArg (Value.int .u64) (IntWalk.u64_in _ (by have := hzl'.out; omega)), hzz, hzl', by omega, .inr (by rw [Nat.add_sub_cancel]; exact Hge.out)⟩
      case measure => simp [intOf]; omega
theorem tmod2 (d j : Nat) : ((d : Int) / 2 ^ j).tmod 2 = ((d / 2 ^ j % 2 : Nat) : Int) := by
 rw [show (d : Int) / 2 ^ j = ((d / 2 ^ j : Nat) : Int) by simp]
 generalize d / 2 ^ j = z
 rw [Int.tmod_eq_emod_of_nonneg (by omega)]
 omega
theorem mod2 (d j : Nat) : IntKind.u64.wrap ((d : Int) / 2 ^ j % 2) = ((d / 2 ^ j % 2 : Nat) : Int) := by
 rw [show (d : Int) / 2 ^ j % 2 = ((d / 2 ^ j % 2 : Nat) : Int) by simp]
 generalize d / 2 ^ j = z
 exact IntWalk.u64_in _ (by omega)
theorem refBit_any (P : Nat → Prop) (A : Option Addr) (c : Nat) (x : Nat) (i : Int) (w : World) (h : RN w P A c (digs 4294967296 x)) (hi : i ≤ 9223372036854775807) :
 Calls Try.prog 57 #[.slice A (digs 4294967296 x).length c, .int .i64 i] w fun e w' => e = .returned (.int .u64 (bitOf x i : Int)) ∧ w = w' := by
 obtain ⟨h1, h2, h3⟩ := h.cap
 have hv := val_digs (B := 4294967296) (by omega) x
 have hD := Dig.digs x
 generalize digs 4294967296 x = a at *
 by_cases h0 : i < 0
 · have hb := Lib.hid (show bitOf x i = 0 by simp [bitOf, h0])
   go_enter Try.func57, Try.ntmps57
   go_wp2
   go_ret
   rw [hb.out]
   exact ⟨rfl, rfl⟩
 · obtain ⟨n, rfl⟩ : ∃ n : Nat, i = (n : Int) := ⟨i.toNat, by omega⟩
   obtain ⟨k, j, hj, hn⟩ : ∃ k j, j < 32 ∧ n = 32 * k + j := ⟨n / 32, n % 32, by omega, by omega⟩
   have hb : bitOf x (n : Int) = dg a k / 2 ^ j % 2 := by
    have := val_bit (m := 32) a hD k j hj
    rw [show (2 : Nat) ^ 32 = 4294967296 by decide, hv] at this
    rw [bitOf, if_neg h0, Int.toNat_natCast, hn]
    exact this
   have e1 : (n : Int) / 32 = (k : Int) := by omega
   have e2 : (n : Int) % 32 = (j : Int) := by omega
   have e4 : IntKind.i64.wrap ((n : Int) / 32) = (k : Int) := by rw [e1]; exact IntWalk.i64_in _ (by omega)
   by_cases hk : k < a.length
   · obtain ⟨ad, rfl, _, q1⟩ := h.at_ hk
     have hd := h.2.dgLt k
     have e3 := mod2 (dg a k) j
     have hj' : (j : Int) < 32 := by omega
     have hk' : (k : Int) < (a.length : Int) := by omega
     have Hb := Lib.hid hb
     clear hb hn hd h hi hD
     go_enter Try.func57, Try.ntmps57
     go_wp2
     go_ret
     exact ⟨ret_int (by rw [Hb.out]; exact tmod2 _ _), rfl⟩
   · have hd : dg a k = 0 := dg_none (by omega)
     rw [hd, Nat.zero_div] at hb
     have Hb := Lib.hid hb
     have hk' : ¬ (k : Int) < (a.length : Int) := by omega
     have hk2 : (a.length : Int) ≤ (k : Int) := by omega
     have hkb : (k : Int) ≤ 288230376151711743 := by omega
     clear hb hn hd h hi hD
     go_enter Try.func57, Try.ntmps57
     go_wp2
     go_ret
     rw [Hb.out]
     exact ⟨rfl, rfl⟩
def BackAt (x n : Nat) (o : List Nat) (k : Nat) : Prop := o.length = n ∧ (∀ j, j < n → n - 1 - j < k → dg o j = x / 2 ^ (8 * (n - 1 - j)) % 256) ∧ (∀ j, k ≤ n - 1 - j → dg o j = 0) ∧ ∀ b ∈ o, b < 256
theorem BackAt.zero (x n : Nat) : BackAt x n (List.replicate n 0) 0 := by
 refine ⟨by simp, fun j _ hj => by omega, fun j _ => ?_, fun b hb => by simp at hb; omega⟩
 rw [dg, List.getD_eq_getElem?_getD, List.getElem?_replicate]
 split <;> rfl
theorem BackAt.step {x n : Nat} {o : List Nat} {k b : Nat} (h : BackAt x n o k) (hk : k < n) (hb : x / 2 ^ (8 * k) % 256 = b) : BackAt x n (o.set (n - 1 - k) b) (k + 1) := by
 obtain ⟨h1, h2, h3, h4⟩ := h
 refine ⟨by simpa using h1, fun j hjn hj => ?_, fun j hj => by rw [getD_set_ne (by omega)]; exact h3 j (by omega), set_lt h4 (by omega)⟩
 rcases Nat.lt_or_ge (n - 1 - j) k with h | h
 · rw [getD_set_ne (by omega)]; exact h2 j hjn h
 · obtain rfl : j = n - 1 - k := by omega
   rw [getD_set_eq (by omega), show n - 1 - (n - 1 - k) = k by omega]; exact hb.symm
theorem BackAt.fin {x n : Nat} {o : List Nat} {k : Nat} (h : BackAt x n o k) (hk : ∀ j, k ≤ j → j < n → x / 2 ^ (8 * j) % 256 = 0) : o = bytesOf x n := by
 obtain ⟨h1, h2, h3, _⟩ := h
 apply List.ext_getElem (by rw [h1, bytesOf_length])
 intro i h4 h5
 have e : dg o i = x / 2 ^ (8 * (n - 1 - i)) % 256 := by
  rcases Nat.lt_or_ge (n - 1 - i) k with h | h
  · exact h2 i (by omega) h
  · rw [h3 i h, hk _ h (by omega)]
 rw [dg, getD_eq' h4] at e
 rw [e]
 simp [bytesOf]
def rmS (M qx qy E : Nat) : Nat → Nat × Nat × Nat
 | 0 => (0, 0, 0)
 | k + 1 => if (bitAt E k).2 = 1 then mixP M (twP M (rmS M qx qy E k).1 (rmS M qx qy E k).2.1 (rmS M qx qy E k).2.2).1 (twP M (rmS M qx qy E k).1 (rmS M qx qy E k).2.1 (rmS M qx qy E k).2.2).2.1 (twP M (rmS M qx qy E k).1 (rmS M qx qy E k).2.1 (rmS M qx qy E k).2.2).2.2 qx qy else twP M (rmS M qx qy E k).1 (rmS M qx qy E k).2.1 (rmS M qx qy E k).2.2
def rdown (M x y z : Nat) : Option (Nat × Nat) := if z = 0 then none else let iv := (invNum z M).1; let u1 := mm M iv iv; some (mm M x u1, mm M y (mm M u1 iv))
def rmulP (M : Nat) (bi : Bool) (qx qy E : Nat) : Option (Nat × Nat) := if bi then none else rdown M (rmS M qx qy E (nbits E)).1 (rmS M qx qy E (nbits E)).2.1 (rmS M qx qy E (nbits E)).2.2
theorem invLoop_lt {m : Nat} : ∀ (n s : Nat), s ≤ n → ∀ r t u, t < m → u < m → (invLoop m r s t u).2 < m := by
 intro n
 induction n with
 | zero =>
  intro s hs r t u ht hu
  obtain rfl : s = 0 := by omega
  rw [invLoop_zero]
  exact ht
 | succ n ih =>
  intro s hs r t u ht hu
  rcases Nat.eq_zero_or_pos s with rfl | h0
  · rw [invLoop_zero]; exact ht
  · rw [invLoop_step (by omega)]
    exact ih (r % s) (by have := Nat.mod_lt r h0; omega) s u _ hu (Nat.mod_lt _ (by omega))
theorem invNum_lt {x m : Nat} (hm : 2 ≤ m) : (invNum x m).1 < m := by
 unfold invNum
 split
 · exact invLoop_lt (x % m) _ (Nat.le_refl _) _ _ _ (by omega) (by omega)
 · show 0 < m
   omega
def RJB (C : Crv) (X : World) (b : Nat) (p : Nat × Nat × Nat) : Prop := ∃ (A1 A2 A3 : Option Addr) (c1 c2 c3 : Nat), X.heap[b]? = some (.cells #[.slice A1 (digs 4294967296 p.1).length c1, .slice A2 (digs 4294967296 p.2.1).length c2, .slice A3 (digs 4294967296 p.2.2).length c3] 95 (0, 0)) ∧
 RU X A1 c1 (digs 4294967296 p.1) ∧ RU X A2 c2 (digs 4294967296 p.2.1) ∧ RU X A3 c3 (digs 4294967296 p.2.2) ∧ p.1 < C.M ∧ p.2.1 < C.M ∧ p.2.2 < C.M
theorem rmul_n {C : Crv} {ccs : Array Value} {An1 : Option Addr} {cn1 E : Nat} {bi : Bool} {B1 B2 : Option Addr} {m1 m2 qx qy : Nat} (hF : C.Fine) (h8 : 8 < C.M) (w : World) (hc : RC w C (.agg ccs)) (hn : RU w An1 cn1 (digs 4294967296 E)) (hq1 : RU w B1 m1 (digs 4294967296 qx)) (hq2 : RU w B2 m2 (digs 4294967296 qy)) (hqx : bi = false → qx < C.M ∧ qy < C.M) :
 Calls Try.prog 18 #[.agg ccs, .slice An1 (digs 4294967296 E).length cn1, .agg #[.bool bi, .slice B1 (digs 4294967296 qx).length m1, .slice B2 (digs 4294967296 qy).length m2]] w fun e w' => ∃ o, e = .returned o ∧ RPU w' o (rmulP C.M bi qx qy E) ∧ Ext w w' := by
 obtain ⟨Ap, An, Ab, Ax, Ay, cp, cn, cb, cx, cy, hccs, hP, hN, hB, hX1, hY1⟩ := hc
 injection hccs with hccs
 have hRC0 : RC w C (.agg ccs) := ⟨Ap, An, Ab, Ax, Ay, cp, cn, cb, cx, cy, by rw [hccs], hP, hN, hB, hX1, hY1⟩
 obtain ⟨W0, hW0⟩ : ∃ W0, W0 = ((w.alloc (.cells ccs 31)).alloc (.cells #[.bool bi, .slice B1 (digs 4294967296 qx).length m1, .slice B2 (digs 4294967296 qy).length m2] 34)).alloc (.cells #[.bool false, .slice none 0 0, .slice none 0 0] 34) := ⟨_, rfl⟩
 obtain ⟨q, hq⟩ : ∃ q, w.heap.size = q := ⟨_, rfl⟩
 have hE0 : Ext w W0 := by rw [hW0]; exact ((Ext.alloc _ _).trans (Ext.alloc _ _)).trans (Ext.alloc _ _)
 obtain ⟨hcb, hqb, hrb, hz0⟩ := three_w w (.cells ccs 31) (.cells #[.bool bi, .slice B1 (digs 4294967296 qx).length m1, .slice B2 (digs 4294967296 qy).length m2] 34) (.cells #[.bool false, .slice none 0 0, .slice none 0 0] 34)
 rw [← hW0, hq] at hcb hqb hrb hz0
 have t0 := blk_cell hqb 0
 have cP := blk_cell hcb 0
 rw [hccs] at cP
 simp only [List.getElem?_toArray, List.getElem?_cons_zero] at t0 cP
 have hRC := Lib.hid (hRC0.ext hE0)
 have Hccs := Lib.hid (show ccs.size = 6 by rw [hccs]; rfl)
 have HRP := Lib.hid (RN.up hP hE0)
 have HX4 := Lib.hid (RN.up hq1 hE0)
 have HX5 := Lib.hid (RN.up hq2 hE0)
 have HN := Lib.hid (RN.up hn hE0)
 have HF := Lib.hid hF
 have H8 := Lib.hid h8
 have hM0 : 0 < C.M := by omega
 have HE0 := Lib.hid hE0
 have Hz0 := Lib.hid hz0
 clear hRC0 hccs hP hN hB hX1 hY1 hF h8 hE0 hz0 hq1 hq2 hn
 cases bi
 case true =>
  rw [show rmulP C.M true qx qy E = none from rfl]
  go_enter Try.func18, Try.ntmps18
  go_upto_region 1 with fail
  rw [← hW0]
  have Hq := Lib.hid hq
  clear hW0 hq
  obtain ⟨z0, z1, z2, f0, f1, f2⟩ := pt_facts hrb
  go_wp2
  exact end_rpt rfl rfl rfl (pt_set hrb _ _ _) ⟨_, rfl, rfl, pt_ext HE0.out (by have := Hq.out; omega) _ _ _⟩
 case false =>
  obtain ⟨hqx1, hqy1⟩ := hqx rfl
  have hqxl := Lib.hid hqx1
  have hqyl := Lib.hid hqy1
  clear hqx1 hqy1 hqx
  obtain ⟨nb, hnb⟩ : ∃ n, nbits E = n := ⟨_, rfl⟩
  rw [show rmulP C.M false qx qy E = rdown C.M (rmS C.M qx qy E nb).1 (rmS C.M qx qy E nb).2.1 (rmS C.M qx qy E nb).2.2 by rw [← hnb]; rfl]
  have hnb2 : nb ≤ 64000000 := by
   have h1 := HN.out.cap
   rw [← hnb]
   refine Nat.le_trans (nbits_le (k := 32 * (digs 4294967296 E).length) ?_) (by omega)
   have := val_lt (digs_lt (B := 4294967296) (by omega) E)
   rw [val_digs (by omega)] at this
   rw [Nat.pow_mul]
   exact this
  obtain ⟨res, hres0⟩ : ∃ r, rdown C.M (rmS C.M qx qy E nb).1 (rmS C.M qx qy E nb).2.1 (rmS C.M qx qy E nb).2.2 = r := ⟨_, rfl⟩
  rw [hres0]
  have Hres := Lib.hid hres0
  have Hnb := Lib.hid hnb
  clear hnb hres0
  go_enter Try.func18, Try.ntmps18
  go_upto_region 1 with fail
  rw [← hW0]
  have Hq := Lib.hid hq
  have HW0 := Lib.hid hW0
  clear hW0 hq
  obtain ⟨b7, hb7⟩ : ∃ b, W0.heap.size = b := ⟨_, rfl⟩
  have g7 := heap_alloc_new W0 (.cells #[.slice none 0 0, .slice none 0 0, .slice none 0 0] 95)
  have hA7 := Ext.alloc W0 (.cells #[.slice none 0 0, .slice none 0 0, .slice none 0 0] 95)
  rw [hb7] at g7
  have hz7 : (W0.alloc (.cells #[.slice none 0 0, .slice none 0 0, .slice none 0 0] 95)).heap.size = b7 + 1 := by rw [World.size_alloc, hb7]
  go_upto_region 4 with fail
  clear t0
  generalize hW5 : W0.alloc (.cells #[.slice none 0 0, .slice none 0 0, .slice none 0 0] 95) = W5 at *
  have hbits := refBits_any _ An1 cn1 E W5 (RN.up HN.out hA7)
  rw [Hnb.out] at hbits
  have Hbits := Lib.hid hbits
  have hq7 : q + 3 ≤ b7 := by have := Hz0.out; omega
  have HE5 := Lib.hid (HE0.out.trans hA7)
  have HA7 := Lib.hid hA7
  have Hb7 := Lib.hid hb7
  have hJ0 : RJB C W5 b7 (rmS C.M qx qy E 0) := ⟨none, none, none, 0, 0, 0, by rw [show rmS C.M qx qy E 0 = (0, 0, 0) from rfl, digs_zero]; exact g7, RN.nil0 _, RN.nil0 _, RN.nil0 _, hM0, hM0, hM0⟩
  have hw0 : IntKind.i64.wrap ((nb : Int) - 1) = (nb : Int) - 1 := IntWalk.i64_in _ (by omega)
  clear hbits hA7 hW5 g7 hb7
  have Hcb := Lib.hid hcb
  have HcP := Lib.hid cP
  have Hqb := Lib.hid hqb
  have Hrb := Lib.hid hrb
  clear cP
  go_wp2_with (go_at_call 55; refine Hbits.out.mono ?_; rintro e w5 ⟨rfl, rfl⟩)
  clear hw0
  go_loopw [8] (fun iv wr => ∃ (k : Nat) (z : Int), k ≤ nb ∧ iv = .int .i64 z ∧ z = (nb : Int) - 1 - (k : Int) ∧ RJB C wr b7 (rmS C.M qx qy E k) ∧ Below b7 W5 wr) (fun iv _ => (intOf iv + 1).toNat)
  case atStart => exact ⟨0, _, by omega, rfl, by omega, hJ0, Below.refl _ _⟩
  case round =>
   obtain ⟨k, z, hk, rfl, hz, hJ, hBr⟩ := hrel
   have hWr : Ext W0 wr := Below.trans HA7.out (Below.mono hBr (Nat.le_of_eq Hb7.out))
   have HWr := Lib.hid hWr
   have hcw := hWr.at_ hcb
   have hqw := hWr.at_ hqb
   have hrw := hWr.at_ hrb
   have hRCw := Lib.hid (hRC.out.ext hWr)
   have HBr := Lib.hid hBr
   clear hWr
   obtain ⟨E1, E2, E3, d1, d2, d3, hbl, g1, g2, g3, g4, g5, g6⟩ := hJ
   have hzr := blk_lt hbl
   by_cases hlt : k < nb
   · have k1 : (0 : Int) ≤ z := by omega
     obtain ⟨so, hso⟩ : ∃ s, rmS C.M qx qy E k = s := ⟨_, rfl⟩
     have hstep : rmS C.M qx qy E (k + 1) = if (bitAt E k).2 = 1 then mixP C.M (twP C.M so.1 so.2.1 so.2.2).1 (twP C.M so.1 so.2.1 so.2.2).2.1 (twP C.M so.1 so.2.1 so.2.2).2.2 qx qy else twP C.M so.1 so.2.1 so.2.2 := by rw [← hso]; rfl
     have hbo : (bitOf E z : Nat) = (bitAt E k).2 := by
      rw [bitOf, if_neg (by omega), bitAt, Hnb.out, show z.toNat = nb - 1 - k by omega]
     have hbt2 : (bitAt E k).2 < 2 := Nat.mod_lt _ (by omega)
     rw [hso] at hbl g1 g2 g3 g4 g5 g6
     obtain ⟨bt, hbt⟩ : ∃ b, (bitAt E k).2 = b := ⟨_, rfl⟩
     rw [hbt] at hstep hbo hbt2
     have Hstep := Lib.hid hstep
     have Hbo := Lib.hid hbo
     have G1 := Lib.hid g1
     have G2 := Lib.hid g2
     have G3 := Lib.hid g3
     have G4 := Lib.hid g4
     have G5 := Lib.hid g5
     have G6 := Lib.hid g6
     have hzz : IntKind.i64.wrap (z - 1) = z - 1 := IntWalk.i64_in _ (by omega)
     have Hzz := Lib.hid hzz
     have Hz := Lib.hid hz
     clear hstep hbo g1 g2 g3 g4 g5 g6 hso hbt hz hBr hzz hcb hqb hrb hrw
     go_upto_region 7 with fail
     refine Par.region_txt 3 [0, 0, 3, 7] [] (fun j f X => match j with
      | 0 => f 0 = .agg ccs
      | 1 => f 1 = .agg #[.slice E1 (digs 4294967296 so.1).length d1, .slice E2 (digs 4294967296 so.2.1).length d2, .slice E3 (digs 4294967296 so.2.2).length d3]
      | 2 => ∃ o, f 2 = o ∧ JN X C o (twP C.M so.1 so.2.1 so.2.2)
      | _ => True) (by kernel_rfl) [(22, 0), (23, 1), (24, 2)] (by kernel_rfl) ?_
     refine lV0 1 2 hcw (by rw [Hccs.out]; exact infoRC) ?_
     refine lV0 2 1 hbl infoRJ ?_
     refine Par.c0 3 0 (fun f => #[f 0, f 1]) (F' := 56) (fun f X hX hR => ?_) ?_
     · have e0 : f 0 = _ := hR.out 0 rfl
       have e1 : f 1 = _ := hR.out 1 rfl
       simp only [e0, e1]
       refine (twice_n (p := so) HF.out H8.out X (hRCw.out.ext hX) ⟨E1, E2, E3, d1, d2, d3, rfl, RN.up G1.out hX, RN.up G2.out hX, RN.up G3.out hX, G4.out, G5.out, G6.out⟩).mono ?_
       rintro e w2 ⟨o, rfl, hj, hB⟩
       exact ⟨o, rfl, hB, fun Y hY => ⟨_, rfl, hj.ext hY⟩⟩
     refine Par.AllOps.fin ⟨fun f X hX hR hal hap => ?_⟩
     obtain ⟨vo, (e2 : f 2 = _), jo⟩ := hR 2 (by decide)
     simp only [yA, yB, yD, yE, e2]
     clear hR hal hap e2
     obtain ⟨D1, D2, D3, c1, c2, c3, ev, f1, f2, f3, f4, f5, f6⟩ := jo
     subst ev
     refine Par.Chain.next (fun K hK => ⟨Par.want (by kernel_rfl) (wp_storeV (cs' := #[.slice D1 (digs 4294967296 (twP C.M so.1 so.2.1 so.2.2).1).length c1, .slice D2 (digs 4294967296 (twP C.M so.1 so.2.1 so.2.2).2.1).length c2, .slice D3 (digs 4294967296 (twP C.M so.1 so.2.1 so.2.2).2.2).length c3]) (t := 95) 95 (.tmp 7) (.tmp 24) rfl rfl rfl rfl (hX.at_ hbl) infoRJ rfl (sl_one _ _ _ _ _ _ _ _ _) (fun Y hY1 hY2 hY3 => hK.out _ _ ?_))⟩)
     refine Par.Chain.done ?_
     obtain ⟨tw, htw⟩ : ∃ t, twP C.M so.1 so.2.1 so.2.2 = t := ⟨_, rfl⟩
     rw [htw] at Hstep hY1 f1 f2 f3 f4 f5 f6
     have F1 := Lib.hid (f1.offJ hY2 (hX.at_ hbl) (by kernel_rfl))
     have F2 := Lib.hid (f2.offJ hY2 (hX.at_ hbl) (by kernel_rfl))
     have F3 := Lib.hid (f3.offJ hY2 (hX.at_ hbl) (by kernel_rfl))
     have F4 := Lib.hid f4
     have F5 := Lib.hid f5
     have F6 := Lib.hid f6
     have HB2 := Lib.hid ((HBr.out.trans (Below.mono hX (by omega))).trans (hY2.below (Nat.le_refl _) (by have := hX.bsize; omega)))
     have hW2 : Ext W0 Y := Below.trans HA7.out (Below.mono HB2.out (Nat.le_of_eq Hb7.out))
     have hbY := hY1
     have zY := blk_lt hY1
     have HW2 := Lib.hid hW2
     have hbitY := refBit_any _ An1 cn1 E z Y (RN.up HN.out hW2) (by have := Hz.out; omega)
     rw [Hbo.out] at hbitY
     have HbitY := Lib.hid hbitY
     clear f1 f2 f3 f4 f5 f6 hX hY1 hY2 hY3 hbl hcw hqw hW2 hbitY htw
     rename World => V
     by_cases hb1 : bt = 1
     · have hst := Lib.hid (show rmS C.M qx qy E (k + 1) = mixP C.M tw.1 tw.2.1 tw.2.2 qx qy by rw [Hstep.out, if_pos hb1])
       subst hb1
       have hcV := HW2.out.at_ (show W0.heap[q]? = some (.cells ccs 31 (0, 0)) from Hcb.out)
       have hqV := HW2.out.at_ (show W0.heap[q + 1]? = some (.cells #[.bool false, .slice B1 (digs 4294967296 qx).length m1, .slice B2 (digs 4294967296 qy).length m2] 34 (0, 0)) from Hqb.out)
       go_upto_region 9 with (go_at_call 57; refine HbitY.out.mono ?_; rintro e w5 ⟨rfl, rfl⟩)
       refine Par.region_txt 4 [0, 0, 0, 7, 15] [] (fun j f X => match j with
        | 0 => f 0 = .agg ccs
        | 1 => f 1 = .agg #[.slice D1 (digs 4294967296 tw.1).length c1, .slice D2 (digs 4294967296 tw.2.1).length c2, .slice D3 (digs 4294967296 tw.2.2).length c3]
        | 2 => f 2 = .agg #[.bool false, .slice B1 (digs 4294967296 qx).length m1, .slice B2 (digs 4294967296 qy).length m2]
        | 3 => ∃ o, f 3 = o ∧ JN X C o (mixP C.M tw.1 tw.2.1 tw.2.2 qx qy)
        | _ => True) (by kernel_rfl) [(29, 0), (30, 1), (31, 2), (32, 3)] (by kernel_rfl) ?_
       refine lV0 1 3 hcV (by rw [Hccs.out]; exact infoRC) ?_
       refine lV0 2 2 hbY infoRJ ?_
       refine lV0 3 1 hqV infoRP ?_
       refine Par.c0 4 0 (fun f => #[f 0, f 1, f 2]) (F' := 58) (fun f X hX hR => ?_) ?_
       · have e0 : f 0 = _ := hR.out 0 rfl
         have e1 : f 1 = _ := hR.out 1 rfl
         have e2 : f 2 = _ := hR.out 2 rfl
         simp only [e0, e1, e2]
         refine (mixed_n (p := tw) HF.out H8.out X (hRC.out.ext (HW2.out.trans hX)) ⟨D1, D2, D3, c1, c2, c3, rfl, RN.up F1.out hX, RN.up F2.out hX, RN.up F3.out hX, F4.out, F5.out, F6.out⟩ (RN.up HX4.out (HW2.out.trans hX)) (RN.up HX5.out (HW2.out.trans hX)) hqxl.out hqyl.out).mono ?_
         rintro e w2 ⟨o, rfl, hj, hB⟩
         exact ⟨o, rfl, hB, fun Y hY => ⟨_, rfl, hj.ext hY⟩⟩
       refine Par.AllOps.fin ⟨fun f X hX hR hal hap => ?_⟩
       obtain ⟨vo, (e3 : f 3 = _), jo⟩ := hR 3 (by decide)
       simp only [yA, yB, yD, yE, e3]
       clear hR hal hap e3
       obtain ⟨H1, H2, H3, i1, i2, i3, ev, f1, f2, f3, f4, f5, f6⟩ := jo
       subst ev
       refine Par.Chain.next (fun K hK => ⟨Par.want (by kernel_rfl) (wp_storeV (cs' := #[.slice H1 (digs 4294967296 (mixP C.M tw.1 tw.2.1 tw.2.2 qx qy).1).length i1, .slice H2 (digs 4294967296 (mixP C.M tw.1 tw.2.1 tw.2.2 qx qy).2.1).length i2, .slice H3 (digs 4294967296 (mixP C.M tw.1 tw.2.1 tw.2.2 qx qy).2.2).length i3]) (t := 95) 95 (.tmp 7) (.tmp 32) rfl rfl rfl rfl (hX.at_ hbY) infoRJ rfl (sl_one _ _ _ _ _ _ _ _ _) (fun Y hY1 hY2 hY3 => hK.out _ _ ?_))⟩)
       refine Par.Chain.done ?_
       have hR2 : RJB C Y b7 (rmS C.M qx qy E (k + 1)) := by rw [hst.out]; exact ⟨H1, H2, H3, i1, i2, i3, hY1, f1.offJ hY2 (hX.at_ hbY) (by kernel_rfl), f2.offJ hY2 (hX.at_ hbY) (by kernel_rfl), f3.offJ hY2 (hX.at_ hbY) (by kernel_rfl), f4, f5, f6⟩
       have HR2 := Lib.hid hR2
       have HB3 := Lib.hid ((HB2.out.trans (Below.mono hX (by omega))).trans (hY2.below (Nat.le_refl _) (by have := hX.bsize; omega)))
       clear hR2 f1 f2 f3 f4 f5 f6 hX hY1 hY2 hY3 hbY hcV hqV
       have hzz := Hzz.out
       go_wp2
       refine ⟨⟨k + 1, z - 1, by omega, rfl, by have := Hz.out; omega, HR2.out, HB3.out⟩, ?_⟩
       simp [intOf]
       omega
     · obtain rfl : bt = 0 := by omega
       have hst := Lib.hid (show rmS C.M qx qy E (k + 1) = tw by rw [Hstep.out, if_neg hb1])
       have hzz := Hzz.out
       go_wp2_with (go_at_call 57; refine HbitY.out.mono ?_; rintro e w5 ⟨rfl, rfl⟩)
       refine ⟨⟨k + 1, z - 1, by omega, rfl, by have := Hz.out; omega, by rw [hst.out]; exact ⟨D1, D2, D3, c1, c2, c3, hbY, F1.out, F2.out, F3.out, F4.out, F5.out, F6.out⟩, HB2.out⟩, ?_⟩
       simp [intOf]
       omega
   · obtain rfl : k = nb := by omega
     have k1 : ¬ (0 : Int) ≤ z := by omega
     obtain ⟨so, hso⟩ : ∃ s, rmS C.M qx qy E k = s := ⟨_, rfl⟩
     obtain ⟨sx, sy, sz⟩ := so
     rw [hso] at hbl g1 g2 g3 g4 g5 g6
     simp only at hbl g1 g2 g3 g4 g5 g6
     have Hr := Lib.hid (show rdown C.M sx sy sz = res by rw [← Hres.out, hso])
     have s0 := blk_cell hbl 0
     have s1 := blk_cell hbl 1
     have s2 := blk_cell hbl 2
     have cPw := HWr.out.cell HcP.out
     simp only [List.getElem?_toArray, List.getElem?_cons_zero, List.getElem?_cons_succ] at s0 s1 s2
     have HS1 := Lib.hid g1
     have HS2 := Lib.hid g2
     have HS3 := Lib.hid g3
     have hsx := Lib.hid g4
     have hsy := Lib.hid g5
     have hsz := Lib.hid g6
     have HEw := Lib.hid (HE0.out.trans HWr.out)
     replace HRP := Lib.hid (RN.up HRP.out HWr.out)
     replace hRC := hRCw
     have hE := Ext.refl wr
     clear g1 g2 g3 g4 g5 g6 hbl hso hz hBr hcb hqb hrb hqw
     by_cases hz0 : sz = 0
     · obtain rfl : res = none := by rw [← Hr.out, rdown, if_pos hz0]
       replace hz0 := Lib.hid hz0
       go_upto_region 10 with fail
       refine Par.region_txt 4 [0, 1, 3, 7] [] (fun j f X => match j with
        | 0 => f 0 = .pointer (some ⟨b7, 2, none⟩)
        | 1 => f 1 = .slice E3 (digs 4294967296 sz).length d3
        | 2 => f 2 = .int .i64 ((digs 4294967296 sz).length : Int)
        | 3 => f 3 = .bool true
        | _ => True) (by kernel_rfl) [(33, 0), (34, 1), (35, 2), (36, 3)] (by kernel_rfl) ?_
       refine Par.v0 1 3 ?_
       refine Par.ld1 2 2 0 (hE.cell s2) ?_
       refine Par.S 3 1 [(33, 0), (34, 1)] (fun f X hX hR K hK => ?_) ?_
       · have e1 : f 1 = _ := hR.out 1 rfl
         simp only [yA, yB, yC, yD, yE, e1]
         refine ⟨?_⟩
         go_simp
         exact Par.k hK (s := by simp only [yA, yB, yC, yD, yE, e1])
       refine Par.S 4 0 [(33, 0), (34, 1), (35, 2)] (fun f X hX hR K hK => ?_) ?_
       · have e2 : f 2 = _ := hR.out 2 rfl
         have hz1 : decide (((digs 4294967296 sz).length : Int) = 0) = true := zdec_true hz0.out
         have hz2 : decide ((digs 4294967296 sz).length = 0) = true := zden_true hz0.out
         have hz4 : ((((digs 4294967296 sz).length : Nat) : Int) == 0) = true := zbeq_true hz0.out
         simp only [yA, yB, yC, yD, yE, e2]
         refine ⟨?_⟩
         go_simp
         exact Par.k hK (s := by simp only [yA, yB, yC, yD, yE, e2])
       refine Par.AllOps.fin ⟨fun f X hX hR hal hap => ?_⟩
       have e3 : f 3 = _ := hR 3 (by decide)
       simp only [yA, yB, yD, yE, e3]
       clear hR hal hap e3
       refine Par.Chain.done ?_
       replace hE := hE.trans hX
       clear hX  
       rename World => X10_k
       have hb1 := hE.at_ hrw
       obtain ⟨z0, z1, z2, f0, f1, f2⟩ := pt_facts hb1
       go_wp2
       exact end_rpt rfl rfl rfl (pt_set hb1 _ _ _) ⟨_, rfl, rfl, pt_ext (HEw.out.trans hE) (by have := Hq.out; omega) _ _ _⟩
     · obtain ⟨iv, hiv⟩ : ∃ v, (invNum sz C.M).1 = v := ⟨_, rfl⟩
       obtain ⟨ib, hib⟩ : ∃ v, (invNum sz C.M).2 = v := ⟨_, rfl⟩
       have hivl := Lib.hid (show iv < C.M by rw [← hiv]; exact invNum_lt (by have := HF.out.three; omega))
       have Hiv := Lib.hid hiv
       have Hib := Lib.hid hib
       obtain ⟨u1, e_u1⟩ : ∃ v, mm C.M iv iv = v := ⟨_, rfl⟩
       have L_u1 := Lib.hid (show u1 < C.M by rw [← e_u1]; exact mm_lt hM0 _ _)
       have E_u1 := Lib.hid e_u1
       clear e_u1
       obtain ⟨u2, e_u2⟩ : ∃ v, mm C.M sx u1 = v := ⟨_, rfl⟩
       have L_u2 := Lib.hid (show u2 < C.M by rw [← e_u2]; exact mm_lt hM0 _ _)
       have E_u2 := Lib.hid e_u2
       clear e_u2
       obtain ⟨u3, e_u3⟩ : ∃ v, mm C.M u1 iv = v := ⟨_, rfl⟩
       have L_u3 := Lib.hid (show u3 < C.M by rw [← e_u3]; exact mm_lt hM0 _ _)
       have E_u3 := Lib.hid e_u3
       clear e_u3
       obtain ⟨u4, e_u4⟩ : ∃ v, mm C.M sy u3 = v := ⟨_, rfl⟩
       have L_u4 := Lib.hid (show u4 < C.M by rw [← e_u4]; exact mm_lt hM0 _ _)
       have E_u4 := Lib.hid e_u4
       clear e_u4
       obtain rfl : res = some (u2, u4) := by rw [← Hr.out, rdown, if_neg hz0]; simp only [Hiv.out, E_u1.out, E_u2.out, E_u3.out, E_u4.out]
       clear hiv hib
       replace hz0 := Lib.hid hz0
       go_upto_region 10 with fail
       refine Par.region_txt 4 [0, 1, 3, 7] [] (fun j f X => match j with
        | 0 => f 0 = .pointer (some ⟨b7, 2, none⟩)
        | 1 => f 1 = .slice E3 (digs 4294967296 sz).length d3
        | 2 => f 2 = .int .i64 ((digs 4294967296 sz).length : Int)
        | 3 => f 3 = .bool false
        | _ => True) (by kernel_rfl) [(33, 0), (34, 1), (35, 2), (36, 3)] (by kernel_rfl) ?_
       refine Par.v0 1 3 ?_
       refine Par.ld1 2 2 0 (hE.cell s2) ?_
       refine Par.S 3 1 [(33, 0), (34, 1)] (fun f X hX hR K hK => ?_) ?_
       · have e1 : f 1 = _ := hR.out 1 rfl
         simp only [yA, yB, yC, yD, yE, e1]
         refine ⟨?_⟩
         go_simp
         exact Par.k hK (s := by simp only [yA, yB, yC, yD, yE, e1])
       refine Par.S 4 0 [(33, 0), (34, 1), (35, 2)] (fun f X hX hR K hK => ?_) ?_
       · have e2 : f 2 = _ := hR.out 2 rfl
         have hz1 : decide (((digs 4294967296 sz).length : Int) = 0) = false := zdec_false hz0.out
         have hz2 : decide ((digs 4294967296 sz).length = 0) = false := zden_false hz0.out
         have hz4 : ((((digs 4294967296 sz).length : Nat) : Int) == 0) = false := zbeq_false hz0.out
         simp only [yA, yB, yC, yD, yE, e2]
         refine ⟨?_⟩
         go_simp
         exact Par.k hK (s := by simp only [yA, yB, yC, yD, yE, e2])
       refine Par.AllOps.fin ⟨fun f X hX hR hal hap => ?_⟩
       have e3 : f 3 = _ := hR 3 (by decide)
       simp only [yA, yB, yD, yE, e3]
       clear hR hal hap e3
       refine Par.Chain.done ?_
       replace hE := hE.trans hX
       clear hX  
       rename World => X10_k
       go_upto_region 12 with fail
       refine Par.region_txt 10 [0, 1, 0, 4, 15, 31, 63, 63, 127, 511] [] (fun j f X => match j with
        | 0 => f 0 = .pointer (some ⟨b7, 2, none⟩)
        | 1 => f 1 = .slice E3 (digs 4294967296 sz).length d3
        | 2 => f 2 = .pointer (some ⟨q, 0, none⟩)
        | 3 => f 3 = .slice Ap (digs 4294967296 C.M).length cp
        | 4 => ∃ A1 c1, f 4 = .tuple #[.slice A1 (digs 4294967296 iv).length c1, .bool ib] ∧ RU X A1 c1 (digs 4294967296 iv)
        | 5 => ∃ A1 c1, f 5 = .tuple #[.slice A1 (digs 4294967296 iv).length c1, .bool ib] ∧ RU X A1 c1 (digs 4294967296 iv)
        | 6 => ∃ A1 c1, f 6 = .slice A1 (digs 4294967296 iv).length c1 ∧ RU X A1 c1 (digs 4294967296 iv)
        | 7 => f 7 = .bool ib
        | 8 => ∃ A1 c1, f 8 = .slice A1 (digs 4294967296 iv).length c1 ∧ RU X A1 c1 (digs 4294967296 iv)
        | 9 => f 9 = .bool ib
        | _ => True) (by kernel_rfl) [(39, 0), (40, 1), (41, 2), (42, 3), (43, 4), (38, 5), (44, 6), (45, 7), (9, 8), (10, 9)] (by kernel_rfl) ?_
       refine Par.v0 1 9 ?_
       refine Par.ld1 2 8 0 (hE.cell s2) ?_
       refine Par.v0 3 7 ?_
       refine Par.ld1 4 6 2 (hE.cell cPw) ?_
       refine Par.c0 5 5 (fun f => #[f 1, f 3]) (F' := 59) (fun f X hX hR => ?_) ?_
       · have e1 : f 1 = _ := hR.out 1 rfl
         have e3 : f 3 = _ := hR.out 3 rfl
         simp only [e1, e3]
         refine (refInverse_any E3 Ap d3 cp sz C.M X (RN.up HS3.out (hE.trans hX)) (RN.up HRP.out (hE.trans hX)) (by have := HF.out.len' hsz.out; omega) (by have := HF.out.len; omega) (by have := HF.out.three; omega)).mono ?_
         rw [Hiv.out, Hib.out]
         rintro e w2 ⟨A1, c1, rfl, hO, hB⟩
         exact ⟨_, rfl, hB, fun Y hY => ⟨A1, c1, rfl, RN.up hO hY⟩⟩
       refine Par.S 6 4 [(39, 0), (40, 1), (41, 2), (42, 3), (43, 4)] (fun f X hX hR K hK => ?_) ?_
       · obtain ⟨A4, c4, (e4 : f 4 = _), o4⟩ := hR.out 4 rfl
         simp only [yA, yB, yC, yD, yE, e4]
         refine ⟨?_⟩
         go_simp
         exact hK.out _ _ _ (by simp only [yA, yB, yC, yD, yE, e4]) (Ext.refl _) trivial (fun Y hY => ⟨A4, c4, rfl, RN.up o4 hY⟩)
       refine Par.S 7 3 [(39, 0), (40, 1), (41, 2), (42, 3), (43, 4), (38, 5), (45, 7)] (fun f X hX hR K hK => ?_) ?_
       · obtain ⟨A5, c5, (e5 : f 5 = _), o5⟩ := hR.out 5 rfl
         simp only [yA, yB, yC, yD, yE, e5]
         refine ⟨?_⟩
         go_simp
         exact hK.out _ _ _ (by simp only [yA, yB, yC, yD, yE, e5]) (Ext.refl _) trivial (fun Y hY => ⟨A5, c5, rfl, RN.up o5 hY⟩)
       refine Par.S 8 2 [(39, 0), (40, 1), (41, 2), (42, 3), (43, 4), (38, 5), (44, 6), (9, 8)] (fun f X hX hR K hK => ?_) ?_
       · obtain ⟨A5, c5, (e5 : f 5 = _), o5⟩ := hR.out 5 rfl
         simp only [yA, yB, yC, yD, yE, e5]
         refine ⟨?_⟩
         go_simp
         exact Par.k hK (s := by simp only [yA, yB, yC, yD, yE, e5])
       refine Par.S 9 1 [(39, 0), (40, 1), (41, 2), (42, 3), (43, 4), (38, 5), (44, 6), (45, 7)] (fun f X hX hR K hK => ?_) ?_
       · obtain ⟨A6, c6, (e6 : f 6 = _), o6⟩ := hR.out 6 rfl
         simp only [yA, yB, yC, yD, yE, e6]
         refine ⟨?_⟩
         go_simp
         exact hK.out _ _ _ (by simp only [yA, yB, yC, yD, yE, e6]) (Ext.refl _) trivial (fun Y hY => ⟨A6, c6, rfl, RN.up o6 hY⟩)
       refine Par.v1 10 0 7 ?_
       refine Par.AllOps.fin ⟨fun f X hX hR hal hap => ?_⟩
       obtain ⟨A4, c4, (e4 : f 4 = _), o4⟩ := hR 4 (by decide)
       obtain ⟨A5, c5, (e5 : f 5 = _), o5⟩ := hR 5 (by decide)
       obtain ⟨A6, c6, (e6 : f 6 = _), o6⟩ := hR 6 (by decide)
       obtain ⟨A8, c8, (e8 : f 8 = _), o8⟩ := hR 8 (by decide)
       simp only [yA, yB, yD, yE, e4, e5, e6, e8]
       clear hR hal hap e4 e5 e6 e8
       refine Par.Chain.done ?_
       replace hE := hE.trans hX
       have N9 := Lib.hid o8
       clear hX o4 o5 o6 o8
       rename World => X12
       go_upto_region 13 with fail
       refine Par.region_txt 5 [0, 0, 0, 7, 15] [] (fun j f X => match j with
        | 0 => f 0 = .agg ccs
        | 1 => f 1 = .slice A8 (digs 4294967296 iv).length c8
        | 2 => f 2 = .slice A8 (digs 4294967296 iv).length c8
        | 3 => ∃ A1 c1, f 3 = .slice A1 (digs 4294967296 u1).length c1 ∧ RU X A1 c1 (digs 4294967296 u1)
        | 4 => ∃ A1 c1, f 4 = .slice A1 (digs 4294967296 u1).length c1 ∧ RU X A1 c1 (digs 4294967296 u1)
        | _ => True) (by kernel_rfl) [(46, 0), (47, 1), (48, 2), (49, 3), (11, 4)] (by kernel_rfl) ?_
       refine lV0 1 4 (hE.at_ hcw) (by rw [Hccs.out]; exact infoRC) ?_
       refine Par.v0 2 3 ?_
       refine Par.v0 3 2 ?_
       refine rc 4 1 0 1 2 (fun _ _ hX h => ⟨_, _, h, (RN.up N9.out hX)⟩) (fun _ _ hX h => ⟨_, _, h, (RN.up N9.out hX)⟩) (fun X hX _ _ _ _ h h' => times_r X HF.out (hRC.out.ext (hE.trans hX)) h h' hivl.out hivl.out) E_u1.out ?_
       refine Par.S 5 0 [(46, 0), (47, 1), (48, 2), (49, 3)] (fun f X hX hR K hK => ?_) ?_
       · obtain ⟨A13_3, c13_3, (e3 : f 3 = _), o13_3⟩ := hR.out 3 rfl
         simp only [yA, yB, yC, yD, yE, e3]
         refine ⟨?_⟩
         go_simp
         exact hK.out _ _ _ (by simp only [yA, yB, yC, yD, yE, e3]) (Ext.refl _) trivial (fun Y hY => ⟨A13_3, c13_3, rfl, RN.up o13_3 hY⟩)
       refine Par.AllOps.fin ⟨fun f X hX hR hal hap => ?_⟩
       obtain ⟨A13_3, c13_3, (e3 : f 3 = _), o13_3⟩ := hR 3 (by decide)
       obtain ⟨A13_4, c13_4, (e4 : f 4 = _), o13_4⟩ := hR 4 (by decide)
       simp only [yA, yB, yD, yE, e3, e4]
       clear hR hal hap e3 e4
       refine Par.Chain.done ?_
       replace hE := hE.trans hX
       replace N9 := Lib.hid (RN.up N9.out hX)
       have N11 := Lib.hid o13_4
       clear hX o13_3 o13_4
       rename World => X13_k
       have hb1 := hE.at_ hrw
       go_upto_region 14 with fail
       refine Par.region_ext (by kernel_rfl) 14 [0, 0, 2, 0, 15, 0, 0, 64, 0, 0, 0, 1823, 4095, 8191, 16383] [] (fun j f X => match j with
        | 0 => f 0 = .agg ccs
        | 1 => f 1 = .pointer (some ⟨b7, 0, none⟩)
        | 2 => f 2 = .slice E1 (digs 4294967296 sx).length d1
        | 3 => f 3 = .slice A13_4 (digs 4294967296 u1).length c13_4
        | 4 => ∃ A1 c1, f 4 = .slice A1 (digs 4294967296 u2).length c1 ∧ RU X A1 c1 (digs 4294967296 u2)
        | 5 => f 5 = .agg ccs
        | 6 => f 6 = .pointer (some ⟨b7, 1, none⟩)
        | 7 => f 7 = .slice E2 (digs 4294967296 sy).length d2
        | 8 => f 8 = .agg ccs
        | 9 => f 9 = .slice A13_4 (digs 4294967296 u1).length c13_4
        | 10 => f 10 = .slice A8 (digs 4294967296 iv).length c8
        | 11 => ∃ A1 c1, f 11 = .slice A1 (digs 4294967296 u3).length c1 ∧ RU X A1 c1 (digs 4294967296 u3)
        | 12 => ∃ A1 c1, f 12 = .slice A1 (digs 4294967296 u4).length c1 ∧ RU X A1 c1 (digs 4294967296 u4)
        | 13 => ∃ A1 c1 A2 c2, f 13 = .agg #[.bool false, .slice A1 (digs 4294967296 u2).length c1, .slice A2 (digs 4294967296 u4).length c2] ∧ RU X A1 c1 (digs 4294967296 u2) ∧ RU X A2 c2 (digs 4294967296 u4)
        | _ => True) (by kernel_rfl) [(50, 0), (51, 1), (52, 2), (53, 3), (54, 4), (55, 5), (56, 6), (57, 7), (58, 8), (59, 9), (60, 10), (61, 11), (62, 12), (63, 13)] (by kernel_rfl) ?_
       refine lV0 1 13 (hE.at_ hcw) (by rw [Hccs.out]; exact infoRC) ?_
       refine Par.v0 2 12 ?_
       refine Par.ld1 3 11 1 (hE.cell s0) ?_
       refine Par.v0 4 10 ?_
       refine rc 5 9 0 2 3 (fun _ _ hX h => ⟨_, _, h, (RN.up HS1.out (hE.trans hX))⟩) (fun _ _ hX h => ⟨_, _, h, (RN.up N11.out hX)⟩) (fun X hX _ _ _ _ h h' => times_r X HF.out (hRC.out.ext (hE.trans hX)) h h' hsx.out L_u1.out) E_u2.out ?_
       refine lV0 6 8 (hE.at_ hcw) (by rw [Hccs.out]; exact infoRC) ?_
       refine Par.v0 7 7 ?_
       refine Par.ld1 8 6 6 (hE.cell s1) ?_
       refine lV0 9 5 (hE.at_ hcw) (by rw [Hccs.out]; exact infoRC) ?_
       refine Par.v0 10 4 ?_
       refine Par.v0 11 3 ?_
       refine rc 12 2 8 9 10 (fun _ _ hX h => ⟨_, _, h, (RN.up N11.out hX)⟩) (fun _ _ hX h => ⟨_, _, h, (RN.up N9.out hX)⟩) (fun X hX _ _ _ _ h h' => times_r X HF.out (hRC.out.ext (hE.trans hX)) h h' L_u1.out hivl.out) E_u3.out ?_
       refine rc 13 1 5 7 11 (fun _ _ hX h => ⟨_, _, h, (RN.up HS2.out (hE.trans hX))⟩) (fun _ _ _ h => h) (fun X hX _ _ _ _ h h' => times_r X HF.out (hRC.out.ext (hE.trans hX)) h h' hsy.out L_u3.out) E_u4.out ?_
       refine Par.S 14 0 [(50, 0), (51, 1), (52, 2), (53, 3), (54, 4), (55, 5), (56, 6), (57, 7), (58, 8), (59, 9), (60, 10), (61, 11), (62, 12)] (fun f X hX hR K hK => ?_) ?_
       · obtain ⟨A14_4, c14_4, (e4 : f 4 = _), o14_4⟩ := hR.out 4 rfl
         obtain ⟨A14_12, c14_12, (e12 : f 12 = _), o14_12⟩ := hR.out 12 rfl
         simp only [yA, yB, yC, yD, yE, e4, e12]
         refine ⟨?_⟩
         go_simp
         exact hK.out _ _ _ (by simp only [yA, yB, yC, yD, yE, e4, e12]) (Ext.refl _) trivial (fun Y hY => ⟨_, _, _, _, rfl, RN.up o14_4 hY, RN.up o14_12 hY⟩)
       refine Par.AllOps.fin ⟨fun f X hX hR hal hap => ?_⟩
       obtain ⟨A14_4, c14_4, (e4 : f 4 = _), o14_4⟩ := hR 4 (by decide)
       obtain ⟨A14_11, c14_11, (e11 : f 11 = _), o14_11⟩ := hR 11 (by decide)
       obtain ⟨A14_12, c14_12, (e12 : f 12 = _), o14_12⟩ := hR 12 (by decide)
       obtain ⟨Ax1, cx1, Ay1, cy1, (e13 : f 13 = _), ox1, oy1⟩ := hR 13 (by decide)
       simp only [yA, yB, yD, yE, e4, e11, e12, e13]
       clear hR hal hap e4 e11 e12 e13
       refine Par.Chain.next (fun K hK => ⟨Par.want (by kernel_rfl) (wp_storeV (cs' := #[.bool false, .slice Ax1 (digs 4294967296 u2).length cx1, .slice Ay1 (digs 4294967296 u4).length cy1]) (t := 34) 34 (.tmp 6) (.tmp 63) rfl rfl rfl rfl (hX.at_ hb1) infoRP rfl (pt_one _ _ _ _ _ _ _) (fun Y hY1 hY2 hY3 => hK.out _ _ ?_))⟩)
       refine Par.Chain.done ?_
       go_wp2
       exact end_rpt rfl rfl rfl hY1 ⟨_, rfl, ⟨_, _, _, _, rfl, ox1.offJ hY2 (hX.at_ hb1) (by kernel_rfl), oy1.offJ hY2 (hX.at_ hb1) (by kernel_rfl)⟩, hY2.ext (HEw.out.trans (hE.trans hX)) (by have := Hq.out; omega)⟩
end Go.Proofs.Ytldhmjfjbalakaa
