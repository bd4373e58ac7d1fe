/- The reference: the sum of two points. curve: the reference's sums and opposites are the group's. Plain: no code is walked here. The reference's From, of lists however long: that it returns. The reference's points: From. append of bytes onto a row of the call's own. -/
import Derived.Test.YtldhmjfjbalakaaQ8d780f9295c7
namespace Go.Proofs.Ytldhmjfjbalakaa
open Go.RowKit

theorem cmpV_z {x y : Nat} : cmpV x y = 0 ↔ x = y := ⟨fun h => by rcases cmpV_cases x y with h1 | h1 | h1 <;> omega, fun h => by rw [h]; exact cmpV_eq y⟩
def raddA (M x y qx qy : Nat) : Bool × Nat × Nat := let u1 := sm M qy y; let u2 := sm M qx x; let iv := (invNum u2 M).1; let u3 := mm M u1 iv; let u4 := mm M u3 u3; let u5 := sm M u4 x; let u6 := sm M u5 qx; let u7 := sm M x u6; let u8 := mm M u3 u7; let u9 := sm M u8 y; (false, u6, u9)
def raddD (M x y qx : Nat) : Bool × Nat × Nat := let u1 := mm M x x; let u2 := mm M 3 u1; let u3 := sm M u2 3; let u4 := mm M 2 y; let iv := (invNum u4 M).1; let u5 := mm M u3 iv; let u6 := mm M u5 u5; let u7 := sm M u6 x; let u8 := sm M u7 qx; let u9 := sm M x u8; let u10 := mm M u5 u9; let u11 := sm M u10 y; (false, u8, u11)
def raddP (M : Nat) (bi : Bool) (x y : Nat) (bj : Bool) (qx qy : Nat) : Bool × Nat × Nat :=
 if bi then (bj, qx, qy) else if bj then (bi, x, y) else if x = qx then (if y = qy then (if y = 0 then (true, 0, 0) else raddD M x y qx) else (true, 0, 0)) else raddA M x y qx qy
set_option maxRecDepth 100000 in
set_option maxHeartbeats 16000000 in
theorem radd_n {C : Crv} {ccs : Array Value} {bi bj : Bool} {A1 A2 B1 B2 : Option Addr} {k1 k2 m1 m2 x y qx qy : Nat} (hF : C.Fine) (h8 : 8 < C.M) (w : World) (hc : RC w C (.agg ccs)) (hj1 : RU w A1 k1 (digs 4294967296 x)) (hj2 : RU w A2 k2 (digs 4294967296 y)) (hq1 : RU w B1 m1 (digs 4294967296 qx)) (hq2 : RU w B2 m2 (digs 4294967296 qy)) (hp : bi = false → x < C.M ∧ y < C.M) (hqp : bj = false → qx < C.M ∧ qy < C.M) :
 Calls Try.prog 31 #[.agg ccs, .agg #[.bool bi, .slice A1 (digs 4294967296 x).length k1, .slice A2 (digs 4294967296 y).length k2], .agg #[.bool bj, .slice B1 (digs 4294967296 qx).length m1, .slice B2 (digs 4294967296 qy).length m2]] w fun e w' => ∃ o, e = .returned o ∧ RPv w' o (raddP C.M bi x y bj qx qy).1 (raddP C.M bi x y bj qx qy).2.1 (raddP C.M bi x y bj qx qy).2.2 ∧ Ext w w' := by
 obtain ⟨Ap, An, Ab, Ax, Ay, cp, cn, cb, cx, cy, hccs, hP, hN, hB, hX1, hY1⟩ := hc
 injection hccs with hccs
 have hRC0 : RC w C (.agg ccs) := ⟨Ap, An, Ab, Ax, Ay, cp, cn, cb, cx, cy, by rw [hccs], hP, hN, hB, hX1, hY1⟩
 obtain ⟨W0, hW0⟩ : ∃ W0, W0 = (((w.alloc (.cells ccs 31)).alloc (.cells #[.bool bi, .slice A1 (digs 4294967296 x).length k1, .slice A2 (digs 4294967296 y).length k2] 34)).alloc (.cells #[.bool bj, .slice B1 (digs 4294967296 qx).length m1, .slice B2 (digs 4294967296 qy).length m2] 34)).alloc (.cells #[.bool false, .slice none 0 0, .slice none 0 0] 34) := ⟨_, rfl⟩
 obtain ⟨q, hq⟩ : ∃ q, w.heap.size = q := ⟨_, rfl⟩
 have hE0 : Ext w W0 := by rw [hW0]; exact (((Ext.alloc _ _).trans (Ext.alloc _ _)).trans (Ext.alloc _ _)).trans (Ext.alloc _ _)
 obtain ⟨hcb, hpb, hqb, hrb, hz0⟩ := four_w w (.cells ccs 31) (.cells #[.bool bi, .slice A1 (digs 4294967296 x).length k1, .slice A2 (digs 4294967296 y).length k2] 34) (.cells #[.bool bj, .slice B1 (digs 4294967296 qx).length m1, .slice B2 (digs 4294967296 qy).length m2] 34) (.cells #[.bool false, .slice none 0 0, .slice none 0 0] 34)
 rw [← hW0, hq] at hcb hpb hqb hrb hz0
 have j1 := blk_cell hpb 1
 have j2 := blk_cell hpb 2
 have t1 := blk_cell hqb 1
 have t2 := blk_cell hqb 2
 have cP := blk_cell hcb 0
 rw [hccs] at cP
 simp only [List.getElem?_toArray, List.getElem?_cons_zero, List.getElem?_cons_succ] at j1 j2 t1 t2 cP
 have hRC := Lib.hid (hRC0.ext hE0)
 have Hccs := Lib.hid (show ccs.size = 6 by rw [hccs]; rfl)
 have HRP := Lib.hid (RN.up hP hE0)
 have HX1 := Lib.hid (RN.up hj1 hE0)
 have HX2 := Lib.hid (RN.up hj2 hE0)
 have HX4 := Lib.hid (RN.up hq1 hE0)
 have HX5 := Lib.hid (RN.up hq2 hE0)
 have HF := Lib.hid hF
 have H8 := Lib.hid h8
 have hM0 : 0 < C.M := by omega
 have HE0 := Lib.hid hE0
 clear hRC0 hccs hP hN hB hX1 hY1 hj1 hj2 hF h8 hE0 hz0 hq1 hq2
 cases bi
 case true =>
  rw [show raddP C.M true x y bj qx qy = (bj, qx, qy) from rfl]
  go_enter Try.func31, Try.ntmps31
  go_upto_region 1 with fail
  rw [← hW0]
  have Hq := Lib.hid hq
  clear hW0 hq
  obtain ⟨y0, y1, y2, f0, f1, f2⟩ := pt_facts hpb
  obtain ⟨y0', y1', y2', f0', f1', f2'⟩ := pt_facts hqb
  obtain ⟨z0, z1, z2, g0, g1, g2⟩ := pt_facts hrb
  go_wp2
  exact end_rpt rfl rfl rfl (pt_set hrb _ _ _) ⟨_, rfl, ⟨_, _, _, _, rfl, HX4.out.offJ (pt_just _ _ _ _ _) hrb (by kernel_rfl), HX5.out.offJ (pt_just _ _ _ _ _) hrb (by kernel_rfl)⟩, pt_ext HE0.out (by have := Hq.out; omega) _ _ _⟩
 case false =>
  cases bj
  case true =>
   rw [show raddP C.M false x y true qx qy = (false, x, y) from rfl]
   go_enter Try.func31, Try.ntmps31
   go_upto_region 1 with fail
   rw [← hW0]
   have Hq := Lib.hid hq
   clear hW0 hq
   obtain ⟨y0, y1, y2, f0, f1, f2⟩ := pt_facts hpb
   obtain ⟨y0', y1', y2', f0', f1', f2'⟩ := pt_facts hqb
   obtain ⟨z0, z1, z2, g0, g1, g2⟩ := pt_facts hrb
   go_wp2
   exact end_rpt rfl rfl rfl (pt_set hrb _ _ _) ⟨_, rfl, ⟨_, _, _, _, rfl, HX1.out.offJ (pt_just _ _ _ _ _) hrb (by kernel_rfl), HX2.out.offJ (pt_just _ _ _ _ _) hrb (by kernel_rfl)⟩, pt_ext HE0.out (by have := Hq.out; omega) _ _ _⟩
  case false =>
  have hx := Lib.hid (hp rfl).1
  have hy := Lib.hid (hp rfl).2
  have hqx := Lib.hid (hqp rfl).1
  have hqy := Lib.hid (hqp rfl).2
  clear hp hqp
  by_cases hxx : x = qx
  · have Hcv := Lib.hid (show cmpV x qx = 0 from cmpV_z.2 hxx)
    by_cases hyy : y = qy
    · have Hcv2 := Lib.hid (show cmpV y qy = 0 from cmpV_z.2 hyy)
      by_cases hy0 : y = 0
      · rw [show raddP C.M false x y false qx qy = (true, 0, 0) by simp only [raddP, Bool.false_eq_true, if_false]; rw [if_pos hxx, if_pos hyy, if_pos hy0]]
        replace hy0 := Lib.hid hy0
        clear hxx hyy
        go_enter Try.func31, Try.ntmps31
        go_upto_region 1 with fail
        rw [← hW0]
        have Hq := Lib.hid hq
        clear hq hW0
        obtain ⟨y0, y1, y2, f0, f1, f2⟩ := pt_facts hpb
        obtain ⟨y0', y1', y2', f0', f1', f2'⟩ := pt_facts hqb
        have hE := Ext.refl W0
        go_upto_region 6 with fail
        clear y0 y1 y2 f0 f1 f2 y0' y1' y2' f0' f1' f2'
        refine Par.region_txt 6 [0, 1, 0, 4, 15, 31] [] (fun j f X => match j with
         | 0 => f 0 = .pointer (some ⟨q + 1, 1, none⟩)
         | 1 => f 1 = .slice A1 (digs 4294967296 x).length k1
         | 2 => f 2 = .pointer (some ⟨q + 2, 1, none⟩)
         | 3 => f 3 = .slice B1 (digs 4294967296 qx).length m1
         | 4 => f 4 = .int .i64 0
         | 5 => f 5 = .bool true
         | _ => True) (by kernel_rfl) [(19, 0), (20, 1), (21, 2), (22, 3), (23, 4), (24, 5)] (by kernel_rfl) ?_
        refine Par.v0 1 5 ?_
        refine Par.ld1 2 4 0 (hE.cell j1) ?_
        refine Par.v0 3 3 ?_
        refine Par.ld1 4 2 2 (hE.cell t1) ?_
        refine Par.c0 5 1 (fun f => #[f 1, f 3]) (F' := 51) (fun f X hX hR => ?_) ?_
        · have e1 : f 1 = _ := hR.out 1 rfl
          have e3 : f 3 = _ := hR.out 3 rfl
          simp only [e1, e3]
          refine (refCmp_any _ _ A1 B1 k1 m1 x qx X (RN.up HX1.out (hE.trans hX)) (RN.up HX4.out (hE.trans hX))).mono ?_
          rw [Hcv.out]
          rintro e w2 ⟨rfl, nq, rfl⟩
          exact ⟨(.int .i64 0), rfl, (Ext.drewN _ _), fun _ _ => rfl⟩
        refine Par.v1 6 0 4 ?_
        refine Par.AllOps.fin ⟨fun f X hX hR hal hap => ?_⟩
        have e5 : f 5 = _ := hR 5 (by decide)
        simp only [yA, yB, yD, yE, e5]
        clear hR hal hap e5
        refine Par.Chain.done ?_
        replace hE := hE.trans hX
        clear hX  
        rename World => X6_k
        go_upto_region 7 with fail
        refine Par.region_txt 12 [0, 1, 0, 4, 15, 31, 63, 127, 255, 511, 1023, 2047] [] (fun j f X => match j with
         | 0 => f 0 = .pointer (some ⟨q + 1, 2, none⟩)
         | 1 => f 1 = .slice A2 (digs 4294967296 y).length k2
         | 2 => f 2 = .pointer (some ⟨q + 2, 2, none⟩)
         | 3 => f 3 = .slice B2 (digs 4294967296 qy).length m2
         | 4 => f 4 = .int .i64 0
         | 5 => f 5 = .bool false
         | 6 => f 6 = .bool false
         | 7 => f 7 = .pointer (some ⟨q + 1, 2, none⟩)
         | 8 => f 8 = .slice A2 (digs 4294967296 y).length k2
         | 9 => f 9 = .int .i64 ((digs 4294967296 y).length : Int)
         | 10 => f 10 = .bool true
         | 11 => f 11 = .bool true
         | _ => True) (by kernel_rfl) [(25, 0), (26, 1), (27, 2), (28, 3), (29, 4), (30, 5), (31, 6), (32, 7), (33, 8), (34, 9), (35, 10), (36, 11)] (by kernel_rfl) ?_
        refine Par.v0 1 11 ?_
        refine Par.ld1 2 10 0 (hE.cell j2) ?_
        refine Par.v0 3 9 ?_
        refine Par.ld1 4 8 2 (hE.cell t2) ?_
        refine Par.c0 5 7 (fun f => #[f 1, f 3]) (F' := 51) (fun f X hX hR => ?_) ?_
        · have e1 : f 1 = _ := hR.out 1 rfl
          have e3 : f 3 = _ := hR.out 3 rfl
          simp only [e1, e3]
          refine (refCmp_any _ _ A2 B2 k2 m2 y qy X (RN.up HX2.out (hE.trans hX)) (RN.up HX5.out (hE.trans hX))).mono ?_
          rw [Hcv2.out]
          rintro e w2 ⟨rfl, nq, rfl⟩
          exact ⟨(.int .i64 0), rfl, (Ext.drewN _ _), fun _ _ => rfl⟩
        refine Par.v1 6 6 4 ?_
        refine Par.v1 7 5 5 ?_
        refine Par.v1 8 4 6 ?_
        refine Par.S 9 3 [(25, 0), (26, 1), (27, 2), (28, 3), (29, 4), (30, 5), (31, 6), (32, 7)] (fun f X hX hR K hK => ?_) ?_
        · have e6 : f 6 = _ := hR.out 6 rfl
          have e7 : f 7 = _ := hR.out 7 rfl
          have x0 := (hE.trans hX).cell j2
          simp only [yA, yB, yC, yD, yE, e6, e7]
          refine ⟨Par.want (by kernel_rfl) ?_⟩
          go_simp
          exact Par.k hK (s := by simp only [yA, yB, yC, yD, yE, e6, e7])
        refine Par.S 10 2 [(25, 0), (26, 1), (27, 2), (28, 3), (29, 4), (30, 5), (31, 6), (32, 7), (33, 8)] (fun f X hX hR K hK => ?_) ?_
        · have e6 : f 6 = _ := hR.out 6 rfl
          have e8 : f 8 = _ := hR.out 8 rfl
          simp only [yA, yB, yC, yD, yE, e6, e8]
          refine ⟨Par.want (by kernel_rfl) ?_⟩
          go_simp
          exact Par.k hK (s := by simp only [yA, yB, yC, yD, yE, e6, e8])
        refine Par.S 11 1 [(25, 0), (26, 1), (27, 2), (28, 3), (29, 4), (30, 5), (31, 6), (32, 7), (33, 8), (34, 9)] (fun f X hX hR K hK => ?_) ?_
        · have e6 : f 6 = _ := hR.out 6 rfl
          have e9 : f 9 = _ := hR.out 9 rfl
          have hz1 : decide (((digs 4294967296 y).length : Int) = 0) = true := zdec_true hy0.out
          have hz2 : decide ((digs 4294967296 y).length = 0) = true := zden_true hy0.out
          have hz4 : ((((digs 4294967296 y).length : Nat) : Int) == 0) = true := zbeq_true hy0.out
          simp only [yA, yB, yC, yD, yE, e6, e9]
          refine ⟨Par.want (by kernel_rfl) ?_⟩
          go_simp
          exact Par.k hK (s := by simp only [yA, yB, yC, yD, yE, e6, e9])
        refine Par.v2 12 0 6 10 ?_
        refine Par.AllOps.fin ⟨fun f X hX hR hal hap => ?_⟩
        have e11 : f 11 = _ := hR 11 (by decide)
        simp only [yA, yB, yD, yE, e11]
        clear hR hal hap e11
        refine Par.Chain.done ?_
        replace hE := hE.trans hX
        clear hX  
        rename World => X7_k
        have hb1 := hE.at_ hrb
        obtain ⟨z0, z1, z2, f0, f1, f2⟩ := pt_facts hb1
        go_wp2
        exact end_rpt rfl rfl rfl (pt_set hb1 _ _ _) ⟨_, rfl, RPv.inf_ _, pt_ext (HE0.out.trans hE) (by have := Hq.out; omega) _ _ _⟩
      · have hres0 : raddP C.M false x y false qx qy = raddD C.M x y qx := by simp only [raddP, Bool.false_eq_true, if_false]; rw [if_pos hxx, if_pos hyy, if_neg hy0]
        rw [hres0]
        replace hy0 := Lib.hid hy0
        clear hxx hyy hres0
        obtain ⟨u1, e_u1⟩ : ∃ v, mm C.M x x = v := ⟨_, rfl⟩
        have L_u1 := Lib.hid (show u1 < C.M by rw [← e_u1]; exact mm_lt hM0 _ _)
        have E_u1 := Lib.hid e_u1
        clear e_u1
        obtain ⟨u2, e_u2⟩ : ∃ v, mm C.M 3 u1 = v := ⟨_, rfl⟩
        have L_u2 := Lib.hid (show u2 < C.M by rw [← e_u2]; exact mm_lt hM0 _ _)
        have E_u2 := Lib.hid e_u2
        clear e_u2
        obtain ⟨u3, e_u3⟩ : ∃ v, sm C.M u2 3 = v := ⟨_, rfl⟩
        have L_u3 := Lib.hid (show u3 < C.M by rw [← e_u3]; exact sm_lt hM0 _ _)
        have E_u3 := Lib.hid e_u3
        clear e_u3
        obtain ⟨u4, e_u4⟩ : ∃ v, mm C.M 2 y = v := ⟨_, rfl⟩
        have L_u4 := Lib.hid (show u4 < C.M by rw [← e_u4]; exact mm_lt hM0 _ _)
        have E_u4 := Lib.hid e_u4
        clear e_u4
        obtain ⟨iv, hiv⟩ : ∃ v, (invNum u4 C.M).1 = v := ⟨_, rfl⟩
        obtain ⟨ib, hib⟩ : ∃ v, (invNum u4 C.M).2 = v := ⟨_, rfl⟩
        have hivl := Lib.hid (show iv < C.M by rw [← hiv]; exact invNum_lt (by have := HF.out.three; omega))
        have Hiv := Lib.hid hiv
        have Hib := Lib.hid hib
        clear hiv hib
        obtain ⟨u5, e_u5⟩ : ∃ v, mm C.M u3 iv = v := ⟨_, rfl⟩
        have L_u5 := Lib.hid (show u5 < C.M by rw [← e_u5]; exact mm_lt hM0 _ _)
        have E_u5 := Lib.hid e_u5
        clear e_u5
        obtain ⟨u6, e_u6⟩ : ∃ v, mm C.M u5 u5 = v := ⟨_, rfl⟩
        have L_u6 := Lib.hid (show u6 < C.M by rw [← e_u6]; exact mm_lt hM0 _ _)
        have E_u6 := Lib.hid e_u6
        clear e_u6
        obtain ⟨u7, e_u7⟩ : ∃ v, sm C.M u6 x = v := ⟨_, rfl⟩
        have L_u7 := Lib.hid (show u7 < C.M by rw [← e_u7]; exact sm_lt hM0 _ _)
        have E_u7 := Lib.hid e_u7
        clear e_u7
        obtain ⟨u8, e_u8⟩ : ∃ v, sm C.M u7 qx = v := ⟨_, rfl⟩
        have L_u8 := Lib.hid (show u8 < C.M by rw [← e_u8]; exact sm_lt hM0 _ _)
        have E_u8 := Lib.hid e_u8
        clear e_u8
        obtain ⟨u9, e_u9⟩ : ∃ v, sm C.M x u8 = v := ⟨_, rfl⟩
        have L_u9 := Lib.hid (show u9 < C.M by rw [← e_u9]; exact sm_lt hM0 _ _)
        have E_u9 := Lib.hid e_u9
        clear e_u9
        obtain ⟨u10, e_u10⟩ : ∃ v, mm C.M u5 u9 = v := ⟨_, rfl⟩
        have L_u10 := Lib.hid (show u10 < C.M by rw [← e_u10]; exact mm_lt hM0 _ _)
        have E_u10 := Lib.hid e_u10
        clear e_u10
        obtain ⟨u11, e_u11⟩ : ∃ v, sm C.M u10 y = v := ⟨_, rfl⟩
        have L_u11 := Lib.hid (show u11 < C.M by rw [← e_u11]; exact sm_lt hM0 _ _)
        have E_u11 := Lib.hid e_u11
        clear e_u11
        rw [show raddD C.M x y qx = (false, u8, u11) by simp only [raddD]; simp only [E_u1.out, E_u2.out, E_u3.out, E_u4.out, Hiv.out, E_u5.out, E_u6.out, E_u7.out, E_u8.out, E_u9.out, E_u10.out, E_u11.out]]
        go_enter Try.func31, Try.ntmps31
        go_upto_region 1 with fail
        rw [← hW0]
        have Hq := Lib.hid hq
        clear hq hW0
        obtain ⟨y0, y1, y2, f0, f1, f2⟩ := pt_facts hpb
        obtain ⟨y0', y1', y2', f0', f1', f2'⟩ := pt_facts hqb
        have hE := Ext.refl W0
        go_upto_region 6 with fail
        clear y0 y1 y2 f0 f1 f2 y0' y1' y2' f0' f1' f2'
        refine Par.region_txt 6 [0, 1, 0, 4, 15, 31] [] (fun j f X => match j with
         | 0 => f 0 = .pointer (some ⟨q + 1, 1, none⟩)
         | 1 => f 1 = .slice A1 (digs 4294967296 x).length k1
         | 2 => f 2 = .pointer (some ⟨q + 2, 1, none⟩)
         | 3 => f 3 = .slice B1 (digs 4294967296 qx).length m1
         | 4 => f 4 = .int .i64 0
         | 5 => f 5 = .bool true
         | _ => True) (by kernel_rfl) [(19, 0), (20, 1), (21, 2), (22, 3), (23, 4), (24, 5)] (by kernel_rfl) ?_
        refine Par.v0 1 5 ?_
        refine Par.ld1 2 4 0 (hE.cell j1) ?_
        refine Par.v0 3 3 ?_
        refine Par.ld1 4 2 2 (hE.cell t1) ?_
        refine Par.c0 5 1 (fun f => #[f 1, f 3]) (F' := 51) (fun f X hX hR => ?_) ?_
        · have e1 : f 1 = _ := hR.out 1 rfl
          have e3 : f 3 = _ := hR.out 3 rfl
          simp only [e1, e3]
          refine (refCmp_any _ _ A1 B1 k1 m1 x qx X (RN.up HX1.out (hE.trans hX)) (RN.up HX4.out (hE.trans hX))).mono ?_
          rw [Hcv.out]
          rintro e w2 ⟨rfl, nq, rfl⟩
          exact ⟨(.int .i64 0), rfl, (Ext.drewN _ _), fun _ _ => rfl⟩
        refine Par.v1 6 0 4 ?_
        refine Par.AllOps.fin ⟨fun f X hX hR hal hap => ?_⟩
        have e5 : f 5 = _ := hR 5 (by decide)
        simp only [yA, yB, yD, yE, e5]
        clear hR hal hap e5
        refine Par.Chain.done ?_
        replace hE := hE.trans hX
        clear hX  
        rename World => X6_k
        go_upto_region 7 with fail
        refine Par.region_txt 12 [0, 1, 0, 4, 15, 31, 63, 127, 255, 511, 1023, 2047] [] (fun j f X => match j with
         | 0 => f 0 = .pointer (some ⟨q + 1, 2, none⟩)
         | 1 => f 1 = .slice A2 (digs 4294967296 y).length k2
         | 2 => f 2 = .pointer (some ⟨q + 2, 2, none⟩)
         | 3 => f 3 = .slice B2 (digs 4294967296 qy).length m2
         | 4 => f 4 = .int .i64 0
         | 5 => f 5 = .bool false
         | 6 => f 6 = .bool false
         | 7 => f 7 = .pointer (some ⟨q + 1, 2, none⟩)
         | 8 => f 8 = .slice A2 (digs 4294967296 y).length k2
         | 9 => f 9 = .int .i64 ((digs 4294967296 y).length : Int)
         | 10 => f 10 = .bool false
         | 11 => f 11 = .bool false
         | _ => True) (by kernel_rfl) [(25, 0), (26, 1), (27, 2), (28, 3), (29, 4), (30, 5), (31, 6), (32, 7), (33, 8), (34, 9), (35, 10), (36, 11)] (by kernel_rfl) ?_
        refine Par.v0 1 11 ?_
        refine Par.ld1 2 10 0 (hE.cell j2) ?_
        refine Par.v0 3 9 ?_
        refine Par.ld1 4 8 2 (hE.cell t2) ?_
        refine Par.c0 5 7 (fun f => #[f 1, f 3]) (F' := 51) (fun f X hX hR => ?_) ?_
        · have e1 : f 1 = _ := hR.out 1 rfl
          have e3 : f 3 = _ := hR.out 3 rfl
          simp only [e1, e3]
          refine (refCmp_any _ _ A2 B2 k2 m2 y qy X (RN.up HX2.out (hE.trans hX)) (RN.up HX5.out (hE.trans hX))).mono ?_
          rw [Hcv2.out]
          rintro e w2 ⟨rfl, nq, rfl⟩
          exact ⟨(.int .i64 0), rfl, (Ext.drewN _ _), fun _ _ => rfl⟩
        refine Par.v1 6 6 4 ?_
        refine Par.v1 7 5 5 ?_
        refine Par.v1 8 4 6 ?_
        refine Par.S 9 3 [(25, 0), (26, 1), (27, 2), (28, 3), (29, 4), (30, 5), (31, 6), (32, 7)] (fun f X hX hR K hK => ?_) ?_
        · have e6 : f 6 = _ := hR.out 6 rfl
          have e7 : f 7 = _ := hR.out 7 rfl
          have x0 := (hE.trans hX).cell j2
          simp only [yA, yB, yC, yD, yE, e6, e7]
          refine ⟨Par.want (by kernel_rfl) ?_⟩
          go_simp
          exact Par.k hK (s := by simp only [yA, yB, yC, yD, yE, e6, e7])
        refine Par.S 10 2 [(25, 0), (26, 1), (27, 2), (28, 3), (29, 4), (30, 5), (31, 6), (32, 7), (33, 8)] (fun f X hX hR K hK => ?_) ?_
        · have e6 : f 6 = _ := hR.out 6 rfl
          have e8 : f 8 = _ := hR.out 8 rfl
          simp only [yA, yB, yC, yD, yE, e6, e8]
          refine ⟨Par.want (by kernel_rfl) ?_⟩
          go_simp
          exact Par.k hK (s := by simp only [yA, yB, yC, yD, yE, e6, e8])
        refine Par.S 11 1 [(25, 0), (26, 1), (27, 2), (28, 3), (29, 4), (30, 5), (31, 6), (32, 7), (33, 8), (34, 9)] (fun f X hX hR K hK => ?_) ?_
        · have e6 : f 6 = _ := hR.out 6 rfl
          have e9 : f 9 = _ := hR.out 9 rfl
          have hz1 : decide (((digs 4294967296 y).length : Int) = 0) = false := zdec_false hy0.out
          have hz2 : decide ((digs 4294967296 y).length = 0) = false := zden_false hy0.out
          have hz4 : ((((digs 4294967296 y).length : Nat) : Int) == 0) = false := zbeq_false hy0.out
          simp only [yA, yB, yC, yD, yE, e6, e9]
          refine ⟨Par.want (by kernel_rfl) ?_⟩
          go_simp
          exact Par.k hK (s := by simp only [yA, yB, yC, yD, yE, e6, e9])
        refine Par.v2 12 0 6 10 ?_
        refine Par.AllOps.fin ⟨fun f X hX hR hal hap => ?_⟩
        have e11 : f 11 = _ := hR 11 (by decide)
        simp only [yA, yB, yD, yE, e11]
        clear hR hal hap e11
        refine Par.Chain.done ?_
        replace hE := hE.trans hX
        clear hX  
        rename World => X7_k
        go_upto_region 9 with fail
        refine Par.region_ext (by kernel_rfl) 13 [0, 0, 0, 0, 0, 16, 0, 64, 252, 510, 1022, 2047, 4095] [] (fun j f X => match j with
         | 0 => f 0 = .agg ccs
         | 1 => f 1 = .agg ccs
         | 2 => ∃ A1 c1, f 2 = .slice A1 (digs 4294967296 3).length c1 ∧ RU X A1 c1 (digs 4294967296 3)
         | 3 => f 3 = .agg ccs
         | 4 => f 4 = .pointer (some ⟨q + 1, 1, none⟩)
         | 5 => f 5 = .slice A1 (digs 4294967296 x).length k1
         | 6 => f 6 = .pointer (some ⟨q + 1, 1, none⟩)
         | 7 => f 7 = .slice A1 (digs 4294967296 x).length k1
         | 8 => ∃ A1 c1, f 8 = .slice A1 (digs 4294967296 u1).length c1 ∧ RU X A1 c1 (digs 4294967296 u1)
         | 9 => ∃ A1 c1, f 9 = .slice A1 (digs 4294967296 u2).length c1 ∧ RU X A1 c1 (digs 4294967296 u2)
         | 10 => ∃ A1 c1, f 10 = .slice A1 (digs 4294967296 3).length c1 ∧ RU X A1 c1 (digs 4294967296 3)
         | 11 => ∃ A1 c1, f 11 = .slice A1 (digs 4294967296 u3).length c1 ∧ RU X A1 c1 (digs 4294967296 u3)
         | 12 => ∃ A1 c1, f 12 = .slice A1 (digs 4294967296 u3).length c1 ∧ RU X A1 c1 (digs 4294967296 u3)
         | _ => True) (by kernel_rfl) [(38, 0), (39, 1), (40, 2), (41, 3), (42, 4), (43, 5), (44, 6), (45, 7), (46, 8), (47, 9), (48, 10), (49, 11), (7, 12)] (by kernel_rfl) ?_
        refine lV0 1 12 (hE.at_ hcb) (by rw [Hccs.out]; exact infoRC) ?_
        refine lV0 2 11 (hE.at_ hcb) (by rw [Hccs.out]; exact infoRC) ?_
        refine Par.c0 3 10 (fun _ => #[Value.int IntKind.u64 3]) (F' := 39) (fun f X hX hR => ?_) ?_
        · refine (of_r 3 X (by omega)).mono ?_
          rintro e w2 ⟨A1, c1, rfl, hO, hB⟩
          exact ⟨_, rfl, hB, fun Y hY => ⟨A1, c1, rfl, RN.up hO hY⟩⟩
        refine lV0 4 9 (hE.at_ hcb) (by rw [Hccs.out]; exact infoRC) ?_
        refine Par.v0 5 8 ?_
        refine Par.ld1 6 7 4 (hE.cell j1) ?_
        refine Par.v0 7 6 ?_
        refine Par.ld1 8 5 6 (hE.cell j1) ?_
        refine rc 9 4 3 5 7 (fun _ _ hX h => ⟨_, _, h, (RN.up HX1.out (hE.trans hX))⟩) (fun _ _ hX h => ⟨_, _, h, (RN.up HX1.out (hE.trans hX))⟩) (fun X hX _ _ _ _ h h' => times_r X HF.out (hRC.out.ext (hE.trans hX)) h h' hx.out hx.out) E_u1.out ?_
        refine rc 10 3 1 2 8 (fun _ _ _ h => h) (fun _ _ _ h => h) (fun X hX _ _ _ _ h h' => times_r X HF.out (hRC.out.ext (hE.trans hX)) h h' (show 3 < C.M by have := H8.out; omega) L_u1.out) E_u2.out ?_
        refine Par.c0 11 2 (fun _ => #[Value.int IntKind.u64 3]) (F' := 39) (fun f X hX hR => ?_) ?_
        · refine (of_r 3 X (by omega)).mono ?_
          rintro e w2 ⟨A1, c1, rfl, hO, hB⟩
          exact ⟨_, rfl, hB, fun Y hY => ⟨A1, c1, rfl, RN.up hO hY⟩⟩
        refine rc 12 1 0 9 10 (fun _ _ _ h => h) (fun _ _ _ h => h) (fun X hX _ _ _ _ h h' => minus_r X HF.out (hRC.out.ext (hE.trans hX)) h h' L_u2.out (show 3 < C.M by have := H8.out; omega)) E_u3.out ?_
        refine Par.S 13 0 [(38, 0), (39, 1), (40, 2), (41, 3), (42, 4), (43, 5), (44, 6), (45, 7), (46, 8), (47, 9), (48, 10), (49, 11)] (fun f X hX hR K hK => ?_) ?_
        · obtain ⟨A9_11, c9_11, (e11 : f 11 = _), o9_11⟩ := hR.out 11 rfl
          simp only [yA, yB, yC, yD, yE, e11]
          refine ⟨?_⟩
          go_simp
          exact hK.out _ _ _ (by simp only [yA, yB, yC, yD, yE, e11]) (Ext.refl _) trivial (fun Y hY => ⟨A9_11, c9_11, rfl, RN.up o9_11 hY⟩)
        refine Par.AllOps.fin ⟨fun f X hX hR hal hap => ?_⟩
        obtain ⟨A9_2, c9_2, (e2 : f 2 = _), o9_2⟩ := hR 2 (by decide)
        obtain ⟨A9_8, c9_8, (e8 : f 8 = _), o9_8⟩ := hR 8 (by decide)
        obtain ⟨A9_9, c9_9, (e9 : f 9 = _), o9_9⟩ := hR 9 (by decide)
        obtain ⟨A9_10, c9_10, (e10 : f 10 = _), o9_10⟩ := hR 10 (by decide)
        obtain ⟨A9_11, c9_11, (e11 : f 11 = _), o9_11⟩ := hR 11 (by decide)
        obtain ⟨A9_12, c9_12, (e12 : f 12 = _), o9_12⟩ := hR 12 (by decide)
        simp only [yA, yB, yD, yE, e2, e8, e9, e10, e11, e12]
        clear hR hal hap e2 e8 e9 e10 e11 e12
        refine Par.Chain.done ?_
        replace hE := hE.trans hX
        have N7 := Lib.hid o9_12
        clear hX o9_2 o9_8 o9_9 o9_10 o9_11 o9_12 
        rename World => X9_k
        go_upto_region 10 with fail
        refine Par.region_ext (by kernel_rfl) 6 [0, 0, 0, 4, 15, 31] [] (fun j f X => match j with
         | 0 => f 0 = .agg ccs
         | 1 => ∃ A1 c1, f 1 = .slice A1 (digs 4294967296 2).length c1 ∧ RU X A1 c1 (digs 4294967296 2)
         | 2 => f 2 = .pointer (some ⟨q + 1, 2, none⟩)
         | 3 => f 3 = .slice A2 (digs 4294967296 y).length k2
         | 4 => ∃ A1 c1, f 4 = .slice A1 (digs 4294967296 u4).length c1 ∧ RU X A1 c1 (digs 4294967296 u4)
         | 5 => ∃ A1 c1, f 5 = .slice A1 (digs 4294967296 u4).length c1 ∧ RU X A1 c1 (digs 4294967296 u4)
         | _ => True) (by kernel_rfl) [(50, 0), (51, 1), (52, 2), (53, 3), (54, 4), (8, 5)] (by kernel_rfl) ?_
        refine lV0 1 5 (hE.at_ hcb) (by rw [Hccs.out]; exact infoRC) ?_
        refine Par.c0 2 4 (fun _ => #[Value.int IntKind.u64 2]) (F' := 39) (fun f X hX hR => ?_) ?_
        · refine (of_r 2 X (by omega)).mono ?_
          rintro e w2 ⟨A1, c1, rfl, hO, hB⟩
          exact ⟨_, rfl, hB, fun Y hY => ⟨A1, c1, rfl, RN.up hO hY⟩⟩
        refine Par.v0 3 3 ?_
        refine Par.ld1 4 2 2 (hE.cell j2) ?_
        refine rc 5 1 0 1 3 (fun _ _ _ h => h) (fun _ _ hX h => ⟨_, _, h, (RN.up HX2.out (hE.trans hX))⟩) (fun X hX _ _ _ _ h h' => times_r X HF.out (hRC.out.ext (hE.trans hX)) h h' (show 2 < C.M by have := H8.out; omega) hy.out) E_u4.out ?_
        refine Par.S 6 0 [(50, 0), (51, 1), (52, 2), (53, 3), (54, 4)] (fun f X hX hR K hK => ?_) ?_
        · obtain ⟨A10_4, c10_4, (e4 : f 4 = _), o10_4⟩ := hR.out 4 rfl
          simp only [yA, yB, yC, yD, yE, e4]
          refine ⟨?_⟩
          go_simp
          exact hK.out _ _ _ (by simp only [yA, yB, yC, yD, yE, e4]) (Ext.refl _) trivial (fun Y hY => ⟨A10_4, c10_4, rfl, RN.up o10_4 hY⟩)
        refine Par.AllOps.fin ⟨fun f X hX hR hal hap => ?_⟩
        obtain ⟨A10_1, c10_1, (e1 : f 1 = _), o10_1⟩ := hR 1 (by decide)
        obtain ⟨A10_4, c10_4, (e4 : f 4 = _), o10_4⟩ := hR 4 (by decide)
        obtain ⟨A10_5, c10_5, (e5 : f 5 = _), o10_5⟩ := hR 5 (by decide)
        simp only [yA, yB, yD, yE, e1, e4, e5]
        clear hR hal hap e1 e4 e5
        refine Par.Chain.done ?_
        replace hE := hE.trans hX
        replace N7 := Lib.hid (RN.up N7.out hX)
        have N8 := Lib.hid o10_5
        clear hX o10_1 o10_4 o10_5
        rename World => X10_k
        go_upto_region 13 with fail
        refine Par.region_txt 9 [0, 0, 2, 7, 15, 31, 31, 63, 255] [] (fun j f X => match j with
         | 0 => f 0 = .slice A10_5 (digs 4294967296 u4).length c10_5
         | 1 => f 1 = .pointer (some ⟨q, 0, none⟩)
         | 2 => f 2 = .slice Ap (digs 4294967296 C.M).length cp
         | 3 => ∃ A1 c1, f 3 = .tuple #[.slice A1 (digs 4294967296 iv).length c1, .bool ib] ∧ RU X A1 c1 (digs 4294967296 iv)
         | 4 => ∃ A1 c1, f 4 = .tuple #[.slice A1 (digs 4294967296 iv).length c1, .bool ib] ∧ RU X A1 c1 (digs 4294967296 iv)
         | 5 => ∃ A1 c1, f 5 = .slice A1 (digs 4294967296 iv).length c1 ∧ RU X A1 c1 (digs 4294967296 iv)
         | 6 => f 6 = .bool ib
         | 7 => ∃ A1 c1, f 7 = .slice A1 (digs 4294967296 iv).length c1 ∧ RU X A1 c1 (digs 4294967296 iv)
         | 8 => f 8 = .bool ib
         | _ => True) (by kernel_rfl) [(68, 0), (69, 1), (70, 2), (71, 3), (67, 4), (72, 5), (73, 6), (9, 7), (10, 8)] (by kernel_rfl) ?_
        refine Par.v0 1 8 ?_
        refine Par.v0 2 7 ?_
        refine Par.ld1 3 6 1 (hE.cell cP) ?_
        refine Par.c0 4 5 (fun f => #[f 0, f 2]) (F' := 59) (fun f X hX hR => ?_) ?_
        · have e0 : f 0 = _ := hR.out 0 rfl
          have e2 : f 2 = _ := hR.out 2 rfl
          simp only [e0, e2]
          refine (refInverse_any A10_5 Ap c10_5 cp u4 C.M X (RN.up N8.out hX) (RN.up HRP.out (hE.trans hX)) (by have := HF.out.len' L_u4.out; omega) (by have := HF.out.len; omega) (by have := HF.out.three; omega)).mono ?_
          rw [Hiv.out, Hib.out]
          rintro e w2 ⟨A1, c1, rfl, hO, hB⟩
          exact ⟨_, rfl, hB, fun Y hY => ⟨A1, c1, rfl, RN.up hO hY⟩⟩
        refine Par.S 5 4 [(68, 0), (69, 1), (70, 2), (71, 3)] (fun f X hX hR K hK => ?_) ?_
        · obtain ⟨A4, c4, (e3 : f 3 = _), o4⟩ := hR.out 3 rfl
          simp only [yA, yB, yC, yD, yE, e3]
          refine ⟨?_⟩
          go_simp
          exact hK.out _ _ _ (by simp only [yA, yB, yC, yD, yE, e3]) (Ext.refl _) trivial (fun Y hY => ⟨A4, c4, rfl, RN.up o4 hY⟩)
        refine Par.S 6 3 [(68, 0), (69, 1), (70, 2), (71, 3), (67, 4), (73, 6)] (fun f X hX hR K hK => ?_) ?_
        · obtain ⟨A5, c5, (e4 : f 4 = _), o5⟩ := hR.out 4 rfl
          simp only [yA, yB, yC, yD, yE, e4]
          refine ⟨?_⟩
          go_simp
          exact hK.out _ _ _ (by simp only [yA, yB, yC, yD, yE, e4]) (Ext.refl _) trivial (fun Y hY => ⟨A5, c5, rfl, RN.up o5 hY⟩)
        refine Par.S 7 2 [(68, 0), (69, 1), (70, 2), (71, 3), (67, 4), (72, 5), (9, 7)] (fun f X hX hR K hK => ?_) ?_
        · obtain ⟨A5, c5, (e4 : f 4 = _), o5⟩ := hR.out 4 rfl
          simp only [yA, yB, yC, yD, yE, e4]
          refine ⟨?_⟩
          go_simp
          exact Par.k hK (s := by simp only [yA, yB, yC, yD, yE, e4])
        refine Par.S 8 1 [(68, 0), (69, 1), (70, 2), (71, 3), (67, 4), (72, 5), (73, 6)] (fun f X hX hR K hK => ?_) ?_
        · obtain ⟨A6, c6, (e5 : f 5 = _), o6⟩ := hR.out 5 rfl
          simp only [yA, yB, yC, yD, yE, e5]
          refine ⟨?_⟩
          go_simp
          exact hK.out _ _ _ (by simp only [yA, yB, yC, yD, yE, e5]) (Ext.refl _) trivial (fun Y hY => ⟨A6, c6, rfl, RN.up o6 hY⟩)
        refine Par.v1 9 0 6 ?_
        refine Par.AllOps.fin ⟨fun f X hX hR hal hap => ?_⟩
        obtain ⟨A4, c4, (e3 : f 3 = _), o4⟩ := hR 3 (by decide)
        obtain ⟨A5, c5, (e4 : f 4 = _), o5⟩ := hR 4 (by decide)
        obtain ⟨A6, c6, (e5 : f 5 = _), o6⟩ := hR 5 (by decide)
        obtain ⟨A8, c8, (e7 : f 7 = _), o8⟩ := hR 7 (by decide)
        simp only [yA, yB, yD, yE, e3, e4, e5, e7]
        clear hR hal hap e3 e4 e5 e7
        refine Par.Chain.done ?_
        replace N7 := Lib.hid (RN.up N7.out hX)
        replace N8 := Lib.hid (RN.up N8.out hX)
        replace hE := hE.trans hX
        have N9 := Lib.hid o8
        clear hX o4 o5 o6 o8
        rename World => X13
        go_upto_region 14 with fail
        refine Par.region_txt 5 [0, 0, 0, 7, 15] [] (fun j f X => match j with
         | 0 => f 0 = .agg ccs
         | 1 => f 1 = .slice A9_12 (digs 4294967296 u3).length c9_12
         | 2 => f 2 = .slice A8 (digs 4294967296 iv).length c8
         | 3 => ∃ A1 c1, f 3 = .slice A1 (digs 4294967296 u5).length c1 ∧ RU X A1 c1 (digs 4294967296 u5)
         | 4 => ∃ A1 c1, f 4 = .slice A1 (digs 4294967296 u5).length c1 ∧ RU X A1 c1 (digs 4294967296 u5)
         | _ => True) (by kernel_rfl) [(74, 0), (75, 1), (76, 2), (77, 3), (11, 4)] (by kernel_rfl) ?_
        refine lV0 1 4 (hE.at_ hcb) (by rw [Hccs.out]; exact infoRC) ?_
        refine Par.v0 2 3 ?_
        refine Par.v0 3 2 ?_
        refine rc 4 1 0 1 2 (fun _ _ hX h => ⟨_, _, h, (RN.up N7.out hX)⟩) (fun _ _ hX h => ⟨_, _, h, (RN.up N9.out hX)⟩) (fun X hX _ _ _ _ h h' => times_r X HF.out (hRC.out.ext (hE.trans hX)) h h' L_u3.out hivl.out) E_u5.out ?_
        refine Par.S 5 0 [(74, 0), (75, 1), (76, 2), (77, 3)] (fun f X hX hR K hK => ?_) ?_
        · obtain ⟨A14_3, c14_3, (e3 : f 3 = _), o14_3⟩ := hR.out 3 rfl
          simp only [yA, yB, yC, yD, yE, e3]
          refine ⟨?_⟩
          go_simp
          exact hK.out _ _ _ (by simp only [yA, yB, yC, yD, yE, e3]) (Ext.refl _) trivial (fun Y hY => ⟨A14_3, c14_3, rfl, RN.up o14_3 hY⟩)
        refine Par.AllOps.fin ⟨fun f X hX hR hal hap => ?_⟩
        obtain ⟨A14_3, c14_3, (e3 : f 3 = _), o14_3⟩ := hR 3 (by decide)
        obtain ⟨A14_4, c14_4, (e4 : f 4 = _), o14_4⟩ := hR 4 (by decide)
        simp only [yA, yB, yD, yE, e3, e4]
        clear hR hal hap e3 e4
        refine Par.Chain.done ?_
        replace hE := hE.trans hX
        replace N7 := Lib.hid (RN.up N7.out hX)
        replace N8 := Lib.hid (RN.up N8.out hX)
        replace N9 := Lib.hid (RN.up N9.out hX)
        have N11 := Lib.hid o14_4
        clear hX o14_3 o14_4
        rename World => X14_k
        go_upto_region 15 with fail
        refine Par.region_ext (by kernel_rfl) 13 [0, 0, 0, 0, 0, 28, 0, 64, 254, 0, 512, 2047, 4095] [] (fun j f X => match j with
         | 0 => f 0 = .agg ccs
         | 1 => f 1 = .agg ccs
         | 2 => f 2 = .agg ccs
         | 3 => f 3 = .slice A14_4 (digs 4294967296 u5).length c14_4
         | 4 => f 4 = .slice A14_4 (digs 4294967296 u5).length c14_4
         | 5 => ∃ A1 c1, f 5 = .slice A1 (digs 4294967296 u6).length c1 ∧ RU X A1 c1 (digs 4294967296 u6)
         | 6 => f 6 = .pointer (some ⟨q + 1, 1, none⟩)
         | 7 => f 7 = .slice A1 (digs 4294967296 x).length k1
         | 8 => ∃ A1 c1, f 8 = .slice A1 (digs 4294967296 u7).length c1 ∧ RU X A1 c1 (digs 4294967296 u7)
         | 9 => f 9 = .pointer (some ⟨q + 2, 1, none⟩)
         | 10 => f 10 = .slice B1 (digs 4294967296 qx).length m1
         | 11 => ∃ A1 c1, f 11 = .slice A1 (digs 4294967296 u8).length c1 ∧ RU X A1 c1 (digs 4294967296 u8)
         | 12 => ∃ A1 c1, f 12 = .slice A1 (digs 4294967296 u8).length c1 ∧ RU X A1 c1 (digs 4294967296 u8)
         | _ => True) (by kernel_rfl) [(78, 0), (79, 1), (80, 2), (81, 3), (82, 4), (83, 5), (84, 6), (85, 7), (86, 8), (87, 9), (88, 10), (89, 11), (12, 12)] (by kernel_rfl) ?_
        refine lV0 1 12 (hE.at_ hcb) (by rw [Hccs.out]; exact infoRC) ?_
        refine lV0 2 11 (hE.at_ hcb) (by rw [Hccs.out]; exact infoRC) ?_
        refine lV0 3 10 (hE.at_ hcb) (by rw [Hccs.out]; exact infoRC) ?_
        refine Par.v0 4 9 ?_
        refine Par.v0 5 8 ?_
        refine rc 6 7 2 3 4 (fun _ _ hX h => ⟨_, _, h, (RN.up N11.out hX)⟩) (fun _ _ hX h => ⟨_, _, h, (RN.up N11.out hX)⟩) (fun X hX _ _ _ _ h h' => times_r X HF.out (hRC.out.ext (hE.trans hX)) h h' L_u5.out L_u5.out) E_u6.out ?_
        refine Par.v0 7 6 ?_
        refine Par.ld1 8 5 6 (hE.cell j1) ?_
        refine rc 9 4 1 5 7 (fun _ _ _ h => h) (fun _ _ hX h => ⟨_, _, h, (RN.up HX1.out (hE.trans hX))⟩) (fun X hX _ _ _ _ h h' => minus_r X HF.out (hRC.out.ext (hE.trans hX)) h h' L_u6.out hx.out) E_u7.out ?_
        refine Par.v0 10 3 ?_
        refine Par.ld1 11 2 9 (hE.cell t1) ?_
        refine rc 12 1 0 8 10 (fun _ _ _ h => h) (fun _ _ hX h => ⟨_, _, h, (RN.up HX4.out (hE.trans hX))⟩) (fun X hX _ _ _ _ h h' => minus_r X HF.out (hRC.out.ext (hE.trans hX)) h h' L_u7.out hqx.out) E_u8.out ?_
        refine Par.S 13 0 [(78, 0), (79, 1), (80, 2), (81, 3), (82, 4), (83, 5), (84, 6), (85, 7), (86, 8), (87, 9), (88, 10), (89, 11)] (fun f X hX hR K hK => ?_) ?_
        · obtain ⟨A15_11, c15_11, (e11 : f 11 = _), o15_11⟩ := hR.out 11 rfl
          simp only [yA, yB, yC, yD, yE, e11]
          refine ⟨?_⟩
          go_simp
          exact hK.out _ _ _ (by simp only [yA, yB, yC, yD, yE, e11]) (Ext.refl _) trivial (fun Y hY => ⟨A15_11, c15_11, rfl, RN.up o15_11 hY⟩)
        refine Par.AllOps.fin ⟨fun f X hX hR hal hap => ?_⟩
        obtain ⟨A15_5, c15_5, (e5 : f 5 = _), o15_5⟩ := hR 5 (by decide)
        obtain ⟨A15_8, c15_8, (e8 : f 8 = _), o15_8⟩ := hR 8 (by decide)
        obtain ⟨A15_11, c15_11, (e11 : f 11 = _), o15_11⟩ := hR 11 (by decide)
        obtain ⟨A15_12, c15_12, (e12 : f 12 = _), o15_12⟩ := hR 12 (by decide)
        simp only [yA, yB, yD, yE, e5, e8, e11, e12]
        clear hR hal hap e5 e8 e11 e12
        refine Par.Chain.done ?_
        replace hE := hE.trans hX
        replace N7 := Lib.hid (RN.up N7.out hX)
        replace N8 := Lib.hid (RN.up N8.out hX)
        replace N9 := Lib.hid (RN.up N9.out hX)
        replace N11 := Lib.hid (RN.up N11.out hX)
        have N12 := Lib.hid o15_12
        clear hX o15_5 o15_8 o15_11 o15_12
        rename World => X15_k
        have hb1 := hE.at_ hrb
        go_upto_region 16 with fail
        refine Par.region_ext (by kernel_rfl) 14 [0, 0, 0, 0, 0, 0, 32, 0, 240, 508, 0, 1024, 4094, 8191, 16383] [] (fun j f X => match j with
         | 0 => f 0 = .slice A15_12 (digs 4294967296 u8).length c15_12
         | 1 => f 1 = .agg ccs
         | 2 => f 2 = .agg ccs
         | 3 => f 3 = .slice A14_4 (digs 4294967296 u5).length c14_4
         | 4 => f 4 = .agg ccs
         | 5 => f 5 = .pointer (some ⟨q + 1, 1, none⟩)
         | 6 => f 6 = .slice A1 (digs 4294967296 x).length k1
         | 7 => f 7 = .slice A15_12 (digs 4294967296 u8).length c15_12
         | 8 => ∃ A1 c1, f 8 = .slice A1 (digs 4294967296 u9).length c1 ∧ RU X A1 c1 (digs 4294967296 u9)
         | 9 => ∃ A1 c1, f 9 = .slice A1 (digs 4294967296 u10).length c1 ∧ RU X A1 c1 (digs 4294967296 u10)
         | 10 => f 10 = .pointer (some ⟨q + 1, 2, none⟩)
         | 11 => f 11 = .slice A2 (digs 4294967296 y).length k2
         | 12 => ∃ A1 c1, f 12 = .slice A1 (digs 4294967296 u11).length c1 ∧ RU X A1 c1 (digs 4294967296 u11)
         | 13 => ∃ A1 c1 A2 c2, f 13 = .agg #[.bool false, .slice A1 (digs 4294967296 u8).length c1, .slice A2 (digs 4294967296 u11).length c2] ∧ RU X A1 c1 (digs 4294967296 u8) ∧ RU X A2 c2 (digs 4294967296 u11)
         | _ => True) (by kernel_rfl) [(90, 0), (91, 1), (92, 2), (93, 3), (94, 4), (95, 5), (96, 6), (97, 7), (98, 8), (99, 9), (100, 10), (101, 11), (102, 12), (103, 13)] (by kernel_rfl) ?_
        refine Par.v0 1 13 ?_
        refine lV0 2 12 (hE.at_ hcb) (by rw [Hccs.out]; exact infoRC) ?_
        refine lV0 3 11 (hE.at_ hcb) (by rw [Hccs.out]; exact infoRC) ?_
        refine Par.v0 4 10 ?_
        refine lV0 5 9 (hE.at_ hcb) (by rw [Hccs.out]; exact infoRC) ?_
        refine Par.v0 6 8 ?_
        refine Par.ld1 7 7 5 (hE.cell j1) ?_
        refine Par.v0 8 6 ?_
        refine rc 9 5 4 6 7 (fun _ _ hX h => ⟨_, _, h, (RN.up HX1.out (hE.trans hX))⟩) (fun _ _ hX h => ⟨_, _, h, (RN.up N12.out hX)⟩) (fun X hX _ _ _ _ h h' => minus_r X HF.out (hRC.out.ext (hE.trans hX)) h h' hx.out L_u8.out) E_u9.out ?_
        refine rc 10 4 2 3 8 (fun _ _ hX h => ⟨_, _, h, (RN.up N11.out hX)⟩) (fun _ _ _ h => h) (fun X hX _ _ _ _ h h' => times_r X HF.out (hRC.out.ext (hE.trans hX)) h h' L_u5.out L_u9.out) E_u10.out ?_
        refine Par.v0 11 3 ?_
        refine Par.ld1 12 2 10 (hE.cell j2) ?_
        refine rc 13 1 1 9 11 (fun _ _ _ h => h) (fun _ _ hX h => ⟨_, _, h, (RN.up HX2.out (hE.trans hX))⟩) (fun X hX _ _ _ _ h h' => minus_r X HF.out (hRC.out.ext (hE.trans hX)) h h' L_u10.out hy.out) E_u11.out ?_
        refine Par.S 14 0 [(90, 0), (91, 1), (92, 2), (93, 3), (94, 4), (95, 5), (96, 6), (97, 7), (98, 8), (99, 9), (100, 10), (101, 11), (102, 12)] (fun f X hX hR K hK => ?_) ?_
        · have e0 : f 0 = _ := hR.out 0 rfl
          obtain ⟨A16_12, c16_12, (e12 : f 12 = _), o16_12⟩ := hR.out 12 rfl
          simp only [yA, yB, yC, yD, yE, e0, e12]
          refine ⟨?_⟩
          go_simp
          exact hK.out _ _ _ (by simp only [yA, yB, yC, yD, yE, e0, e12]) (Ext.refl _) trivial (fun Y hY => ⟨_, _, _, _, rfl, RN.up N12.out (hX.trans hY), RN.up o16_12 hY⟩)
        refine Par.AllOps.fin ⟨fun f X hX hR hal hap => ?_⟩
        obtain ⟨A16_8, c16_8, (e8 : f 8 = _), o16_8⟩ := hR 8 (by decide)
        obtain ⟨A16_9, c16_9, (e9 : f 9 = _), o16_9⟩ := hR 9 (by decide)
        obtain ⟨A16_12, c16_12, (e12 : f 12 = _), o16_12⟩ := hR 12 (by decide)
        obtain ⟨Ax1, cx1, Ay1, cy1, (e13 : f 13 = _), ox1, oy1⟩ := hR 13 (by decide)
        simp only [yA, yB, yD, yE, e8, e9, e12, e13]
        clear hR hal hap e8 e9 e12 e13
        refine Par.Chain.next (fun K hK => ⟨Par.want (by kernel_rfl) (wp_storeV (cs' := #[.bool false, .slice Ax1 (digs 4294967296 u8).length cx1, .slice Ay1 (digs 4294967296 u11).length cy1]) (t := 34) 34 (.tmp 6) (.tmp 103) rfl rfl rfl rfl (hX.at_ hb1) infoRP rfl (pt_one _ _ _ _ _ _ _) (fun Y hY1 hY2 hY3 => hK.out _ _ ?_))⟩)
        refine Par.Chain.done ?_
        go_wp2
        exact end_rpt rfl rfl rfl hY1 ⟨_, rfl, ⟨_, _, _, _, rfl, ox1.offJ hY2 (hX.at_ hb1) (by kernel_rfl), oy1.offJ hY2 (hX.at_ hb1) (by kernel_rfl)⟩, hY2.ext (HE0.out.trans (hE.trans hX)) (by have := Hq.out; omega)⟩
    · obtain ⟨cv2, hcv2⟩ : ∃ v, cmpV y qy = v := ⟨_, rfl⟩
      have hne : ¬ cv2 = 0 := by rw [← hcv2]; exact fun e => hyy (cmpV_z.1 e)
      have Hcv2 := Lib.hid hcv2
      have Hg3 := Lib.hid (show (cv2 == 0) = false by rw [beq_eq_false_iff_ne]; exact hne)
      have Hg4 := Lib.hid (show decide (cv2 = 0) = false from decide_eq_false hne)
      have Hg5 := Lib.hid (show (cv2 != 0) = true by rw [bne_iff_ne]; exact hne)
      rw [show raddP C.M false x y false qx qy = (true, 0, 0) by simp only [raddP, Bool.false_eq_true, if_false]; rw [if_pos hxx, if_neg hyy]]
      clear hxx hyy hcv2 hne
      go_enter Try.func31, Try.ntmps31
      go_upto_region 1 with fail
      rw [← hW0]
      have Hq := Lib.hid hq
      clear hq hW0
      obtain ⟨y0, y1, y2, f0, f1, f2⟩ := pt_facts hpb
      obtain ⟨y0', y1', y2', f0', f1', f2'⟩ := pt_facts hqb
      have hE := Ext.refl W0
      go_upto_region 6 with fail
      clear y0 y1 y2 f0 f1 f2 y0' y1' y2' f0' f1' f2'
      refine Par.region_txt 6 [0, 1, 0, 4, 15, 31] [] (fun j f X => match j with
       | 0 => f 0 = .pointer (some ⟨q + 1, 1, none⟩)
       | 1 => f 1 = .slice A1 (digs 4294967296 x).length k1
       | 2 => f 2 = .pointer (some ⟨q + 2, 1, none⟩)
       | 3 => f 3 = .slice B1 (digs 4294967296 qx).length m1
       | 4 => f 4 = .int .i64 0
       | 5 => f 5 = .bool true
       | _ => True) (by kernel_rfl) [(19, 0), (20, 1), (21, 2), (22, 3), (23, 4), (24, 5)] (by kernel_rfl) ?_
      refine Par.v0 1 5 ?_
      refine Par.ld1 2 4 0 (hE.cell j1) ?_
      refine Par.v0 3 3 ?_
      refine Par.ld1 4 2 2 (hE.cell t1) ?_
      refine Par.c0 5 1 (fun f => #[f 1, f 3]) (F' := 51) (fun f X hX hR => ?_) ?_
      · have e1 : f 1 = _ := hR.out 1 rfl
        have e3 : f 3 = _ := hR.out 3 rfl
        simp only [e1, e3]
        refine (refCmp_any _ _ A1 B1 k1 m1 x qx X (RN.up HX1.out (hE.trans hX)) (RN.up HX4.out (hE.trans hX))).mono ?_
        rw [Hcv.out]
        rintro e w2 ⟨rfl, nq, rfl⟩
        exact ⟨(.int .i64 0), rfl, (Ext.drewN _ _), fun _ _ => rfl⟩
      refine Par.v1 6 0 4 ?_
      refine Par.AllOps.fin ⟨fun f X hX hR hal hap => ?_⟩
      have e5 : f 5 = _ := hR 5 (by decide)
      simp only [yA, yB, yD, yE, e5]
      clear hR hal hap e5
      refine Par.Chain.done ?_
      replace hE := hE.trans hX
      clear hX  
      rename World => X6_k
      go_upto_region 7 with fail
      refine Par.region_txt 12 [0, 1, 0, 4, 15, 31, 63, 127, 255, 511, 1023, 2047] [] (fun j f X => match j with
       | 0 => f 0 = .pointer (some ⟨q + 1, 2, none⟩)
       | 1 => f 1 = .slice A2 (digs 4294967296 y).length k2
       | 2 => f 2 = .pointer (some ⟨q + 2, 2, none⟩)
       | 3 => f 3 = .slice B2 (digs 4294967296 qy).length m2
       | 4 => f 4 = .int .i64 cv2
       | 5 => f 5 = .bool true
       | 6 => f 6 = .bool true
       | 7 => f 7 = undef
       | 8 => f 8 = undef
       | 9 => f 9 = undef
       | 10 => f 10 = undef
       | 11 => f 11 = .bool true
       | _ => True) (by kernel_rfl) [(25, 0), (26, 1), (27, 2), (28, 3), (29, 4), (30, 5), (31, 6), (32, 7), (33, 8), (34, 9), (35, 10), (36, 11)] (by kernel_rfl) ?_
      refine Par.v0 1 11 ?_
      refine Par.ld1 2 10 0 (hE.cell j2) ?_
      refine Par.v0 3 9 ?_
      refine Par.ld1 4 8 2 (hE.cell t2) ?_
      refine Par.c0 5 7 (fun f => #[f 1, f 3]) (F' := 51) (fun f X hX hR => ?_) ?_
      · have e1 : f 1 = _ := hR.out 1 rfl
        have e3 : f 3 = _ := hR.out 3 rfl
        simp only [e1, e3]
        refine (refCmp_any _ _ A2 B2 k2 m2 y qy X (RN.up HX2.out (hE.trans hX)) (RN.up HX5.out (hE.trans hX))).mono ?_
        rw [Hcv2.out]
        rintro e w2 ⟨rfl, nq, rfl⟩
        exact ⟨(.int .i64 cv2), rfl, (Ext.drewN _ _), fun _ _ => rfl⟩
      refine Par.S 6 6 [(25, 0), (26, 1), (27, 2), (28, 3), (29, 4)] (fun f X hX hR K hK => ?_) ?_
      · have e4 : f 4 = _ := hR.out 4 rfl
        have g1 := Hg3.out
        have g2 := Hg4.out
        have g3 := Hg5.out
        simp only [yA, yB, yC, yD, yE, e4]
        refine ⟨?_⟩
        go_simp
        exact Par.k hK (s := by simp only [yA, yB, yC, yD, yE, e4])
      refine Par.v1 7 5 5 ?_
      refine Par.sk 8 4 6 ?_
      refine Par.sk 9 3 6 ?_
      refine Par.sk 10 2 6 ?_
      refine Par.sk 11 1 6 ?_
      refine Par.v2 12 0 6 10 ?_
      refine Par.AllOps.fin ⟨fun f X hX hR hal hap => ?_⟩
      have e11 : f 11 = _ := hR 11 (by decide)
      simp only [yA, yB, yD, yE, e11]
      clear hR hal hap e11
      refine Par.Chain.done ?_
      replace hE := hE.trans hX
      clear hX  
      rename World => X7_k
      have hb1 := hE.at_ hrb
      obtain ⟨z0, z1, z2, f0, f1, f2⟩ := pt_facts hb1
      go_wp2
      exact end_rpt rfl rfl rfl (pt_set hb1 _ _ _) ⟨_, rfl, RPv.inf_ _, pt_ext (HE0.out.trans hE) (by have := Hq.out; omega) _ _ _⟩
  · obtain ⟨cv, hcv⟩ : ∃ v, cmpV x qx = v := ⟨_, rfl⟩
    have hne : ¬ cv = 0 := by rw [← hcv]; exact fun e => hxx (cmpV_z.1 e)
    have Hcv := Lib.hid hcv
    have Hg1 := Lib.hid (show (cv == 0) = false by rw [beq_eq_false_iff_ne]; exact hne)
    have Hg2 := Lib.hid (show decide (cv = 0) = false from decide_eq_false hne)
    have hres0 : raddP C.M false x y false qx qy = raddA C.M x y qx qy := by simp only [raddP, Bool.false_eq_true, if_false]; rw [if_neg hxx]
    rw [hres0]
    clear hxx hcv hne hres0
    obtain ⟨u1, e_u1⟩ : ∃ v, sm C.M qy y = v := ⟨_, rfl⟩
    have L_u1 := Lib.hid (show u1 < C.M by rw [← e_u1]; exact sm_lt hM0 _ _)
    have E_u1 := Lib.hid e_u1
    clear e_u1
    obtain ⟨u2, e_u2⟩ : ∃ v, sm C.M qx x = v := ⟨_, rfl⟩
    have L_u2 := Lib.hid (show u2 < C.M by rw [← e_u2]; exact sm_lt hM0 _ _)
    have E_u2 := Lib.hid e_u2
    clear e_u2
    obtain ⟨iv, hiv⟩ : ∃ v, (invNum u2 C.M).1 = v := ⟨_, rfl⟩
    obtain ⟨ib, hib⟩ : ∃ v, (invNum u2 C.M).2 = v := ⟨_, rfl⟩
    have hivl := Lib.hid (show iv < C.M by rw [← hiv]; exact invNum_lt (by have := HF.out.three; omega))
    have Hiv := Lib.hid hiv
    have Hib := Lib.hid hib
    clear hiv hib
    obtain ⟨u3, e_u3⟩ : ∃ v, mm C.M u1 iv = v := ⟨_, rfl⟩
    have L_u3 := Lib.hid (show u3 < C.M by rw [← e_u3]; exact mm_lt hM0 _ _)
    have E_u3 := Lib.hid e_u3
    clear e_u3
    obtain ⟨u4, e_u4⟩ : ∃ v, mm C.M u3 u3 = v := ⟨_, rfl⟩
    have L_u4 := Lib.hid (show u4 < C.M by rw [← e_u4]; exact mm_lt hM0 _ _)
    have E_u4 := Lib.hid e_u4
    clear e_u4
    obtain ⟨u5, e_u5⟩ : ∃ v, sm C.M u4 x = v := ⟨_, rfl⟩
    have L_u5 := Lib.hid (show u5 < C.M by rw [← e_u5]; exact sm_lt hM0 _ _)
    have E_u5 := Lib.hid e_u5
    clear e_u5
    obtain ⟨u6, e_u6⟩ : ∃ v, sm C.M u5 qx = v := ⟨_, rfl⟩
    have L_u6 := Lib.hid (show u6 < C.M by rw [← e_u6]; exact sm_lt hM0 _ _)
    have E_u6 := Lib.hid e_u6
    clear e_u6
    obtain ⟨u7, e_u7⟩ : ∃ v, sm C.M x u6 = v := ⟨_, rfl⟩
    have L_u7 := Lib.hid (show u7 < C.M by rw [← e_u7]; exact sm_lt hM0 _ _)
    have E_u7 := Lib.hid e_u7
    clear e_u7
    obtain ⟨u8, e_u8⟩ : ∃ v, mm C.M u3 u7 = v := ⟨_, rfl⟩
    have L_u8 := Lib.hid (show u8 < C.M by rw [← e_u8]; exact mm_lt hM0 _ _)
    have E_u8 := Lib.hid e_u8
    clear e_u8
    obtain ⟨u9, e_u9⟩ : ∃ v, sm C.M u8 y = v := ⟨_, rfl⟩
    have L_u9 := Lib.hid (show u9 < C.M by rw [← e_u9]; exact sm_lt hM0 _ _)
    have E_u9 := Lib.hid e_u9
    clear e_u9
    rw [show raddA C.M x y qx qy = (false, u6, u9) by simp only [raddA]; simp only [E_u1.out, E_u2.out, Hiv.out, E_u3.out, E_u4.out, E_u5.out, E_u6.out, E_u7.out, E_u8.out, E_u9.out]]
    go_enter Try.func31, Try.ntmps31
    go_upto_region 1 with fail
    rw [← hW0]
    have Hq := Lib.hid hq
    clear hq hW0
    obtain ⟨y0, y1, y2, f0, f1, f2⟩ := pt_facts hpb
    obtain ⟨y0', y1', y2', f0', f1', f2'⟩ := pt_facts hqb
    have hE := Ext.refl W0
    go_upto_region 6 with fail
    clear y0 y1 y2 f0 f1 f2 y0' y1' y2' f0' f1' f2'
    refine Par.region_txt 6 [0, 1, 0, 4, 15, 31] [] (fun j f X => match j with
     | 0 => f 0 = .pointer (some ⟨q + 1, 1, none⟩)
     | 1 => f 1 = .slice A1 (digs 4294967296 x).length k1
     | 2 => f 2 = .pointer (some ⟨q + 2, 1, none⟩)
     | 3 => f 3 = .slice B1 (digs 4294967296 qx).length m1
     | 4 => f 4 = .int .i64 cv
     | 5 => f 5 = .bool false
     | _ => True) (by kernel_rfl) [(19, 0), (20, 1), (21, 2), (22, 3), (23, 4), (24, 5)] (by kernel_rfl) ?_
    refine Par.v0 1 5 ?_
    refine Par.ld1 2 4 0 (hE.cell j1) ?_
    refine Par.v0 3 3 ?_
    refine Par.ld1 4 2 2 (hE.cell t1) ?_
    refine Par.c0 5 1 (fun f => #[f 1, f 3]) (F' := 51) (fun f X hX hR => ?_) ?_
    · have e1 : f 1 = _ := hR.out 1 rfl
      have e3 : f 3 = _ := hR.out 3 rfl
      simp only [e1, e3]
      refine (refCmp_any _ _ A1 B1 k1 m1 x qx X (RN.up HX1.out (hE.trans hX)) (RN.up HX4.out (hE.trans hX))).mono ?_
      rw [Hcv.out]
      rintro e w2 ⟨rfl, nq, rfl⟩
      exact ⟨(.int .i64 cv), rfl, (Ext.drewN _ _), fun _ _ => rfl⟩
    refine Par.S 6 0 [(19, 0), (20, 1), (21, 2), (22, 3), (23, 4)] (fun f X hX hR K hK => ?_) ?_
    · have e4 : f 4 = _ := hR.out 4 rfl
      have g1 := Hg1.out
      have g2 := Hg2.out
      simp only [yA, yB, yC, yD, yE, e4]
      refine ⟨?_⟩
      go_simp
      exact Par.k hK (s := by simp only [yA, yB, yC, yD, yE, e4])
    refine Par.AllOps.fin ⟨fun f X hX hR hal hap => ?_⟩
    have e5 : f 5 = _ := hR 5 (by decide)
    simp only [yA, yB, yD, yE, e5]
    clear hR hal hap e5
    refine Par.Chain.done ?_
    replace hE := hE.trans hX
    clear hX  
    rename World => X6_k
    go_upto_region 11 with fail
    refine Par.region_txt 7 [0, 0, 2, 0, 8, 31, 63] [] (fun j f X => match j with
     | 0 => f 0 = .agg ccs
     | 1 => f 1 = .pointer (some ⟨q + 2, 2, none⟩)
     | 2 => f 2 = .slice B2 (digs 4294967296 qy).length m2
     | 3 => f 3 = .pointer (some ⟨q + 1, 2, none⟩)
     | 4 => f 4 = .slice A2 (digs 4294967296 y).length k2
     | 5 => ∃ A1 c1, f 5 = .slice A1 (digs 4294967296 u1).length c1 ∧ RU X A1 c1 (digs 4294967296 u1)
     | 6 => ∃ A1 c1, f 6 = .slice A1 (digs 4294967296 u1).length c1 ∧ RU X A1 c1 (digs 4294967296 u1)
     | _ => True) (by kernel_rfl) [(55, 0), (56, 1), (57, 2), (58, 3), (59, 4), (60, 5), (7, 6)] (by kernel_rfl) ?_
    refine lV0 1 6 (hE.at_ hcb) (by rw [Hccs.out]; exact infoRC) ?_
    refine Par.v0 2 5 ?_
    refine Par.ld1 3 4 1 (hE.cell t2) ?_
    refine Par.v0 4 3 ?_
    refine Par.ld1 5 2 3 (hE.cell j2) ?_
    refine rc 6 1 0 2 4 (fun _ _ hX h => ⟨_, _, h, (RN.up HX5.out (hE.trans hX))⟩) (fun _ _ hX h => ⟨_, _, h, (RN.up HX2.out (hE.trans hX))⟩) (fun X hX _ _ _ _ h h' => minus_r X HF.out (hRC.out.ext (hE.trans hX)) h h' hqy.out hy.out) E_u1.out ?_
    refine Par.S 7 0 [(55, 0), (56, 1), (57, 2), (58, 3), (59, 4), (60, 5)] (fun f X hX hR K hK => ?_) ?_
    · obtain ⟨A11_5, c11_5, (e5 : f 5 = _), o11_5⟩ := hR.out 5 rfl
      simp only [yA, yB, yC, yD, yE, e5]
      refine ⟨?_⟩
      go_simp
      exact hK.out _ _ _ (by simp only [yA, yB, yC, yD, yE, e5]) (Ext.refl _) trivial (fun Y hY => ⟨A11_5, c11_5, rfl, RN.up o11_5 hY⟩)
    refine Par.AllOps.fin ⟨fun f X hX hR hal hap => ?_⟩
    obtain ⟨A11_5, c11_5, (e5 : f 5 = _), o11_5⟩ := hR 5 (by decide)
    obtain ⟨A11_6, c11_6, (e6 : f 6 = _), o11_6⟩ := hR 6 (by decide)
    simp only [yA, yB, yD, yE, e5, e6]
    clear hR hal hap e5 e6
    refine Par.Chain.done ?_
    replace hE := hE.trans hX
    have N7 := Lib.hid o11_6
    clear hX o11_5 o11_6 
    rename World => X11_k
    go_upto_region 12 with fail
    refine Par.region_txt 7 [0, 0, 2, 0, 8, 31, 63] [] (fun j f X => match j with
     | 0 => f 0 = .agg ccs
     | 1 => f 1 = .pointer (some ⟨q + 2, 1, none⟩)
     | 2 => f 2 = .slice B1 (digs 4294967296 qx).length m1
     | 3 => f 3 = .pointer (some ⟨q + 1, 1, none⟩)
     | 4 => f 4 = .slice A1 (digs 4294967296 x).length k1
     | 5 => ∃ A1 c1, f 5 = .slice A1 (digs 4294967296 u2).length c1 ∧ RU X A1 c1 (digs 4294967296 u2)
     | 6 => ∃ A1 c1, f 6 = .slice A1 (digs 4294967296 u2).length c1 ∧ RU X A1 c1 (digs 4294967296 u2)
     | _ => True) (by kernel_rfl) [(61, 0), (62, 1), (63, 2), (64, 3), (65, 4), (66, 5), (8, 6)] (by kernel_rfl) ?_
    refine lV0 1 6 (hE.at_ hcb) (by rw [Hccs.out]; exact infoRC) ?_
    refine Par.v0 2 5 ?_
    refine Par.ld1 3 4 1 (hE.cell t1) ?_
    refine Par.v0 4 3 ?_
    refine Par.ld1 5 2 3 (hE.cell j1) ?_
    refine rc 6 1 0 2 4 (fun _ _ hX h => ⟨_, _, h, (RN.up HX4.out (hE.trans hX))⟩) (fun _ _ hX h => ⟨_, _, h, (RN.up HX1.out (hE.trans hX))⟩) (fun X hX _ _ _ _ h h' => minus_r X HF.out (hRC.out.ext (hE.trans hX)) h h' hqx.out hx.out) E_u2.out ?_
    refine Par.S 7 0 [(61, 0), (62, 1), (63, 2), (64, 3), (65, 4), (66, 5)] (fun f X hX hR K hK => ?_) ?_
    · obtain ⟨A12_5, c12_5, (e5 : f 5 = _), o12_5⟩ := hR.out 5 rfl
      simp only [yA, yB, yC, yD, yE, e5]
      refine ⟨?_⟩
      go_simp
      exact hK.out _ _ _ (by simp only [yA, yB, yC, yD, yE, e5]) (Ext.refl _) trivial (fun Y hY => ⟨A12_5, c12_5, rfl, RN.up o12_5 hY⟩)
    refine Par.AllOps.fin ⟨fun f X hX hR hal hap => ?_⟩
    obtain ⟨A12_5, c12_5, (e5 : f 5 = _), o12_5⟩ := hR 5 (by decide)
    obtain ⟨A12_6, c12_6, (e6 : f 6 = _), o12_6⟩ := hR 6 (by decide)
    simp only [yA, yB, yD, yE, e5, e6]
    clear hR hal hap e5 e6
    refine Par.Chain.done ?_
    replace hE := hE.trans hX
    replace N7 := Lib.hid (RN.up N7.out hX)
    have N8 := Lib.hid o12_6
    clear hX o12_5 o12_6
    rename World => X12_k
    go_upto_region 13 with fail
    refine Par.region_txt 9 [0, 0, 2, 7, 15, 31, 31, 63, 255] [] (fun j f X => match j with
     | 0 => f 0 = .slice A12_6 (digs 4294967296 u2).length c12_6
     | 1 => f 1 = .pointer (some ⟨q, 0, none⟩)
     | 2 => f 2 = .slice Ap (digs 4294967296 C.M).length cp
     | 3 => ∃ A1 c1, f 3 = .tuple #[.slice A1 (digs 4294967296 iv).length c1, .bool ib] ∧ RU X A1 c1 (digs 4294967296 iv)
     | 4 => ∃ A1 c1, f 4 = .tuple #[.slice A1 (digs 4294967296 iv).length c1, .bool ib] ∧ RU X A1 c1 (digs 4294967296 iv)
     | 5 => ∃ A1 c1, f 5 = .slice A1 (digs 4294967296 iv).length c1 ∧ RU X A1 c1 (digs 4294967296 iv)
     | 6 => f 6 = .bool ib
     | 7 => ∃ A1 c1, f 7 = .slice A1 (digs 4294967296 iv).length c1 ∧ RU X A1 c1 (digs 4294967296 iv)
     | 8 => f 8 = .bool ib
     | _ => True) (by kernel_rfl) [(68, 0), (69, 1), (70, 2), (71, 3), (67, 4), (72, 5), (73, 6), (9, 7), (10, 8)] (by kernel_rfl) ?_
    refine Par.v0 1 8 ?_
    refine Par.v0 2 7 ?_
    refine Par.ld1 3 6 1 (hE.cell cP) ?_
    refine Par.c0 4 5 (fun f => #[f 0, f 2]) (F' := 59) (fun f X hX hR => ?_) ?_
    · have e0 : f 0 = _ := hR.out 0 rfl
      have e2 : f 2 = _ := hR.out 2 rfl
      simp only [e0, e2]
      refine (refInverse_any A12_6 Ap c12_6 cp u2 C.M X (RN.up N8.out hX) (RN.up HRP.out (hE.trans hX)) (by have := HF.out.len' L_u2.out; omega) (by have := HF.out.len; omega) (by have := HF.out.three; omega)).mono ?_
      rw [Hiv.out, Hib.out]
      rintro e w2 ⟨A1, c1, rfl, hO, hB⟩
      exact ⟨_, rfl, hB, fun Y hY => ⟨A1, c1, rfl, RN.up hO hY⟩⟩
    refine Par.S 5 4 [(68, 0), (69, 1), (70, 2), (71, 3)] (fun f X hX hR K hK => ?_) ?_
    · obtain ⟨A4, c4, (e3 : f 3 = _), o4⟩ := hR.out 3 rfl
      simp only [yA, yB, yC, yD, yE, e3]
      refine ⟨?_⟩
      go_simp
      exact hK.out _ _ _ (by simp only [yA, yB, yC, yD, yE, e3]) (Ext.refl _) trivial (fun Y hY => ⟨A4, c4, rfl, RN.up o4 hY⟩)
    refine Par.S 6 3 [(68, 0), (69, 1), (70, 2), (71, 3), (67, 4), (73, 6)] (fun f X hX hR K hK => ?_) ?_
    · obtain ⟨A5, c5, (e4 : f 4 = _), o5⟩ := hR.out 4 rfl
      simp only [yA, yB, yC, yD, yE, e4]
      refine ⟨?_⟩
      go_simp
      exact hK.out _ _ _ (by simp only [yA, yB, yC, yD, yE, e4]) (Ext.refl _) trivial (fun Y hY => ⟨A5, c5, rfl, RN.up o5 hY⟩)
    refine Par.S 7 2 [(68, 0), (69, 1), (70, 2), (71, 3), (67, 4), (72, 5), (9, 7)] (fun f X hX hR K hK => ?_) ?_
    · obtain ⟨A5, c5, (e4 : f 4 = _), o5⟩ := hR.out 4 rfl
      simp only [yA, yB, yC, yD, yE, e4]
      refine ⟨?_⟩
      go_simp
      exact Par.k hK (s := by simp only [yA, yB, yC, yD, yE, e4])
    refine Par.S 8 1 [(68, 0), (69, 1), (70, 2), (71, 3), (67, 4), (72, 5), (73, 6)] (fun f X hX hR K hK => ?_) ?_
    · obtain ⟨A6, c6, (e5 : f 5 = _), o6⟩ := hR.out 5 rfl
      simp only [yA, yB, yC, yD, yE, e5]
      refine ⟨?_⟩
      go_simp
      exact hK.out _ _ _ (by simp only [yA, yB, yC, yD, yE, e5]) (Ext.refl _) trivial (fun Y hY => ⟨A6, c6, rfl, RN.up o6 hY⟩)
    refine Par.v1 9 0 6 ?_
    refine Par.AllOps.fin ⟨fun f X hX hR hal hap => ?_⟩
    obtain ⟨A4, c4, (e3 : f 3 = _), o4⟩ := hR 3 (by decide)
    obtain ⟨A5, c5, (e4 : f 4 = _), o5⟩ := hR 4 (by decide)
    obtain ⟨A6, c6, (e5 : f 5 = _), o6⟩ := hR 5 (by decide)
    obtain ⟨A8, c8, (e7 : f 7 = _), o8⟩ := hR 7 (by decide)
    simp only [yA, yB, yD, yE, e3, e4, e5, e7]
    clear hR hal hap e3 e4 e5 e7
    refine Par.Chain.done ?_
    replace N7 := Lib.hid (RN.up N7.out hX)
    replace N8 := Lib.hid (RN.up N8.out hX)
    replace hE := hE.trans hX
    have N9 := Lib.hid o8
    clear hX o4 o5 o6 o8
    rename World => X13
    go_upto_region 14 with fail
    refine Par.region_txt 5 [0, 0, 0, 7, 15] [] (fun j f X => match j with
     | 0 => f 0 = .agg ccs
     | 1 => f 1 = .slice A11_6 (digs 4294967296 u1).length c11_6
     | 2 => f 2 = .slice A8 (digs 4294967296 iv).length c8
     | 3 => ∃ A1 c1, f 3 = .slice A1 (digs 4294967296 u3).length c1 ∧ RU X A1 c1 (digs 4294967296 u3)
     | 4 => ∃ A1 c1, f 4 = .slice A1 (digs 4294967296 u3).length c1 ∧ RU X A1 c1 (digs 4294967296 u3)
     | _ => True) (by kernel_rfl) [(74, 0), (75, 1), (76, 2), (77, 3), (11, 4)] (by kernel_rfl) ?_
    refine lV0 1 4 (hE.at_ hcb) (by rw [Hccs.out]; exact infoRC) ?_
    refine Par.v0 2 3 ?_
    refine Par.v0 3 2 ?_
    refine rc 4 1 0 1 2 (fun _ _ hX h => ⟨_, _, h, (RN.up N7.out hX)⟩) (fun _ _ hX h => ⟨_, _, h, (RN.up N9.out hX)⟩) (fun X hX _ _ _ _ h h' => times_r X HF.out (hRC.out.ext (hE.trans hX)) h h' L_u1.out hivl.out) E_u3.out ?_
    refine Par.S 5 0 [(74, 0), (75, 1), (76, 2), (77, 3)] (fun f X hX hR K hK => ?_) ?_
    · obtain ⟨A14_3, c14_3, (e3 : f 3 = _), o14_3⟩ := hR.out 3 rfl
      simp only [yA, yB, yC, yD, yE, e3]
      refine ⟨?_⟩
      go_simp
      exact hK.out _ _ _ (by simp only [yA, yB, yC, yD, yE, e3]) (Ext.refl _) trivial (fun Y hY => ⟨A14_3, c14_3, rfl, RN.up o14_3 hY⟩)
    refine Par.AllOps.fin ⟨fun f X hX hR hal hap => ?_⟩
    obtain ⟨A14_3, c14_3, (e3 : f 3 = _), o14_3⟩ := hR 3 (by decide)
    obtain ⟨A14_4, c14_4, (e4 : f 4 = _), o14_4⟩ := hR 4 (by decide)
    simp only [yA, yB, yD, yE, e3, e4]
    clear hR hal hap e3 e4
    refine Par.Chain.done ?_
    replace hE := hE.trans hX
    replace N7 := Lib.hid (RN.up N7.out hX)
    replace N8 := Lib.hid (RN.up N8.out hX)
    replace N9 := Lib.hid (RN.up N9.out hX)
    have N11 := Lib.hid o14_4
    clear hX o14_3 o14_4
    rename World => X14_k
    go_upto_region 15 with fail
    refine Par.region_ext (by kernel_rfl) 13 [0, 0, 0, 0, 0, 28, 0, 64, 254, 0, 512, 2047, 4095] [] (fun j f X => match j with
     | 0 => f 0 = .agg ccs
     | 1 => f 1 = .agg ccs
     | 2 => f 2 = .agg ccs
     | 3 => f 3 = .slice A14_4 (digs 4294967296 u3).length c14_4
     | 4 => f 4 = .slice A14_4 (digs 4294967296 u3).length c14_4
     | 5 => ∃ A1 c1, f 5 = .slice A1 (digs 4294967296 u4).length c1 ∧ RU X A1 c1 (digs 4294967296 u4)
     | 6 => f 6 = .pointer (some ⟨q + 1, 1, none⟩)
     | 7 => f 7 = .slice A1 (digs 4294967296 x).length k1
     | 8 => ∃ A1 c1, f 8 = .slice A1 (digs 4294967296 u5).length c1 ∧ RU X A1 c1 (digs 4294967296 u5)
     | 9 => f 9 = .pointer (some ⟨q + 2, 1, none⟩)
     | 10 => f 10 = .slice B1 (digs 4294967296 qx).length m1
     | 11 => ∃ A1 c1, f 11 = .slice A1 (digs 4294967296 u6).length c1 ∧ RU X A1 c1 (digs 4294967296 u6)
     | 12 => ∃ A1 c1, f 12 = .slice A1 (digs 4294967296 u6).length c1 ∧ RU X A1 c1 (digs 4294967296 u6)
     | _ => True) (by kernel_rfl) [(78, 0), (79, 1), (80, 2), (81, 3), (82, 4), (83, 5), (84, 6), (85, 7), (86, 8), (87, 9), (88, 10), (89, 11), (12, 12)] (by kernel_rfl) ?_
    refine lV0 1 12 (hE.at_ hcb) (by rw [Hccs.out]; exact infoRC) ?_
    refine lV0 2 11 (hE.at_ hcb) (by rw [Hccs.out]; exact infoRC) ?_
    refine lV0 3 10 (hE.at_ hcb) (by rw [Hccs.out]; exact infoRC) ?_
    refine Par.v0 4 9 ?_
    refine Par.v0 5 8 ?_
    refine rc 6 7 2 3 4 (fun _ _ hX h => ⟨_, _, h, (RN.up N11.out hX)⟩) (fun _ _ hX h => ⟨_, _, h, (RN.up N11.out hX)⟩) (fun X hX _ _ _ _ h h' => times_r X HF.out (hRC.out.ext (hE.trans hX)) h h' L_u3.out L_u3.out) E_u4.out ?_
    refine Par.v0 7 6 ?_
    refine Par.ld1 8 5 6 (hE.cell j1) ?_
    refine rc 9 4 1 5 7 (fun _ _ _ h => h) (fun _ _ hX h => ⟨_, _, h, (RN.up HX1.out (hE.trans hX))⟩) (fun X hX _ _ _ _ h h' => minus_r X HF.out (hRC.out.ext (hE.trans hX)) h h' L_u4.out hx.out) E_u5.out ?_
    refine Par.v0 10 3 ?_
    refine Par.ld1 11 2 9 (hE.cell t1) ?_
    refine rc 12 1 0 8 10 (fun _ _ _ h => h) (fun _ _ hX h => ⟨_, _, h, (RN.up HX4.out (hE.trans hX))⟩) (fun X hX _ _ _ _ h h' => minus_r X HF.out (hRC.out.ext (hE.trans hX)) h h' L_u5.out hqx.out) E_u6.out ?_
    refine Par.S 13 0 [(78, 0), (79, 1), (80, 2), (81, 3), (82, 4), (83, 5), (84, 6), (85, 7), (86, 8), (87, 9), (88, 10), (89, 11)] (fun f X hX hR K hK => ?_) ?_
    · obtain ⟨A15_11, c15_11, (e11 : f 11 = _), o15_11⟩ := hR.out 11 rfl
      simp only [yA, yB, yC, yD, yE, e11]
      refine ⟨?_⟩
      go_simp
      exact hK.out _ _ _ (by simp only [yA, yB, yC, yD, yE, e11]) (Ext.refl _) trivial (fun Y hY => ⟨A15_11, c15_11, rfl, RN.up o15_11 hY⟩)
    refine Par.AllOps.fin ⟨fun f X hX hR hal hap => ?_⟩
    obtain ⟨A15_5, c15_5, (e5 : f 5 = _), o15_5⟩ := hR 5 (by decide)
    obtain ⟨A15_8, c15_8, (e8 : f 8 = _), o15_8⟩ := hR 8 (by decide)
    obtain ⟨A15_11, c15_11, (e11 : f 11 = _), o15_11⟩ := hR 11 (by decide)
    obtain ⟨A15_12, c15_12, (e12 : f 12 = _), o15_12⟩ := hR 12 (by decide)
    simp only [yA, yB, yD, yE, e5, e8, e11, e12]
    clear hR hal hap e5 e8 e11 e12
    refine Par.Chain.done ?_
    replace hE := hE.trans hX
    replace N7 := Lib.hid (RN.up N7.out hX)
    replace N8 := Lib.hid (RN.up N8.out hX)
    replace N9 := Lib.hid (RN.up N9.out hX)
    replace N11 := Lib.hid (RN.up N11.out hX)
    have N12 := Lib.hid o15_12
    clear hX o15_5 o15_8 o15_11 o15_12
    rename World => X15_k
    have hb1 := hE.at_ hrb
    go_upto_region 16 with fail
    refine Par.region_ext (by kernel_rfl) 14 [0, 0, 0, 0, 0, 0, 32, 0, 240, 508, 0, 1024, 4094, 8191, 16383] [] (fun j f X => match j with
     | 0 => f 0 = .slice A15_12 (digs 4294967296 u6).length c15_12
     | 1 => f 1 = .agg ccs
     | 2 => f 2 = .agg ccs
     | 3 => f 3 = .slice A14_4 (digs 4294967296 u3).length c14_4
     | 4 => f 4 = .agg ccs
     | 5 => f 5 = .pointer (some ⟨q + 1, 1, none⟩)
     | 6 => f 6 = .slice A1 (digs 4294967296 x).length k1
     | 7 => f 7 = .slice A15_12 (digs 4294967296 u6).length c15_12
     | 8 => ∃ A1 c1, f 8 = .slice A1 (digs 4294967296 u7).length c1 ∧ RU X A1 c1 (digs 4294967296 u7)
     | 9 => ∃ A1 c1, f 9 = .slice A1 (digs 4294967296 u8).length c1 ∧ RU X A1 c1 (digs 4294967296 u8)
     | 10 => f 10 = .pointer (some ⟨q + 1, 2, none⟩)
     | 11 => f 11 = .slice A2 (digs 4294967296 y).length k2
     | 12 => ∃ A1 c1, f 12 = .slice A1 (digs 4294967296 u9).length c1 ∧ RU X A1 c1 (digs 4294967296 u9)
     | 13 => ∃ A1 c1 A2 c2, f 13 = .agg #[.bool false, .slice A1 (digs 4294967296 u6).length c1, .slice A2 (digs 4294967296 u9).length c2] ∧ RU X A1 c1 (digs 4294967296 u6) ∧ RU X A2 c2 (digs 4294967296 u9)
     | _ => True) (by kernel_rfl) [(90, 0), (91, 1), (92, 2), (93, 3), (94, 4), (95, 5), (96, 6), (97, 7), (98, 8), (99, 9), (100, 10), (101, 11), (102, 12), (103, 13)] (by kernel_rfl) ?_
    refine Par.v0 1 13 ?_
    refine lV0 2 12 (hE.at_ hcb) (by rw [Hccs.out]; exact infoRC) ?_
    refine lV0 3 11 (hE.at_ hcb) (by rw [Hccs.out]; exact infoRC) ?_
    refine Par.v0 4 10 ?_
    refine lV0 5 9 (hE.at_ hcb) (by rw [Hccs.out]; exact infoRC) ?_
    refine Par.v0 6 8 ?_
    refine Par.ld1 7 7 5 (hE.cell j1) ?_
    refine Par.v0 8 6 ?_
    refine rc 9 5 4 6 7 (fun _ _ hX h => ⟨_, _, h, (RN.up HX1.out (hE.trans hX))⟩) (fun _ _ hX h => ⟨_, _, h, (RN.up N12.out hX)⟩) (fun X hX _ _ _ _ h h' => minus_r X HF.out (hRC.out.ext (hE.trans hX)) h h' hx.out L_u6.out) E_u7.out ?_
    refine rc 10 4 2 3 8 (fun _ _ hX h => ⟨_, _, h, (RN.up N11.out hX)⟩) (fun _ _ _ h => h) (fun X hX _ _ _ _ h h' => times_r X HF.out (hRC.out.ext (hE.trans hX)) h h' L_u3.out L_u7.out) E_u8.out ?_
    refine Par.v0 11 3 ?_
    refine Par.ld1 12 2 10 (hE.cell j2) ?_
    refine rc 13 1 1 9 11 (fun _ _ _ h => h) (fun _ _ hX h => ⟨_, _, h, (RN.up HX2.out (hE.trans hX))⟩) (fun X hX _ _ _ _ h h' => minus_r X HF.out (hRC.out.ext (hE.trans hX)) h h' L_u8.out hy.out) E_u9.out ?_
    refine Par.S 14 0 [(90, 0), (91, 1), (92, 2), (93, 3), (94, 4), (95, 5), (96, 6), (97, 7), (98, 8), (99, 9), (100, 10), (101, 11), (102, 12)] (fun f X hX hR K hK => ?_) ?_
    · have e0 : f 0 = _ := hR.out 0 rfl
      obtain ⟨A16_12, c16_12, (e12 : f 12 = _), o16_12⟩ := hR.out 12 rfl
      simp only [yA, yB, yC, yD, yE, e0, e12]
      refine ⟨?_⟩
      go_simp
      exact hK.out _ _ _ (by simp only [yA, yB, yC, yD, yE, e0, e12]) (Ext.refl _) trivial (fun Y hY => ⟨_, _, _, _, rfl, RN.up N12.out (hX.trans hY), RN.up o16_12 hY⟩)
    refine Par.AllOps.fin ⟨fun f X hX hR hal hap => ?_⟩
    obtain ⟨A16_8, c16_8, (e8 : f 8 = _), o16_8⟩ := hR 8 (by decide)
    obtain ⟨A16_9, c16_9, (e9 : f 9 = _), o16_9⟩ := hR 9 (by decide)
    obtain ⟨A16_12, c16_12, (e12 : f 12 = _), o16_12⟩ := hR 12 (by decide)
    obtain ⟨Ax1, cx1, Ay1, cy1, (e13 : f 13 = _), ox1, oy1⟩ := hR 13 (by decide)
    simp only [yA, yB, yD, yE, e8, e9, e12, e13]
    clear hR hal hap e8 e9 e12 e13
    refine Par.Chain.next (fun K hK => ⟨Par.want (by kernel_rfl) (wp_storeV (cs' := #[.bool false, .slice Ax1 (digs 4294967296 u6).length cx1, .slice Ay1 (digs 4294967296 u9).length cy1]) (t := 34) 34 (.tmp 6) (.tmp 103) rfl rfl rfl rfl (hX.at_ hb1) infoRP rfl (pt_one _ _ _ _ _ _ _) (fun Y hY1 hY2 hY3 => hK.out _ _ ?_))⟩)
    refine Par.Chain.done ?_
    go_wp2
    exact end_rpt rfl rfl rfl hY1 ⟨_, rfl, ⟨_, _, _, _, rfl, ox1.offJ hY2 (hX.at_ hb1) (by kernel_rfl), oy1.offJ hY2 (hX.at_ hb1) (by kernel_rfl)⟩, hY2.ext (HE0.out.trans (hE.trans hX)) (by have := Hq.out; omega)⟩
def rnegP (M : Nat) (bi : Bool) (x y : Nat) : Bool × Nat × Nat := if bi then (true, 0, 0) else (false, x, sm M 0 y)
set_option maxRecDepth 100000 in
set_option maxHeartbeats 8000000 in
theorem rneg_n {C : Crv} {ccs : Array Value} {bi : Bool} {A1 A2 : Option Addr} {k1 k2 x y : Nat} (hF : C.Fine) (w : World) (hc : RC w C (.agg ccs)) (hj1 : RU w A1 k1 (digs 4294967296 x)) (hj2 : RU w A2 k2 (digs 4294967296 y)) (hp : bi = false → y < C.M) :
 Calls Try.prog 38 #[.agg ccs, .agg #[.bool bi, .slice A1 (digs 4294967296 x).length k1, .slice A2 (digs 4294967296 y).length k2]] w fun e w' => ∃ o, e = .returned o ∧ RPv w' o (rnegP C.M bi x y).1 (rnegP C.M bi x y).2.1 (rnegP C.M bi x y).2.2 ∧ Ext w w' := by
 obtain ⟨Ap, An, Ab, Ax, Ay, cp, cn, cb, cx, cy, hccs, hP, hN, hB, hX1, hY1⟩ := hc
 injection hccs with hccs
 have hRC0 : RC w C (.agg ccs) := ⟨Ap, An, Ab, Ax, Ay, cp, cn, cb, cx, cy, by rw [hccs], hP, hN, hB, hX1, hY1⟩
 obtain ⟨W0, hW0⟩ : ∃ W0, W0 = ((w.alloc (.cells ccs 31)).alloc (.cells #[.bool bi, .slice A1 (digs 4294967296 x).length k1, .slice A2 (digs 4294967296 y).length k2] 34)).alloc (.cells #[.bool false, .slice none 0 0, .slice none 0 0] 34) := ⟨_, rfl⟩
 obtain ⟨q, hq⟩ : ∃ q, w.heap.size = q := ⟨_, rfl⟩
 have hE0 : Ext w W0 := by rw [hW0]; exact ((Ext.alloc _ _).trans (Ext.alloc _ _)).trans (Ext.alloc _ _)
 obtain ⟨hcb, hpb, hrb, hz0⟩ := three_w w (.cells ccs 31) (.cells #[.bool bi, .slice A1 (digs 4294967296 x).length k1, .slice A2 (digs 4294967296 y).length k2] 34) (.cells #[.bool false, .slice none 0 0, .slice none 0 0] 34)
 rw [← hW0, hq] at hcb hpb hrb hz0
 have hRC := Lib.hid (hRC0.ext hE0)
 have Hccs := Lib.hid (show ccs.size = 6 by rw [hccs]; rfl)
 have HX1 := Lib.hid (RN.up hj1 hE0)
 have HX2 := Lib.hid (RN.up hj2 hE0)
 have HF := Lib.hid hF
 have HE0 := Lib.hid hE0
 clear hRC0 hccs hP hN hB hX1 hY1 hj1 hj2 hF hE0 hz0
 cases bi
 case true =>
  rw [show rnegP C.M true x y = (true, 0, 0) from rfl]
  go_enter Try.func38, Try.ntmps38
  go_upto_region 1 with fail
  rw [← hW0]
  have Hq := Lib.hid hq
  clear hW0 hq
  obtain ⟨y0, y1, y2, f0, f1, f2⟩ := pt_facts hpb
  obtain ⟨z0, z1, z2, g0, g1, g2⟩ := pt_facts hrb
  go_wp2
  exact end_rpt rfl rfl rfl (pt_set hrb _ _ _) ⟨_, rfl, RPv.inf_ _, pt_ext HE0.out (by have := Hq.out; omega) _ _ _⟩
 case false =>
  obtain ⟨ny, hny⟩ : ∃ v, sm C.M 0 y = v := ⟨_, rfl⟩
  have hmin := fun X (hX : Ext W0 X) => minus_r (A := none) (c := 0) (x := 0) X HF.out (hRC.out.ext hX) (RN.nil0 X) (RN.up HX2.out hX) (by have := HF.out.three; omega) (hp rfl)
  rw [show rnegP C.M false x y = (false, x, ny) by rw [← hny]; rfl]
  simp only [hny, digs_zero] at hmin
  have Hmin := Lib.hid hmin
  clear hmin hny hp
  go_enter Try.func38, Try.ntmps38
  go_upto_region 1 with fail
  rw [← hW0]
  have Hq := Lib.hid hq
  clear hW0 hq
  obtain ⟨y0, y1, y2, f0, f1, f2⟩ := pt_facts hpb
  go_upto_region 3 with fail
  clear f0 f1 f2
  refine Par.region_ext (by kernel_rfl) 7 [0, 1, 0, 0, 8, 28, 63, 127] [] (fun j f X => match j with
   | 0 => f 0 = .pointer (some ⟨q + 1, 1, none⟩)
   | 1 => f 1 = .slice A1 (digs 4294967296 x).length k1
   | 2 => f 2 = .agg ccs
   | 3 => f 3 = .pointer (some ⟨q + 1, 2, none⟩)
   | 4 => f 4 = .slice A2 (digs 4294967296 y).length k2
   | 5 => ∃ A c, f 5 = .slice A (digs 4294967296 ny).length c ∧ RU X A c (digs 4294967296 ny)
   | 6 => ∃ A c, f 6 = .agg #[.bool false, .slice A1 (digs 4294967296 x).length k1, .slice A (digs 4294967296 ny).length c] ∧ RU X A c (digs 4294967296 ny)
   | _ => True) (by kernel_rfl) [(8, 0), (9, 1), (10, 2), (11, 3), (12, 4), (13, 5), (14, 6)] (by kernel_rfl) ?_
  refine Par.v0 1 6 ?_
  refine Par.ld1 2 5 0 y1 ?_
  refine lV0 3 4 hcb (by rw [Hccs.out]; exact infoRC) ?_
  refine Par.v0 4 3 ?_
  refine Par.ld1 5 2 3 y2 ?_
  refine Par.c0 6 1 (fun f => #[f 2, Value.slice none 0 0, f 4]) (F' := 54) (fun f X hX hR => ?_) ?_
  · have e2 : f 2 = _ := hR.out 2 rfl
    have e4 : f 4 = _ := hR.out 4 rfl
    simp only [e2, e4]
    refine (Hmin.out X hX).mono ?_
    rintro e w2 ⟨A1, c1, rfl, hO, hB⟩
    exact ⟨_, rfl, hB, fun Y hY => ⟨A1, c1, rfl, RN.up hO hY⟩⟩
  refine Par.S 7 0 [(8, 0), (9, 1), (10, 2), (11, 3), (12, 4), (13, 5)] (fun f X hX hR K hK => ?_) ?_
  · have e1 : f 1 = _ := hR.out 1 rfl
    obtain ⟨A5, c5, (e5 : f 5 = _), h5⟩ := hR.out 5 rfl
    simp only [yA, yB, yC, yD, yE, e1, e5]
    refine ⟨?_⟩
    go_simp
    exact hK.out _ _ _ (by simp only [yA, yB, yC, yD, yE, e1, e5]) (Ext.refl _) trivial (fun Y hY => ⟨A5, c5, rfl, RN.up h5 hY⟩)
  refine Par.AllOps.fin ⟨fun f X hX hR hal hap => ?_⟩
  obtain ⟨A5, c5, (e5 : f 5 = _), h5⟩ := hR 5 (by decide)
  obtain ⟨A6, c6, (e6 : f 6 = _), h6⟩ := hR 6 (by decide)
  simp only [yA, yB, yD, yE, e5, e6]
  clear hR hal hap e5 e6
  refine Par.Chain.next (fun K hK => ⟨Par.want (by kernel_rfl) (wp_storeV (cs' := #[.bool false, .slice A1 (digs 4294967296 x).length k1, .slice A6 (digs 4294967296 ny).length c6]) (t := 34) 34 (.tmp 4) (.tmp 14) rfl rfl rfl rfl (hX.at_ hrb) infoRP rfl (pt_one _ _ _ _ _ _ _) (fun Y hY1 hY2 hY3 => hK.out _ _ ?_))⟩)
  refine Par.Chain.done ?_
  go_wp2
  exact end_rpt rfl rfl rfl hY1 ⟨_, rfl, ⟨_, _, _, _, rfl, (RN.up HX1.out hX).offJ hY2 (hX.at_ hrb) (by kernel_rfl), h6.offJ hY2 (hX.at_ hrb) (by kernel_rfl)⟩, hY2.ext (HE0.out.trans hX) (by have := Hq.out; omega)⟩
end Go.Proofs.Ytldhmjfjbalakaa

namespace Go.Proofs.Ytldhmjfjbalakaa
open Gl

def trip (o : Option (Nat × Nat)) : Bool × Nat × Nat := (o.isNone, o.elim 0 (·.1), o.elim 0 (·.2))
section
variable {M : Nat} [NeZero M] {b : Fin M}
theorem pair_val {X Y : Fin M} {x y : Nat} (hx : ph x = X) (hy : ph y = Y) (lx : x < M) (ly : y < M) : ((false, x, y) : Bool × Nat × Nat) = trip (natP (some (X, Y))) := by
 subst hx hy
 show (false, x, y) = (false, (ph (p := M) x).val, (ph (p := M) y).val)
 rw [ph_val, ph_val, Nat.mod_eq_of_lt lx, Nat.mod_eq_of_lt ly]
theorem inv_ph (hp : Pm.Prime M) (h : Cv ivp b) {d : Nat} {D : Fin M} (hd : ph d = D) (hD : D ≠ 0) : ph (p := M) (invNum d M).1 = ivp D := by
 subst hd
 have h1 := inv_ok hp (fun e => hD (ph_zero.2 e))
 have h2 := h.inv _ hD
 exact h.cancel hD (h1.trans h2.symm)
theorem raddA_rp (hp : Pm.Prime M) (h : Cv ivp b) {x y u v : Nat} (hne : ph (p := M) x ≠ ph u) : raddA M x y u v = trip (natP (M := M) (ad ivp (some (ph x, ph y)) (some (ph u, ph v)))) := by
 rw [ad_chord hne]
 have hi := inv_ph hp h (d := sm M u x) (ph_sm u x) (by intro e; exact hne (by grind))
 unfold raddA
 refine pair_val ?_ ?_ (Gl.sm_lt _ _) (Gl.sm_lt _ _)
 · simp only [ph_sm, ph_mm, hi]
 · simp only [ph_sm, ph_mm, hi]
theorem raddD_rp (hp : Pm.Prime M) (h : Cv ivp b) {x y : Nat} (hy : 2 * ph (p := M) y ≠ 0) : raddD M x y x = trip (natP (M := M) (ad ivp (some (ph x, ph y)) (some (ph x, ph y)))) := by
 rw [ad_self]
 have h2 : (ph (p := M) 2) = 2 := rfl
 have h3 : (ph (p := M) 3) = 3 := rfl
 have hi := inv_ph hp h (d := mm M 2 y) (by rw [ph_mm, h2]) hy
 unfold raddD
 refine pair_val ?_ ?_ (Gl.sm_lt _ _) (Gl.sm_lt _ _)
 · simp only [ph_sm, ph_mm, hi, h3]
 · simp only [ph_sm, ph_mm, hi, h3]
theorem radd_rp (hp : Pm.Prime M) (h : Cv ivp b) {bi bj : Bool} {x y u v : Nat} (hP : On b (toP bi x y)) (hQ : On b (toP bj u v)) (hx : bi = false → x < M ∧ y < M) (hu : bj = false → u < M ∧ v < M) (hx0 : bi = true → x = 0 ∧ y = 0) (hu0 : bj = true → u = 0 ∧ v = 0) :
 raddP M bi x y bj u v = trip (natP (M := M) (ad ivp (toP bi x y) (toP bj u v))) := by
 cases bi
 · cases bj
   · obtain ⟨lx, ly⟩ := hx rfl
     obtain ⟨lu, lv⟩ := hu rfl
     simp only [raddP, Bool.false_eq_true, if_false]
     show _ = trip (natP (ad ivp (some (ph x, ph y)) (some (ph u, ph v))))
     by_cases hxu : x = u
     · subst hxu
       rw [if_pos rfl]
       by_cases hyv : y = v
       · subst hyv
         rw [if_pos rfl]
         have hy2 := h.y2 hP
         rw [if_neg (fun e => by rw [e, ph0] at hy2; exact hy2 (by grind))]
         exact raddD_rp hp h hy2
       · rw [if_neg hyv, ad_opp (fun e => hyv (ph_inj ly lv e))]
         rfl
     · rw [if_neg hxu]
       exact raddA_rp hp h (fun e => hxu (ph_inj lx lu e))
   · show (false, x, y) = _
     obtain ⟨lx, ly⟩ := hx rfl
     show _ = trip (natP (ad ivp (toP false x y) none))
     rw [ad_none, natP_toP lx ly]
     rfl
 · show (bj, u, v) = _
   cases bj
   · obtain ⟨lu, lv⟩ := hu rfl
     show _ = trip (natP (toP (M := M) false u v))
     rw [natP_toP lu lv]
     rfl
   · obtain ⟨rfl, rfl⟩ := hu0 rfl
     rfl
end
theorem add_agree {c : Int} {C : Crv} (hC : IsC c C) {bi bj : Bool} {x y u v x' y' u' v' : Nat} (h1 : onQ C bi x y = true) (h2 : onQ C bj u v = true) (hx : (if bi then 0 else x) = x') (hy : (if bi then 0 else y) = y') (hu : (if bj then 0 else u) = u') (hv : (if bj then 0 else v) = v') :
 ∃ S, addC C bi x y bj u v = some S ∧ raddP C.M bi x' y' bj u' v' = trip S := by
 obtain ⟨_, hp, hc⟩ := hC.cv
 have g1 := onQ_onB h1
 have g2 := onQ_onB h2
 have hP := onQ_on (M := C.M) (b := ph C.bb) rfl g1
 have hQ := onQ_on (M := C.M) (b := ph C.bb) rfl g2
 refine ⟨_, by unfold addC; rw [if_pos h1, if_pos h2], ?_⟩
 rw [add_rp hp hc hP hQ]
 have e1 : toP (M := C.M) bi x y = toP bi x' y' := by subst hx hy; cases bi <;> rfl
 have e2 : toP (M := C.M) bj u v = toP bj u' v' := by subst hu hv; cases bj <;> rfl
 rw [e1] at hP ⊢
 rw [e2] at hQ ⊢
 exact radd_rp hp hc hP hQ (fun h => by subst h hx hy; exact onB_lt (g1 rfl)) (fun h => by subst h hu hv; exact onB_lt (g2 rfl)) (fun h => by subst h; exact ⟨hx.symm, hy.symm⟩) (fun h => by subst h; exact ⟨hu.symm, hv.symm⟩)
theorem addC_off1 {C : Crv} {bi bj : Bool} {x y u v : Nat} (h : onQ C bi x y = false) : addC C bi x y bj u v = none := by unfold addC; rw [if_neg (by rw [h]; decide)]
theorem addC_off2 {C : Crv} {bi bj : Bool} {x y u v : Nat} (h : onQ C bj u v = false) : addC C bi x y bj u v = none := by unfold addC; rw [if_neg (show ¬ onQ C bj u v = true by rw [h]; decide)]; split <;> rfl
theorem negC_off {C : Crv} {bi : Bool} {x y : Nat} (h : onQ C bi x y = false) : negC C bi x y = none := by unfold negC; rw [if_neg (by rw [h]; decide)]
theorem neg_agree {C : Crv} {bi : Bool} {x y x' y' : Nat} (h1 : onQ C bi x y = true) (hx : (if bi then 0 else x) = x') (hy : (if bi then 0 else y) = y') : ∃ S, negC C bi x y = some S ∧ rnegP C.M bi x' y' = trip S := by
 refine ⟨_, by unfold negC; rw [if_pos h1], ?_⟩
 subst hx hy
 cases bi
 · obtain ⟨lx, ly⟩ := onB_lt h1
   show (false, x, sm C.M 0 y) = (false, x, (C.M - y) % C.M)
   rw [sm, Nat.mod_eq_of_lt ly, Nat.zero_add]
 · rfl
end Go.Proofs.Ytldhmjfjbalakaa

namespace Go.Proofs.Ytldhmjfjbalakaa
open Go.RowKit

theorem RS.at1 {w : World} {P : Nat → Prop} {A : Option Addr} {c : Nat} {l : List Nat} (h : RS w P 1 A l.length c (nts l)) {i : Nat} (hi : i < l.length) : ∃ ad, A = some ad ∧ w.cell? (ad.add i) = some (.int .u64 (dg l i : Int)) := by
 obtain ⟨ad, e, _, hc⟩ := h.2.2.2 (by omega)
 exact ⟨ad, e, hc i _ (nts_get hi)⟩
set_option maxHeartbeats 400000 in
theorem trim_w (P : Nat → Prop) (A : Option Addr) (c : Nat) (l : List Nat) (w : World) (h : RS w P 1 A l.length c (nts l)) (_hb : l.length ≤ 70368744177664) (hx : ∀ x ∈ l, x < 18446744073709551616) :
 Calls Try.prog 60 #[.slice A l.length c] w fun e w' => (∃ A' n' c', e = .returned (.slice A' n' c')) ∧ w = w' := by
 have h1 := h.1
 have h2 : c ≤ 9223372036854775807 := h.2.1
 have Hx := Lib.hid hx
 clear hx
 go_enter Try.func60, Try.ntmps60
 go_wp2
 go_loop [3] (fun n => ∃ k : Nat, k ≤ l.length ∧ n = .int .i64 k) (fun n => (intOf n).toNat)
 case atStart => exact ⟨l.length, Nat.le_refl _, rfl⟩
 case round =>
  obtain ⟨k, hk, rfl⟩ := hrel
  rcases k with _ | k
  · go_wp2
    go_ret
    exact ⟨⟨_, _, _, rfl⟩, rfl⟩
  · obtain ⟨ad, rfl, hc⟩ := h.at1 (i := k) (by omega)
    by_cases h0 : dg l k = 0
    · rw [h0] at hc
      clear h0
      go_wp2
      go_round
      case rel => exact ⟨k, by omega, by go_num⟩
      case measure => simp [intOf]
    · have h0' : (((dg l k : Nat) : Int) == 0) = false := eqB (by omega)
      clear h0
      go_wp2
      go_ret
      exact ⟨⟨_, _, _, rfl⟩, rfl⟩
theorem RS.of_blk {w : World} {g : Nat} {l : List Nat} {c : Nat} (h : Blk w g l) (hc : l.length ≤ c) (hc' : c ≤ maxLen) : RS w (fun _ => True) 1 (some ⟨g, 0, none⟩) l.length c (nts l) :=
 ⟨hc, hc', by simp [nts], fun hn => ⟨_, rfl, trivial, fun j u hu => by
  have hj : j < l.length := by have := (List.getElem?_eq_some_iff.1 hu).1; simpa [nts] using this
  have := h.cell (i := j) hj
  rw [nts_get hj] at hu
  injection hu with hu
  subst hu
  rw [add_blk]
  exact this⟩⟩
set_option maxRecDepth 100000 in
set_option maxHeartbeats 1000000 in
theorem from_w (P : Nat → Prop) (A : Option Addr) (c : Nat) (l : List Nat) (w : World) (h : RL w P A c l) (hP : ∀ b, P b → b < w.heap.size) :
 Calls Try.prog 19 #[.slice A l.length c] w fun e w' => (∃ A1 n1 c1, e = .returned (.slice A1 n1 c1)) ∧ Below w.heap.size w w' := by
 have h1 := h.1.1
 have h2 : c ≤ 9223372036854775807 := h.1.2.1
 have h3 := h.2.2
 have hmk := run_make_row' (P := Try.prog) 29 72 (.int .u64 0) 8 Try.underlying29 info64 rfl .i64 .i64 (2 * l.length) (by omega) (by omega)
 simp only [Int.natCast_mul, Int.cast_ofNat_Int] at hmk
 go_enter Try.func19, Try.ntmps19
 go_wp2
 go_loopw [4] (fun iv wr => ∃ (i : Nat) (o : List Nat), iv = .int .i64 (i : Int) ∧ i ≤ l.length ∧ FromAt l o i ∧ (∀ x ∈ o, x < 18446744073709551616) ∧ Blk wr w.heap.size o ∧ Below w.heap.size w wr) (fun iv _ => l.length - (intOf iv).toNat)
 case atStart => exact ⟨0, List.replicate (2 * l.length) 0, rfl, by omega, FromAt.zero _, by simp, Blk.made w _, (Below.refl _ w).alloc (Nat.le_refl _) _⟩
 case round =>
  obtain ⟨i, o, rfl, hi, hF, hLo, hblk, hB⟩ := hrel
  by_cases hlt : i < l.length
  · obtain ⟨ad, rfl, q1⟩ := RS.at1 (h.below hB hP).1 hlt
    have hol := hF.1
    have hxi : dg l i < 18446744073709551616 := by rw [getD_eq hlt]; exact h.2.1 _ (List.getElem_mem hlt)
    obtain ⟨p, q, hp, hq, he, e1, e2⟩ : ∃ p q : Nat, p < 4294967296 ∧ q < 4294967296 ∧ p + 4294967296 * q = dg l i ∧ (dg l i : Int) % 4294967296 = (p : Int) ∧ (dg l i : Int) / 4294967296 = (q : Int) :=
     ⟨dg l i % 4294967296, dg l i / 4294967296, by omega, by omega, by omega, by omega, by omega⟩
    have q3 := hblk.cell (i := 2 * i) (by omega)
    have q4 := hblk.free (2 * i)
    have hblk1 := hblk.set (2 * i) p
    have q5 := hblk1.cell (i := 2 * i + 1) (by simp; omega)
    have q6 := hblk1.free (2 * i + 1)
    have hblk2 := hblk1.set (2 * i + 1) q
    have hLo' : ∀ x ∈ (o.set (2 * i) p).set (2 * i + 1) q, x < 18446744073709551616 := fun x hx => by
     rcases List.mem_or_eq_of_mem_set hx with hx | rfl
     · rcases List.mem_or_eq_of_mem_set hx with hx | rfl
       · exact hLo x hx
       · omega
     · omega
    have hB1 := hB.setCell (p := ⟨w.heap.size, 2 * i, none⟩) (Nat.le_refl _) (.int .u64 (p : Int))
    obtain ⟨_, e7, q7⟩ := RS.at1 (h.below hB1 hP).1 hlt
    injection e7 with e7
    subst e7
    have hB2 := hB1.setCell (p := ⟨w.heap.size, 2 * i + 1, none⟩) (Nat.le_refl _) (.int .u64 (q : Int))
    have hF' := hF.step hlt hp hq he
    have k1 : (2 : Int) * (i : Int) < 2 * (l.length : Int) := by omega
    have k2 : (2 : Int) * (i : Int) + 1 < 2 * (l.length : Int) := by omega
    have HLo := Lib.hid hLo'
    clear hF hLo hLo' hblk hB hblk1 hB1 he hol hp hq
    go_wp2
    go_roundw
    case rel => exact ⟨i + 1, (o.set (2 * i) p).set (2 * i + 1) q, by go_num, by omega, hF', HLo.out, hblk2, hB2⟩
    case measure => simp [intOf]; omega
  · obtain rfl : i = l.length := by omega
    have hol := hF.1
    have ht := trim_w _ _ (2 * l.length) _ _ (RS.of_blk hblk (by omega) (by unfold maxLen; omega)) (by omega) hLo
    rw [hol] at ht
    have Ht := Lib.hid ht
    clear hblk ht hLo hF hol
    go_wp2_with fail
    refine Ht.out.mono ?_
    rintro e w1 ⟨⟨A', n', c', rfl⟩, rfl⟩
    go_wp2
    go_ret
    exact ⟨⟨_, _, _, rfl⟩, hB⟩
end Go.Proofs.Ytldhmjfjbalakaa

namespace Go.Proofs.Ytldhmjfjbalakaa
open Go.RowKit

set_option maxRecDepth 100000 in
set_option maxHeartbeats 4000000 in
theorem rfrom_n {p : Value} {bi : Bool} {a b : List Nat} (w : World) (hp : APn w p bi a b) (hla : a.length < 100000) (hlb : b.length < 100000) : Calls Try.prog 14 #[p] w fun e w' => ∃ o, e = .returned o ∧
 RPv w' o bi (if bi then 0 else val 18446744073709551616 a) (if bi then 0 else val 18446744073709551616 b) ∧ Ext w w' := by
 obtain ⟨A, A', ca, cb, rfl, hx, hy⟩ := hp
 obtain ⟨W0, hW0⟩ : ∃ W0, W0 = (w.alloc (.cells #[.bool bi, .slice A a.length ca, .slice A' b.length cb] 27)).alloc (.cells #[.bool false, .slice none 0 0, .slice none 0 0] 34) := ⟨_, rfl⟩
 obtain ⟨q, hq⟩ : ∃ q, w.heap.size = q := ⟨_, rfl⟩
 have hE0 : Ext w W0 := by rw [hW0]; exact (Ext.alloc _ _).trans (Ext.alloc _ _)
 obtain ⟨h1, h2, hz0⟩ := two_at2 w (.cells #[.bool bi, .slice A a.length ca, .slice A' b.length cb] 27) (.cells #[.bool false, .slice none 0 0, .slice none 0 0] 34)
 rw [← hW0, hq] at h1 h2 hz0
 have p0 := blk_cell h1 0
 have p1 := blk_cell h1 1
 have p2 := blk_cell h1 2
 simp only [List.getElem?_toArray, List.getElem?_cons_zero, List.getElem?_cons_succ] at p0 p1 p2
 have Hx := Lib.hid (RN.up hx hE0)
 have Hy := Lib.hid (RN.up hy hE0)
 have HE0 := Lib.hid hE0
 clear hx hy hE0 hz0 h1
 cases bi
 case true =>
  go_enter Try.func14, Try.ntmps14
  go_upto_region 1 with fail
  rw [← hW0]
  have Hq := Lib.hid hq
  clear hW0 hq
  go_upto_region 2 with fail
  refine Par.region_txt 1 [0, 1] [] (fun j f X => match j with
   | 0 => f 0 = .agg #[.bool true, .slice none 0 0, .slice none 0 0]
   | _ => True) (by kernel_rfl) [(5, 0)] (by kernel_rfl) ?_
  refine Par.v0 1 0 ?_
  refine Par.AllOps.fin ⟨fun f X hX hR hal hap => ?_⟩
  have e0 : f 0 = _ := hR 0 (by decide)
  simp only [yA, yB, yD, yE, e0]
  clear hR hal hap e0
  refine Par.Chain.next (fun K hK => ⟨Par.want (by kernel_rfl) (wp_storeV (cs' := #[.bool true, .slice none 0 0, .slice none 0 0]) (t := 34) 34 (.tmp 2) (.tmp 5) rfl rfl rfl rfl (hX.at_ h2) infoRP rfl (pt_one _ _ _ _ _ _ _) (fun Y hY1 hY2 hY3 => hK.out _ _ ?_))⟩)
  refine Par.Chain.done ?_
  go_wp2
  exact end_rpt rfl rfl rfl hY1 ⟨_, rfl, RPv.inf_ _, hY2.ext (HE0.out.trans hX) (by have := Hq.out; omega)⟩
 case false =>
  go_enter Try.func14, Try.ntmps14
  go_upto_region 1 with fail
  rw [← hW0]
  have Hq := Lib.hid hq
  clear hW0 hq
  go_upto_region 3 with fail
  refine Par.region_ext (by kernel_rfl) 7 [0, 1, 3, 0, 8, 31, 63, 127] [] (fun j f X => match j with
   | 0 => f 0 = .pointer (some ⟨q, 1, none⟩)
   | 1 => f 1 = .slice A a.length ca
   | 2 => ∃ B c, f 2 = .slice B (digs 4294967296 (val 18446744073709551616 a)).length c ∧ RU X B c (digs 4294967296 (val 18446744073709551616 a))
   | 3 => f 3 = .pointer (some ⟨q, 2, none⟩)
   | 4 => f 4 = .slice A' b.length cb
   | 5 => ∃ B c, f 5 = .slice B (digs 4294967296 (val 18446744073709551616 b)).length c ∧ RU X B c (digs 4294967296 (val 18446744073709551616 b))
   | 6 => f 6 = .agg #[.bool false, f 2, f 5]
   | _ => True) (by kernel_rfl) [(6, 0), (7, 1), (8, 2), (9, 3), (10, 4), (11, 5), (12, 6)] (by kernel_rfl) ?_
  refine Par.v0 1 6 ?_
  refine Par.ld1 2 5 0 p1 ?_
  refine Par.c0 3 4 (fun f => #[f 1]) (F' := 19) (fun f X hX hR => ?_) ?_
  · have e1 : f 1 = _ := hR.out 1 rfl
    simp only [e1]
    refine (from_any _ A ca a X (RN.up Hx.out hX) (fun _ h => h) hla).mono ?_
    rintro e w2 ⟨B, c, rfl, h, hB⟩
    exact ⟨(.slice B (digs 4294967296 (val 18446744073709551616 a)).length c), rfl, hB, fun Y hY => ⟨B, c, rfl, RN.up h.ru hY⟩⟩
  refine Par.v0 4 3 ?_
  refine Par.ld1 5 2 3 p2 ?_
  refine Par.c0 6 1 (fun f => #[f 4]) (F' := 19) (fun f X hX hR => ?_) ?_
  · have e4 : f 4 = _ := hR.out 4 rfl
    simp only [e4]
    refine (from_any _ A' cb b X (RN.up Hy.out hX) (fun _ h => h) hlb).mono ?_
    rintro e w2 ⟨B, c, rfl, h, hB⟩
    exact ⟨(.slice B (digs 4294967296 (val 18446744073709551616 b)).length c), rfl, hB, fun Y hY => ⟨B, c, rfl, RN.up h.ru hY⟩⟩
  refine Par.S 7 0 [(6, 0), (7, 1), (8, 2), (9, 3), (10, 4), (11, 5)] (fun f X hX hR K hK => ?_) ?_
  · obtain ⟨B2, c2, (e2 : f 2 = _), h_2⟩ := hR.out 2 rfl
    obtain ⟨B5, c5, (e5 : f 5 = _), h_5⟩ := hR.out 5 rfl
    simp only [yA, yB, yC, yD, yE, e2, e5]
    refine ⟨?_⟩
    go_simp
    exact hK.out _ (.agg #[.bool false, f 2, f 5]) _ (by simp only [yA, yB, yC, yD, yE, e2, e5]) (Ext.refl _) trivial (fun _ _ => rfl)
  refine Par.AllOps.fin ⟨fun f X hX hR hal hap => ?_⟩
  obtain ⟨B2, c2, (e2 : f 2 = _), h_2⟩ := hR 2 (by decide)
  obtain ⟨B5, c5, (e5 : f 5 = _), h_5⟩ := hR 5 (by decide)
  have e6 : f 6 = .agg #[.bool false, f 2, f 5] := hR 6 (by decide)
  simp only [yA, yB, yD, yE, e2, e5, e6]
  clear hR hal hap e2 e5 e6
  refine Par.Chain.next (fun K hK => ⟨Par.want (by kernel_rfl) (wp_storeV (cs' := #[.bool false, .slice B2 (digs 4294967296 (val 18446744073709551616 a)).length c2, .slice B5 (digs 4294967296 (val 18446744073709551616 b)).length c5]) (t := 34) 34 (.tmp 2) (.tmp 12) rfl rfl rfl rfl (hX.at_ h2) infoRP rfl (pt_one _ _ _ _ _ _ _) (fun Y hY1 hY2 hY3 => hK.out _ _ ?_))⟩)
  refine Par.Chain.done ?_
  go_wp2
  exact end_rpt rfl rfl rfl hY1 ⟨_, rfl, ⟨_, _, _, _, rfl, h_2.offJ hY2 (hX.at_ h2) (by kernel_rfl), h_5.offJ hY2 (hX.at_ h2) (by kernel_rfl)⟩, hY2.ext (HE0.out.trans hX) (by have := Hq.out; omega)⟩
set_option maxRecDepth 100000 in
set_option maxHeartbeats 4000000 in
theorem rfrom_w {P : Nat → Prop} {A A' : Option Addr} {ca cb : Nat} {a b : List Nat} (w : World) (hx : RL w P A ca a) (hy : RL w P A' cb b) (hP : ∀ b, P b → b < w.heap.size) : Calls Try.prog 14 #[.agg #[.bool false, .slice A a.length ca, .slice A' b.length cb]] w fun e w' => (∃ B n k B' n' k', e = .returned (.agg #[.bool false, .slice B n k, .slice B' n' k'])) ∧ Ext w w' := by
 obtain ⟨W0, hW0⟩ : ∃ W0, W0 = (w.alloc (.cells #[.bool false, .slice A a.length ca, .slice A' b.length cb] 27)).alloc (.cells #[.bool false, .slice none 0 0, .slice none 0 0] 34) := ⟨_, rfl⟩
 obtain ⟨q, hq⟩ : ∃ q, w.heap.size = q := ⟨_, rfl⟩
 have hE0 : Ext w W0 := by rw [hW0]; exact (Ext.alloc _ _).trans (Ext.alloc _ _)
 obtain ⟨h1, h2, hz0⟩ := two_at2 w (.cells #[.bool false, .slice A a.length ca, .slice A' b.length cb] 27) (.cells #[.bool false, .slice none 0 0, .slice none 0 0] 34)
 rw [← hW0, hq] at h1 h2 hz0
 have p0 := blk_cell h1 0
 have p1 := blk_cell h1 1
 have p2 := blk_cell h1 2
 simp only [List.getElem?_toArray, List.getElem?_cons_zero, List.getElem?_cons_succ] at p0 p1 p2
 have Hx := Lib.hid (hx.below hE0 hP)
 have Hy := Lib.hid (hy.below hE0 hP)
 have HP := Lib.hid (show ∀ b, P b → b < W0.heap.size from fun b hb => Nat.lt_of_lt_of_le (hP b hb) hE0.bsize)
 have HE0 := Lib.hid hE0
 clear hx hy hE0 hz0 h1 hP
 go_enter Try.func14, Try.ntmps14
 go_upto_region 1 with fail
 rw [← hW0]
 have Hq := Lib.hid hq
 clear hW0 hq
 go_upto_region 3 with fail
 refine Par.region_ext (by kernel_rfl) 7 [0, 1, 3, 0, 8, 31, 63, 127] [] (fun j f X => match j with
  | 0 => f 0 = .pointer (some ⟨q, 1, none⟩)
  | 1 => f 1 = .slice A a.length ca
  | 2 => ∃ B n c, f 2 = .slice B n c
  | 3 => f 3 = .pointer (some ⟨q, 2, none⟩)
  | 4 => f 4 = .slice A' b.length cb
  | 5 => ∃ B n c, f 5 = .slice B n c
  | 6 => f 6 = .agg #[.bool false, f 2, f 5]
  | _ => True) (by kernel_rfl) [(6, 0), (7, 1), (8, 2), (9, 3), (10, 4), (11, 5), (12, 6)] (by kernel_rfl) ?_
 refine Par.v0 1 6 ?_
 refine Par.ld1 2 5 0 p1 ?_
 refine Par.c0 3 4 (fun f => #[f 1]) (F' := 19) (fun f X hX hR => ?_) ?_
 · have e1 : f 1 = _ := hR.out 1 rfl
   simp only [e1]
   refine (from_w P A ca a X (Hx.out.below hX HP.out) (fun b hb => Nat.lt_of_lt_of_le (HP.out b hb) hX.bsize)).mono ?_
   rintro e w2 ⟨⟨B, n, c, rfl⟩, hB⟩
   exact ⟨(.slice B n c), rfl, hB, fun Y hY => ⟨B, n, c, rfl⟩⟩
 refine Par.v0 4 3 ?_
 refine Par.ld1 5 2 3 p2 ?_
 refine Par.c0 6 1 (fun f => #[f 4]) (F' := 19) (fun f X hX hR => ?_) ?_
 · have e4 : f 4 = _ := hR.out 4 rfl
   simp only [e4]
   refine (from_w P A' cb b X (Hy.out.below hX HP.out) (fun b hb => Nat.lt_of_lt_of_le (HP.out b hb) hX.bsize)).mono ?_
   rintro e w2 ⟨⟨B, n, c, rfl⟩, hB⟩
   exact ⟨(.slice B n c), rfl, hB, fun Y hY => ⟨B, n, c, rfl⟩⟩
 refine Par.S 7 0 [(6, 0), (7, 1), (8, 2), (9, 3), (10, 4), (11, 5)] (fun f X hX hR K hK => ?_) ?_
 · obtain ⟨B2, n2, c2, (e2 : f 2 = _)⟩ := hR.out 2 rfl
   obtain ⟨B5, n5, c5, (e5 : f 5 = _)⟩ := hR.out 5 rfl
   simp only [yA, yB, yC, yD, yE, e2, e5]
   refine ⟨?_⟩
   go_simp
   exact hK.out _ (.agg #[.bool false, f 2, f 5]) _ (by simp only [yA, yB, yC, yD, yE, e2, e5]) (Ext.refl _) trivial (fun _ _ => rfl)
 refine Par.AllOps.fin ⟨fun f X hX hR hal hap => ?_⟩
 obtain ⟨B2, n2, c2, (e2 : f 2 = _)⟩ := hR 2 (by decide)
 obtain ⟨B5, n5, c5, (e5 : f 5 = _)⟩ := hR 5 (by decide)
 have e6 : f 6 = .agg #[.bool false, f 2, f 5] := hR 6 (by decide)
 simp only [yA, yB, yD, yE, e2, e5, e6]
 clear hR hal hap e2 e5 e6
 refine Par.Chain.next (fun K hK => ⟨Par.want (by kernel_rfl) (wp_storeV (cs' := #[.bool false, .slice B2 n2 c2, .slice B5 n5 c5]) (t := 34) 34 (.tmp 2) (.tmp 12) rfl rfl rfl rfl (hX.at_ h2) infoRP rfl (pt_one _ _ _ _ _ _ _) (fun Y hY1 hY2 hY3 => hK.out _ _ ?_))⟩)
 refine Par.Chain.done ?_
 go_wp2
 exact end_rpt rfl rfl rfl hY1 ⟨⟨_, _, _, _, _, _, rfl⟩, hY2.ext (HE0.out.trans hX) (by have := Hq.out; omega)⟩
end Go.Proofs.Ytldhmjfjbalakaa

namespace Go.Proofs.Ytldhmjfjbalakaa
open Go.RowKit

def OW (w : World) (base : Nat) (A : Option Addr) (c : Nat) (bs : List Nat) : Prop := w.ownsRow base 5 1 (.slice A bs.length c) bs.length (bys bs) ∧ ∀ b ∈ bs, b < 256
theorem own_base {w : World} {base n size : Nat} {e : TypeId} {v : Value} {cs : List Value} (h : w.ownsRow base e size v n cs) (k : Nat) (hk : v.ownBlock = some k) : base ≤ k := by
 rcases h.2 with ⟨rfl, rfl⟩ | ⟨g, cap, cur, rfl, hg, _⟩
 · cases hk
 · simp [Value.ownBlock] at hk
   omega
theorem OW.rb {w : World} {base : Nat} {A : Option Addr} {c : Nat} {bs : List Nat} (h : OW w base A c bs) (hl : bs.length ≤ 100000000) : RB w (In base w.heap.size) A c bs := ⟨RS.of_own h.1, h.2, by omega⟩
theorem OW.lit (w : World) (b : Nat) (hb : b < 256) : OW (w.alloc (.cells #[.int .u8 (b : Int)] 5)) w.heap.size (some ⟨w.heap.size, 0, none⟩) 1 [b] :=
 ⟨World.ownsRow_lit w #[.int .u8 (b : Int)] 1 (Nat.le_refl _) (by unfold maxLen; omega) rfl, by simp; exact hb⟩
theorem OW.ext {w X : World} {base : Nat} {A : Option Addr} {c : Nat} {bs : List Nat} (h : OW w base A c bs) (hE : w.grownBy X none) : OW X base A c bs := ⟨own_kept h.1 hE, h.2⟩
theorem RB.upE {w X : World} {A : Option Addr} {c : Nat} {bs : List Nat} (h : RB w (fun b => b < w.heap.size) A c bs) (hE : Ext w X) : RB X (fun b => b < X.heap.size) A c bs := (h.below hE (fun _ hb => hb)).mono fun _ hb => Nat.lt_of_lt_of_le hb hE.bsize
section
variable {w : World} {ops : Array Oper} {rest : List Oper} {o : Oper} {a : Act} {Q : Exit → Act → World → Prop}
theorem app8 (hgd : o.guard = none) (s x : Operand) (ho : o.op = .call { callee := .builtin .append, args := #[s, x], argTypes := #[49, 49] }) (base : Nat) {A Au : Option Addr} {c cu : Nat} {bs cs : List Nat} {B : Nat → Prop}
 (hs : a.eval s = .slice A bs.length c) (hown : OW w base A c bs) (hx : a.eval x = .slice Au cs.length cu) (hr : RB w B Au cu cs) (hl : bs.length + cs.length ≤ 100000000) (hbase : base ≤ w.heap.size)
 (h : ∀ A' c' w', OW w' base A' c' (bs ++ cs) → Below base w w' → wpList Try.prog ops Q rest (a.put o.dst (.slice A' (bs ++ cs).length c')) w') : wpList Try.prog ops Q (o :: rest) a w := by
 obtain ⟨i0, hi, hz0, hz1, hz2⟩ := info_parts info8
 refine wpList_append_rs w hgd s x 49 ho base 5 i0 (.int .u8 0) 1 1 Try.underlying49 hi hz0 hz1 hz2 rfl (by decide) _ bs.length (bys bs) hs hown.1 B Au cs.length cu (bys cs) hx hr.1 (by intro u hu; obtain ⟨b, _, rfl⟩ := List.mem_map.1 hu; rfl) (bs.length + cs.length) rfl (by unfold maxLen; omega) (by omega) hbase ?_
 intro A' c' w' h1 h2 h3
 have hlen : (bs ++ cs).length = bs.length + cs.length := List.length_append
 refine (hlen ▸ h A' c' w' ⟨?_, ?_⟩ ?_ : _)
 · rw [hlen, show bys (bs ++ cs) = bys bs ++ bys cs by simp [bys]]
   exact h1
 · intro b hb
   rcases List.mem_append.1 hb with hb | hb
   · exact hown.2 b hb
   · exact hr.2.1 b hb
 · exact Below.grown (Below.refl base w) h2 hbase (own_base hown.1)
end
end Go.Proofs.Ytldhmjfjbalakaa
