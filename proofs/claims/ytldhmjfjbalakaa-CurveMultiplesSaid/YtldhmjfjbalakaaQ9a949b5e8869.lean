/- The reference's sum of two points: where the answer's numbers lie. -/
import Derived.Test.YtldhmjfjbalakaaQ8aafe38ab180
set_option maxRecDepth 100000
set_option maxHeartbeats 16000000
namespace Go.Proofs.Ytldhmjfjbalakaa
open Go.RowKit
def RD (D : Nat) (w : World) (A : Option Addr) (c : Nat) (l : List Nat) : Prop := RN w (fun b => b < w.heap.size ∧ (b < D ∨ Tu w b)) A c l
theorem RD.ru {D : Nat} {w : World} {A : Option Addr} {c : Nat} {l : List Nat} (h : RD D w A c l) : RU w A c l := RN.mono h fun _ hb => hb.1
theorem RT.rd {D : Nat} {w : World} {A : Option Addr} {c : Nat} {l : List Nat} (h : RT w A c l) : RD D w A c l := RN.mono h fun _ hb => ⟨hb.1, .inr hb.2⟩
theorem RN.rd {D : Nat} {w : World} {A : Option Addr} {c : Nat} {l : List Nat} (h : RU w A c l) (hD : w.heap.size ≤ D) : RD D w A c l := RN.mono h fun _ hb => ⟨hb, .inl (Nat.lt_of_lt_of_le hb hD)⟩
theorem RD.up {D : Nat} {w X : World} {A : Option Addr} {c : Nat} {l : List Nat} (h : RD D w A c l) (hE : Ext w X) : RD D X A c l := (RN.below h hE fun _ hb => hb.1).mono fun _ hb => ⟨Nat.lt_of_lt_of_le hb.1 hE.bsize, hb.2.imp id (fun g => g.ext hE)⟩
theorem RD.keep {D : Nat} {X Y : World} {A : Option Addr} {c : Nat} {l : List Nat} (h : RD D X A c l) (hz : X.heap.size ≤ Y.heap.size) (hc : ∀ p n, (p : Addr).block < X.heap.size → (p.block < D ∨ Tu X p.block) → X.cell? p = some (.int .u64 n) → Y.cell? p = some (.int .u64 n)) (ht : ∀ b, Tu X b → Tu Y b) : RD D Y A c l := by
 obtain ⟨⟨h1, h2, h3, h4⟩, h5⟩ := h
 refine ⟨⟨h1, h2, h3, fun hl => ?_⟩, h5⟩
 obtain ⟨ad, e, hb, hr⟩ := h4 hl
 refine ⟨ad, e, ⟨Nat.lt_of_lt_of_le hb.1 hz, hb.2.imp id (ht _)⟩, fun j v hv => ?_⟩
 have hv2 : ∃ n, v = .int .u64 n := by
  rw [nts_getE] at hv
  cases hq : l[j]? with
  | none => rw [hq] at hv; cases hv
  | some x => rw [hq] at hv; cases hv; exact ⟨_, rfl⟩
 obtain ⟨n, rfl⟩ := hv2
 exact hc _ n (by rw [block_of_add]; exact hb.1) (by rw [block_of_add]; exact hb.2) (hr j _ hv)
theorem RD.offJ {D : Nat} {X Y : World} {A : Option Addr} {c : Nat} {l : List Nat} {g : Nat} {cs : Array Value} {T : TypeId} {fr : Nat × Nat} (h : RD D X A c l) (hj : Just g X Y) (hg : X.heap[g]? = some (.cells cs T fr)) (hc : cs.all noInt = true) (hT : T ≠ 72) : RD D Y A c l := by
 have hr := h.ru.offJ hj hg hc
 obtain ⟨⟨h1, h2, h3, h4⟩, h5⟩ := h
 obtain ⟨⟨_, _, _, r4⟩, _⟩ := hr
 refine ⟨⟨h1, h2, h3, fun hl => ?_⟩, h5⟩
 obtain ⟨ad, e, hb, _⟩ := h4 hl
 obtain ⟨ad', e', hb', hr'⟩ := r4 hl
 have ha := e.symm.trans e'
 cases ha
 refine ⟨_, e, ⟨hb', hb.2.imp id ?_⟩, hr'⟩
 rintro ⟨cur, hcur⟩
 refine ⟨cur, hj.at_ ?_ hcur⟩
 rintro he
 rw [he, hg] at hcur
 injection Option.some.inj hcur with _ e2
 exact hT e2
def RPd (D : Nat) (w : World) (v : Value) (bi : Bool) (x y : Nat) : Prop := ∃ (A A' : Option Addr) (c c' : Nat), v = .agg #[.bool bi, .slice A (digs 4294967296 x).length c, .slice A' (digs 4294967296 y).length c'] ∧ RD D w A c (digs 4294967296 x) ∧ RD D w A' c' (digs 4294967296 y)
theorem RD.nil0 {D : Nat} (w : World) : RD D w none 0 (digs 4294967296 0) := by rw [digs_zero]; exact RN.nil_ _ _
theorem RPd.inf_ {D : Nat} (w : World) : RPd D w infV true 0 0 := ⟨none, none, 0, 0, by rw [digs_zero]; rfl, RD.nil0 _, RD.nil0 _⟩
theorem RPd.pv {D : Nat} {w : World} {v : Value} {bi : Bool} {x y : Nat} (h : RPd D w v bi x y) : RPv w v bi x y := let ⟨A, A', c, c', e, h1, h2⟩ := h; ⟨A, A', c, c', e, h1.ru, h2.ru⟩
theorem RPd.ext {D : Nat} {w X : World} {v : Value} {bi : Bool} {x y : Nat} (h : RPd D w v bi x y) (hE : Ext w X) : RPd D X v bi x y := let ⟨A, A', c, c', e, h1, h2⟩ := h; ⟨A, A', c, c', e, h1.up hE, h2.up hE⟩
theorem radd_t {D : Nat} {C : Crv} {ccs : Array Value} {bi bj : Bool} {A1 A2 B1 B2 : Option Addr} {k1 k2 m1 m2 x y qx qy : Nat} (hF : C.Fine) (h8 : 8 < C.M) (w : World) (hc : RC w C (.agg ccs)) (hj1 : RD D w A1 k1 (digs 4294967296 x)) (hj2 : RD D w A2 k2 (digs 4294967296 y)) (hq1 : RD D w B1 m1 (digs 4294967296 qx)) (hq2 : RD D w B2 m2 (digs 4294967296 qy)) (hp : bi = false → x < C.M ∧ y < C.M) (hqp : bj = false → qx < C.M ∧ qy < C.M) :
 Calls Try.prog 31 #[.agg ccs, .agg #[.bool bi, .slice A1 (digs 4294967296 x).length k1, .slice A2 (digs 4294967296 y).length k2], .agg #[.bool bj, .slice B1 (digs 4294967296 qx).length m1, .slice B2 (digs 4294967296 qy).length m2]] w fun e w' => ∃ o, e = .returned o ∧ RPd D w' o (raddP C.M bi x y bj qx qy).1 (raddP C.M bi x y bj qx qy).2.1 (raddP C.M bi x y bj qx qy).2.2 ∧ Ext w w' := by
 obtain ⟨Ap, An, Ab, Ax, Ay, cp, cn, cb, cx, cy, hccs, hP, hN, hB, hX1, hY1⟩ := hc
 injection hccs with hccs
 have hRC0 : RC w C (.agg ccs) := ⟨Ap, An, Ab, Ax, Ay, cp, cn, cb, cx, cy, by rw [hccs], hP, hN, hB, hX1, hY1⟩
 obtain ⟨W0, hW0⟩ : ∃ W0, W0 = (((w.alloc (.cells ccs 31)).alloc (.cells #[.bool bi, .slice A1 (digs 4294967296 x).length k1, .slice A2 (digs 4294967296 y).length k2] 34)).alloc (.cells #[.bool bj, .slice B1 (digs 4294967296 qx).length m1, .slice B2 (digs 4294967296 qy).length m2] 34)).alloc (.cells #[.bool false, .slice none 0 0, .slice none 0 0] 34) := ⟨_, rfl⟩
 obtain ⟨q, hq⟩ : ∃ q, w.heap.size = q := ⟨_, rfl⟩
 have hE0 : Ext w W0 := by rw [hW0]; exact (((Ext.alloc _ _).trans (Ext.alloc _ _)).trans (Ext.alloc _ _)).trans (Ext.alloc _ _)
 obtain ⟨hcb, hpb, hqb, hrb, hz0⟩ := four_w w (.cells ccs 31) (.cells #[.bool bi, .slice A1 (digs 4294967296 x).length k1, .slice A2 (digs 4294967296 y).length k2] 34) (.cells #[.bool bj, .slice B1 (digs 4294967296 qx).length m1, .slice B2 (digs 4294967296 qy).length m2] 34) (.cells #[.bool false, .slice none 0 0, .slice none 0 0] 34)
 rw [← hW0, hq] at hcb hpb hqb hrb hz0
 have j1 := blk_cell hpb 1
 have j2 := blk_cell hpb 2
 have t1 := blk_cell hqb 1
 have t2 := blk_cell hqb 2
 have cP := blk_cell hcb 0
 rw [hccs] at cP
 simp only [List.getElem?_toArray, List.getElem?_cons_zero, List.getElem?_cons_succ] at j1 j2 t1 t2 cP
 have hRC := Lib.hid (hRC0.ext hE0)
 have Hccs := Lib.hid (show ccs.size = 6 by rw [hccs]; rfl)
 have HRP := Lib.hid (RN.up hP hE0)
 have HX1 := Lib.hid (RN.up hj1.ru hE0)
 have HD1 := Lib.hid (hj1.up hE0)
 have HX2 := Lib.hid (RN.up hj2.ru hE0)
 have HD2 := Lib.hid (hj2.up hE0)
 have HX4 := Lib.hid (RN.up hq1.ru hE0)
 have HD4 := Lib.hid (hq1.up hE0)
 have HX5 := Lib.hid (RN.up hq2.ru hE0)
 have HD5 := Lib.hid (hq2.up hE0)
 have HF := Lib.hid hF
 have H8 := Lib.hid h8
 have hM0 : 0 < C.M := by omega
 have HE0 := Lib.hid hE0
 clear hRC0 hccs hP hN hB hX1 hY1 hj1 hj2 hF h8 hE0 hz0 hq1 hq2
 cases bi
 case true =>
  rw [show raddP C.M true x y bj qx qy = (bj, qx, qy) from rfl]
  go_enter Try.func31, Try.ntmps31
  go_upto_region 1 with fail
  rw [← hW0]
  have Hq := Lib.hid hq
  clear hW0 hq
  obtain ⟨y0, y1, y2, f0, f1, f2⟩ := pt_facts hpb
  obtain ⟨y0', y1', y2', f0', f1', f2'⟩ := pt_facts hqb
  obtain ⟨z0, z1, z2, g0, g1, g2⟩ := pt_facts hrb
  go_wp2
  exact end_rpt rfl rfl rfl (pt_set hrb _ _ _) ⟨_, rfl, ⟨_, _, _, _, rfl, HD4.out.offJ (pt_just _ _ _ _ _) hrb (by kernel_rfl) (by decide), HD5.out.offJ (pt_just _ _ _ _ _) hrb (by kernel_rfl) (by decide)⟩, pt_ext HE0.out (by have := Hq.out; omega) _ _ _⟩
 case false =>
  cases bj
  case true =>
   rw [show raddP C.M false x y true qx qy = (false, x, y) from rfl]
   go_enter Try.func31, Try.ntmps31
   go_upto_region 1 with fail
   rw [← hW0]
   have Hq := Lib.hid hq
   clear hW0 hq
   obtain ⟨y0, y1, y2, f0, f1, f2⟩ := pt_facts hpb
   obtain ⟨y0', y1', y2', f0', f1', f2'⟩ := pt_facts hqb
   obtain ⟨z0, z1, z2, g0, g1, g2⟩ := pt_facts hrb
   go_wp2
   exact end_rpt rfl rfl rfl (pt_set hrb _ _ _) ⟨_, rfl, ⟨_, _, _, _, rfl, HD1.out.offJ (pt_just _ _ _ _ _) hrb (by kernel_rfl) (by decide), HD2.out.offJ (pt_just _ _ _ _ _) hrb (by kernel_rfl) (by decide)⟩, pt_ext HE0.out (by have := Hq.out; omega) _ _ _⟩
  case false =>
  have hx := Lib.hid (hp rfl).1
  have hy := Lib.hid (hp rfl).2
  have hqx := Lib.hid (hqp rfl).1
  have hqy := Lib.hid (hqp rfl).2
  clear hp hqp
  by_cases hxx : x = qx
  · have Hcv := Lib.hid (show cmpV x qx = 0 from cmpV_z.2 hxx)
    by_cases hyy : y = qy
    · have Hcv2 := Lib.hid (show cmpV y qy = 0 from cmpV_z.2 hyy)
      by_cases hy0 : y = 0
      · rw [show raddP C.M false x y false qx qy = (true, 0, 0) by simp only [raddP, Bool.false_eq_true, if_false]; rw [if_pos hxx, if_pos hyy, if_pos hy0]]
        replace hy0 := Lib.hid hy0
        clear hxx hyy
        go_enter Try.func31, Try.ntmps31
        go_upto_region 1 with fail
        rw [← hW0]
        have Hq := Lib.hid hq
        clear hq hW0
        obtain ⟨y0, y1, y2, f0, f1, f2⟩ := pt_facts hpb
        obtain ⟨y0', y1', y2', f0', f1', f2'⟩ := pt_facts hqb
        have hE := Ext.refl W0
        go_upto_region 6 with fail
        clear y0 y1 y2 f0 f1 f2 y0' y1' y2' f0' f1' f2'
        refine Par.region_txt 6 [0, 1, 0, 4, 15, 31] [] (fun j f X => match j with
         | 0 => f 0 = .pointer (some ⟨q + 1, 1, none⟩)
         | 1 => f 1 = .slice A1 (digs 4294967296 x).length k1
         | 2 => f 2 = .pointer (some ⟨q + 2, 1, none⟩)
         | 3 => f 3 = .slice B1 (digs 4294967296 qx).length m1
         | 4 => f 4 = .int .i64 0
         | 5 => f 5 = .bool true
         | _ => True) (by kernel_rfl) [(19, 0), (20, 1), (21, 2), (22, 3), (23, 4), (24, 5)] (by kernel_rfl) ?_
        refine Par.v0 1 5 ?_
        refine Par.ld1 2 4 0 (hE.cell j1) ?_
        refine Par.v0 3 3 ?_
        refine Par.ld1 4 2 2 (hE.cell t1) ?_
        refine Par.c0 5 1 (fun f => #[f 1, f 3]) (F' := 51) (fun f X hX hR => ?_) ?_
        · have e1 : f 1 = _ := hR.out 1 rfl
          have e3 : f 3 = _ := hR.out 3 rfl
          simp only [e1, e3]
          refine (refCmp_any _ _ A1 B1 k1 m1 x qx X (RN.up HX1.out (hE.trans hX)) (RN.up HX4.out (hE.trans hX))).mono ?_
          rw [Hcv.out]
          rintro e w2 ⟨rfl, nq, rfl⟩
          exact ⟨(.int .i64 0), rfl, (Ext.drewN _ _), fun _ _ => rfl⟩
        refine Par.v1 6 0 4 ?_
        refine Par.AllOps.fin ⟨fun f X hX hR hal hap => ?_⟩
        have e5 : f 5 = _ := hR 5 (by decide)
        simp only [yA, yB, yD, yE, e5]
        clear hR hal hap e5
        refine Par.Chain.done ?_
        replace hE := hE.trans hX
        clear hX  
        rename World => X6_k
        go_upto_region 7 with fail
        refine Par.region_txt 12 [0, 1, 0, 4, 15, 31, 63, 127, 255, 511, 1023, 2047] [] (fun j f X => match j with
         | 0 => f 0 = .pointer (some ⟨q + 1, 2, none⟩)
         | 1 => f 1 = .slice A2 (digs 4294967296 y).length k2
         | 2 => f 2 = .pointer (some ⟨q + 2, 2, none⟩)
         | 3 => f 3 = .slice B2 (digs 4294967296 qy).length m2
         | 4 => f 4 = .int .i64 0
         | 5 => f 5 = .bool false
         | 6 => f 6 = .bool false
         | 7 => f 7 = .pointer (some ⟨q + 1, 2, none⟩)
         | 8 => f 8 = .slice A2 (digs 4294967296 y).length k2
         | 9 => f 9 = .int .i64 ((digs 4294967296 y).length : Int)
         | 10 => f 10 = .bool true
         | 11 => f 11 = .bool true
         | _ => True) (by kernel_rfl) [(25, 0), (26, 1), (27, 2), (28, 3), (29, 4), (30, 5), (31, 6), (32, 7), (33, 8), (34, 9), (35, 10), (36, 11)] (by kernel_rfl) ?_
        refine Par.v0 1 11 ?_
        refine Par.ld1 2 10 0 (hE.cell j2) ?_
        refine Par.v0 3 9 ?_
        refine Par.ld1 4 8 2 (hE.cell t2) ?_
        refine Par.c0 5 7 (fun f => #[f 1, f 3]) (F' := 51) (fun f X hX hR => ?_) ?_
        · have e1 : f 1 = _ := hR.out 1 rfl
          have e3 : f 3 = _ := hR.out 3 rfl
          simp only [e1, e3]
          refine (refCmp_any _ _ A2 B2 k2 m2 y qy X (RN.up HX2.out (hE.trans hX)) (RN.up HX5.out (hE.trans hX))).mono ?_
          rw [Hcv2.out]
          rintro e w2 ⟨rfl, nq, rfl⟩
          exact ⟨(.int .i64 0), rfl, (Ext.drewN _ _), fun _ _ => rfl⟩
        refine Par.v1 6 6 4 ?_
        refine Par.v1 7 5 5 ?_
        refine Par.v1 8 4 6 ?_
        refine Par.S 9 3 [(25, 0), (26, 1), (27, 2), (28, 3), (29, 4), (30, 5), (31, 6), (32, 7)] (fun f X hX hR K hK => ?_) ?_
        · have e6 : f 6 = _ := hR.out 6 rfl
          have e7 : f 7 = _ := hR.out 7 rfl
          have x0 := (hE.trans hX).cell j2
          simp only [yA, yB, yC, yD, yE, e6, e7]
          refine ⟨Par.want (by kernel_rfl) ?_⟩
          go_simp
          exact Par.k hK (s := by simp only [yA, yB, yC, yD, yE, e6, e7])
        refine Par.S 10 2 [(25, 0), (26, 1), (27, 2), (28, 3), (29, 4), (30, 5), (31, 6), (32, 7), (33, 8)] (fun f X hX hR K hK => ?_) ?_
        · have e6 : f 6 = _ := hR.out 6 rfl
          have e8 : f 8 = _ := hR.out 8 rfl
          simp only [yA, yB, yC, yD, yE, e6, e8]
          refine ⟨Par.want (by kernel_rfl) ?_⟩
          go_simp
          exact Par.k hK (s := by simp only [yA, yB, yC, yD, yE, e6, e8])
        refine Par.S 11 1 [(25, 0), (26, 1), (27, 2), (28, 3), (29, 4), (30, 5), (31, 6), (32, 7), (33, 8), (34, 9)] (fun f X hX hR K hK => ?_) ?_
        · have e6 : f 6 = _ := hR.out 6 rfl
          have e9 : f 9 = _ := hR.out 9 rfl
          have hz1 : decide (((digs 4294967296 y).length : Int) = 0) = true := zdec_true hy0.out
          have hz2 : decide ((digs 4294967296 y).length = 0) = true := zden_true hy0.out
          have hz4 : ((((digs 4294967296 y).length : Nat) : Int) == 0) = true := zbeq_true hy0.out
          simp only [yA, yB, yC, yD, yE, e6, e9]
          refine ⟨Par.want (by kernel_rfl) ?_⟩
          go_simp
          exact Par.k hK (s := by simp only [yA, yB, yC, yD, yE, e6, e9])
        refine Par.v2 12 0 6 10 ?_
        refine Par.AllOps.fin ⟨fun f X hX hR hal hap => ?_⟩
        have e11 : f 11 = _ := hR 11 (by decide)
        simp only [yA, yB, yD, yE, e11]
        clear hR hal hap e11
        refine Par.Chain.done ?_
        replace hE := hE.trans hX
        clear hX  
        rename World => X7_k
        have hb1 := hE.at_ hrb
        obtain ⟨z0, z1, z2, f0, f1, f2⟩ := pt_facts hb1
        go_wp2
        exact end_rpt rfl rfl rfl (pt_set hb1 _ _ _) ⟨_, rfl, RPd.inf_ _, pt_ext (HE0.out.trans hE) (by have := Hq.out; omega) _ _ _⟩
      · have hres0 : raddP C.M false x y false qx qy = raddD C.M x y qx := by simp only [raddP, Bool.false_eq_true, if_false]; rw [if_pos hxx, if_pos hyy, if_neg hy0]
        rw [hres0]
        replace hy0 := Lib.hid hy0
        clear hxx hyy hres0
        obtain ⟨u1, e_u1⟩ : ∃ v, mm C.M x x = v := ⟨_, rfl⟩
        have L_u1 := Lib.hid (show u1 < C.M by rw [← e_u1]; exact mm_lt hM0 _ _)
        have E_u1 := Lib.hid e_u1
        clear e_u1
        obtain ⟨u2, e_u2⟩ : ∃ v, mm C.M 3 u1 = v := ⟨_, rfl⟩
        have L_u2 := Lib.hid (show u2 < C.M by rw [← e_u2]; exact mm_lt hM0 _ _)
        have E_u2 := Lib.hid e_u2
        clear e_u2
        obtain ⟨u3, e_u3⟩ : ∃ v, sm C.M u2 3 = v := ⟨_, rfl⟩
        have L_u3 := Lib.hid (show u3 < C.M by rw [← e_u3]; exact sm_lt hM0 _ _)
        have E_u3 := Lib.hid e_u3
        clear e_u3
        obtain ⟨u4, e_u4⟩ : ∃ v, mm C.M 2 y = v := ⟨_, rfl⟩
        have L_u4 := Lib.hid (show u4 < C.M by rw [← e_u4]; exact mm_lt hM0 _ _)
        have E_u4 := Lib.hid e_u4
        clear e_u4
        obtain ⟨iv, hiv⟩ : ∃ v, (invNum u4 C.M).1 = v := ⟨_, rfl⟩
        obtain ⟨ib, hib⟩ : ∃ v, (invNum u4 C.M).2 = v := ⟨_, rfl⟩
        have hivl := Lib.hid (show iv < C.M by rw [← hiv]; exact invNum_lt (by have := HF.out.three; omega))
        have Hiv := Lib.hid hiv
        have Hib := Lib.hid hib
        clear hiv hib
        obtain ⟨u5, e_u5⟩ : ∃ v, mm C.M u3 iv = v := ⟨_, rfl⟩
        have L_u5 := Lib.hid (show u5 < C.M by rw [← e_u5]; exact mm_lt hM0 _ _)
        have E_u5 := Lib.hid e_u5
        clear e_u5
        obtain ⟨u6, e_u6⟩ : ∃ v, mm C.M u5 u5 = v := ⟨_, rfl⟩
        have L_u6 := Lib.hid (show u6 < C.M by rw [← e_u6]; exact mm_lt hM0 _ _)
        have E_u6 := Lib.hid e_u6
        clear e_u6
        obtain ⟨u7, e_u7⟩ : ∃ v, sm C.M u6 x = v := ⟨_, rfl⟩
        have L_u7 := Lib.hid (show u7 < C.M by rw [← e_u7]; exact sm_lt hM0 _ _)
        have E_u7 := Lib.hid e_u7
        clear e_u7
        obtain ⟨u8, e_u8⟩ : ∃ v, sm C.M u7 qx = v := ⟨_, rfl⟩
        have L_u8 := Lib.hid (show u8 < C.M by rw [← e_u8]; exact sm_lt hM0 _ _)
        have E_u8 := Lib.hid e_u8
        clear e_u8
        obtain ⟨u9, e_u9⟩ : ∃ v, sm C.M x u8 = v := ⟨_, rfl⟩
        have L_u9 := Lib.hid (show u9 < C.M by rw [← e_u9]; exact sm_lt hM0 _ _)
        have E_u9 := Lib.hid e_u9
        clear e_u9
        obtain ⟨u10, e_u10⟩ : ∃ v, mm C.M u5 u9 = v := ⟨_, rfl⟩
        have L_u10 := Lib.hid (show u10 < C.M by rw [← e_u10]; exact mm_lt hM0 _ _)
        have E_u10 := Lib.hid e_u10
        clear e_u10
        obtain ⟨u11, e_u11⟩ : ∃ v, sm C.M u10 y = v := ⟨_, rfl⟩
        have L_u11 := Lib.hid (show u11 < C.M by rw [← e_u11]; exact sm_lt hM0 _ _)
        have E_u11 := Lib.hid e_u11
        clear e_u11
        rw [show raddD C.M x y qx = (false, u8, u11) by simp only [raddD]; simp only [E_u1.out, E_u2.out, E_u3.out, E_u4.out, Hiv.out, E_u5.out, E_u6.out, E_u7.out, E_u8.out, E_u9.out, E_u10.out, E_u11.out]]
        go_enter Try.func31, Try.ntmps31
        go_upto_region 1 with fail
        rw [← hW0]
        have Hq := Lib.hid hq
        clear hq hW0
        obtain ⟨y0, y1, y2, f0, f1, f2⟩ := pt_facts hpb
        obtain ⟨y0', y1', y2', f0', f1', f2'⟩ := pt_facts hqb
        have hE := Ext.refl W0
        go_upto_region 6 with fail
        clear y0 y1 y2 f0 f1 f2 y0' y1' y2' f0' f1' f2'
        refine Par.region_txt 6 [0, 1, 0, 4, 15, 31] [] (fun j f X => match j with
         | 0 => f 0 = .pointer (some ⟨q + 1, 1, none⟩)
         | 1 => f 1 = .slice A1 (digs 4294967296 x).length k1
         | 2 => f 2 = .pointer (some ⟨q + 2, 1, none⟩)
         | 3 => f 3 = .slice B1 (digs 4294967296 qx).length m1
         | 4 => f 4 = .int .i64 0
         | 5 => f 5 = .bool true
         | _ => True) (by kernel_rfl) [(19, 0), (20, 1), (21, 2), (22, 3), (23, 4), (24, 5)] (by kernel_rfl) ?_
        refine Par.v0 1 5 ?_
        refine Par.ld1 2 4 0 (hE.cell j1) ?_
        refine Par.v0 3 3 ?_
        refine Par.ld1 4 2 2 (hE.cell t1) ?_
        refine Par.c0 5 1 (fun f => #[f 1, f 3]) (F' := 51) (fun f X hX hR => ?_) ?_
        · have e1 : f 1 = _ := hR.out 1 rfl
          have e3 : f 3 = _ := hR.out 3 rfl
          simp only [e1, e3]
          refine (refCmp_any _ _ A1 B1 k1 m1 x qx X (RN.up HX1.out (hE.trans hX)) (RN.up HX4.out (hE.trans hX))).mono ?_
          rw [Hcv.out]
          rintro e w2 ⟨rfl, nq, rfl⟩
          exact ⟨(.int .i64 0), rfl, (Ext.drewN _ _), fun _ _ => rfl⟩
        refine Par.v1 6 0 4 ?_
        refine Par.AllOps.fin ⟨fun f X hX hR hal hap => ?_⟩
        have e5 : f 5 = _ := hR 5 (by decide)
        simp only [yA, yB, yD, yE, e5]
        clear hR hal hap e5
        refine Par.Chain.done ?_
        replace hE := hE.trans hX
        clear hX  
        rename World => X6_k
        go_upto_region 7 with fail
        refine Par.region_txt 12 [0, 1, 0, 4, 15, 31, 63, 127, 255, 511, 1023, 2047] [] (fun j f X => match j with
         | 0 => f 0 = .pointer (some ⟨q + 1, 2, none⟩)
         | 1 => f 1 = .slice A2 (digs 4294967296 y).length k2
         | 2 => f 2 = .pointer (some ⟨q + 2, 2, none⟩)
         | 3 => f 3 = .slice B2 (digs 4294967296 qy).length m2
         | 4 => f 4 = .int .i64 0
         | 5 => f 5 = .bool false
         | 6 => f 6 = .bool false
         | 7 => f 7 = .pointer (some ⟨q + 1, 2, none⟩)
         | 8 => f 8 = .slice A2 (digs 4294967296 y).length k2
         | 9 => f 9 = .int .i64 ((digs 4294967296 y).length : Int)
         | 10 => f 10 = .bool false
         | 11 => f 11 = .bool false
         | _ => True) (by kernel_rfl) [(25, 0), (26, 1), (27, 2), (28, 3), (29, 4), (30, 5), (31, 6), (32, 7), (33, 8), (34, 9), (35, 10), (36, 11)] (by kernel_rfl) ?_
        refine Par.v0 1 11 ?_
        refine Par.ld1 2 10 0 (hE.cell j2) ?_
        refine Par.v0 3 9 ?_
        refine Par.ld1 4 8 2 (hE.cell t2) ?_
        refine Par.c0 5 7 (fun f => #[f 1, f 3]) (F' := 51) (fun f X hX hR => ?_) ?_
        · have e1 : f 1 = _ := hR.out 1 rfl
          have e3 : f 3 = _ := hR.out 3 rfl
          simp only [e1, e3]
          refine (refCmp_any _ _ A2 B2 k2 m2 y qy X (RN.up HX2.out (hE.trans hX)) (RN.up HX5.out (hE.trans hX))).mono ?_
          rw [Hcv2.out]
          rintro e w2 ⟨rfl, nq, rfl⟩
          exact ⟨(.int .i64 0), rfl, (Ext.drewN _ _), fun _ _ => rfl⟩
        refine Par.v1 6 6 4 ?_
        refine Par.v1 7 5 5 ?_
        refine Par.v1 8 4 6 ?_
        refine Par.S 9 3 [(25, 0), (26, 1), (27, 2), (28, 3), (29, 4), (30, 5), (31, 6), (32, 7)] (fun f X hX hR K hK => ?_) ?_
        · have e6 : f 6 = _ := hR.out 6 rfl
          have e7 : f 7 = _ := hR.out 7 rfl
          have x0 := (hE.trans hX).cell j2
          simp only [yA, yB, yC, yD, yE, e6, e7]
          refine ⟨Par.want (by kernel_rfl) ?_⟩
          go_simp
          exact Par.k hK (s := by simp only [yA, yB, yC, yD, yE, e6, e7])
        refine Par.S 10 2 [(25, 0), (26, 1), (27, 2), (28, 3), (29, 4), (30, 5), (31, 6), (32, 7), (33, 8)] (fun f X hX hR K hK => ?_) ?_
        · have e6 : f 6 = _ := hR.out 6 rfl
          have e8 : f 8 = _ := hR.out 8 rfl
          simp only [yA, yB, yC, yD, yE, e6, e8]
          refine ⟨Par.want (by kernel_rfl) ?_⟩
          go_simp
          exact Par.k hK (s := by simp only [yA, yB, yC, yD, yE, e6, e8])
        refine Par.S 11 1 [(25, 0), (26, 1), (27, 2), (28, 3), (29, 4), (30, 5), (31, 6), (32, 7), (33, 8), (34, 9)] (fun f X hX hR K hK => ?_) ?_
        · have e6 : f 6 = _ := hR.out 6 rfl
          have e9 : f 9 = _ := hR.out 9 rfl
          have hz1 : decide (((digs 4294967296 y).length : Int) = 0) = false := zdec_false hy0.out
          have hz2 : decide ((digs 4294967296 y).length = 0) = false := zden_false hy0.out
          have hz4 : ((((digs 4294967296 y).length : Nat) : Int) == 0) = false := zbeq_false hy0.out
          simp only [yA, yB, yC, yD, yE, e6, e9]
          refine ⟨Par.want (by kernel_rfl) ?_⟩
          go_simp
          exact Par.k hK (s := by simp only [yA, yB, yC, yD, yE, e6, e9])
        refine Par.v2 12 0 6 10 ?_
        refine Par.AllOps.fin ⟨fun f X hX hR hal hap => ?_⟩
        have e11 : f 11 = _ := hR 11 (by decide)
        simp only [yA, yB, yD, yE, e11]
        clear hR hal hap e11
        refine Par.Chain.done ?_
        replace hE := hE.trans hX
        clear hX  
        rename World => X7_k
        go_upto_region 9 with fail
        refine Par.region_ext (by kernel_rfl) 13 [0, 0, 0, 0, 0, 16, 0, 64, 252, 510, 1022, 2047, 4095] [] (fun j f X => match j with
         | 0 => f 0 = .agg ccs
         | 1 => f 1 = .agg ccs
         | 2 => ∃ A1 c1, f 2 = .slice A1 (digs 4294967296 3).length c1 ∧ RU X A1 c1 (digs 4294967296 3)
         | 3 => f 3 = .agg ccs
         | 4 => f 4 = .pointer (some ⟨q + 1, 1, none⟩)
         | 5 => f 5 = .slice A1 (digs 4294967296 x).length k1
         | 6 => f 6 = .pointer (some ⟨q + 1, 1, none⟩)
         | 7 => f 7 = .slice A1 (digs 4294967296 x).length k1
         | 8 => ∃ A1 c1, f 8 = .slice A1 (digs 4294967296 u1).length c1 ∧ RU X A1 c1 (digs 4294967296 u1)
         | 9 => ∃ A1 c1, f 9 = .slice A1 (digs 4294967296 u2).length c1 ∧ RU X A1 c1 (digs 4294967296 u2)
         | 10 => ∃ A1 c1, f 10 = .slice A1 (digs 4294967296 3).length c1 ∧ RU X A1 c1 (digs 4294967296 3)
         | 11 => ∃ A1 c1, f 11 = .slice A1 (digs 4294967296 u3).length c1 ∧ RU X A1 c1 (digs 4294967296 u3)
         | 12 => ∃ A1 c1, f 12 = .slice A1 (digs 4294967296 u3).length c1 ∧ RU X A1 c1 (digs 4294967296 u3)
         | _ => True) (by kernel_rfl) [(38, 0), (39, 1), (40, 2), (41, 3), (42, 4), (43, 5), (44, 6), (45, 7), (46, 8), (47, 9), (48, 10), (49, 11), (7, 12)] (by kernel_rfl) ?_
        refine lV0 1 12 (hE.at_ hcb) (by rw [Hccs.out]; exact infoRC) ?_
        refine lV0 2 11 (hE.at_ hcb) (by rw [Hccs.out]; exact infoRC) ?_
        refine Par.c0 3 10 (fun _ => #[Value.int IntKind.u64 3]) (F' := 39) (fun f X hX hR => ?_) ?_
        · refine (of_r 3 X (by omega)).mono ?_
          rintro e w2 ⟨A1, c1, rfl, hO, hB⟩
          exact ⟨_, rfl, hB, fun Y hY => ⟨A1, c1, rfl, RN.up hO hY⟩⟩
        refine lV0 4 9 (hE.at_ hcb) (by rw [Hccs.out]; exact infoRC) ?_
        refine Par.v0 5 8 ?_
        refine Par.ld1 6 7 4 (hE.cell j1) ?_
        refine Par.v0 7 6 ?_
        refine Par.ld1 8 5 6 (hE.cell j1) ?_
        refine rc 9 4 3 5 7 (fun _ _ hX h => ⟨_, _, h, (RN.up HX1.out (hE.trans hX))⟩) (fun _ _ hX h => ⟨_, _, h, (RN.up HX1.out (hE.trans hX))⟩) (fun X hX _ _ _ _ h h' => times_r X HF.out (hRC.out.ext (hE.trans hX)) h h' hx.out hx.out) E_u1.out ?_
        refine rc 10 3 1 2 8 (fun _ _ _ h => h) (fun _ _ _ h => h) (fun X hX _ _ _ _ h h' => times_r X HF.out (hRC.out.ext (hE.trans hX)) h h' (show 3 < C.M by have := H8.out; omega) L_u1.out) E_u2.out ?_
        refine Par.c0 11 2 (fun _ => #[Value.int IntKind.u64 3]) (F' := 39) (fun f X hX hR => ?_) ?_
        · refine (of_r 3 X (by omega)).mono ?_
          rintro e w2 ⟨A1, c1, rfl, hO, hB⟩
          exact ⟨_, rfl, hB, fun Y hY => ⟨A1, c1, rfl, RN.up hO hY⟩⟩
        refine rc 12 1 0 9 10 (fun _ _ _ h => h) (fun _ _ _ h => h) (fun X hX _ _ _ _ h h' => minus_r X HF.out (hRC.out.ext (hE.trans hX)) h h' L_u2.out (show 3 < C.M by have := H8.out; omega)) E_u3.out ?_
        refine Par.S 13 0 [(38, 0), (39, 1), (40, 2), (41, 3), (42, 4), (43, 5), (44, 6), (45, 7), (46, 8), (47, 9), (48, 10), (49, 11)] (fun f X hX hR K hK => ?_) ?_
        · obtain ⟨A9_11, c9_11, (e11 : f 11 = _), o9_11⟩ := hR.out 11 rfl
          simp only [yA, yB, yC, yD, yE, e11]
          refine ⟨?_⟩
          go_simp
          exact hK.out _ _ _ (by simp only [yA, yB, yC, yD, yE, e11]) (Ext.refl _) trivial (fun Y hY => ⟨A9_11, c9_11, rfl, RN.up o9_11 hY⟩)
        refine Par.AllOps.fin ⟨fun f X hX hR hal hap => ?_⟩
        obtain ⟨A9_2, c9_2, (e2 : f 2 = _), o9_2⟩ := hR 2 (by decide)
        obtain ⟨A9_8, c9_8, (e8 : f 8 = _), o9_8⟩ := hR 8 (by decide)
        obtain ⟨A9_9, c9_9, (e9 : f 9 = _), o9_9⟩ := hR 9 (by decide)
        obtain ⟨A9_10, c9_10, (e10 : f 10 = _), o9_10⟩ := hR 10 (by decide)
        obtain ⟨A9_11, c9_11, (e11 : f 11 = _), o9_11⟩ := hR 11 (by decide)
        obtain ⟨A9_12, c9_12, (e12 : f 12 = _), o9_12⟩ := hR 12 (by decide)
        simp only [yA, yB, yD, yE, e2, e8, e9, e10, e11, e12]
        clear hR hal hap e2 e8 e9 e10 e11 e12
        refine Par.Chain.done ?_
        replace hE := hE.trans hX
        have N7 := Lib.hid o9_12
        clear hX o9_2 o9_8 o9_9 o9_10 o9_11 o9_12 
        rename World => X9_k
        go_upto_region 10 with fail
        refine Par.region_ext (by kernel_rfl) 6 [0, 0, 0, 4, 15, 31] [] (fun j f X => match j with
         | 0 => f 0 = .agg ccs
         | 1 => ∃ A1 c1, f 1 = .slice A1 (digs 4294967296 2).length c1 ∧ RU X A1 c1 (digs 4294967296 2)
         | 2 => f 2 = .pointer (some ⟨q + 1, 2, none⟩)
         | 3 => f 3 = .slice A2 (digs 4294967296 y).length k2
         | 4 => ∃ A1 c1, f 4 = .slice A1 (digs 4294967296 u4).length c1 ∧ RU X A1 c1 (digs 4294967296 u4)
         | 5 => ∃ A1 c1, f 5 = .slice A1 (digs 4294967296 u4).length c1 ∧ RU X A1 c1 (digs 4294967296 u4)
         | _ => True) (by kernel_rfl) [(50, 0), (51, 1), (52, 2), (53, 3), (54, 4), (8, 5)] (by kernel_rfl) ?_
        refine lV0 1 5 (hE.at_ hcb) (by rw [Hccs.out]; exact infoRC) ?_
        refine Par.c0 2 4 (fun _ => #[Value.int IntKind.u64 2]) (F' := 39) (fun f X hX hR => ?_) ?_
        · refine (of_r 2 X (by omega)).mono ?_
          rintro e w2 ⟨A1, c1, rfl, hO, hB⟩
          exact ⟨_, rfl, hB, fun Y hY => ⟨A1, c1, rfl, RN.up hO hY⟩⟩
        refine Par.v0 3 3 ?_
        refine Par.ld1 4 2 2 (hE.cell j2) ?_
        refine rc 5 1 0 1 3 (fun _ _ _ h => h) (fun _ _ hX h => ⟨_, _, h, (RN.up HX2.out (hE.trans hX))⟩) (fun X hX _ _ _ _ h h' => times_r X HF.out (hRC.out.ext (hE.trans hX)) h h' (show 2 < C.M by have := H8.out; omega) hy.out) E_u4.out ?_
        refine Par.S 6 0 [(50, 0), (51, 1), (52, 2), (53, 3), (54, 4)] (fun f X hX hR K hK => ?_) ?_
        · obtain ⟨A10_4, c10_4, (e4 : f 4 = _), o10_4⟩ := hR.out 4 rfl
          simp only [yA, yB, yC, yD, yE, e4]
          refine ⟨?_⟩
          go_simp
          exact hK.out _ _ _ (by simp only [yA, yB, yC, yD, yE, e4]) (Ext.refl _) trivial (fun Y hY => ⟨A10_4, c10_4, rfl, RN.up o10_4 hY⟩)
        refine Par.AllOps.fin ⟨fun f X hX hR hal hap => ?_⟩
        obtain ⟨A10_1, c10_1, (e1 : f 1 = _), o10_1⟩ := hR 1 (by decide)
        obtain ⟨A10_4, c10_4, (e4 : f 4 = _), o10_4⟩ := hR 4 (by decide)
        obtain ⟨A10_5, c10_5, (e5 : f 5 = _), o10_5⟩ := hR 5 (by decide)
        simp only [yA, yB, yD, yE, e1, e4, e5]
        clear hR hal hap e1 e4 e5
        refine Par.Chain.done ?_
        replace hE := hE.trans hX
        replace N7 := Lib.hid (RN.up N7.out hX)
        have N8 := Lib.hid o10_5
        clear hX o10_1 o10_4 o10_5
        rename World => X10_k
        go_upto_region 13 with fail
        refine Par.region_txt 9 [0, 0, 2, 7, 15, 31, 31, 63, 255] [] (fun j f X => match j with
         | 0 => f 0 = .slice A10_5 (digs 4294967296 u4).length c10_5
         | 1 => f 1 = .pointer (some ⟨q, 0, none⟩)
         | 2 => f 2 = .slice Ap (digs 4294967296 C.M).length cp
         | 3 => ∃ A1 c1, f 3 = .tuple #[.slice A1 (digs 4294967296 iv).length c1, .bool ib] ∧ RU X A1 c1 (digs 4294967296 iv)
         | 4 => ∃ A1 c1, f 4 = .tuple #[.slice A1 (digs 4294967296 iv).length c1, .bool ib] ∧ RU X A1 c1 (digs 4294967296 iv)
         | 5 => ∃ A1 c1, f 5 = .slice A1 (digs 4294967296 iv).length c1 ∧ RU X A1 c1 (digs 4294967296 iv)
         | 6 => f 6 = .bool ib
         | 7 => ∃ A1 c1, f 7 = .slice A1 (digs 4294967296 iv).length c1 ∧ RU X A1 c1 (digs 4294967296 iv)
         | 8 => f 8 = .bool ib
         | _ => True) (by kernel_rfl) [(68, 0), (69, 1), (70, 2), (71, 3), (67, 4), (72, 5), (73, 6), (9, 7), (10, 8)] (by kernel_rfl) ?_
        refine Par.v0 1 8 ?_
        refine Par.v0 2 7 ?_
        refine Par.ld1 3 6 1 (hE.cell cP) ?_
        refine Par.c0 4 5 (fun f => #[f 0, f 2]) (F' := 59) (fun f X hX hR => ?_) ?_
        · have e0 : f 0 = _ := hR.out 0 rfl
          have e2 : f 2 = _ := hR.out 2 rfl
          simp only [e0, e2]
          refine (refInverse_any A10_5 Ap c10_5 cp u4 C.M X (RN.up N8.out hX) (RN.up HRP.out (hE.trans hX)) (by have := HF.out.len' L_u4.out; omega) (by have := HF.out.len; omega) (by have := HF.out.three; omega)).mono ?_
          rw [Hiv.out, Hib.out]
          rintro e w2 ⟨A1, c1, rfl, hO, hB⟩
          exact ⟨_, rfl, hB, fun Y hY => ⟨A1, c1, rfl, RN.up hO hY⟩⟩
        refine Par.S 5 4 [(68, 0), (69, 1), (70, 2), (71, 3)] (fun f X hX hR K hK => ?_) ?_
        · obtain ⟨A4, c4, (e3 : f 3 = _), o4⟩ := hR.out 3 rfl
          simp only [yA, yB, yC, yD, yE, e3]
          refine ⟨?_⟩
          go_simp
          exact hK.out _ _ _ (by simp only [yA, yB, yC, yD, yE, e3]) (Ext.refl _) trivial (fun Y hY => ⟨A4, c4, rfl, RN.up o4 hY⟩)
        refine Par.S 6 3 [(68, 0), (69, 1), (70, 2), (71, 3), (67, 4), (73, 6)] (fun f X hX hR K hK => ?_) ?_
        · obtain ⟨A5, c5, (e4 : f 4 = _), o5⟩ := hR.out 4 rfl
          simp only [yA, yB, yC, yD, yE, e4]
          refine ⟨?_⟩
          go_simp
          exact hK.out _ _ _ (by simp only [yA, yB, yC, yD, yE, e4]) (Ext.refl _) trivial (fun Y hY => ⟨A5, c5, rfl, RN.up o5 hY⟩)
        refine Par.S 7 2 [(68, 0), (69, 1), (70, 2), (71, 3), (67, 4), (72, 5), (9, 7)] (fun f X hX hR K hK => ?_) ?_
        · obtain ⟨A5, c5, (e4 : f 4 = _), o5⟩ := hR.out 4 rfl
          simp only [yA, yB, yC, yD, yE, e4]
          refine ⟨?_⟩
          go_simp
          exact Par.k hK (s := by simp only [yA, yB, yC, yD, yE, e4])
        refine Par.S 8 1 [(68, 0), (69, 1), (70, 2), (71, 3), (67, 4), (72, 5), (73, 6)] (fun f X hX hR K hK => ?_) ?_
        · obtain ⟨A6, c6, (e5 : f 5 = _), o6⟩ := hR.out 5 rfl
          simp only [yA, yB, yC, yD, yE, e5]
          refine ⟨?_⟩
          go_simp
          exact hK.out _ _ _ (by simp only [yA, yB, yC, yD, yE, e5]) (Ext.refl _) trivial (fun Y hY => ⟨A6, c6, rfl, RN.up o6 hY⟩)
        refine Par.v1 9 0 6 ?_
        refine Par.AllOps.fin ⟨fun f X hX hR hal hap => ?_⟩
        obtain ⟨A4, c4, (e3 : f 3 = _), o4⟩ := hR 3 (by decide)
        obtain ⟨A5, c5, (e4 : f 4 = _), o5⟩ := hR 4 (by decide)
        obtain ⟨A6, c6, (e5 : f 5 = _), o6⟩ := hR 5 (by decide)
        obtain ⟨A8, c8, (e7 : f 7 = _), o8⟩ := hR 7 (by decide)
        simp only [yA, yB, yD, yE, e3, e4, e5, e7]
        clear hR hal hap e3 e4 e5 e7
        refine Par.Chain.done ?_
        replace N7 := Lib.hid (RN.up N7.out hX)
        replace N8 := Lib.hid (RN.up N8.out hX)
        replace hE := hE.trans hX
        have N9 := Lib.hid o8
        clear hX o4 o5 o6 o8
        rename World => X13
        go_upto_region 14 with fail
        refine Par.region_txt 5 [0, 0, 0, 7, 15] [] (fun j f X => match j with
         | 0 => f 0 = .agg ccs
         | 1 => f 1 = .slice A9_12 (digs 4294967296 u3).length c9_12
         | 2 => f 2 = .slice A8 (digs 4294967296 iv).length c8
         | 3 => ∃ A1 c1, f 3 = .slice A1 (digs 4294967296 u5).length c1 ∧ RU X A1 c1 (digs 4294967296 u5)
         | 4 => ∃ A1 c1, f 4 = .slice A1 (digs 4294967296 u5).length c1 ∧ RU X A1 c1 (digs 4294967296 u5)
         | _ => True) (by kernel_rfl) [(74, 0), (75, 1), (76, 2), (77, 3), (11, 4)] (by kernel_rfl) ?_
        refine lV0 1 4 (hE.at_ hcb) (by rw [Hccs.out]; exact infoRC) ?_
        refine Par.v0 2 3 ?_
        refine Par.v0 3 2 ?_
        refine rc 4 1 0 1 2 (fun _ _ hX h => ⟨_, _, h, (RN.up N7.out hX)⟩) (fun _ _ hX h => ⟨_, _, h, (RN.up N9.out hX)⟩) (fun X hX _ _ _ _ h h' => times_r X HF.out (hRC.out.ext (hE.trans hX)) h h' L_u3.out hivl.out) E_u5.out ?_
        refine Par.S 5 0 [(74, 0), (75, 1), (76, 2), (77, 3)] (fun f X hX hR K hK => ?_) ?_
        · obtain ⟨A14_3, c14_3, (e3 : f 3 = _), o14_3⟩ := hR.out 3 rfl
          simp only [yA, yB, yC, yD, yE, e3]
          refine ⟨?_⟩
          go_simp
          exact hK.out _ _ _ (by simp only [yA, yB, yC, yD, yE, e3]) (Ext.refl _) trivial (fun Y hY => ⟨A14_3, c14_3, rfl, RN.up o14_3 hY⟩)
        refine Par.AllOps.fin ⟨fun f X hX hR hal hap => ?_⟩
        obtain ⟨A14_3, c14_3, (e3 : f 3 = _), o14_3⟩ := hR 3 (by decide)
        obtain ⟨A14_4, c14_4, (e4 : f 4 = _), o14_4⟩ := hR 4 (by decide)
        simp only [yA, yB, yD, yE, e3, e4]
        clear hR hal hap e3 e4
        refine Par.Chain.done ?_
        replace hE := hE.trans hX
        replace N7 := Lib.hid (RN.up N7.out hX)
        replace N8 := Lib.hid (RN.up N8.out hX)
        replace N9 := Lib.hid (RN.up N9.out hX)
        have N11 := Lib.hid o14_4
        clear hX o14_3 o14_4
        rename World => X14_k
        go_upto_region 15 with fail
        refine Par.region_ext (by kernel_rfl) 13 [0, 0, 0, 0, 0, 28, 0, 64, 254, 0, 512, 2047, 4095] [] (fun j f X => match j with
         | 0 => f 0 = .agg ccs
         | 1 => f 1 = .agg ccs
         | 2 => f 2 = .agg ccs
         | 3 => f 3 = .slice A14_4 (digs 4294967296 u5).length c14_4
         | 4 => f 4 = .slice A14_4 (digs 4294967296 u5).length c14_4
         | 5 => ∃ A1 c1, f 5 = .slice A1 (digs 4294967296 u6).length c1 ∧ RU X A1 c1 (digs 4294967296 u6)
         | 6 => f 6 = .pointer (some ⟨q + 1, 1, none⟩)
         | 7 => f 7 = .slice A1 (digs 4294967296 x).length k1
         | 8 => ∃ A1 c1, f 8 = .slice A1 (digs 4294967296 u7).length c1 ∧ RU X A1 c1 (digs 4294967296 u7)
         | 9 => f 9 = .pointer (some ⟨q + 2, 1, none⟩)
         | 10 => f 10 = .slice B1 (digs 4294967296 qx).length m1
         | 11 => ∃ A1 c1, f 11 = .slice A1 (digs 4294967296 u8).length c1 ∧ RT X A1 c1 (digs 4294967296 u8)
         | 12 => ∃ A1 c1, f 12 = .slice A1 (digs 4294967296 u8).length c1 ∧ RT X A1 c1 (digs 4294967296 u8)
         | _ => True) (by kernel_rfl) [(78, 0), (79, 1), (80, 2), (81, 3), (82, 4), (83, 5), (84, 6), (85, 7), (86, 8), (87, 9), (88, 10), (89, 11), (12, 12)] (by kernel_rfl) ?_
        refine lV0 1 12 (hE.at_ hcb) (by rw [Hccs.out]; exact infoRC) ?_
        refine lV0 2 11 (hE.at_ hcb) (by rw [Hccs.out]; exact infoRC) ?_
        refine lV0 3 10 (hE.at_ hcb) (by rw [Hccs.out]; exact infoRC) ?_
        refine Par.v0 4 9 ?_
        refine Par.v0 5 8 ?_
        refine rc 6 7 2 3 4 (fun _ _ hX h => ⟨_, _, h, (RN.up N11.out hX)⟩) (fun _ _ hX h => ⟨_, _, h, (RN.up N11.out hX)⟩) (fun X hX _ _ _ _ h h' => times_r X HF.out (hRC.out.ext (hE.trans hX)) h h' L_u5.out L_u5.out) E_u6.out ?_
        refine Par.v0 7 6 ?_
        refine Par.ld1 8 5 6 (hE.cell j1) ?_
        refine rc 9 4 1 5 7 (fun _ _ _ h => h) (fun _ _ hX h => ⟨_, _, h, (RN.up HX1.out (hE.trans hX))⟩) (fun X hX _ _ _ _ h h' => minus_r X HF.out (hRC.out.ext (hE.trans hX)) h h' L_u6.out hx.out) E_u7.out ?_
        refine Par.v0 10 3 ?_
        refine Par.ld1 11 2 9 (hE.cell t1) ?_
        refine Par.c0 12 1 (fun f => #[f 0, f 8, f 10]) (F' := 54) (fun f X hX hR => ?_) ?_
        · have e0 : f 0 = _ := hR.out 0 rfl
          obtain ⟨A15_8, c15_8, (e8 : f 8 = _), o15_8⟩ := hR.out 8 rfl
          have e10 : f 10 = _ := hR.out 10 rfl
          simp only [e0, e8, e10]
          refine (minus_rt X HF.out (hRC.out.ext (hE.trans hX)) o15_8 (RN.up HX4.out (hE.trans hX)) L_u7.out hqx.out).mono ?_
          rw [E_u8.out]
          rintro e w2 ⟨A1, c1, rfl, hO, hB⟩
          exact ⟨_, rfl, hB, fun Y hY => ⟨A1, c1, rfl, RT.up hO hY⟩⟩
        refine Par.S 13 0 [(78, 0), (79, 1), (80, 2), (81, 3), (82, 4), (83, 5), (84, 6), (85, 7), (86, 8), (87, 9), (88, 10), (89, 11)] (fun f X hX hR K hK => ?_) ?_
        · obtain ⟨A15_11, c15_11, (e11 : f 11 = _), o15_11⟩ := hR.out 11 rfl
          simp only [yA, yB, yC, yD, yE, e11]
          refine ⟨?_⟩
          go_simp
          exact hK.out _ _ _ (by simp only [yA, yB, yC, yD, yE, e11]) (Ext.refl _) trivial (fun Y hY => ⟨A15_11, c15_11, rfl, RT.up o15_11 hY⟩)
        refine Par.AllOps.fin ⟨fun f X hX hR hal hap => ?_⟩
        obtain ⟨A15_5, c15_5, (e5 : f 5 = _), o15_5⟩ := hR 5 (by decide)
        obtain ⟨A15_8, c15_8, (e8 : f 8 = _), o15_8⟩ := hR 8 (by decide)
        obtain ⟨A15_11, c15_11, (e11 : f 11 = _), o15_11⟩ := hR 11 (by decide)
        obtain ⟨A15_12, c15_12, (e12 : f 12 = _), o15_12⟩ := hR 12 (by decide)
        simp only [yA, yB, yD, yE, e5, e8, e11, e12]
        clear hR hal hap e5 e8 e11 e12
        refine Par.Chain.done ?_
        replace hE := hE.trans hX
        replace N7 := Lib.hid (RN.up N7.out hX)
        replace N8 := Lib.hid (RN.up N8.out hX)
        replace N9 := Lib.hid (RN.up N9.out hX)
        replace N11 := Lib.hid (RN.up N11.out hX)
        have N12 := Lib.hid o15_12
        clear hX o15_5 o15_8 o15_11 o15_12
        rename World => X15_k
        have hb1 := hE.at_ hrb
        go_upto_region 16 with fail
        refine Par.region_ext (by kernel_rfl) 14 [0, 0, 0, 0, 0, 0, 32, 0, 240, 508, 0, 1024, 4094, 8191, 16383] [] (fun j f X => match j with
         | 0 => f 0 = .slice A15_12 (digs 4294967296 u8).length c15_12
         | 1 => f 1 = .agg ccs
         | 2 => f 2 = .agg ccs
         | 3 => f 3 = .slice A14_4 (digs 4294967296 u5).length c14_4
         | 4 => f 4 = .agg ccs
         | 5 => f 5 = .pointer (some ⟨q + 1, 1, none⟩)
         | 6 => f 6 = .slice A1 (digs 4294967296 x).length k1
         | 7 => f 7 = .slice A15_12 (digs 4294967296 u8).length c15_12
         | 8 => ∃ A1 c1, f 8 = .slice A1 (digs 4294967296 u9).length c1 ∧ RU X A1 c1 (digs 4294967296 u9)
         | 9 => ∃ A1 c1, f 9 = .slice A1 (digs 4294967296 u10).length c1 ∧ RU X A1 c1 (digs 4294967296 u10)
         | 10 => f 10 = .pointer (some ⟨q + 1, 2, none⟩)
         | 11 => f 11 = .slice A2 (digs 4294967296 y).length k2
         | 12 => ∃ A1 c1, f 12 = .slice A1 (digs 4294967296 u11).length c1 ∧ RT X A1 c1 (digs 4294967296 u11)
         | 13 => ∃ A1 c1 A2 c2, f 13 = .agg #[.bool false, .slice A1 (digs 4294967296 u8).length c1, .slice A2 (digs 4294967296 u11).length c2] ∧ RT X A1 c1 (digs 4294967296 u8) ∧ RT X A2 c2 (digs 4294967296 u11)
         | _ => True) (by kernel_rfl) [(90, 0), (91, 1), (92, 2), (93, 3), (94, 4), (95, 5), (96, 6), (97, 7), (98, 8), (99, 9), (100, 10), (101, 11), (102, 12), (103, 13)] (by kernel_rfl) ?_
        refine Par.v0 1 13 ?_
        refine lV0 2 12 (hE.at_ hcb) (by rw [Hccs.out]; exact infoRC) ?_
        refine lV0 3 11 (hE.at_ hcb) (by rw [Hccs.out]; exact infoRC) ?_
        refine Par.v0 4 10 ?_
        refine lV0 5 9 (hE.at_ hcb) (by rw [Hccs.out]; exact infoRC) ?_
        refine Par.v0 6 8 ?_
        refine Par.ld1 7 7 5 (hE.cell j1) ?_
        refine Par.v0 8 6 ?_
        refine rc 9 5 4 6 7 (fun _ _ hX h => ⟨_, _, h, (RN.up HX1.out (hE.trans hX))⟩) (fun _ _ hX h => ⟨_, _, h, (RN.up N12.out.ru hX)⟩) (fun X hX _ _ _ _ h h' => minus_r X HF.out (hRC.out.ext (hE.trans hX)) h h' hx.out L_u8.out) E_u9.out ?_
        refine rc 10 4 2 3 8 (fun _ _ hX h => ⟨_, _, h, (RN.up N11.out hX)⟩) (fun _ _ _ h => h) (fun X hX _ _ _ _ h h' => times_r X HF.out (hRC.out.ext (hE.trans hX)) h h' L_u5.out L_u9.out) E_u10.out ?_
        refine Par.v0 11 3 ?_
        refine Par.ld1 12 2 10 (hE.cell j2) ?_
        refine Par.c0 13 1 (fun f => #[f 1, f 9, f 11]) (F' := 54) (fun f X hX hR => ?_) ?_
        · have e1 : f 1 = _ := hR.out 1 rfl
          obtain ⟨A16_9, c16_9, (e9 : f 9 = _), o16_9⟩ := hR.out 9 rfl
          have e11 : f 11 = _ := hR.out 11 rfl
          simp only [e1, e9, e11]
          refine (minus_rt X HF.out (hRC.out.ext (hE.trans hX)) o16_9 (RN.up HX2.out (hE.trans hX)) L_u10.out hy.out).mono ?_
          rw [E_u11.out]
          rintro e w2 ⟨A1, c1, rfl, hO, hB⟩
          exact ⟨_, rfl, hB, fun Y hY => ⟨A1, c1, rfl, RT.up hO hY⟩⟩
        refine Par.S 14 0 [(90, 0), (91, 1), (92, 2), (93, 3), (94, 4), (95, 5), (96, 6), (97, 7), (98, 8), (99, 9), (100, 10), (101, 11), (102, 12)] (fun f X hX hR K hK => ?_) ?_
        · have e0 : f 0 = _ := hR.out 0 rfl
          obtain ⟨A16_12, c16_12, (e12 : f 12 = _), o16_12⟩ := hR.out 12 rfl
          simp only [yA, yB, yC, yD, yE, e0, e12]
          refine ⟨?_⟩
          go_simp
          exact hK.out _ _ _ (by simp only [yA, yB, yC, yD, yE, e0, e12]) (Ext.refl _) trivial (fun Y hY => ⟨_, _, _, _, rfl, RT.up N12.out (hX.trans hY), RT.up o16_12 hY⟩)
        refine Par.AllOps.fin ⟨fun f X hX hR hal hap => ?_⟩
        obtain ⟨A16_8, c16_8, (e8 : f 8 = _), o16_8⟩ := hR 8 (by decide)
        obtain ⟨A16_9, c16_9, (e9 : f 9 = _), o16_9⟩ := hR 9 (by decide)
        obtain ⟨A16_12, c16_12, (e12 : f 12 = _), o16_12⟩ := hR 12 (by decide)
        obtain ⟨Ax1, cx1, Ay1, cy1, (e13 : f 13 = _), ox1, oy1⟩ := hR 13 (by decide)
        simp only [yA, yB, yD, yE, e8, e9, e12, e13]
        clear hR hal hap e8 e9 e12 e13
        refine Par.Chain.next (fun K hK => ⟨Par.want (by kernel_rfl) (wp_storeV (cs' := #[.bool false, .slice Ax1 (digs 4294967296 u8).length cx1, .slice Ay1 (digs 4294967296 u11).length cy1]) (t := 34) 34 (.tmp 6) (.tmp 103) rfl rfl rfl rfl (hX.at_ hb1) infoRP rfl (pt_one _ _ _ _ _ _ _) (fun Y hY1 hY2 hY3 => hK.out _ _ ?_))⟩)
        refine Par.Chain.done ?_
        go_wp2
        exact end_rpt rfl rfl rfl hY1 ⟨_, rfl, ⟨_, _, _, _, rfl, (RT.rd ox1).offJ hY2 (hX.at_ hb1) (by kernel_rfl) (by decide), (RT.rd oy1).offJ hY2 (hX.at_ hb1) (by kernel_rfl) (by decide)⟩, hY2.ext (HE0.out.trans (hE.trans hX)) (by have := Hq.out; omega)⟩
    · obtain ⟨cv2, hcv2⟩ : ∃ v, cmpV y qy = v := ⟨_, rfl⟩
      have hne : ¬ cv2 = 0 := by rw [← hcv2]; exact fun e => hyy (cmpV_z.1 e)
      have Hcv2 := Lib.hid hcv2
      have Hg3 := Lib.hid (show (cv2 == 0) = false by rw [beq_eq_false_iff_ne]; exact hne)
      have Hg4 := Lib.hid (show decide (cv2 = 0) = false from decide_eq_false hne)
      have Hg5 := Lib.hid (show (cv2 != 0) = true by rw [bne_iff_ne]; exact hne)
      rw [show raddP C.M false x y false qx qy = (true, 0, 0) by simp only [raddP, Bool.false_eq_true, if_false]; rw [if_pos hxx, if_neg hyy]]
      clear hxx hyy hcv2 hne
      go_enter Try.func31, Try.ntmps31
      go_upto_region 1 with fail
      rw [← hW0]
      have Hq := Lib.hid hq
      clear hq hW0
      obtain ⟨y0, y1, y2, f0, f1, f2⟩ := pt_facts hpb
      obtain ⟨y0', y1', y2', f0', f1', f2'⟩ := pt_facts hqb
      have hE := Ext.refl W0
      go_upto_region 6 with fail
      clear y0 y1 y2 f0 f1 f2 y0' y1' y2' f0' f1' f2'
      refine Par.region_txt 6 [0, 1, 0, 4, 15, 31] [] (fun j f X => match j with
       | 0 => f 0 = .pointer (some ⟨q + 1, 1, none⟩)
       | 1 => f 1 = .slice A1 (digs 4294967296 x).length k1
       | 2 => f 2 = .pointer (some ⟨q + 2, 1, none⟩)
       | 3 => f 3 = .slice B1 (digs 4294967296 qx).length m1
       | 4 => f 4 = .int .i64 0
       | 5 => f 5 = .bool true
       | _ => True) (by kernel_rfl) [(19, 0), (20, 1), (21, 2), (22, 3), (23, 4), (24, 5)] (by kernel_rfl) ?_
      refine Par.v0 1 5 ?_
      refine Par.ld1 2 4 0 (hE.cell j1) ?_
      refine Par.v0 3 3 ?_
      refine Par.ld1 4 2 2 (hE.cell t1) ?_
      refine Par.c0 5 1 (fun f => #[f 1, f 3]) (F' := 51) (fun f X hX hR => ?_) ?_
      · have e1 : f 1 = _ := hR.out 1 rfl
        have e3 : f 3 = _ := hR.out 3 rfl
        simp only [e1, e3]
        refine (refCmp_any _ _ A1 B1 k1 m1 x qx X (RN.up HX1.out (hE.trans hX)) (RN.up HX4.out (hE.trans hX))).mono ?_
        rw [Hcv.out]
        rintro e w2 ⟨rfl, nq, rfl⟩
        exact ⟨(.int .i64 0), rfl, (Ext.drewN _ _), fun _ _ => rfl⟩
      refine Par.v1 6 0 4 ?_
      refine Par.AllOps.fin ⟨fun f X hX hR hal hap => ?_⟩
      have e5 : f 5 = _ := hR 5 (by decide)
      simp only [yA, yB, yD, yE, e5]
      clear hR hal hap e5
      refine Par.Chain.done ?_
      replace hE := hE.trans hX
      clear hX  
      rename World => X6_k
      go_upto_region 7 with fail
      refine Par.region_txt 12 [0, 1, 0, 4, 15, 31, 63, 127, 255, 511, 1023, 2047] [] (fun j f X => match j with
       | 0 => f 0 = .pointer (some ⟨q + 1, 2, none⟩)
       | 1 => f 1 = .slice A2 (digs 4294967296 y).length k2
       | 2 => f 2 = .pointer (some ⟨q + 2, 2, none⟩)
       | 3 => f 3 = .slice B2 (digs 4294967296 qy).length m2
       | 4 => f 4 = .int .i64 cv2
       | 5 => f 5 = .bool true
       | 6 => f 6 = .bool true
       | 7 => f 7 = undef
       | 8 => f 8 = undef
       | 9 => f 9 = undef
       | 10 => f 10 = undef
       | 11 => f 11 = .bool true
       | _ => True) (by kernel_rfl) [(25, 0), (26, 1), (27, 2), (28, 3), (29, 4), (30, 5), (31, 6), (32, 7), (33, 8), (34, 9), (35, 10), (36, 11)] (by kernel_rfl) ?_
      refine Par.v0 1 11 ?_
      refine Par.ld1 2 10 0 (hE.cell j2) ?_
      refine Par.v0 3 9 ?_
      refine Par.ld1 4 8 2 (hE.cell t2) ?_
      refine Par.c0 5 7 (fun f => #[f 1, f 3]) (F' := 51) (fun f X hX hR => ?_) ?_
      · have e1 : f 1 = _ := hR.out 1 rfl
        have e3 : f 3 = _ := hR.out 3 rfl
        simp only [e1, e3]
        refine (refCmp_any _ _ A2 B2 k2 m2 y qy X (RN.up HX2.out (hE.trans hX)) (RN.up HX5.out (hE.trans hX))).mono ?_
        rw [Hcv2.out]
        rintro e w2 ⟨rfl, nq, rfl⟩
        exact ⟨(.int .i64 cv2), rfl, (Ext.drewN _ _), fun _ _ => rfl⟩
      refine Par.S 6 6 [(25, 0), (26, 1), (27, 2), (28, 3), (29, 4)] (fun f X hX hR K hK => ?_) ?_
      · have e4 : f 4 = _ := hR.out 4 rfl
        have g1 := Hg3.out
        have g2 := Hg4.out
        have g3 := Hg5.out
        simp only [yA, yB, yC, yD, yE, e4]
        refine ⟨?_⟩
        go_simp
        exact Par.k hK (s := by simp only [yA, yB, yC, yD, yE, e4])
      refine Par.v1 7 5 5 ?_
      refine Par.sk 8 4 6 ?_
      refine Par.sk 9 3 6 ?_
      refine Par.sk 10 2 6 ?_
      refine Par.sk 11 1 6 ?_
      refine Par.v2 12 0 6 10 ?_
      refine Par.AllOps.fin ⟨fun f X hX hR hal hap => ?_⟩
      have e11 : f 11 = _ := hR 11 (by decide)
      simp only [yA, yB, yD, yE, e11]
      clear hR hal hap e11
      refine Par.Chain.done ?_
      replace hE := hE.trans hX
      clear hX  
      rename World => X7_k
      have hb1 := hE.at_ hrb
      obtain ⟨z0, z1, z2, f0, f1, f2⟩ := pt_facts hb1
      go_wp2
      exact end_rpt rfl rfl rfl (pt_set hb1 _ _ _) ⟨_, rfl, RPd.inf_ _, pt_ext (HE0.out.trans hE) (by have := Hq.out; omega) _ _ _⟩
  · obtain ⟨cv, hcv⟩ : ∃ v, cmpV x qx = v := ⟨_, rfl⟩
    have hne : ¬ cv = 0 := by rw [← hcv]; exact fun e => hxx (cmpV_z.1 e)
    have Hcv := Lib.hid hcv
    have Hg1 := Lib.hid (show (cv == 0) = false by rw [beq_eq_false_iff_ne]; exact hne)
    have Hg2 := Lib.hid (show decide (cv = 0) = false from decide_eq_false hne)
    have hres0 : raddP C.M false x y false qx qy = raddA C.M x y qx qy := by simp only [raddP, Bool.false_eq_true, if_false]; rw [if_neg hxx]
    rw [hres0]
    clear hxx hcv hne hres0
    obtain ⟨u1, e_u1⟩ : ∃ v, sm C.M qy y = v := ⟨_, rfl⟩
    have L_u1 := Lib.hid (show u1 < C.M by rw [← e_u1]; exact sm_lt hM0 _ _)
    have E_u1 := Lib.hid e_u1
    clear e_u1
    obtain ⟨u2, e_u2⟩ : ∃ v, sm C.M qx x = v := ⟨_, rfl⟩
    have L_u2 := Lib.hid (show u2 < C.M by rw [← e_u2]; exact sm_lt hM0 _ _)
    have E_u2 := Lib.hid e_u2
    clear e_u2
    obtain ⟨iv, hiv⟩ : ∃ v, (invNum u2 C.M).1 = v := ⟨_, rfl⟩
    obtain ⟨ib, hib⟩ : ∃ v, (invNum u2 C.M).2 = v := ⟨_, rfl⟩
    have hivl := Lib.hid (show iv < C.M by rw [← hiv]; exact invNum_lt (by have := HF.out.three; omega))
    have Hiv := Lib.hid hiv
    have Hib := Lib.hid hib
    clear hiv hib
    obtain ⟨u3, e_u3⟩ : ∃ v, mm C.M u1 iv = v := ⟨_, rfl⟩
    have L_u3 := Lib.hid (show u3 < C.M by rw [← e_u3]; exact mm_lt hM0 _ _)
    have E_u3 := Lib.hid e_u3
    clear e_u3
    obtain ⟨u4, e_u4⟩ : ∃ v, mm C.M u3 u3 = v := ⟨_, rfl⟩
    have L_u4 := Lib.hid (show u4 < C.M by rw [← e_u4]; exact mm_lt hM0 _ _)
    have E_u4 := Lib.hid e_u4
    clear e_u4
    obtain ⟨u5, e_u5⟩ : ∃ v, sm C.M u4 x = v := ⟨_, rfl⟩
    have L_u5 := Lib.hid (show u5 < C.M by rw [← e_u5]; exact sm_lt hM0 _ _)
    have E_u5 := Lib.hid e_u5
    clear e_u5
    obtain ⟨u6, e_u6⟩ : ∃ v, sm C.M u5 qx = v := ⟨_, rfl⟩
    have L_u6 := Lib.hid (show u6 < C.M by rw [← e_u6]; exact sm_lt hM0 _ _)
    have E_u6 := Lib.hid e_u6
    clear e_u6
    obtain ⟨u7, e_u7⟩ : ∃ v, sm C.M x u6 = v := ⟨_, rfl⟩
    have L_u7 := Lib.hid (show u7 < C.M by rw [← e_u7]; exact sm_lt hM0 _ _)
    have E_u7 := Lib.hid e_u7
    clear e_u7
    obtain ⟨u8, e_u8⟩ : ∃ v, mm C.M u3 u7 = v := ⟨_, rfl⟩
    have L_u8 := Lib.hid (show u8 < C.M by rw [← e_u8]; exact mm_lt hM0 _ _)
    have E_u8 := Lib.hid e_u8
    clear e_u8
    obtain ⟨u9, e_u9⟩ : ∃ v, sm C.M u8 y = v := ⟨_, rfl⟩
    have L_u9 := Lib.hid (show u9 < C.M by rw [← e_u9]; exact sm_lt hM0 _ _)
    have E_u9 := Lib.hid e_u9
    clear e_u9
    rw [show raddA C.M x y qx qy = (false, u6, u9) by simp only [raddA]; simp only [E_u1.out, E_u2.out, Hiv.out, E_u3.out, E_u4.out, E_u5.out, E_u6.out, E_u7.out, E_u8.out, E_u9.out]]
    go_enter Try.func31, Try.ntmps31
    go_upto_region 1 with fail
    rw [← hW0]
    have Hq := Lib.hid hq
    clear hq hW0
    obtain ⟨y0, y1, y2, f0, f1, f2⟩ := pt_facts hpb
    obtain ⟨y0', y1', y2', f0', f1', f2'⟩ := pt_facts hqb
    have hE := Ext.refl W0
    go_upto_region 6 with fail
    clear y0 y1 y2 f0 f1 f2 y0' y1' y2' f0' f1' f2'
    refine Par.region_txt 6 [0, 1, 0, 4, 15, 31] [] (fun j f X => match j with
     | 0 => f 0 = .pointer (some ⟨q + 1, 1, none⟩)
     | 1 => f 1 = .slice A1 (digs 4294967296 x).length k1
     | 2 => f 2 = .pointer (some ⟨q + 2, 1, none⟩)
     | 3 => f 3 = .slice B1 (digs 4294967296 qx).length m1
     | 4 => f 4 = .int .i64 cv
     | 5 => f 5 = .bool false
     | _ => True) (by kernel_rfl) [(19, 0), (20, 1), (21, 2), (22, 3), (23, 4), (24, 5)] (by kernel_rfl) ?_
    refine Par.v0 1 5 ?_
    refine Par.ld1 2 4 0 (hE.cell j1) ?_
    refine Par.v0 3 3 ?_
    refine Par.ld1 4 2 2 (hE.cell t1) ?_
    refine Par.c0 5 1 (fun f => #[f 1, f 3]) (F' := 51) (fun f X hX hR => ?_) ?_
    · have e1 : f 1 = _ := hR.out 1 rfl
      have e3 : f 3 = _ := hR.out 3 rfl
      simp only [e1, e3]
      refine (refCmp_any _ _ A1 B1 k1 m1 x qx X (RN.up HX1.out (hE.trans hX)) (RN.up HX4.out (hE.trans hX))).mono ?_
      rw [Hcv.out]
      rintro e w2 ⟨rfl, nq, rfl⟩
      exact ⟨(.int .i64 cv), rfl, (Ext.drewN _ _), fun _ _ => rfl⟩
    refine Par.S 6 0 [(19, 0), (20, 1), (21, 2), (22, 3), (23, 4)] (fun f X hX hR K hK => ?_) ?_
    · have e4 : f 4 = _ := hR.out 4 rfl
      have g1 := Hg1.out
      have g2 := Hg2.out
      simp only [yA, yB, yC, yD, yE, e4]
      refine ⟨?_⟩
      go_simp
      exact Par.k hK (s := by simp only [yA, yB, yC, yD, yE, e4])
    refine Par.AllOps.fin ⟨fun f X hX hR hal hap => ?_⟩
    have e5 : f 5 = _ := hR 5 (by decide)
    simp only [yA, yB, yD, yE, e5]
    clear hR hal hap e5
    refine Par.Chain.done ?_
    replace hE := hE.trans hX
    clear hX  
    rename World => X6_k
    go_upto_region 11 with fail
    refine Par.region_txt 7 [0, 0, 2, 0, 8, 31, 63] [] (fun j f X => match j with
     | 0 => f 0 = .agg ccs
     | 1 => f 1 = .pointer (some ⟨q + 2, 2, none⟩)
     | 2 => f 2 = .slice B2 (digs 4294967296 qy).length m2
     | 3 => f 3 = .pointer (some ⟨q + 1, 2, none⟩)
     | 4 => f 4 = .slice A2 (digs 4294967296 y).length k2
     | 5 => ∃ A1 c1, f 5 = .slice A1 (digs 4294967296 u1).length c1 ∧ RU X A1 c1 (digs 4294967296 u1)
     | 6 => ∃ A1 c1, f 6 = .slice A1 (digs 4294967296 u1).length c1 ∧ RU X A1 c1 (digs 4294967296 u1)
     | _ => True) (by kernel_rfl) [(55, 0), (56, 1), (57, 2), (58, 3), (59, 4), (60, 5), (7, 6)] (by kernel_rfl) ?_
    refine lV0 1 6 (hE.at_ hcb) (by rw [Hccs.out]; exact infoRC) ?_
    refine Par.v0 2 5 ?_
    refine Par.ld1 3 4 1 (hE.cell t2) ?_
    refine Par.v0 4 3 ?_
    refine Par.ld1 5 2 3 (hE.cell j2) ?_
    refine rc 6 1 0 2 4 (fun _ _ hX h => ⟨_, _, h, (RN.up HX5.out (hE.trans hX))⟩) (fun _ _ hX h => ⟨_, _, h, (RN.up HX2.out (hE.trans hX))⟩) (fun X hX _ _ _ _ h h' => minus_r X HF.out (hRC.out.ext (hE.trans hX)) h h' hqy.out hy.out) E_u1.out ?_
    refine Par.S 7 0 [(55, 0), (56, 1), (57, 2), (58, 3), (59, 4), (60, 5)] (fun f X hX hR K hK => ?_) ?_
    · obtain ⟨A11_5, c11_5, (e5 : f 5 = _), o11_5⟩ := hR.out 5 rfl
      simp only [yA, yB, yC, yD, yE, e5]
      refine ⟨?_⟩
      go_simp
      exact hK.out _ _ _ (by simp only [yA, yB, yC, yD, yE, e5]) (Ext.refl _) trivial (fun Y hY => ⟨A11_5, c11_5, rfl, RN.up o11_5 hY⟩)
    refine Par.AllOps.fin ⟨fun f X hX hR hal hap => ?_⟩
    obtain ⟨A11_5, c11_5, (e5 : f 5 = _), o11_5⟩ := hR 5 (by decide)
    obtain ⟨A11_6, c11_6, (e6 : f 6 = _), o11_6⟩ := hR 6 (by decide)
    simp only [yA, yB, yD, yE, e5, e6]
    clear hR hal hap e5 e6
    refine Par.Chain.done ?_
    replace hE := hE.trans hX
    have N7 := Lib.hid o11_6
    clear hX o11_5 o11_6 
    rename World => X11_k
    go_upto_region 12 with fail
    refine Par.region_txt 7 [0, 0, 2, 0, 8, 31, 63] [] (fun j f X => match j with
     | 0 => f 0 = .agg ccs
     | 1 => f 1 = .pointer (some ⟨q + 2, 1, none⟩)
     | 2 => f 2 = .slice B1 (digs 4294967296 qx).length m1
     | 3 => f 3 = .pointer (some ⟨q + 1, 1, none⟩)
     | 4 => f 4 = .slice A1 (digs 4294967296 x).length k1
     | 5 => ∃ A1 c1, f 5 = .slice A1 (digs 4294967296 u2).length c1 ∧ RU X A1 c1 (digs 4294967296 u2)
     | 6 => ∃ A1 c1, f 6 = .slice A1 (digs 4294967296 u2).length c1 ∧ RU X A1 c1 (digs 4294967296 u2)
     | _ => True) (by kernel_rfl) [(61, 0), (62, 1), (63, 2), (64, 3), (65, 4), (66, 5), (8, 6)] (by kernel_rfl) ?_
    refine lV0 1 6 (hE.at_ hcb) (by rw [Hccs.out]; exact infoRC) ?_
    refine Par.v0 2 5 ?_
    refine Par.ld1 3 4 1 (hE.cell t1) ?_
    refine Par.v0 4 3 ?_
    refine Par.ld1 5 2 3 (hE.cell j1) ?_
    refine rc 6 1 0 2 4 (fun _ _ hX h => ⟨_, _, h, (RN.up HX4.out (hE.trans hX))⟩) (fun _ _ hX h => ⟨_, _, h, (RN.up HX1.out (hE.trans hX))⟩) (fun X hX _ _ _ _ h h' => minus_r X HF.out (hRC.out.ext (hE.trans hX)) h h' hqx.out hx.out) E_u2.out ?_
    refine Par.S 7 0 [(61, 0), (62, 1), (63, 2), (64, 3), (65, 4), (66, 5)] (fun f X hX hR K hK => ?_) ?_
    · obtain ⟨A12_5, c12_5, (e5 : f 5 = _), o12_5⟩ := hR.out 5 rfl
      simp only [yA, yB, yC, yD, yE, e5]
      refine ⟨?_⟩
      go_simp
      exact hK.out _ _ _ (by simp only [yA, yB, yC, yD, yE, e5]) (Ext.refl _) trivial (fun Y hY => ⟨A12_5, c12_5, rfl, RN.up o12_5 hY⟩)
    refine Par.AllOps.fin ⟨fun f X hX hR hal hap => ?_⟩
    obtain ⟨A12_5, c12_5, (e5 : f 5 = _), o12_5⟩ := hR 5 (by decide)
    obtain ⟨A12_6, c12_6, (e6 : f 6 = _), o12_6⟩ := hR 6 (by decide)
    simp only [yA, yB, yD, yE, e5, e6]
    clear hR hal hap e5 e6
    refine Par.Chain.done ?_
    replace hE := hE.trans hX
    replace N7 := Lib.hid (RN.up N7.out hX)
    have N8 := Lib.hid o12_6
    clear hX o12_5 o12_6
    rename World => X12_k
    go_upto_region 13 with fail
    refine Par.region_txt 9 [0, 0, 2, 7, 15, 31, 31, 63, 255] [] (fun j f X => match j with
     | 0 => f 0 = .slice A12_6 (digs 4294967296 u2).length c12_6
     | 1 => f 1 = .pointer (some ⟨q, 0, none⟩)
     | 2 => f 2 = .slice Ap (digs 4294967296 C.M).length cp
     | 3 => ∃ A1 c1, f 3 = .tuple #[.slice A1 (digs 4294967296 iv).length c1, .bool ib] ∧ RU X A1 c1 (digs 4294967296 iv)
     | 4 => ∃ A1 c1, f 4 = .tuple #[.slice A1 (digs 4294967296 iv).length c1, .bool ib] ∧ RU X A1 c1 (digs 4294967296 iv)
     | 5 => ∃ A1 c1, f 5 = .slice A1 (digs 4294967296 iv).length c1 ∧ RU X A1 c1 (digs 4294967296 iv)
     | 6 => f 6 = .bool ib
     | 7 => ∃ A1 c1, f 7 = .slice A1 (digs 4294967296 iv).length c1 ∧ RU X A1 c1 (digs 4294967296 iv)
     | 8 => f 8 = .bool ib
     | _ => True) (by kernel_rfl) [(68, 0), (69, 1), (70, 2), (71, 3), (67, 4), (72, 5), (73, 6), (9, 7), (10, 8)] (by kernel_rfl) ?_
    refine Par.v0 1 8 ?_
    refine Par.v0 2 7 ?_
    refine Par.ld1 3 6 1 (hE.cell cP) ?_
    refine Par.c0 4 5 (fun f => #[f 0, f 2]) (F' := 59) (fun f X hX hR => ?_) ?_
    · have e0 : f 0 = _ := hR.out 0 rfl
      have e2 : f 2 = _ := hR.out 2 rfl
      simp only [e0, e2]
      refine (refInverse_any A12_6 Ap c12_6 cp u2 C.M X (RN.up N8.out hX) (RN.up HRP.out (hE.trans hX)) (by have := HF.out.len' L_u2.out; omega) (by have := HF.out.len; omega) (by have := HF.out.three; omega)).mono ?_
      rw [Hiv.out, Hib.out]
      rintro e w2 ⟨A1, c1, rfl, hO, hB⟩
      exact ⟨_, rfl, hB, fun Y hY => ⟨A1, c1, rfl, RN.up hO hY⟩⟩
    refine Par.S 5 4 [(68, 0), (69, 1), (70, 2), (71, 3)] (fun f X hX hR K hK => ?_) ?_
    · obtain ⟨A4, c4, (e3 : f 3 = _), o4⟩ := hR.out 3 rfl
      simp only [yA, yB, yC, yD, yE, e3]
      refine ⟨?_⟩
      go_simp
      exact hK.out _ _ _ (by simp only [yA, yB, yC, yD, yE, e3]) (Ext.refl _) trivial (fun Y hY => ⟨A4, c4, rfl, RN.up o4 hY⟩)
    refine Par.S 6 3 [(68, 0), (69, 1), (70, 2), (71, 3), (67, 4), (73, 6)] (fun f X hX hR K hK => ?_) ?_
    · obtain ⟨A5, c5, (e4 : f 4 = _), o5⟩ := hR.out 4 rfl
      simp only [yA, yB, yC, yD, yE, e4]
      refine ⟨?_⟩
      go_simp
      exact hK.out _ _ _ (by simp only [yA, yB, yC, yD, yE, e4]) (Ext.refl _) trivial (fun Y hY => ⟨A5, c5, rfl, RN.up o5 hY⟩)
    refine Par.S 7 2 [(68, 0), (69, 1), (70, 2), (71, 3), (67, 4), (72, 5), (9, 7)] (fun f X hX hR K hK => ?_) ?_
    · obtain ⟨A5, c5, (e4 : f 4 = _), o5⟩ := hR.out 4 rfl
      simp only [yA, yB, yC, yD, yE, e4]
      refine ⟨?_⟩
      go_simp
      exact Par.k hK (s := by simp only [yA, yB, yC, yD, yE, e4])
    refine Par.S 8 1 [(68, 0), (69, 1), (70, 2), (71, 3), (67, 4), (72, 5), (73, 6)] (fun f X hX hR K hK => ?_) ?_
    · obtain ⟨A6, c6, (e5 : f 5 = _), o6⟩ := hR.out 5 rfl
      simp only [yA, yB, yC, yD, yE, e5]
      refine ⟨?_⟩
      go_simp
      exact hK.out _ _ _ (by simp only [yA, yB, yC, yD, yE, e5]) (Ext.refl _) trivial (fun Y hY => ⟨A6, c6, rfl, RN.up o6 hY⟩)
    refine Par.v1 9 0 6 ?_
    refine Par.AllOps.fin ⟨fun f X hX hR hal hap => ?_⟩
    obtain ⟨A4, c4, (e3 : f 3 = _), o4⟩ := hR 3 (by decide)
    obtain ⟨A5, c5, (e4 : f 4 = _), o5⟩ := hR 4 (by decide)
    obtain ⟨A6, c6, (e5 : f 5 = _), o6⟩ := hR 5 (by decide)
    obtain ⟨A8, c8, (e7 : f 7 = _), o8⟩ := hR 7 (by decide)
    simp only [yA, yB, yD, yE, e3, e4, e5, e7]
    clear hR hal hap e3 e4 e5 e7
    refine Par.Chain.done ?_
    replace N7 := Lib.hid (RN.up N7.out hX)
    replace N8 := Lib.hid (RN.up N8.out hX)
    replace hE := hE.trans hX
    have N9 := Lib.hid o8
    clear hX o4 o5 o6 o8
    rename World => X13
    go_upto_region 14 with fail
    refine Par.region_txt 5 [0, 0, 0, 7, 15] [] (fun j f X => match j with
     | 0 => f 0 = .agg ccs
     | 1 => f 1 = .slice A11_6 (digs 4294967296 u1).length c11_6
     | 2 => f 2 = .slice A8 (digs 4294967296 iv).length c8
     | 3 => ∃ A1 c1, f 3 = .slice A1 (digs 4294967296 u3).length c1 ∧ RU X A1 c1 (digs 4294967296 u3)
     | 4 => ∃ A1 c1, f 4 = .slice A1 (digs 4294967296 u3).length c1 ∧ RU X A1 c1 (digs 4294967296 u3)
     | _ => True) (by kernel_rfl) [(74, 0), (75, 1), (76, 2), (77, 3), (11, 4)] (by kernel_rfl) ?_
    refine lV0 1 4 (hE.at_ hcb) (by rw [Hccs.out]; exact infoRC) ?_
    refine Par.v0 2 3 ?_
    refine Par.v0 3 2 ?_
    refine rc 4 1 0 1 2 (fun _ _ hX h => ⟨_, _, h, (RN.up N7.out hX)⟩) (fun _ _ hX h => ⟨_, _, h, (RN.up N9.out hX)⟩) (fun X hX _ _ _ _ h h' => times_r X HF.out (hRC.out.ext (hE.trans hX)) h h' L_u1.out hivl.out) E_u3.out ?_
    refine Par.S 5 0 [(74, 0), (75, 1), (76, 2), (77, 3)] (fun f X hX hR K hK => ?_) ?_
    · obtain ⟨A14_3, c14_3, (e3 : f 3 = _), o14_3⟩ := hR.out 3 rfl
      simp only [yA, yB, yC, yD, yE, e3]
      refine ⟨?_⟩
      go_simp
      exact hK.out _ _ _ (by simp only [yA, yB, yC, yD, yE, e3]) (Ext.refl _) trivial (fun Y hY => ⟨A14_3, c14_3, rfl, RN.up o14_3 hY⟩)
    refine Par.AllOps.fin ⟨fun f X hX hR hal hap => ?_⟩
    obtain ⟨A14_3, c14_3, (e3 : f 3 = _), o14_3⟩ := hR 3 (by decide)
    obtain ⟨A14_4, c14_4, (e4 : f 4 = _), o14_4⟩ := hR 4 (by decide)
    simp only [yA, yB, yD, yE, e3, e4]
    clear hR hal hap e3 e4
    refine Par.Chain.done ?_
    replace hE := hE.trans hX
    replace N7 := Lib.hid (RN.up N7.out hX)
    replace N8 := Lib.hid (RN.up N8.out hX)
    replace N9 := Lib.hid (RN.up N9.out hX)
    have N11 := Lib.hid o14_4
    clear hX o14_3 o14_4
    rename World => X14_k
    go_upto_region 15 with fail
    refine Par.region_ext (by kernel_rfl) 13 [0, 0, 0, 0, 0, 28, 0, 64, 254, 0, 512, 2047, 4095] [] (fun j f X => match j with
     | 0 => f 0 = .agg ccs
     | 1 => f 1 = .agg ccs
     | 2 => f 2 = .agg ccs
     | 3 => f 3 = .slice A14_4 (digs 4294967296 u3).length c14_4
     | 4 => f 4 = .slice A14_4 (digs 4294967296 u3).length c14_4
     | 5 => ∃ A1 c1, f 5 = .slice A1 (digs 4294967296 u4).length c1 ∧ RU X A1 c1 (digs 4294967296 u4)
     | 6 => f 6 = .pointer (some ⟨q + 1, 1, none⟩)
     | 7 => f 7 = .slice A1 (digs 4294967296 x).length k1
     | 8 => ∃ A1 c1, f 8 = .slice A1 (digs 4294967296 u5).length c1 ∧ RU X A1 c1 (digs 4294967296 u5)
     | 9 => f 9 = .pointer (some ⟨q + 2, 1, none⟩)
     | 10 => f 10 = .slice B1 (digs 4294967296 qx).length m1
     | 11 => ∃ A1 c1, f 11 = .slice A1 (digs 4294967296 u6).length c1 ∧ RT X A1 c1 (digs 4294967296 u6)
     | 12 => ∃ A1 c1, f 12 = .slice A1 (digs 4294967296 u6).length c1 ∧ RT X A1 c1 (digs 4294967296 u6)
     | _ => True) (by kernel_rfl) [(78, 0), (79, 1), (80, 2), (81, 3), (82, 4), (83, 5), (84, 6), (85, 7), (86, 8), (87, 9), (88, 10), (89, 11), (12, 12)] (by kernel_rfl) ?_
    refine lV0 1 12 (hE.at_ hcb) (by rw [Hccs.out]; exact infoRC) ?_
    refine lV0 2 11 (hE.at_ hcb) (by rw [Hccs.out]; exact infoRC) ?_
    refine lV0 3 10 (hE.at_ hcb) (by rw [Hccs.out]; exact infoRC) ?_
    refine Par.v0 4 9 ?_
    refine Par.v0 5 8 ?_
    refine rc 6 7 2 3 4 (fun _ _ hX h => ⟨_, _, h, (RN.up N11.out hX)⟩) (fun _ _ hX h => ⟨_, _, h, (RN.up N11.out hX)⟩) (fun X hX _ _ _ _ h h' => times_r X HF.out (hRC.out.ext (hE.trans hX)) h h' L_u3.out L_u3.out) E_u4.out ?_
    refine Par.v0 7 6 ?_
    refine Par.ld1 8 5 6 (hE.cell j1) ?_
    refine rc 9 4 1 5 7 (fun _ _ _ h => h) (fun _ _ hX h => ⟨_, _, h, (RN.up HX1.out (hE.trans hX))⟩) (fun X hX _ _ _ _ h h' => minus_r X HF.out (hRC.out.ext (hE.trans hX)) h h' L_u4.out hx.out) E_u5.out ?_
    refine Par.v0 10 3 ?_
    refine Par.ld1 11 2 9 (hE.cell t1) ?_
    refine Par.c0 12 1 (fun f => #[f 0, f 8, f 10]) (F' := 54) (fun f X hX hR => ?_) ?_
    · have e0 : f 0 = _ := hR.out 0 rfl
      obtain ⟨A15_8, c15_8, (e8 : f 8 = _), o15_8⟩ := hR.out 8 rfl
      have e10 : f 10 = _ := hR.out 10 rfl
      simp only [e0, e8, e10]
      refine (minus_rt X HF.out (hRC.out.ext (hE.trans hX)) o15_8 (RN.up HX4.out (hE.trans hX)) L_u5.out hqx.out).mono ?_
      rw [E_u6.out]
      rintro e w2 ⟨A1, c1, rfl, hO, hB⟩
      exact ⟨_, rfl, hB, fun Y hY => ⟨A1, c1, rfl, RT.up hO hY⟩⟩
    refine Par.S 13 0 [(78, 0), (79, 1), (80, 2), (81, 3), (82, 4), (83, 5), (84, 6), (85, 7), (86, 8), (87, 9), (88, 10), (89, 11)] (fun f X hX hR K hK => ?_) ?_
    · obtain ⟨A15_11, c15_11, (e11 : f 11 = _), o15_11⟩ := hR.out 11 rfl
      simp only [yA, yB, yC, yD, yE, e11]
      refine ⟨?_⟩
      go_simp
      exact hK.out _ _ _ (by simp only [yA, yB, yC, yD, yE, e11]) (Ext.refl _) trivial (fun Y hY => ⟨A15_11, c15_11, rfl, RT.up o15_11 hY⟩)
    refine Par.AllOps.fin ⟨fun f X hX hR hal hap => ?_⟩
    obtain ⟨A15_5, c15_5, (e5 : f 5 = _), o15_5⟩ := hR 5 (by decide)
    obtain ⟨A15_8, c15_8, (e8 : f 8 = _), o15_8⟩ := hR 8 (by decide)
    obtain ⟨A15_11, c15_11, (e11 : f 11 = _), o15_11⟩ := hR 11 (by decide)
    obtain ⟨A15_12, c15_12, (e12 : f 12 = _), o15_12⟩ := hR 12 (by decide)
    simp only [yA, yB, yD, yE, e5, e8, e11, e12]
    clear hR hal hap e5 e8 e11 e12
    refine Par.Chain.done ?_
    replace hE := hE.trans hX
    replace N7 := Lib.hid (RN.up N7.out hX)
    replace N8 := Lib.hid (RN.up N8.out hX)
    replace N9 := Lib.hid (RN.up N9.out hX)
    replace N11 := Lib.hid (RN.up N11.out hX)
    have N12 := Lib.hid o15_12
    clear hX o15_5 o15_8 o15_11 o15_12
    rename World => X15_k
    have hb1 := hE.at_ hrb
    go_upto_region 16 with fail
    refine Par.region_ext (by kernel_rfl) 14 [0, 0, 0, 0, 0, 0, 32, 0, 240, 508, 0, 1024, 4094, 8191, 16383] [] (fun j f X => match j with
     | 0 => f 0 = .slice A15_12 (digs 4294967296 u6).length c15_12
     | 1 => f 1 = .agg ccs
     | 2 => f 2 = .agg ccs
     | 3 => f 3 = .slice A14_4 (digs 4294967296 u3).length c14_4
     | 4 => f 4 = .agg ccs
     | 5 => f 5 = .pointer (some ⟨q + 1, 1, none⟩)
     | 6 => f 6 = .slice A1 (digs 4294967296 x).length k1
     | 7 => f 7 = .slice A15_12 (digs 4294967296 u6).length c15_12
     | 8 => ∃ A1 c1, f 8 = .slice A1 (digs 4294967296 u7).length c1 ∧ RU X A1 c1 (digs 4294967296 u7)
     | 9 => ∃ A1 c1, f 9 = .slice A1 (digs 4294967296 u8).length c1 ∧ RU X A1 c1 (digs 4294967296 u8)
     | 10 => f 10 = .pointer (some ⟨q + 1, 2, none⟩)
     | 11 => f 11 = .slice A2 (digs 4294967296 y).length k2
     | 12 => ∃ A1 c1, f 12 = .slice A1 (digs 4294967296 u9).length c1 ∧ RT X A1 c1 (digs 4294967296 u9)
     | 13 => ∃ A1 c1 A2 c2, f 13 = .agg #[.bool false, .slice A1 (digs 4294967296 u6).length c1, .slice A2 (digs 4294967296 u9).length c2] ∧ RT X A1 c1 (digs 4294967296 u6) ∧ RT X A2 c2 (digs 4294967296 u9)
     | _ => True) (by kernel_rfl) [(90, 0), (91, 1), (92, 2), (93, 3), (94, 4), (95, 5), (96, 6), (97, 7), (98, 8), (99, 9), (100, 10), (101, 11), (102, 12), (103, 13)] (by kernel_rfl) ?_
    refine Par.v0 1 13 ?_
    refine lV0 2 12 (hE.at_ hcb) (by rw [Hccs.out]; exact infoRC) ?_
    refine lV0 3 11 (hE.at_ hcb) (by rw [Hccs.out]; exact infoRC) ?_
    refine Par.v0 4 10 ?_
    refine lV0 5 9 (hE.at_ hcb) (by rw [Hccs.out]; exact infoRC) ?_
    refine Par.v0 6 8 ?_
    refine Par.ld1 7 7 5 (hE.cell j1) ?_
    refine Par.v0 8 6 ?_
    refine rc 9 5 4 6 7 (fun _ _ hX h => ⟨_, _, h, (RN.up HX1.out (hE.trans hX))⟩) (fun _ _ hX h => ⟨_, _, h, (RN.up N12.out.ru hX)⟩) (fun X hX _ _ _ _ h h' => minus_r X HF.out (hRC.out.ext (hE.trans hX)) h h' hx.out L_u6.out) E_u7.out ?_
    refine rc 10 4 2 3 8 (fun _ _ hX h => ⟨_, _, h, (RN.up N11.out hX)⟩) (fun _ _ _ h => h) (fun X hX _ _ _ _ h h' => times_r X HF.out (hRC.out.ext (hE.trans hX)) h h' L_u3.out L_u7.out) E_u8.out ?_
    refine Par.v0 11 3 ?_
    refine Par.ld1 12 2 10 (hE.cell j2) ?_
    refine Par.c0 13 1 (fun f => #[f 1, f 9, f 11]) (F' := 54) (fun f X hX hR => ?_) ?_
    · have e1 : f 1 = _ := hR.out 1 rfl
      obtain ⟨A16_9, c16_9, (e9 : f 9 = _), o16_9⟩ := hR.out 9 rfl
      have e11 : f 11 = _ := hR.out 11 rfl
      simp only [e1, e9, e11]
      refine (minus_rt X HF.out (hRC.out.ext (hE.trans hX)) o16_9 (RN.up HX2.out (hE.trans hX)) L_u8.out hy.out).mono ?_
      rw [E_u9.out]
      rintro e w2 ⟨A1, c1, rfl, hO, hB⟩
      exact ⟨_, rfl, hB, fun Y hY => ⟨A1, c1, rfl, RT.up hO hY⟩⟩
    refine Par.S 14 0 [(90, 0), (91, 1), (92, 2), (93, 3), (94, 4), (95, 5), (96, 6), (97, 7), (98, 8), (99, 9), (100, 10), (101, 11), (102, 12)] (fun f X hX hR K hK => ?_) ?_
    · have e0 : f 0 = _ := hR.out 0 rfl
      obtain ⟨A16_12, c16_12, (e12 : f 12 = _), o16_12⟩ := hR.out 12 rfl
      simp only [yA, yB, yC, yD, yE, e0, e12]
      refine ⟨?_⟩
      go_simp
      exact hK.out _ _ _ (by simp only [yA, yB, yC, yD, yE, e0, e12]) (Ext.refl _) trivial (fun Y hY => ⟨_, _, _, _, rfl, RT.up N12.out (hX.trans hY), RT.up o16_12 hY⟩)
    refine Par.AllOps.fin ⟨fun f X hX hR hal hap => ?_⟩
    obtain ⟨A16_8, c16_8, (e8 : f 8 = _), o16_8⟩ := hR 8 (by decide)
    obtain ⟨A16_9, c16_9, (e9 : f 9 = _), o16_9⟩ := hR 9 (by decide)
    obtain ⟨A16_12, c16_12, (e12 : f 12 = _), o16_12⟩ := hR 12 (by decide)
    obtain ⟨Ax1, cx1, Ay1, cy1, (e13 : f 13 = _), ox1, oy1⟩ := hR 13 (by decide)
    simp only [yA, yB, yD, yE, e8, e9, e12, e13]
    clear hR hal hap e8 e9 e12 e13
    refine Par.Chain.next (fun K hK => ⟨Par.want (by kernel_rfl) (wp_storeV (cs' := #[.bool false, .slice Ax1 (digs 4294967296 u6).length cx1, .slice Ay1 (digs 4294967296 u9).length cy1]) (t := 34) 34 (.tmp 6) (.tmp 103) rfl rfl rfl rfl (hX.at_ hb1) infoRP rfl (pt_one _ _ _ _ _ _ _) (fun Y hY1 hY2 hY3 => hK.out _ _ ?_))⟩)
    refine Par.Chain.done ?_
    go_wp2
    exact end_rpt rfl rfl rfl hY1 ⟨_, rfl, ⟨_, _, _, _, rfl, (RT.rd ox1).offJ hY2 (hX.at_ hb1) (by kernel_rfl) (by decide), (RT.rd oy1).offJ hY2 (hX.at_ hb1) (by kernel_rfl) (by decide)⟩, hY2.ext (HE0.out.trans (hE.trans hX)) (by have := Hq.out; omega)⟩
theorem wpIn_iterW {β : Type} {n : Nat} {P : Program} {g : Operand} {ps : Array Tmp} {assign body : Code} {Q : Exit → Act → World → Prop} {a : Act} {w : World}
    (h2 : 2 ≤ n) {gf : Nat} {lb : Array Value} (hg : a.eval g = .func (.func gf) #[] lb) (eg : ∀ args w, (callFunc gf args).run P w = .ok (.enter gf args) w)
    {xs : Nat → β → Array Value} {Vs : Nat → β → World → Prop} {Nd : Nat → World → Prop} {T : Nat → Nat → World → World → Prop} {Kp : World → World → Prop} {m N : Nat} {fin : Bool} {w0 : World} (hseq : SeqAtV P gf lb xs Vs Nd T Kp m N fin w0)
    (hKt : ∀ {A B C : World}, Kp A B → Kp B C → Kp A C) (hKb : ∀ (W : World) (l : Nat) (o o' : Obj), w.heap.size ≤ l → W.heap[l]? = some o → o.isCells = false → o.isWalk = false → Kp W (W.putObj l o'))
    (hT : ∀ B k W1 W2, T B k W1 W2 → W1.heap.size ≤ W2.heap.size ∧ ∀ b o, b < B → W1.heap[b]? = some o → o.isCells = false → W2.heap[b]? = some o)
    (hb0 : Below w0.heap.size w0 w) (hps : ∀ k b, (xs k b).size = ps.size)
    (I I' : Nat → World → Prop) (Ix : Code → Nat → World → Prop) (hI : OwnFrom w.heap.size I) (hI' : OwnFrom w.heap.size I') (hIx : ∀ c, OwnFrom w.heap.size (Ix c))
    (hNd : ∀ k W, k ≤ N → I k W → Nd k W) (hIT : ∀ B k W1 W2, w.heap.size ≤ B → k ≤ N → I k W1 → T B k W1 W2 → I' k W2) (hfin : fin = false → ∀ W', ¬ I' N W') (h0 : I 0 w) (Ia : Nat → Act → World → Prop) (hIa : ∀ a, OwnFrom w.heap.size (fun k => Ia k a))
    (hassign : ∀ (l k : Nat) (b : β) (W : World) (K : Act → World → Prop), I' k W → Vs k b W → k < N → w.heap.size + 2 + m ≤ W.heap.size → (∀ a' W', Ia k a' W' → Keeps w.heap.size (w.heap.size + 2) m W W' → Kp W W' → K a' W') →
      assign.wpIn (Fence.wide.inRound l) (n - 1 - 1) P (Exit.then K (fun _ _ _ => False)) { tmps := (ps.zip (xs k b)).foldl (fun t (p, v) => t.setIfInBounds p v) a.tmps, defers := [] } W)
    (hbody : ∀ (l k : Nat) (a' : Act) (W : World), Ia k a' W → k < N → w.heap.size + 2 + m ≤ W.heap.size → body.wpIn (Fence.wide.inRound l) (n - 1 - 1) P (iterPost w.heap.size m Kp I Ix (k + 1) W) a' W)
    (hdone : ∀ (D : Nat) (W : World), w.heap.size ≤ D → I' N W → W.heap[D]? = some (.deferred (some [])) → Q .normal { a with defers := { target := .collected D, args := #[] } :: a.defers } W)
    (hstop : ∀ (D : Nat) (c : Code) (k : Nat) (W : World), w.heap.size ≤ D → 0 < k → k ≤ N → Ix c k W → W.heap[D]? = some (.deferred (some [])) → c.wpIn Fence.wide n P Q { a with defers := { target := .collected D, args := #[] } :: a.defers } W) :
    (Code.rangeFunc g ps assign body).wpIn Fence.wide n P Q a w := by
  refine wpIn_rangeFunc ?_
  intro fn hfn
  obtain ⟨rc, hrc⟩ : ∃ rc : LoopState → Option Code → Loop, rc = fun st pe => { state := st, pending := pe, fn, tmps := a.tmps, params := ps, assign, body, defers := w.heap.size } := ⟨_, rfl⟩
  obtain ⟨L, hL⟩ : ∃ L, w.heap.size + 1 = L := ⟨_, rfl⟩
  obtain ⟨D, hD⟩ : ∃ D, w.heap.size = D := ⟨_, rfl⟩
  obtain ⟨W1, hW1⟩ : ∃ W1, (w.alloc (.deferred (some []))).alloc (.loop (rc .ready none)) = W1 := ⟨_, rfl⟩
  have hz1 : W1.heap.size = D + 2 := by rw [← hW1, ← hD]; simp
  have hl1 : W1.heap[L]? = some (.loop (rc .ready none)) := by
    rw [← hW1, ← hL]; have := World.alloc_heap_new (w.alloc (.deferred (some []))) (.loop (rc .ready none)); rwa [World.size_alloc] at this
  have hd1 : W1.heap[D]? = some (.deferred (some [])) := by
    rw [← hW1, ← hD]; exact (Below.heap_alloc _ _ _ (by simp)).trans (World.alloc_heap_new w _)
  have hi1 : I 0 W1 := by rw [← hW1]; exact hI.alloc _ (hI.alloc _ h0)
  have hb1 : Below w0.heap.size w0 W1 := by rw [← hW1]; exact hb0.trans ((((Below.refl _ w).alloc (Nat.le_refl _) _).alloc (by simp) _).mono hb0.size)
  have hlD : L = D + 1 := by omega
  refine ⟨L, [{ target := .collected D, args := #[] }], W1, { target := .fn (.func gf) lb, args := #[.func (.yield L) #[] #[]] }, W1, gf,
    #[.func (.yield L) #[] #[]] ++ lb, W1, ?_, ?_, ?_, ?_, fun _ => by omega, ?_⟩
  · rw [← hW1, hrc, ← hL, ← hD]; exact run_enterLoop_outer _ _ _ _ _
  · simp only [resolve, hg]
    simp [go_sem]
  · exact fun _ _ => trivial
  · simp [invoke, go_sem, eg]
  -- the record's two blocks, beside what the caller holds
  have recs : ∀ (st : LoopState) (pe : Option Code), OwnFrom W1.heap.size (fun (_ : Nat) (W : World) => (L < W.heap.size ∧ W.heap[L]? = some (.loop (rc st pe))) ∧ D < W.heap.size ∧ W.heap[D]? = some (.deferred (some []))) := fun st pe =>
    OwnFrom.and (ownFrom_block _ (by omega)) (ownFrom_block _ (by omega))
  have lt : ∀ {W : World} {b : Nat} {o : Obj}, W.heap[b]? = some o → b < W.heap.size := fun h => (Array.getElem?_eq_some_iff.1 h).1
  refine (hseq (n - 1) L
    (fun k W => I k W ∧ (L < W.heap.size ∧ W.heap[L]? = some (.loop (rc .ready none))) ∧ D < W.heap.size ∧ W.heap[D]? = some (.deferred (some [])))
    (fun k W => I' k W ∧ (L < W.heap.size ∧ W.heap[L]? = some (.loop (rc .ready none))) ∧ D < W.heap.size ∧ W.heap[D]? = some (.deferred (some [])))
    (fun k W => ∃ c, Ix c k W ∧ (L < W.heap.size ∧ W.heap[L]? = some (.loop (rc .done (some c)))) ∧ D < W.heap.size ∧ W.heap[D]? = some (.deferred (some [])))
    W1 (by omega) hb1 (by omega) (OwnFrom.and (ownFrom_mono hI (by omega)) (recs _ _)) (OwnFrom.and (ownFrom_mono hI' (by omega)) (recs _ _))
    (fun k A B row hs hg' hr => by obtain ⟨c, hc, hr2⟩ := hs; exact ⟨c, ownFrom_mono (hIx c) (by omega) k A B row hc hg' hr, recs _ _ k A B row hr2 hg' hr⟩)
    (fun k A hk hs => hNd k A hk hs.1) ?_ (fun hf W' hs => hfin hf W' hs.1) ?_ ⟨hi1, ⟨lt hl1, hl1⟩, lt hd1, hd1⟩).mono ?_
  · rintro k A B hk ⟨hi, ⟨_, hl⟩, _, hd⟩ ht
    have hl' := (hT _ _ _ _ ht).2 L _ (by omega) hl rfl
    have hd' := (hT _ _ _ _ ht).2 D _ (by omega) hd rfl
    exact ⟨hIT _ k A B (by omega) hk hi ht, ⟨lt hl', hl'⟩, lt hd', hd'⟩
  · -- one round
    rintro k b W ⟨hi, ⟨_, hl⟩, _, hd⟩ hvs hlen hm
    have hlt : L < W.heap.size := lt hl
    have hy := run_yield (P := P) (args := xs k b) hl (by rw [hrc]; exact hps k b)
    rw [hrc] at hy
    refine ⟨fn, _, assign, body, hy, roundIn_of_wpIn hfn (hassign _ k b W _ hi hvs hlen (by omega) fun a₂ Wa hia hka hkpa => ⟨_, run_beginRound (hka.others L _ (by omega) hl rfl) (by rw [hrc]), ?_⟩)⟩
    have hla := hka.others L _ (by omega) hl rfl
    have hda := hka.others D _ (by omega) hd rfl
    have hza := hka.size
    have hlta : L < Wa.heap.size := lt hla
    have hl2 : (Wa.putObj L (.loop { rc .ready none with state := .busy })).heap[L]? = some (.loop { rc .ready none with state := .busy }) := World.putObj_heap_same hlta
    have hd2 : (Wa.putObj L (.loop { rc .ready none with state := .busy })).heap[D]? = some (.deferred (some [])) := (World.putObj_heap_other (by omega)).trans hda
    have hw2 : Kp Wa (Wa.putObj L (.loop { rc .ready none with state := .busy })) := hKb _ _ _ _ (by omega) hla rfl rfl
    have hk2 : Keeps W1.heap.size W1.heap.size m Wa (Wa.putObj L (.loop { rc .ready none with state := .busy })) := Keeps.putObj (by omega) (by omega)
    refine wpIn_mono (hbody _ k _ _ ((hIa a₂).putObj _ hia (by omega) hla rfl) hlen (by simp; omega)) ?_
    have fin : ∀ (jump : Option Code) (W3 : World), Keeps w.heap.size (w.heap.size + 2) m (Wa.putObj L (.loop { rc .ready none with state := .busy })) W3 →
        (Instr.endRound L jump).run P W3 = .ok (.bool jump.isNone) (W3.putObj L (.loop (rc (if jump.isNone then .ready else .done) jump))) ∧
        W3.heap[L]? = some (.loop { rc .ready none with state := .busy }) ∧
        (W3.putObj L (.loop (rc (if jump.isNone then .ready else .done) jump))).heap[L]? = some (.loop (rc (if jump.isNone then .ready else .done) jump)) ∧
        (W3.putObj L (.loop (rc (if jump.isNone then .ready else .done) jump))).heap[D]? = some (.deferred (some [])) ∧
        Keeps W1.heap.size W1.heap.size m W (W3.putObj L (.loop (rc (if jump.isNone then .ready else .done) jump))) := fun jump W3 hk3 => by
      have hl3 := hk3.others L _ (by omega) hl2 rfl
      have hd3 := hk3.others D _ (by omega) hd2 rfl
      have := run_endRound (P := P) jump hl3
      rw [hrc] at this ⊢
      exact ⟨this, by rw [hrc] at hl3; exact hl3, World.putObj_heap_same (lt hl3), (World.putObj_heap_other (by omega)).trans hd3, by rw [hrc] at hk2 hk3; exact (hka.mono (by omega) (by omega) (by omega)).trans (hk2.trans ((hk3.mono (by omega) (by omega) (by omega)).trans (Keeps.putObj (by omega) (by omega))))⟩
    rintro e a3 W3 hp
    cases e with
    | normal =>
      obtain ⟨hk3, hkp3, hi3⟩ := hp
      obtain ⟨hr, hl3, hl4, hd4, hk4⟩ := fin none W3 hk3
      exact ⟨_, _, hr, .inl ⟨rfl, ⟨hI.putObj _ hi3 (by omega) hl3 rfl, ⟨lt hl4, hl4⟩, lt hd4, hd4⟩, hKt (hKt hkpa (hKt hw2 hkp3)) (hKb _ _ _ _ (by omega) hl3 rfl rfl), hk4⟩⟩
    | ret =>
      obtain ⟨hk3, hi3⟩ := hp
      obtain ⟨hr, hl3, hl4, hd4, hk4⟩ := fin (some .ret) W3 hk3
      exact ⟨_, _, hr, .inr ⟨rfl, ⟨.ret, (hIx _).putObj _ hi3 (by omega) hl3 rfl, ⟨lt hl4, hl4⟩, lt hd4, hd4⟩, hk4⟩⟩
    | exit id =>
      obtain ⟨hk3, hi3⟩ := hp
      obtain ⟨hr, hl3, hl4, hd4, hk4⟩ := fin (some (.exit id)) W3 hk3
      exact ⟨_, _, hr, .inr ⟨rfl, ⟨.exit id, (hIx _).putObj _ hi3 (by omega) hl3 rfl, ⟨lt hl4, hl4⟩, lt hd4, hd4⟩, hk4⟩⟩
    | goto t =>
      obtain ⟨hk3, hi3⟩ := hp
      obtain ⟨hr, hl3, hl4, hd4, hk4⟩ := fin (some (.goto t)) W3 hk3
      exact ⟨_, _, hr, .inr ⟨rfl, ⟨.goto t, (hIx _).putObj _ hi3 (by omega) hl3 rfl, ⟨lt hl4, hl4⟩, lt hd4, hd4⟩, hk4⟩⟩
    | panic ch => exact hp.elim
    | outgrown => exact hp.elim
  · -- behind the iterator
    rintro e W2 ⟨⟨v, rfl⟩, (⟨hi, ⟨_, hl⟩, _, hd⟩ | ⟨k, hk0, hk, c, hi, ⟨_, hl⟩, _, hd⟩)⟩
    · exact ⟨none, _, by have := run_endLoop (P := P) hl (by rw [hrc]; simp); rw [hrc] at this; exact this, hdone _ _ (by omega) (hI'.putObj _ hi (by omega) hl rfl) ((World.putObj_heap_other (by omega)).trans hd)⟩
    · exact ⟨some c, _, by have := run_endLoop (P := P) hl (by rw [hrc]; simp); rw [hrc] at this; exact this, hstop _ c k _ (by omega) hk0 hk ((hIx c).putObj _ hi (by omega) hl rfl) ((World.putObj_heap_other (by omega)).trans hd)⟩
theorem cell_blk {W : World} {p : Addr} {v : Value} (hp : W.cell? p = some v) : ∃ cs T fr, W.heap[p.block]? = some (.cells cs T fr) := by
 unfold World.cell? at hp
 split at hp
 · rename_i cs T fr hc
   exact ⟨cs, T, fr, hc⟩
 all_goals cases hp
def KU (W W' : World) : Prop := W.heap.size ≤ W'.heap.size ∧ ∀ (p : Addr) (n : Int), W.cell? p = some (.int .u64 n) → W'.cell? p = some (.int .u64 n)
theorem KU.refl (W : World) : KU W W := ⟨Nat.le_refl _, fun _ _ h => h⟩
theorem KU.trans {a b c : World} (h : KU a b) (k : KU b c) : KU a c := ⟨Nat.le_trans h.1 k.1, fun p n hp => k.2 p n (h.2 p n hp)⟩
theorem KU.ext {a b : World} (h : Ext a b) : KU a b := ⟨h.bsize, fun _ _ hp => h.cell hp⟩
theorem KU.just {X Y : World} {g : Nat} {cs : Array Value} {T : TypeId} {fr : Nat × Nat} (hj : Just g X Y) (hg : X.heap[g]? = some (.cells cs T fr)) (hc : ∀ (i : Nat) (n : Int), cs[i]? ≠ some (.int .u64 n)) : KU X Y := by
 refine ⟨hj.size, fun p n hp => ?_⟩
 obtain ⟨cs', T', fr', hb⟩ := cell_blk hp
 by_cases hne : p.block = g
 · exfalso
   rw [hne, hg] at hb
   have hb := (Option.some.inj hb).symm
   injection hb with h1 h2 h3
   subst h1 h2 h3
   obtain ⟨blk, i, f⟩ := p
   have hne' : blk = g := hne
   subst hne'
   unfold World.cell? at hp
   rw [show X.heap[(⟨blk, i, f⟩ : Addr).block]? = some (.cells cs' T' fr') from hg] at hp
   simp only at hp
   split at hp
   all_goals first | exact hc _ _ hp | cases hp
 · exact (World.cell?_of_block (hj.block _ (blk_lt hb) hne)).trans hp
theorem RN.ku {W W' : World} {P : Nat → Prop} {A : Option Addr} {c : Nat} {l : List Nat} (h : RN W P A c l) (hk : KU W W') : RN W' P A c l := by
 obtain ⟨⟨h1, h2, h3, h4⟩, h5⟩ := h
 refine ⟨⟨h1, h2, h3, fun hl => ?_⟩, h5⟩
 obtain ⟨ad, e, hb, hr⟩ := h4 hl
 refine ⟨ad, e, hb, fun j v hv => ?_⟩
 have hv2 : ∃ n, v = .int .u64 n := by
  rw [nts_getE] at hv
  cases hq : l[j]? with
  | none => rw [hq] at hv; cases hv
  | some x => rw [hq] at hv; cases hv; exact ⟨_, rfl⟩
 obtain ⟨n, rfl⟩ := hv2
 exact hk.2 _ n (hr j _ hv)
theorem RN.kuu {W W' : World} {A : Option Addr} {c : Nat} {l : List Nat} (h : RU W A c l) (hk : KU W W') : RU W' A c l := (RN.ku h hk).mono fun _ hb => Nat.lt_of_lt_of_le hb hk.1
theorem APn.ku {W W' : World} {v : Value} {bi : Bool} {a b : List Nat} (h : APn W v bi a b) (hk : KU W W') : APn W' v bi a b := let ⟨A, A', c, c', e, h1, h2⟩ := h; ⟨A, A', c, c', e, RN.kuu h1 hk, RN.kuu h2 hk⟩
theorem RC.ku {C : Crv} {W W' : World} {v : Value} (h : RC W C v) (hk : KU W W') : RC W' C v := by
 obtain ⟨Ap, An, Ab, Ax, Ay, cp, cn, cb, cx, cy, e, h1, h2, h3, h4, h5⟩ := h
 exact ⟨Ap, An, Ab, Ax, Ay, cp, cn, cb, cx, cy, e, RN.kuu h1 hk, RN.kuu h2 hk, RN.kuu h3 hk, RN.kuu h4 hk, RN.kuu h5 hk⟩
def RdK (D : Nat) (W W' : World) : Prop := KC D W W' ∧ Keeps D (D + 2) 0 W W'
theorem RdK.trans {D : Nat} {a b c : World} (h : RdK D a b) (k : RdK D b c) : RdK D a c := ⟨h.1.trans k.1, h.2.trans k.2⟩
theorem RdK.ext {D : Nat} {a b : World} (h : Ext a b) : RdK D a b := ⟨KC.ext h, ⟨h.bsize, fun _ _ _ hk _ => h.at_ hk, fun k h1 h2 _ => by omega⟩⟩
theorem RdK.just {D g : Nat} {X Y : World} {cs : Array Value} {T : TypeId} {fr : Nat × Nat} (hj : Just g X Y) (hg : X.heap[g]? = some (.cells cs T fr)) (hD : g < D) (h1 : T ≠ 137) (h2 : T ≠ 105) : RdK D X Y := by
 refine ⟨⟨hj.size, fun k cs' T' fr' hk ht => hj.at_ ?_ hk⟩, ⟨hj.size, fun k o hk ho hc => hj.at_ (by omega) ho, fun k a1 a2 _ => by omega⟩⟩
 rintro rfl
 rw [hg] at hk
 injection Option.some.inj hk with _ e2
 rcases ht with ht | ht | ht
 · omega
 · exact h1 (e2.trans ht)
 · exact h2 (e2.trans ht)
structure LawI (D b14 b15 : Nat) (wL : World) (T : Bool × Nat × Nat) (k : Nat) (W : World) : Prop where
 os : W.os = wL.os
 tape : W.tape = wL.tape
 output : W.output = wL.output
 ku : KU wL W
 blk : ∀ (b : Nat) (o : Obj), b < D → b ≠ b14 → b ≠ b15 → wL.heap[b]? = some o → W.heap[b]? = some o
 cnt : W.heap[b14]? = some (.cells #[.int .i64 (k : Int)] 3 (0, 0))
 sum : ∃ cs, W.heap[b15]? = some (.cells cs 34 (0, 0)) ∧ RPd D W (.agg cs) T.1 T.2.1 T.2.2
section
variable {D b14 b15 k : Nat} {wL W W' : World} {T : Bool × Nat × Nat}
theorem LawI.keep (h : LawI D b14 b15 wL T k W) (h14 : b14 < D) (h15 : b15 < D) (ho : W'.os = W.os ∧ W'.tape = W.tape ∧ W'.output = W.output) (hz : W.heap.size ≤ W'.heap.size) (hb : ∀ (b : Nat) (o : Obj), b < D → W.heap[b]? = some o → W'.heap[b]? = some o)
 (hu : KU wL W') (hd : ∀ (b : Nat) (cur : Array Value), W.heap[b]? = some (.cells cur 72 (0, 0)) → W'.heap[b]? = some (.cells cur 72 (0, 0))) : LawI D b14 b15 wL T k W' := by
 refine ⟨ho.1.trans h.os, ho.2.1.trans h.tape, ho.2.2.trans h.output, hu, fun b o h1 h2 h3 h4 => hb b o h1 (h.blk b o h1 h2 h3 h4), hb _ _ h14 h.cnt, ?_⟩
 obtain ⟨cs, hcs, A, A', c, c', e, r1, r2⟩ := h.sum
 have kp : ∀ p n, (p : Addr).block < W.heap.size → (p.block < D ∨ Tu W p.block) → W.cell? p = some (.int .u64 n) → W'.cell? p = some (.int .u64 n) := by
  intro p n hp hq hc
  rcases hq with hq | ⟨cur, hcur⟩
  · obtain ⟨cs, T, fr, hbk⟩ := cell_blk hc
    exact (World.cell?_of_block ((hb _ _ hq hbk).trans hbk.symm)).trans hc
  · exact (World.cell?_of_block ((hd _ _ hcur).trans hcur.symm)).trans hc
 exact ⟨cs, hb _ _ h15 hcs, A, A', c, c', e, r1.keep hz kp fun b ⟨cur, hc⟩ => ⟨cur, hd _ _ hc⟩, r2.keep hz kp fun b ⟨cur, hc⟩ => ⟨cur, hd _ _ hc⟩⟩
theorem LawI.ext (h : LawI D b14 b15 wL T k W) (h14 : b14 < D) (h15 : b15 < D) (hE : Ext W W') : LawI D b14 b15 wL T k W' :=
 h.keep h14 h15 ⟨hE.os, hE.tape, hE.output⟩ hE.bsize (fun _ _ _ hk => hE.at_ hk) (h.ku.trans (KU.ext hE)) (fun _ _ hk => hE.at_ hk)
theorem LawI.own (h14 : b14 < D) (h15 : b15 < D) : OwnFrom D (fun (k : Nat) X => LawI D b14 b15 wL (T) k X) := by
 intro k X X' row h hg hr
 have hr' := fun r e => (hr r e).2
 have hkc : ∀ (b : Nat) (cs : Array Value) (T : TypeId) (fr : Nat × Nat), X.heap[b]? = some (.cells cs T fr) → X'.heap[b]? = some (.cells cs T fr) := fun b cs T fr hb => (grownBy_keeps_cells hg hr' hb rfl).trans hb
 refine h.keep h14 h15 ⟨hg.os, hg.tape, hg.output⟩ hg.size (fun b o hb ho => (hg.block b (blk_lt ho) fun e => by have := (hr b e.symm).1; omega).trans ho) ⟨Nat.le_trans h.ku.1 hg.size, fun p n hp => ?_⟩ (fun b cur hb => hkc _ _ _ _ hb)
 obtain ⟨cs, T, fr, hb⟩ := cell_blk (h.ku.2 p n hp)
 exact (World.cell?_of_block ((hkc _ _ _ _ hb).trans hb.symm)).trans (h.ku.2 p n hp)
theorem LawI.jac {B : Nat} (h : LawI D b14 b15 wL T k W) (h14 : b14 < D) (h15 : b15 < D) (_hD : D ≤ wL.heap.size) (hB : D ≤ B) (hz : wL.heap.size ≤ B) (ht : TJac B k W W') : LawI D b14 b15 wL T k W' := by
 refine h.keep h14 h15 ht.1 ht.2.1 (fun b o hb ho => ht.2.2 b o ho (.inl (by omega))) ⟨Nat.le_trans h.ku.1 ht.2.1, fun p n hp => ?_⟩ (fun b cur hb => ht.2.2 b _ hb (.inr fun cs fr e => by injection e with _ e2; exact absurd e2 (by decide)))
 obtain ⟨cs, T, fr, hb⟩ := cell_blk hp
 have hlt := blk_lt hb
 obtain ⟨cs', T', fr', hb'⟩ := cell_blk (h.ku.2 p n hp)
 exact (World.cell?_of_block ((ht.2.2 _ _ hb' (.inl (by omega))).trans hb'.symm)).trans (h.ku.2 p n hp)
theorem KU.grown {X X' : World} {row : Option Nat} {B : Nat} (hg : X.grownBy X' row) (hr : ∀ r, row = some r → B ≤ r ∧ ∃ o : Obj, X.heap[r]? = some o ∧ o.isCells = false) : KU X X' := by
 have hr' := fun r e => (hr r e).2
 refine ⟨hg.size, fun p n hp => ?_⟩
 obtain ⟨cs, T, fr, hb⟩ := cell_blk hp
 exact (World.cell?_of_block (grownBy_keeps_cells hg hr' hb rfl)).trans hp
theorem LawI.put15 {X Y : World} {T' : Bool × Nat × Nat} {cs cs0 : Array Value} (h : LawI D b14 b15 wL T k X) (n : b14 ≠ b15) (hg : X.heap[b15]? = some (.cells cs0 34 (0, 0))) (hc0 : ∀ (i : Nat) (n : Int), cs0[i]? ≠ some (.int .u64 n)) (hj : Just b15 X Y)
 (hY : Y.heap[b15]? = some (.cells cs 34 (0, 0))) (hr : RPd D Y (.agg cs) T'.1 T'.2.1 T'.2.2) : LawI D b14 b15 wL T' k Y :=
 ⟨hj.os.trans h.os, hj.tape.trans h.tape, hj.output.trans h.output, h.ku.trans (KU.just hj hg hc0), fun b o h1 h2 h3 h4 => hj.at_ h3 (h.blk b o h1 h2 h3 h4), hj.at_ n h.cnt, cs, hY, hr⟩
theorem LawI.put14 {X Y : World} {k' : Nat} (h : LawI D b14 b15 wL T k X) (n : b14 ≠ b15) (hj : Just b14 X Y) (hY : Y.heap[b14]? = some (.cells #[.int .i64 (k' : Int)] 3 (0, 0))) : LawI D b14 b15 wL T k' Y := by
 have hku : KU X Y := KU.just hj h.cnt (by intro i n e; rcases i with _ | i <;> simp at e)
 have htu : ∀ b, Tu X b → Tu Y b := fun b ⟨cur, hc⟩ => ⟨cur, hj.at_ (fun e => by rw [e, h.cnt] at hc; injection Option.some.inj hc with _ e2; exact absurd e2 (by decide)) hc⟩
 refine ⟨hj.os.trans h.os, hj.tape.trans h.tape, hj.output.trans h.output, h.ku.trans hku, fun b o h1 h2 h3 h4 => hj.at_ h2 (h.blk b o h1 h2 h3 h4), hY, ?_⟩
 obtain ⟨cs, hcs, A, A', c, c', e, r1, r2⟩ := h.sum
 exact ⟨cs, hj.at_ n.symm hcs, A, A', c, c', e, r1.keep hj.size (fun p m _ _ hc => hku.2 p m hc) htu, r2.keep hj.size (fun p m _ _ hc => hku.2 p m hc) htu⟩
theorem tjac_keeps : ∀ B k W1 W2, TJac B k W1 W2 → W1.heap.size ≤ W2.heap.size ∧ ∀ (b : Nat) (o : Obj), b < B → W1.heap[b]? = some o → o.isCells = false → W2.heap[b]? = some o := fun _ _ _ _ h => ⟨h.2.1, fun b o hb ho _ => h.2.2 b o ho (.inl hb)⟩
theorem res_bool {fn : Func} {tm : Array Value} {W : World} {p : Tmp} {g : Nat} {ty : TypeId} {b : Bool} (hr : fn.results = #[.cell p 4]) (hp : tm.getD p undef = .pointer (some ⟨g, 0, none⟩)) (hg : W.heap[g]? = some (.cells #[.bool b] ty (0, 0))) : (results fn tm).run Try.prog W = .ok (.bool b) W := by
 have hp' : tm[p]?.getD undef = .pointer (some ⟨g, 0, none⟩) := by simpa using hp
 have hc := blk_cell hg 0
 simp only [List.getElem?_toArray, List.getElem?_cons_zero] at hc
 have hi : (isAgg 4).run Try.prog W = .ok false W := by kernel_rfl
 simp [results, hr, hp', asAddr, loadVar, hi, hc, go_sem]
end
theorem wpIn_iterX {β : Type} {n : Nat} {P : Program} {g : Operand} {ps : Array Tmp} {assign body : Code} {Q : Exit → Act → World → Prop} {a : Act} {w : World}
 (h2 : 2 ≤ n) {gf : Nat} {lb : Array Value} (hg : a.eval g = .func (.func gf) #[] lb) (eg : ∀ args w, (callFunc gf args).run P w = .ok (.enter gf args) w)
 {xs : Nat → β → Array Value} {Vs : Nat → β → World → Prop} {Nd : Nat → World → Prop} {T : Nat → Nat → World → World → Prop} {Kp : World → World → Prop} {m N : Nat} {fin : Bool} {w0 : World} (hseq : SeqAtV P gf lb xs Vs Nd T Kp m N fin w0)
 (hKt : ∀ {A B C : World}, Kp A B → Kp B C → Kp A C) (hKb : ∀ (W : World) (l : Nat) (o o' : Obj), w.heap.size ≤ l → W.heap[l]? = some o → o.isCells = false → o.isWalk = false → Kp W (W.putObj l o'))
 (hT : ∀ B k W1 W2, T B k W1 W2 → W1.heap.size ≤ W2.heap.size ∧ ∀ b o, b < B → W1.heap[b]? = some o → o.isCells = false → W2.heap[b]? = some o)
 (hb0 : Below w0.heap.size w0 w) (hps : ∀ k b, (xs k b).size = ps.size)
 (I I' : Nat → World → Prop) (Ix : Code → Nat → World → Prop) (hI : OwnFrom w.heap.size I) (hI' : OwnFrom w.heap.size I') (hIx : ∀ c, OwnFrom w.heap.size (Ix c))
 (hNd : ∀ k W, k ≤ N → I k W → Nd k W) (hIT : ∀ B k W1 W2, w.heap.size ≤ B → k ≤ N → I k W1 → T B k W1 W2 → I' k W2) (hfin : fin = false → ∀ W', ¬ I' N W') (h0 : I 0 w) (Ia : Act → Nat → Act → World → Prop) (hIa : ∀ a', OwnFrom w.heap.size (fun k => Ia a k a'))
 (hassign : ∀ (l k : Nat) (b : β) (W : World) (K : Act → World → Prop), I' k W → Vs k b W → k < N → w.heap.size + 2 + m ≤ W.heap.size → (∀ a' W', Ia a k a' W' → Keeps w.heap.size (w.heap.size + 2) m W W' → Kp W W' → K a' W') →
  assign.wpIn (Fence.wide.inRound l) (n - 1 - 1) P (Exit.then K (fun _ _ _ => False)) { tmps := (ps.zip (xs k b)).foldl (fun t (p, v) => t.setIfInBounds p v) a.tmps, defers := [] } W)
 (hbody : ∀ (l k : Nat) (a' : Act) (W : World), Ia a k a' W → k < N → w.heap.size + 2 + m ≤ W.heap.size → body.wpIn (Fence.wide.inRound l) (n - 1 - 1) P (iterPost w.heap.size m Kp I Ix (k + 1) W) a' W)
 (hdone : ∀ (D : Nat) (W : World), w.heap.size ≤ D → I' N W → W.heap[D]? = some (.deferred (some [])) → Q .normal { a with defers := { target := .collected D, args := #[] } :: a.defers } W)
 (hstop : ∀ (D : Nat) (c : Code) (k : Nat) (W : World), w.heap.size ≤ D → 0 < k → k ≤ N → Ix c k W → W.heap[D]? = some (.deferred (some [])) → c.wpIn Fence.wide n P Q { a with defers := { target := .collected D, args := #[] } :: a.defers } W) :
 (Code.rangeFunc g ps assign body).wpIn Fence.wide n P Q a w :=
 wpIn_iterW h2 hg eg hseq hKt hKb hT hb0 hps I I' Ix hI hI' hIx hNd hIT hfin h0 (Ia a) hIa hassign hbody hdone hstop
theorem RS.at1 {w : World} {P : Nat → Prop} {A : Option Addr} {c : Nat} {l : List Nat} (h : RS w P 1 A l.length c (nts l)) {i : Nat} (hi : i < l.length) : ∃ ad, A = some ad ∧ w.cell? (ad.add i) = some (.int .u64 (dg l i : Int)) := by
 obtain ⟨ad, e, _, hc⟩ := h.2.2.2 (by omega)
 exact ⟨ad, e, hc i _ (nts_get hi)⟩
theorem trim_w (P : Nat → Prop) (A : Option Addr) (c : Nat) (l : List Nat) (w : World) (h : RS w P 1 A l.length c (nts l)) (_hb : l.length ≤ 70368744177664) (hx : ∀ x ∈ l, x < 18446744073709551616) :
 Calls Try.prog 60 #[.slice A l.length c] w fun e w' => (∃ A' n' c', e = .returned (.slice A' n' c')) ∧ w = w' := by
 have h1 := h.1
 have h2 : c ≤ 9223372036854775807 := h.2.1
 have Hx := Lib.hid hx
 clear hx
 go_enter Try.func60, Try.ntmps60
 go_wp2
 go_loop [3] (fun n => ∃ k : Nat, k ≤ l.length ∧ n = .int .i64 k) (fun n => (intOf n).toNat)
 case atStart => exact ⟨l.length, Nat.le_refl _, rfl⟩
 case round =>
  obtain ⟨k, hk, rfl⟩ := hrel
  rcases k with _ | k
  · go_wp2
    go_ret
    exact ⟨⟨_, _, _, rfl⟩, rfl⟩
  · obtain ⟨ad, rfl, hc⟩ := h.at1 (i := k) (by omega)
    by_cases h0 : dg l k = 0
    · rw [h0] at hc
      clear h0
      go_wp2
      go_round
      case rel => exact ⟨k, by omega, by go_num⟩
      case measure => simp [intOf]
    · have h0' : (((dg l k : Nat) : Int) == 0) = false := eqB (by omega)
      clear h0
      go_wp2
      go_ret
      exact ⟨⟨_, _, _, rfl⟩, rfl⟩
theorem RS.of_blk {w : World} {g : Nat} {l : List Nat} {c : Nat} (h : Blk w g l) (hc : l.length ≤ c) (hc' : c ≤ maxLen) : RS w (fun _ => True) 1 (some ⟨g, 0, none⟩) l.length c (nts l) :=
 ⟨hc, hc', by simp [nts], fun hn => ⟨_, rfl, trivial, fun j u hu => by
  have hj : j < l.length := by have := (List.getElem?_eq_some_iff.1 hu).1; simpa [nts] using this
  have := h.cell (i := j) hj
  rw [nts_get hj] at hu
  injection hu with hu
  subst hu
  rw [add_blk]
  exact this⟩⟩
theorem from_w (P : Nat → Prop) (A : Option Addr) (c : Nat) (l : List Nat) (w : World) (h : RL w P A c l) (hP : ∀ b, P b → b < w.heap.size) :
 Calls Try.prog 19 #[.slice A l.length c] w fun e w' => (∃ A1 n1 c1, e = .returned (.slice A1 n1 c1)) ∧ Below w.heap.size w w' := by
 have h1 := h.1.1
 have h2 : c ≤ 9223372036854775807 := h.1.2.1
 have h3 := h.2.2
 have hmk := run_make_row' (P := Try.prog) 29 72 (.int .u64 0) 8 Try.underlying29 info64 rfl .i64 .i64 (2 * l.length) (by omega) (by omega)
 simp only [Int.natCast_mul, Int.cast_ofNat_Int] at hmk
 go_enter Try.func19, Try.ntmps19
 go_wp2
 go_loopw [4] (fun iv wr => ∃ (i : Nat) (o : List Nat), iv = .int .i64 (i : Int) ∧ i ≤ l.length ∧ FromAt l o i ∧ (∀ x ∈ o, x < 18446744073709551616) ∧ Blk wr w.heap.size o ∧ Below w.heap.size w wr) (fun iv _ => l.length - (intOf iv).toNat)
 case atStart => exact ⟨0, List.replicate (2 * l.length) 0, rfl, by omega, FromAt.zero _, by simp, Blk.made w _, (Below.refl _ w).alloc (Nat.le_refl _) _⟩
 case round =>
  obtain ⟨i, o, rfl, hi, hF, hLo, hblk, hB⟩ := hrel
  by_cases hlt : i < l.length
  · obtain ⟨ad, rfl, q1⟩ := RS.at1 (h.below hB hP).1 hlt
    have hol := hF.1
    have hxi : dg l i < 18446744073709551616 := by rw [getD_eq hlt]; exact h.2.1 _ (List.getElem_mem hlt)
    obtain ⟨p, q, hp, hq, he, e1, e2⟩ : ∃ p q : Nat, p < 4294967296 ∧ q < 4294967296 ∧ p + 4294967296 * q = dg l i ∧ (dg l i : Int) % 4294967296 = (p : Int) ∧ (dg l i : Int) / 4294967296 = (q : Int) :=
     ⟨dg l i % 4294967296, dg l i / 4294967296, by omega, by omega, by omega, by omega, by omega⟩
    have q3 := hblk.cell (i := 2 * i) (by omega)
    have q4 := hblk.free (2 * i)
    have hblk1 := hblk.set (2 * i) p
    have q5 := hblk1.cell (i := 2 * i + 1) (by simp; omega)
    have q6 := hblk1.free (2 * i + 1)
    have hblk2 := hblk1.set (2 * i + 1) q
    have hLo' : ∀ x ∈ (o.set (2 * i) p).set (2 * i + 1) q, x < 18446744073709551616 := fun x hx => by
     rcases List.mem_or_eq_of_mem_set hx with hx | rfl
     · rcases List.mem_or_eq_of_mem_set hx with hx | rfl
       · exact hLo x hx
       · omega
     · omega
    have hB1 := hB.setCell (p := ⟨w.heap.size, 2 * i, none⟩) (Nat.le_refl _) (.int .u64 (p : Int))
    obtain ⟨_, e7, q7⟩ := RS.at1 (h.below hB1 hP).1 hlt
    injection e7 with e7
    subst e7
    have hB2 := hB1.setCell (p := ⟨w.heap.size, 2 * i + 1, none⟩) (Nat.le_refl _) (.int .u64 (q : Int))
    have hF' := hF.step hlt hp hq he
    have k1 : (2 : Int) * (i : Int) < 2 * (l.length : Int) := by omega
    have k2 : (2 : Int) * (i : Int) + 1 < 2 * (l.length : Int) := by omega
    have HLo := Lib.hid hLo'
    clear hF hLo hLo' hblk hB hblk1 hB1 he hol hp hq
    go_wp2
    go_roundw
    case rel => exact ⟨i + 1, (o.set (2 * i) p).set (2 * i + 1) q, by go_num, by omega, hF', HLo.out, hblk2, hB2⟩
    case measure => simp [intOf]; omega
  · obtain rfl : i = l.length := by omega
    have hol := hF.1
    have ht := trim_w _ _ (2 * l.length) _ _ (RS.of_blk hblk (by omega) (by unfold maxLen; omega)) (by omega) hLo
    rw [hol] at ht
    have Ht := Lib.hid ht
    clear hblk ht hLo hF hol
    go_wp2_with fail
    refine Ht.out.mono ?_
    rintro e w1 ⟨⟨A', n', c', rfl⟩, rfl⟩
    go_wp2
    go_ret
    exact ⟨⟨_, _, _, rfl⟩, hB⟩
end Go.Proofs.Ytldhmjfjbalakaa
