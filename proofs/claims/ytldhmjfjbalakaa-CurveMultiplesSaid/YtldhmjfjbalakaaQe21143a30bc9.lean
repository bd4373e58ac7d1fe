/- The reference's On. -/
import Derived.Test.YtldhmjfjbalakaaQdf9f7750e37e
import Derived.Deep.DeepCutAuto
set_option maxRecDepth 100000
set_option maxHeartbeats 16000000
namespace Go.Proofs.Ytldhmjfjbalakaa
open Go.RowKit
theorem digs_mod_len {x M k : Nat} (hM : 0 < M) (hl : (digs 4294967296 M).length ≤ k) : (digs 4294967296 (x % M)).length ≤ k :=
 digs_length_of_lt (by omega) (Nat.lt_of_lt_of_le (Nat.lt_trans (Nat.mod_lt x hM) (lt_pow_digs (B := 4294967296) (by omega) M)) (Nat.pow_le_pow_right (by omega) hl))
theorem digs_le_len {x M k : Nat} (hM : x ≤ M) (hl : (digs 4294967296 M).length ≤ k) : (digs 4294967296 x).length ≤ k :=
 digs_length_of_lt (by omega) (Nat.lt_of_lt_of_le (Nat.lt_of_le_of_lt hM (lt_pow_digs (B := 4294967296) (by omega) M)) (Nat.pow_le_pow_right (by omega) hl))
theorem Crv.Fine.len {C : Crv} (h : C.Fine) : (digs 4294967296 C.M).length ≤ 96 := by
 have h1 := h.room
 have h2 : (256 : Nat) ^ C.size ≤ 256 ^ 48 := Nat.pow_le_pow_right (by omega) h.small
 have h3 : (256 : Nat) ^ 48 ≤ 4294967296 ^ 96 := by decide +kernel
 exact digs_length_of_lt (by omega) (Nat.lt_of_lt_of_le h1 (Nat.le_trans h2 h3))
theorem cmpV_eq0 (a b : Nat) : (cmpV a b == 0) = decide (a = b) := by
 unfold cmpV
 split
 · rw [decide_eq_false (by omega)]; rfl
 · split
   · rw [decide_eq_true (by omega)]; rfl
   · rw [decide_eq_false (by omega)]; rfl
theorem refOn_any {C : Crv} {v : Value} (hF : C.Fine) (A A' : Option Addr) (c c' x y : Nat) (inf : Bool) (w : World) (hc : RC w C v) (h : RU w A c (digs 4294967296 x)) (h' : RU w A' c' (digs 4294967296 y)) :
 Calls Try.prog 16 #[v, .agg #[.bool inf, .slice A (digs 4294967296 x).length c, .slice A' (digs 4294967296 y).length c']] w fun e w' => e = .returned (.bool (inf || onB C.M C.bb x y)) ∧ Ext w w' := by
 have hcv := hc
 obtain ⟨Ap, An, Ab, Ax, Ay, cp, cn, cb, cx, cy, rfl, h1, h2, h3, h4, h5⟩ := hc
 obtain ⟨s, hs⟩ : ∃ s, C.size = s := ⟨_, rfl⟩
 have s1 : 32 ≤ s := by rw [← hs]; exact hF.pos
 have hs0 : ((s : Int) == 0) = false := by simp; omega
 obtain ⟨r, hr⟩ : ∃ r, (inf || onB C.M C.bb x y) = r := ⟨_, rfl⟩
 rw [hr, hs]
 rw [hs] at hcv
 have Hr := Lib.hid hr
 have HF := Lib.hid hF
 have L := Lib.hid hF.len
 have Hcv := Lib.hid hcv
 have hM0 : 0 < C.M := by have := hF.three; omega
 have HM0 := Lib.hid hM0
 clear hr hF hs hcv
 obtain ⟨q, hq⟩ : ∃ q, w.heap.size = q := ⟨_, rfl⟩
 obtain ⟨W0, hW0⟩ : ∃ W0, W0 = (w.alloc (.cells #[.slice Ap (digs 4294967296 C.M).length cp, .slice An (digs 4294967296 (val 18446744073709551616 C.nl)).length cn, .slice Ab (digs 4294967296 C.bb).length cb, .slice Ax (digs 4294967296 (val 18446744073709551616 C.xl)).length cx, .slice Ay (digs 4294967296 (val 18446744073709551616 C.yl)).length cy, .int .i64 (s : Int)] 31)).alloc (.cells #[.bool inf, .slice A (digs 4294967296 x).length c, .slice A' (digs 4294967296 y).length c'] 34) := ⟨_, rfl⟩
 have hE0 : Ext w W0 := by rw [hW0]; exact (Ext.alloc _ _).trans (Ext.alloc _ _)
 have hcb : W0.heap[q]? = some (.cells #[.slice Ap (digs 4294967296 C.M).length cp, .slice An (digs 4294967296 (val 18446744073709551616 C.nl)).length cn, .slice Ab (digs 4294967296 C.bb).length cb, .slice Ax (digs 4294967296 (val 18446744073709551616 C.xl)).length cx, .slice Ay (digs 4294967296 (val 18446744073709551616 C.yl)).length cy, .int .i64 (s : Int)] 31 (0, 0)) := by rw [hW0, ← hq]; exact (Ext.alloc _ _).at_ (heap_alloc_new w _)
 have hpb : W0.heap[q + 1]? = some (.cells #[.bool inf, .slice A (digs 4294967296 x).length c, .slice A' (digs 4294967296 y).length c'] 34 (0, 0)) := by rw [hW0, ← hq]; have := heap_alloc_new (w.alloc (.cells #[.slice Ap (digs 4294967296 C.M).length cp, .slice An (digs 4294967296 (val 18446744073709551616 C.nl)).length cn, .slice Ab (digs 4294967296 C.bb).length cb, .slice Ax (digs 4294967296 (val 18446744073709551616 C.xl)).length cx, .slice Ay (digs 4294967296 (val 18446744073709551616 C.yl)).length cy, .int .i64 (s : Int)] 31)) (.cells #[.bool inf, .slice A (digs 4294967296 x).length c, .slice A' (digs 4294967296 y).length c'] 34); rwa [World.size_alloc] at this
 have b0 : W0.cell? ⟨q, 0, none⟩ = some (.slice Ap (digs 4294967296 C.M).length cp) := blk_cell hcb 0
 have b2 : W0.cell? ⟨q, 2, none⟩ = some (.slice Ab (digs 4294967296 C.bb).length cb) := blk_cell hcb 2
 have p1 : W0.cell? ⟨q + 1, 1, none⟩ = some (.slice A (digs 4294967296 x).length c) := blk_cell hpb 1
 have p2 : W0.cell? ⟨q + 1, 2, none⟩ = some (.slice A' (digs 4294967296 y).length c') := blk_cell hpb 2
 have HE0 := Lib.hid hE0
 have HW0 := Lib.hid hW0
 clear hE0
 cases inf
 case true =>
  obtain rfl : r = true := by rw [← Hr.out]; rfl
  clear hW0 hq
  have hW0 := HW0.out
  go_enter Try.func16, Try.ntmps16
  go_wp2
  go_ret
  exact ⟨rfl, by have := HE0.out; rw [hW0] at this; exact this⟩
 case false =>
  rw [Bool.false_or] at Hr
  have arm1 := Lib.hid (fun X (hX : Ext W0 X) => refCmp_any _ _ A Ap c cp x C.M X (h.up (HE0.out.trans hX)) (h1.up (HE0.out.trans hX)))
  have arm2 := Lib.hid (fun X (hX : Ext W0 X) => refCmp_any _ _ A' Ap c' cp y C.M X (h'.up (HE0.out.trans hX)) (h1.up (HE0.out.trans hX)))
  by_cases hxM : x < C.M
  · have tx := Lib.hid (cmpV_lt hxM)
    by_cases hyM : y < C.M
    · have ty := Lib.hid (cmpV_lt hyM)
      obtain ⟨cvv, hcvv⟩ : ∃ cvv, cvv = Value.agg #[.slice Ap (digs 4294967296 C.M).length cp, .slice An (digs 4294967296 (val 18446744073709551616 C.nl)).length cn, .slice Ab (digs 4294967296 C.bb).length cb, .slice Ax (digs 4294967296 (val 18446744073709551616 C.xl)).length cx, .slice Ay (digs 4294967296 (val 18446744073709551616 C.yl)).length cy, .int .i64 (s : Int)] := ⟨_, rfl⟩
      rw [← hcvv] at Hcv
      have HV := Lib.hid hcvv
      obtain ⟨m2, hm2⟩ : ∃ m, x * x % C.M = m := ⟨_, rfl⟩
      obtain ⟨m3, hm3⟩ : ∃ m, m2 * x % C.M = m := ⟨_, rfl⟩
      obtain ⟨t3, ht3⟩ : ∃ m, 3 * x % C.M = m := ⟨_, rfl⟩
      obtain ⟨mi, hmi⟩ : ∃ m, (m3 + C.M - t3) % C.M = m := ⟨_, rfl⟩
      obtain ⟨rt, hrt⟩ : ∃ m, (mi + C.bb) % C.M = m := ⟨_, rfl⟩
      obtain ⟨yy, hyy⟩ : ∃ m, y * y % C.M = m := ⟨_, rfl⟩
      have K2 := Lib.hid (hm2 ▸ digs_mod_len (x := x * x) HM0.out L.out)
      have K3 := Lib.hid (hm3 ▸ digs_mod_len (x := m2 * x) HM0.out L.out)
      have Kt := Lib.hid (ht3 ▸ digs_mod_len (x := 3 * x) HM0.out L.out)
      have Ki := Lib.hid (hmi ▸ digs_mod_len (x := m3 + C.M - t3) HM0.out L.out)
      have Ky := Lib.hid (hyy ▸ digs_mod_len (x := y * y) HM0.out L.out)
      have Kx := Lib.hid (digs_le_len (Nat.le_of_lt hxM) L.out)
      have KY := Lib.hid (digs_le_len (Nat.le_of_lt hyM) L.out)
      have K0 := Lib.hid (digs_le_len (Nat.le_of_lt HF.out.three) L.out)
      have Kb := Lib.hid (digs_le_len (Nat.le_of_lt HF.out.bb) L.out)
      have Ks := Lib.hid (show (digs 4294967296 (mi + C.bb)).length ≤ 97 by
       have a1 := Nat.lt_of_lt_of_le (lt_pow_digs (B := 4294967296) (by omega) C.M) (Nat.pow_le_pow_right (by omega) L.out)
       have a2 := Nat.mod_lt (m3 + C.M - t3) HM0.out
       have a3 := HF.out.bb
       refine digs_length_of_lt (by omega) ?_
       rw [Nat.pow_succ]; generalize 4294967296 ^ 96 = R at *; omega)
      have Htm := Lib.hid (show t3 ≤ m3 + C.M by have := Nat.mod_lt (3 * x) HM0.out; omega)
      have Hmb := Lib.hid (show mi < C.M by have := Nat.mod_lt (m3 + C.M - t3) HM0.out; omega)
      have Hres := Lib.hid (show r = decide (yy = rt) by rw [← Hr.out, onB, decide_eq_true hxM, decide_eq_true hyM, hm2, hm3, ht3, hmi, hrt, hyy]; rfl)
      have E2 := Lib.hid hm2
      have E3 := Lib.hid hm3
      have Et := Lib.hid ht3
      have Ei := Lib.hid hmi
      have Er := Lib.hid hrt
      have Ey := Lib.hid hyy
      clear hcvv hm2 hm3 ht3 hmi hrt hyy hxM hyM
      go_enter Try.func16, Try.ntmps16
      go_upto_region 5 with fail
      rw [← hW0]
      clear hW0 hq
      refine Par.region_txt 14 [0, 1, 0, 4, 15, 31, 63, 127, 255, 127, 639, 2047, 4095, 8191] [] (fun j f X => match j with
       | 0 => f 0 = .pointer (some ⟨q + 1, 1, none⟩)
       | 1 => f 1 = .slice A (digs 4294967296 x).length c
       | 2 => f 2 = .pointer (some ⟨q, 0, none⟩)
       | 3 => f 3 = .slice Ap (digs 4294967296 C.M).length cp
       | 4 => f 4 = .int .i64 (-1)
       | 5 => f 5 = .bool false
       | 6 => f 6 = .bool false
       | 7 => f 7 = .pointer (some ⟨q + 1, 2, none⟩)
       | 8 => f 8 = .slice A' (digs 4294967296 y).length c'
       | 9 => f 9 = .pointer (some ⟨q, 0, none⟩)
       | 10 => f 10 = .slice Ap (digs 4294967296 C.M).length cp
       | 11 => f 11 = .int .i64 (-1)
       | 12 => f 12 = .bool false
       | 13 => f 13 = .bool false
       | _ => True) (by kernel_rfl) [(13, 0), (14, 1), (15, 2), (16, 3), (17, 4), (18, 5), (19, 6), (20, 7), (21, 8), (22, 9), (23, 10), (24, 11), (25, 12), (26, 13)] (by kernel_rfl) ?_
      refine Par.v0 1 13 ?_
      refine Par.ld1 2 12 0 p1 ?_
      refine Par.v0 3 11 ?_
      refine Par.ld1 4 10 2 b0 ?_
      refine Par.c0 5 9 (fun f => #[f 1, f 3]) (F' := 51) (fun f X hX hR => ?_) ?_
      · have e1 : f 1 = _ := hR.out 1 rfl
        have e3 : f 3 = _ := hR.out 3 rfl
        simp only [e1, e3]
        refine (arm1.out X hX).mono ?_
        rintro e w2 ⟨rfl, nq, rfl⟩
        rw [tx.out]
        exact ⟨(.int .i64 (-1)), rfl, (Ext.drewN _ _), fun _ _ => rfl⟩
      refine Par.S 6 8 [(13, 0), (14, 1), (15, 2), (16, 3), (17, 4)] (fun f X hX hR K hK => ?_) ?_
      · have e4 : f 4 = _ := hR.out 4 rfl
        simp only [yA, yB, yC, yD, yE, e4]
        refine ⟨?_⟩
        go_simp
        exact Par.k hK (s := by simp only [yA, yB, yC, yD, yE, e4])
      refine Par.v1 7 7 5 ?_
      refine Par.v1 8 6 6 ?_
      refine Par.S 9 5 [(13, 0), (14, 1), (15, 2), (16, 3), (17, 4), (18, 5), (19, 6), (20, 7), (22, 9), (23, 10)] (fun f X hX hR K hK => ?_) ?_
      · have e6 : f 6 = _ := hR.out 6 rfl
        have e7 : f 7 = _ := hR.out 7 rfl
        have x0 := hX.cell p2
        simp only [yA, yB, yC, yD, yE, e6, e7]
        refine ⟨Par.want (by kernel_rfl) ?_⟩
        go_simp
        exact Par.k hK (s := by simp only [yA, yB, yC, yD, yE, e6, e7])
      refine Par.v1 10 4 6 ?_
      refine Par.S 11 3 [(13, 0), (14, 1), (15, 2), (16, 3), (17, 4), (18, 5), (19, 6), (20, 7), (21, 8), (22, 9)] (fun f X hX hR K hK => ?_) ?_
      · have e6 : f 6 = _ := hR.out 6 rfl
        have e9 : f 9 = _ := hR.out 9 rfl
        have x0 := hX.cell b0
        simp only [yA, yB, yC, yD, yE, e6, e9]
        refine ⟨Par.want (by kernel_rfl) ?_⟩
        go_simp
        exact Par.k hK (s := by simp only [yA, yB, yC, yD, yE, e6, e9])
      refine Par.c1 12 2 6 (fun f => #[f 8, f 10]) (F' := 51) (fun f X hX hR => ?_) ?_
      · have e8 : f 8 = _ := hR.out 8 rfl
        have e10 : f 10 = _ := hR.out 10 rfl
        simp only [e8, e10]
        refine (arm2.out X hX).mono ?_
        rintro e w2 ⟨rfl, nq, rfl⟩
        rw [ty.out]
        exact ⟨(.int .i64 (-1)), rfl, (Ext.drewN _ _), fun _ _ => rfl⟩
      refine Par.S 13 1 [(13, 0), (14, 1), (15, 2), (16, 3), (17, 4), (18, 5), (19, 6), (20, 7), (21, 8), (22, 9), (23, 10), (24, 11)] (fun f X hX hR K hK => ?_) ?_
      · have e6 : f 6 = _ := hR.out 6 rfl
        have e11 : f 11 = _ := hR.out 11 rfl
        simp only [yA, yB, yC, yD, yE, e6, e11]
        refine ⟨Par.want (by kernel_rfl) ?_⟩
        go_simp
        exact Par.k hK (s := by simp only [yA, yB, yC, yD, yE, e6, e11])
      refine Par.v2 14 0 6 12 ?_
      refine Par.AllOps.fin ⟨fun f X hX hR hal hap => ?_⟩
      have e13 : f 13 = _ := hR 13 (by decide)
      simp only [yA, yB, yD, yE, e13]
      clear hR hal hap e13
      refine Par.Chain.done ?_
      have hE : Ext W0 X := hX
      clear hX
      go_upto_region 7 with fail
      have d1 := hE.cell p1
      refine Par.region_ext (by kernel_rfl) 11 [0, 0, 0, 4, 0, 16, 62, 0, 128, 511, 1023] [] (fun j f X => match j with
       | 0 => f 0 = cvv
       | 1 => f 1 = cvv
       | 2 => f 2 = .pointer (some ⟨q + 1, 1, none⟩)
       | 3 => f 3 = .slice A (digs 4294967296 x).length c
       | 4 => f 4 = .pointer (some ⟨q + 1, 1, none⟩)
       | 5 => f 5 = .slice A (digs 4294967296 x).length c
       | 6 => ∃ A1 c1, f 6 = .slice A1 (digs 4294967296 m2).length c1 ∧ RU X A1 c1 (digs 4294967296 m2)
       | 7 => f 7 = .pointer (some ⟨q + 1, 1, none⟩)
       | 8 => f 8 = .slice A (digs 4294967296 x).length c
       | 9 => ∃ A1 c1, f 9 = .slice A1 (digs 4294967296 m3).length c1 ∧ RU X A1 c1 (digs 4294967296 m3)
       | 10 => ∃ A1 c1, f 10 = .slice A1 (digs 4294967296 m3).length c1 ∧ RU X A1 c1 (digs 4294967296 m3)
       | _ => True) (by kernel_rfl) [(27, 0), (28, 1), (29, 2), (30, 3), (31, 4), (32, 5), (33, 6), (34, 7), (35, 8), (36, 9), (5, 10)] (by kernel_rfl) ?_
      refine Par.S 1 10 [(28, 1), (29, 2), (30, 3), (31, 4), (32, 5), (33, 6), (34, 7), (35, 8)] (fun f X hX hR K hK => ?_) ?_
      · simp only [yA, yB, yC, yD, yE]
        refine ⟨Par.want (by kernel_rfl) (wp_loadV 31 (.tmp 2) rfl rfl (hE.trans hX |>.at_ hcb) Try.underlying31 rfl infoRC HV.out ?_)⟩
        exact hK.out _ (cvv) _ (by simp only [yA, yB, yC, yD, yE]) (Ext.refl _) trivial (fun _ _ => rfl)
      refine Par.S 2 9 [(27, 0), (29, 2), (30, 3), (31, 4), (32, 5), (34, 7), (35, 8)] (fun f X hX hR K hK => ?_) ?_
      · simp only [yA, yB, yC, yD, yE]
        refine ⟨Par.want (by kernel_rfl) (wp_loadV 31 (.tmp 2) rfl rfl (hE.trans hX |>.at_ hcb) Try.underlying31 rfl infoRC HV.out ?_)⟩
        exact hK.out _ (cvv) _ (by simp only [yA, yB, yC, yD, yE]) (Ext.refl _) trivial (fun _ _ => rfl)
      refine Par.v0 3 8 ?_
      refine Par.ld1 4 7 2 d1 ?_
      refine Par.v0 5 6 ?_
      refine Par.ld1 6 5 4 d1 ?_
      refine Par.c0 7 4 (fun f => #[f 1, f 3, f 5]) (F' := 52) (fun f X hX hR => ?_) ?_
      · have e1 : f 1 = _ := hR.out 1 rfl
        have e3 : f 3 = _ := hR.out 3 rfl
        have e5 : f 5 = _ := hR.out 5 rfl
        simp only [e1, e3, e5]
        refine (times_any A A c c x x X (Hcv.out.ext (HE0.out.trans (hE.trans hX))) (h.up (HE0.out.trans (hE.trans hX))) (h.up (HE0.out.trans (hE.trans hX))) (by have := Kx.out; omega) (by have := Kx.out; omega) HM0.out).mono ?_
        rw [E2.out]
        rintro e w2 ⟨A1, c1, rfl, hO, hB⟩
        exact ⟨(.slice A1 (digs 4294967296 m2).length c1), rfl, hB, fun Y hY => ⟨A1, c1, rfl, hO.up hY⟩⟩
      refine Par.v0 8 3 ?_
      refine Par.ld1 9 2 7 d1 ?_
      refine Par.c0 10 1 (fun f => #[f 0, f 6, f 8]) (F' := 52) (fun f X hX hR => ?_) ?_
      · have e0 : f 0 = _ := hR.out 0 rfl
        obtain ⟨A6, c6, (e6 : f 6 = _), o6⟩ := hR.out 6 rfl
        have e8 : f 8 = _ := hR.out 8 rfl
        simp only [e0, e6, e8]
        refine (times_any A6 A c6 c m2 x X (Hcv.out.ext (HE0.out.trans (hE.trans hX))) o6 (h.up (HE0.out.trans (hE.trans hX))) (by have := K2.out; omega) (by have := Kx.out; omega) HM0.out).mono ?_
        rw [E3.out]
        rintro e w2 ⟨A1, c1, rfl, hO, hB⟩
        exact ⟨(.slice A1 (digs 4294967296 m3).length c1), rfl, hB, fun Y hY => ⟨A1, c1, rfl, hO.up hY⟩⟩
      refine Par.S 11 0 [(27, 0), (28, 1), (29, 2), (30, 3), (31, 4), (32, 5), (33, 6), (34, 7), (35, 8), (36, 9)] (fun f X hX hR K hK => ?_) ?_
      · obtain ⟨A9, c9, (e9 : f 9 = _), o9⟩ := hR.out 9 rfl
        simp only [yA, yB, yC, yD, yE, e9]
        refine ⟨?_⟩
        go_simp
        exact hK.out _ (.slice A9 (digs 4294967296 m3).length c9) _ (by simp only [yA, yB, yC, yD, yE, e9]) (Ext.refl _) trivial (fun Y hY => ⟨A9, c9, rfl, o9.up hY⟩)
      refine Par.AllOps.fin ⟨fun f X hX hR hal hap => ?_⟩
      obtain ⟨A6, c6, (e6 : f 6 = _), o6⟩ := hR 6 (by decide)
      obtain ⟨A9, c9, (e9 : f 9 = _), o9⟩ := hR 9 (by decide)
      obtain ⟨A10, c10, (e10 : f 10 = _), o10⟩ := hR 10 (by decide)
      simp only [yA, yB, yD, yE, e6, e9, e10]
      clear hR hal hap e6 e9 e10
      refine Par.Chain.done ?_
      replace hE := hE.trans hX
      clear hX d1 o6 o9
      go_upto_region 8 with fail
      have d1 := hE.cell p1
      refine Par.region_ext (by kernel_rfl) 6 [0, 0, 0, 4, 15, 31] [] (fun j f X => match j with
       | 0 => f 0 = cvv
       | 1 => ∃ A1 c1, f 1 = .slice A1 (digs 4294967296 3).length c1 ∧ RU X A1 c1 (digs 4294967296 3)
       | 2 => f 2 = .pointer (some ⟨q + 1, 1, none⟩)
       | 3 => f 3 = .slice A (digs 4294967296 x).length c
       | 4 => ∃ A1 c1, f 4 = .slice A1 (digs 4294967296 t3).length c1 ∧ RU X A1 c1 (digs 4294967296 t3)
       | 5 => ∃ A1 c1, f 5 = .slice A1 (digs 4294967296 t3).length c1 ∧ RU X A1 c1 (digs 4294967296 t3)
       | _ => True) (by kernel_rfl) [(37, 0), (38, 1), (39, 2), (40, 3), (41, 4), (6, 5)] (by kernel_rfl) ?_
      refine Par.S 1 5 [(38, 1), (39, 2), (40, 3)] (fun f X hX hR K hK => ?_) ?_
      · simp only [yA, yB, yC, yD, yE]
        refine ⟨Par.want (by kernel_rfl) (wp_loadV 31 (.tmp 2) rfl rfl (hE.trans hX |>.at_ hcb) Try.underlying31 rfl infoRC HV.out ?_)⟩
        exact hK.out _ (cvv) _ (by simp only [yA, yB, yC, yD, yE]) (Ext.refl _) trivial (fun _ _ => rfl)
      refine Par.c0 2 4 (fun _ => #[Value.int IntKind.u64 3]) (F' := 39) (fun f X hX hR => ?_) ?_
      · refine (refOf_any 3 X (by omega)).mono ?_
        rintro e w2 ⟨A1, c1, rfl, hO, hB⟩
        exact ⟨(.slice A1 (digs 4294967296 3).length c1), rfl, hB, fun Y hY => ⟨A1, c1, rfl, hO.ru.up hY⟩⟩
      refine Par.v0 3 3 ?_
      refine Par.ld1 4 2 2 d1 ?_
      refine Par.c0 5 1 (fun f => #[f 0, f 1, f 3]) (F' := 52) (fun f X hX hR => ?_) ?_
      · have e0 : f 0 = _ := hR.out 0 rfl
        obtain ⟨A1, c1, (e1 : f 1 = _), o1⟩ := hR.out 1 rfl
        have e3 : f 3 = _ := hR.out 3 rfl
        simp only [e0, e1, e3]
        refine (times_any A1 A c1 c 3 x X (Hcv.out.ext (HE0.out.trans (hE.trans hX))) o1 (h.up (HE0.out.trans (hE.trans hX))) (by have := K0.out; omega) (by have := Kx.out; omega) HM0.out).mono ?_
        rw [Et.out]
        rintro e w2 ⟨A1, c1, rfl, hO, hB⟩
        exact ⟨(.slice A1 (digs 4294967296 t3).length c1), rfl, hB, fun Y hY => ⟨A1, c1, rfl, hO.up hY⟩⟩
      refine Par.S 6 0 [(37, 0), (38, 1), (39, 2), (40, 3), (41, 4)] (fun f X hX hR K hK => ?_) ?_
      · obtain ⟨A4, c4, (e4 : f 4 = _), o4⟩ := hR.out 4 rfl
        simp only [yA, yB, yC, yD, yE, e4]
        refine ⟨?_⟩
        go_simp
        exact hK.out _ (.slice A4 (digs 4294967296 t3).length c4) _ (by simp only [yA, yB, yC, yD, yE, e4]) (Ext.refl _) trivial (fun Y hY => ⟨A4, c4, rfl, o4.up hY⟩)
      refine Par.AllOps.fin ⟨fun f X hX hR hal hap => ?_⟩
      obtain ⟨A1, c1, (e1 : f 1 = _), o1⟩ := hR 1 (by decide)
      obtain ⟨A4, c4, (e4 : f 4 = _), o4⟩ := hR 4 (by decide)
      obtain ⟨A5, c5, (e5 : f 5 = _), o5⟩ := hR 5 (by decide)
      simp only [yA, yB, yD, yE, e1, e4, e5]
      clear hR hal hap e1 e4 e5
      refine Par.Chain.done ?_
      have g10 := o10.up hX
      replace hE := hE.trans hX
      clear hX d1 o1 o4 o10
      go_upto_region 9 with fail
      have d0 := hE.cell b0
      have d2 := hE.cell b2
      refine Par.region_ext (by kernel_rfl) 11 [0, 0, 0, 7, 0, 16, 63, 0, 128, 511, 1023] [] (fun j f X => match j with
       | 0 => f 0 = cvv
       | 1 => f 1 = .slice A10 (digs 4294967296 m3).length c10
       | 2 => f 2 = .slice A5 (digs 4294967296 t3).length c5
       | 3 => ∃ A1 c1, f 3 = .slice A1 (digs 4294967296 mi).length c1 ∧ RU X A1 c1 (digs 4294967296 mi)
       | 4 => f 4 = .pointer (some ⟨q, 2, none⟩)
       | 5 => f 5 = .slice Ab (digs 4294967296 C.bb).length cb
       | 6 => ∃ A1 c1, f 6 = .slice A1 (digs 4294967296 (mi + C.bb)).length c1 ∧ RU X A1 c1 (digs 4294967296 (mi + C.bb))
       | 7 => f 7 = .pointer (some ⟨q, 0, none⟩)
       | 8 => f 8 = .slice Ap (digs 4294967296 C.M).length cp
       | 9 => ∃ A1 c1, f 9 = .slice A1 (digs 4294967296 rt).length c1 ∧ RU X A1 c1 (digs 4294967296 rt)
       | 10 => ∃ A1 c1, f 10 = .slice A1 (digs 4294967296 rt).length c1 ∧ RU X A1 c1 (digs 4294967296 rt)
       | _ => True) (by kernel_rfl) [(42, 0), (43, 1), (44, 2), (45, 3), (46, 4), (47, 5), (48, 6), (49, 7), (50, 8), (51, 9), (7, 10)] (by kernel_rfl) ?_
      refine Par.S 1 10 [(43, 1), (44, 2), (46, 4), (47, 5), (49, 7), (50, 8)] (fun f X hX hR K hK => ?_) ?_
      · simp only [yA, yB, yC, yD, yE]
        refine ⟨Par.want (by kernel_rfl) (wp_loadV 31 (.tmp 2) rfl rfl (hE.trans hX |>.at_ hcb) Try.underlying31 rfl infoRC HV.out ?_)⟩
        exact hK.out _ (cvv) _ (by simp only [yA, yB, yC, yD, yE]) (Ext.refl _) trivial (fun _ _ => rfl)
      refine Par.v0 2 9 ?_
      refine Par.v0 3 8 ?_
      refine Par.c0 4 7 (fun f => #[f 0, f 1, f 2]) (F' := 54) (fun f X hX hR => ?_) ?_
      · have e0 : f 0 = _ := hR.out 0 rfl
        have e1 : f 1 = _ := hR.out 1 rfl
        have e2 : f 2 = _ := hR.out 2 rfl
        simp only [e0, e1, e2]
        refine (minus_any A10 A5 c10 c5 m3 t3 X (Hcv.out.ext (HE0.out.trans (hE.trans hX))) (g10.up hX) (o5.up hX) (by have := K3.out; omega) (by have := L.out; omega) Htm.out HM0.out).mono ?_
        rw [Ei.out]
        rintro e w2 ⟨A1, c1, rfl, hO, hB⟩
        exact ⟨(.slice A1 (digs 4294967296 mi).length c1), rfl, hB, fun Y hY => ⟨A1, c1, rfl, hO.up hY⟩⟩
      refine Par.v0 5 6 ?_
      refine Par.ld1 6 5 4 d2 ?_
      refine Par.c0 7 4 (fun f => #[f 3, f 5]) (F' := 23) (fun f X hX hR => ?_) ?_
      · obtain ⟨A3, c3, (e3 : f 3 = _), o3⟩ := hR.out 3 rfl
        have e5 : f 5 = _ := hR.out 5 rfl
        simp only [e3, e5]
        refine (refAdd_any _ _ A3 Ab c3 cb mi C.bb X o3 (h3.up (HE0.out.trans (hE.trans hX))) (fun _ hb => hb) (fun _ hb => hb) (by have := Ki.out; omega) (by have := Kb.out; omega)).mono ?_
        rintro e w2 ⟨A1, c1, rfl, hO, hB⟩
        exact ⟨(.slice A1 (digs 4294967296 (mi + C.bb)).length c1), rfl, hB, fun Y hY => ⟨A1, c1, rfl, hO.ru.up hY⟩⟩
      refine Par.v0 8 3 ?_
      refine Par.ld1 9 2 7 d0 ?_
      refine Par.c0 10 1 (fun f => #[f 6, f 8]) (F' := 53) (fun f X hX hR => ?_) ?_
      · obtain ⟨A6, c6, (e6 : f 6 = _), o6⟩ := hR.out 6 rfl
        have e8 : f 8 = _ := hR.out 8 rfl
        simp only [e6, e8]
        refine (refMod_any A6 Ap c6 cp (mi + C.bb) C.M X o6 (h1.up (HE0.out.trans (hE.trans hX))) (by have := Ks.out; omega) HM0.out).mono ?_
        rw [Er.out]
        rintro e w2 ⟨A1, c1, rfl, hO, hB⟩
        exact ⟨(.slice A1 (digs 4294967296 rt).length c1), rfl, hB, fun Y hY => ⟨A1, c1, rfl, hO.up hY⟩⟩
      refine Par.S 11 0 [(42, 0), (43, 1), (44, 2), (45, 3), (46, 4), (47, 5), (48, 6), (49, 7), (50, 8), (51, 9)] (fun f X hX hR K hK => ?_) ?_
      · obtain ⟨A9, c9, (e9 : f 9 = _), o9⟩ := hR.out 9 rfl
        simp only [yA, yB, yC, yD, yE, e9]
        refine ⟨?_⟩
        go_simp
        exact hK.out _ (.slice A9 (digs 4294967296 rt).length c9) _ (by simp only [yA, yB, yC, yD, yE, e9]) (Ext.refl _) trivial (fun Y hY => ⟨A9, c9, rfl, o9.up hY⟩)
      refine Par.AllOps.fin ⟨fun f X hX hR hal hap => ?_⟩
      obtain ⟨A3, c3, (e3 : f 3 = _), o3⟩ := hR 3 (by decide)
      obtain ⟨A6, c6, (e6 : f 6 = _), o6⟩ := hR 6 (by decide)
      obtain ⟨A9, c9, (e9 : f 9 = _), o9⟩ := hR 9 (by decide)
      obtain ⟨A11, c11, (e10 : f 10 = _), o11⟩ := hR 10 (by decide)
      simp only [yA, yB, yD, yE, e3, e6, e9, e10]
      clear hR hal hap e3 e6 e9 e10
      refine Par.Chain.done ?_
      replace hE := hE.trans hX
      clear hX d0 d2 o3 o6 o9 g10 o5
      go_upto_region 10 with fail
      have d2 := hE.cell p2
      refine Par.region_txt 10 [0, 0, 2, 0, 8, 31, 0, 127, 255, 511] [] (fun j f X => match j with
       | 0 => f 0 = cvv
       | 1 => f 1 = .pointer (some ⟨q + 1, 2, none⟩)
       | 2 => f 2 = .slice A' (digs 4294967296 y).length c'
       | 3 => f 3 = .pointer (some ⟨q + 1, 2, none⟩)
       | 4 => f 4 = .slice A' (digs 4294967296 y).length c'
       | 5 => ∃ A1 c1, f 5 = .slice A1 (digs 4294967296 yy).length c1 ∧ RU X A1 c1 (digs 4294967296 yy)
       | 6 => f 6 = .slice A11 (digs 4294967296 rt).length c11
       | 7 => f 7 = .int .i64 (cmpV yy rt)
       | 8 => f 8 = .bool r
       | 9 => f 9 = .bool r
       | _ => True) (by kernel_rfl) [(52, 0), (53, 1), (54, 2), (55, 3), (56, 4), (57, 5), (58, 6), (59, 7), (60, 8), (4, 9)] (by kernel_rfl) ?_
      refine Par.S 1 9 [(53, 1), (54, 2), (55, 3), (56, 4), (58, 6)] (fun f X hX hR K hK => ?_) ?_
      · simp only [yA, yB, yC, yD, yE]
        refine ⟨Par.want (by kernel_rfl) (wp_loadV 31 (.tmp 2) rfl rfl (hE.trans hX |>.at_ hcb) Try.underlying31 rfl infoRC HV.out ?_)⟩
        exact hK.out _ (cvv) _ (by simp only [yA, yB, yC, yD, yE]) (Ext.refl _) trivial (fun _ _ => rfl)
      refine Par.v0 2 8 ?_
      refine Par.ld1 3 7 1 d2 ?_
      refine Par.v0 4 6 ?_
      refine Par.ld1 5 5 3 d2 ?_
      refine Par.c0 6 4 (fun f => #[f 0, f 2, f 4]) (F' := 52) (fun f X hX hR => ?_) ?_
      · have e0 : f 0 = _ := hR.out 0 rfl
        have e2 : f 2 = _ := hR.out 2 rfl
        have e4 : f 4 = _ := hR.out 4 rfl
        simp only [e0, e2, e4]
        refine (times_any A' A' c' c' y y X (Hcv.out.ext (HE0.out.trans (hE.trans hX))) (h'.up (HE0.out.trans (hE.trans hX))) (h'.up (HE0.out.trans (hE.trans hX))) (by have := KY.out; omega) (by have := KY.out; omega) HM0.out).mono ?_
        rw [Ey.out]
        rintro e w2 ⟨A1, c1, rfl, hO, hB⟩
        exact ⟨(.slice A1 (digs 4294967296 yy).length c1), rfl, hB, fun Y hY => ⟨A1, c1, rfl, hO.up hY⟩⟩
      refine Par.v0 7 3 ?_
      refine Par.c0 8 2 (fun f => #[f 5, f 6]) (F' := 51) (fun f X hX hR => ?_) ?_
      · obtain ⟨A5, c5, (e5 : f 5 = _), o5⟩ := hR.out 5 rfl
        have e6 : f 6 = _ := hR.out 6 rfl
        simp only [e5, e6]
        refine (refCmp_any _ _ A5 A11 c5 c11 yy rt X o5 (o11.up hX)).mono ?_
        rintro e w2 ⟨rfl, nq, rfl⟩
        exact ⟨(.int .i64 (cmpV yy rt)), rfl, (Ext.drewN _ _), fun _ _ => rfl⟩
      refine Par.S 9 1 [(52, 0), (53, 1), (54, 2), (55, 3), (56, 4), (57, 5), (58, 6), (59, 7)] (fun f X hX hR K hK => ?_) ?_
      · have e7 : f 7 = _ := hR.out 7 rfl
        simp only [yA, yB, yC, yD, yE, e7]
        refine ⟨?_⟩
        go_simp
        have hd : (cmpV yy rt == 0) = r := by rw [Hres.out]; exact cmpV_eq0 yy rt
        rw [hd]
        exact Par.k hK (s := by simp only [yA, yB, yC, yD, yE, e7])
      refine Par.v1 10 0 8 ?_
      refine Par.AllOps.fin ⟨fun f X hX hR hal hap => ?_⟩
      obtain ⟨A5, c5, (e5 : f 5 = _), o5⟩ := hR 5 (by decide)
      have e9 : f 9 = _ := hR 9 (by decide)
      simp only [yA, yB, yD, yE, e5, e9]
      clear hR hal hap e5 e9
      refine Par.Chain.done ?_
      go_wp2
      go_ret
      exact ⟨rfl, HE0.out.trans (hE.trans hX)⟩
    · obtain ⟨v, hv⟩ : ∃ v, cmpV y C.M = v := ⟨_, rfl⟩
      have hv0 : 0 ≤ v := by rw [← hv]; rcases cmpV_cases y C.M with h | h | h <;> omega
      have Hv := Lib.hid hv
      have HH := Lib.hid hyM
      clear hv hyM
      go_enter Try.func16, Try.ntmps16
      go_upto_region 5 with fail
      rw [← hW0]
      clear hW0 hq
      refine Par.region_txt 14 [0, 1, 0, 4, 15, 31, 63, 127, 255, 127, 639, 2047, 4095, 8191] [] (fun j f X => match j with
       | 0 => f 0 = .pointer (some ⟨q + 1, 1, none⟩)
       | 1 => f 1 = .slice A (digs 4294967296 x).length c
       | 2 => f 2 = .pointer (some ⟨q, 0, none⟩)
       | 3 => f 3 = .slice Ap (digs 4294967296 C.M).length cp
       | 4 => f 4 = .int .i64 (-1)
       | 5 => f 5 = .bool false
       | 6 => f 6 = .bool false
       | 7 => f 7 = .pointer (some ⟨q + 1, 2, none⟩)
       | 8 => f 8 = .slice A' (digs 4294967296 y).length c'
       | 9 => f 9 = .pointer (some ⟨q, 0, none⟩)
       | 10 => f 10 = .slice Ap (digs 4294967296 C.M).length cp
       | 11 => f 11 = .int .i64 v
       | 12 => f 12 = .bool true
       | 13 => f 13 = .bool true
       | _ => True) (by kernel_rfl) [(13, 0), (14, 1), (15, 2), (16, 3), (17, 4), (18, 5), (19, 6), (20, 7), (21, 8), (22, 9), (23, 10), (24, 11), (25, 12), (26, 13)] (by kernel_rfl) ?_
      refine Par.v0 1 13 ?_
      refine Par.ld1 2 12 0 p1 ?_
      refine Par.v0 3 11 ?_
      refine Par.ld1 4 10 2 b0 ?_
      refine Par.c0 5 9 (fun f => #[f 1, f 3]) (F' := 51) (fun f X hX hR => ?_) ?_
      · have e1 : f 1 = _ := hR.out 1 rfl
        have e3 : f 3 = _ := hR.out 3 rfl
        simp only [e1, e3]
        refine (arm1.out X hX).mono ?_
        rintro e w2 ⟨rfl, nq, rfl⟩
        rw [tx.out]
        exact ⟨(.int .i64 (-1)), rfl, (Ext.drewN _ _), fun _ _ => rfl⟩
      refine Par.S 6 8 [(13, 0), (14, 1), (15, 2), (16, 3), (17, 4)] (fun f X hX hR K hK => ?_) ?_
      · have e4 : f 4 = _ := hR.out 4 rfl
        simp only [yA, yB, yC, yD, yE, e4]
        refine ⟨?_⟩
        go_simp
        exact Par.k hK (s := by simp only [yA, yB, yC, yD, yE, e4])
      refine Par.v1 7 7 5 ?_
      refine Par.v1 8 6 6 ?_
      refine Par.S 9 5 [(13, 0), (14, 1), (15, 2), (16, 3), (17, 4), (18, 5), (19, 6), (20, 7), (22, 9), (23, 10)] (fun f X hX hR K hK => ?_) ?_
      · have e6 : f 6 = _ := hR.out 6 rfl
        have e7 : f 7 = _ := hR.out 7 rfl
        have x0 := hX.cell p2
        simp only [yA, yB, yC, yD, yE, e6, e7]
        refine ⟨Par.want (by kernel_rfl) ?_⟩
        go_simp
        exact Par.k hK (s := by simp only [yA, yB, yC, yD, yE, e6, e7])
      refine Par.v1 10 4 6 ?_
      refine Par.S 11 3 [(13, 0), (14, 1), (15, 2), (16, 3), (17, 4), (18, 5), (19, 6), (20, 7), (21, 8), (22, 9)] (fun f X hX hR K hK => ?_) ?_
      · have e6 : f 6 = _ := hR.out 6 rfl
        have e9 : f 9 = _ := hR.out 9 rfl
        have x0 := hX.cell b0
        simp only [yA, yB, yC, yD, yE, e6, e9]
        refine ⟨Par.want (by kernel_rfl) ?_⟩
        go_simp
        exact Par.k hK (s := by simp only [yA, yB, yC, yD, yE, e6, e9])
      refine Par.c1 12 2 6 (fun f => #[f 8, f 10]) (F' := 51) (fun f X hX hR => ?_) ?_
      · have e8 : f 8 = _ := hR.out 8 rfl
        have e10 : f 10 = _ := hR.out 10 rfl
        simp only [e8, e10]
        refine (arm2.out X hX).mono ?_
        rintro e w2 ⟨rfl, nq, rfl⟩
        rw [Hv.out]
        exact ⟨(.int .i64 v), rfl, (Ext.drewN _ _), fun _ _ => rfl⟩
      refine Par.S 13 1 [(13, 0), (14, 1), (15, 2), (16, 3), (17, 4), (18, 5), (19, 6), (20, 7), (21, 8), (22, 9), (23, 10), (24, 11)] (fun f X hX hR K hK => ?_) ?_
      · have e6 : f 6 = _ := hR.out 6 rfl
        have e11 : f 11 = _ := hR.out 11 rfl
        simp only [yA, yB, yC, yD, yE, e6, e11]
        refine ⟨Par.want (by kernel_rfl) ?_⟩
        go_simp
        exact Par.k hK (s := by simp only [yA, yB, yC, yD, yE, e6, e11])
      refine Par.v2 14 0 6 12 ?_
      refine Par.AllOps.fin ⟨fun f X hX hR hal hap => ?_⟩
      have e13 : f 13 = _ := hR 13 (by decide)
      simp only [yA, yB, yD, yE, e13]
      clear hR hal hap e13
      refine Par.Chain.done ?_
      go_wp2
      go_ret
      exact ⟨by rw [show r = false by rw [← Hr.out]; simp [onB, HH.out]]; rfl, HE0.out.trans hX⟩
  · obtain ⟨v, hv⟩ : ∃ v, cmpV x C.M = v := ⟨_, rfl⟩
    have hv0 : 0 ≤ v := by rw [← hv]; rcases cmpV_cases x C.M with h | h | h <;> omega
    have Hv := Lib.hid hv
    have HH := Lib.hid hxM
    clear hv hxM
    go_enter Try.func16, Try.ntmps16
    go_upto_region 5 with fail
    rw [← hW0]
    clear hW0 hq
    refine Par.region_txt 14 [0, 1, 0, 4, 15, 31, 63, 127, 255, 127, 639, 2047, 4095, 8191] [] (fun j f X => match j with
     | 0 => f 0 = .pointer (some ⟨q + 1, 1, none⟩)
     | 1 => f 1 = .slice A (digs 4294967296 x).length c
     | 2 => f 2 = .pointer (some ⟨q, 0, none⟩)
     | 3 => f 3 = .slice Ap (digs 4294967296 C.M).length cp
     | 4 => f 4 = .int .i64 v
     | 5 => f 5 = .bool true
     | 6 => f 6 = .bool true
     | 7 => f 7 = undef
     | 8 => f 8 = undef
     | 9 => f 9 = undef
     | 10 => f 10 = undef
     | 11 => f 11 = undef
     | 12 => f 12 = undef
     | 13 => f 13 = .bool true
     | _ => True) (by kernel_rfl) [(13, 0), (14, 1), (15, 2), (16, 3), (17, 4), (18, 5), (19, 6), (20, 7), (21, 8), (22, 9), (23, 10), (24, 11), (25, 12), (26, 13)] (by kernel_rfl) ?_
    refine Par.v0 1 13 ?_
    refine Par.ld1 2 12 0 p1 ?_
    refine Par.v0 3 11 ?_
    refine Par.ld1 4 10 2 b0 ?_
    refine Par.c0 5 9 (fun f => #[f 1, f 3]) (F' := 51) (fun f X hX hR => ?_) ?_
    · have e1 : f 1 = _ := hR.out 1 rfl
      have e3 : f 3 = _ := hR.out 3 rfl
      simp only [e1, e3]
      refine (arm1.out X hX).mono ?_
      rintro e w2 ⟨rfl, nq, rfl⟩
      rw [Hv.out]
      exact ⟨(.int .i64 v), rfl, (Ext.drewN _ _), fun _ _ => rfl⟩
    refine Par.S 6 8 [(13, 0), (14, 1), (15, 2), (16, 3), (17, 4)] (fun f X hX hR K hK => ?_) ?_
    · have e4 : f 4 = _ := hR.out 4 rfl
      simp only [yA, yB, yC, yD, yE, e4]
      refine ⟨?_⟩
      go_simp
      exact Par.k hK (s := by simp only [yA, yB, yC, yD, yE, e4])
    refine Par.v1 7 7 5 ?_
    refine Par.sk 8 6 6 ?_
    refine Par.sk 9 5 6 ?_
    refine Par.sk 10 4 6 ?_
    refine Par.sk 11 3 6 ?_
    refine Par.sk 12 2 6 ?_
    refine Par.sk 13 1 6 ?_
    refine Par.v2 14 0 6 12 ?_
    refine Par.AllOps.fin ⟨fun f X hX hR hal hap => ?_⟩
    have e13 : f 13 = _ := hR 13 (by decide)
    simp only [yA, yB, yD, yE, e13]
    clear hR hal hap e13
    refine Par.Chain.done ?_
    go_wp2
    go_ret
    exact ⟨by rw [show r = false by rw [← Hr.out]; simp [onB, HH.out]]; rfl, HE0.out.trans hX⟩
def c0 : Crv := ⟨0, 0, 0, 0, [], [], [], [], []⟩
theorem end_rc {fn : Func} {R : Ending → World → Prop} {a : Act} {W : World} {p : Tmp} {g : Nat} {ty : TypeId} {fr : Nat × Nat} {x0 x1 x2 x3 x4 x5 : Value} (hr : fn.results = #[.cell p 31]) (hp : a.tmps.getD p undef = .pointer (some ⟨g, 0, none⟩)) (hd : a.defers = [])
 (hg : W.heap[g]? = some (.cells #[x0, x1, x2, x3, x4, x5] ty fr)) (hR : R (.returned (.agg #[x0, x1, x2, x3, x4, x5])) W) : bodyPost Try.prog fn R .ret a W :=
 bodyPost_ret (results_cell_row hr a.tmps W g _ _ _ _ hp hg Try.underlying31 rfl infoRC) hd hR
theorem rc_one (A1 A2 A3 A4 A5 : Option Addr) (n1 n2 n3 n4 n5 c1 c2 c3 c4 c5 : Nat) (s : Int) : (#[Value.slice A1 n1 c1, .slice A2 n2 c2, .slice A3 n3 c3, .slice A4 n4 c4, .slice A5 n5 c5, .int .i64 s] : Array Value).all (·.oneCell') = true := by simp [Value.oneCell']
theorem refOf_c {c : Int} {C : Crv} (hC : IsC c C) (w : World) : Calls Try.prog 13 #[.int .i64 c] w fun e w' => ∃ v, e = .returned v ∧ RC w' C v ∧ Ext w w' := by
 have hz : (w.alloc (.cells #[.slice none 0 0, .slice none 0 0, .slice none 0 0, .slice none 0 0, .slice none 0 0, .int .i64 0] 31)).heap[w.heap.size]? = some (.cells #[.slice none 0 0, .slice none 0 0, .slice none 0 0, .slice none 0 0, .slice none 0 0, .int .i64 0] 31 (0, 0)) := heap_alloc_new w _
 rcases hC with ⟨rfl, rfl⟩ | ⟨rfl, rfl⟩
 · go_enter Try.func13, Try.ntmps13
   go_upto_region 3 with fail
   refine Par.region_txt 11 [0, 1, 0, 7, 0, 31, 0, 127, 0, 511, 1023, 2047] [] (fun j f X => match j with
    | 0 => ∃ b, f 0 = .slice (some ⟨b, 0, none⟩) 4 4 ∧ RU X (some ⟨b, 0, none⟩) 4 p256p
    | 1 => ∃ A1 c1, f 1 = .slice A1 (digs 4294967296 (val 18446744073709551616 p256p)).length c1 ∧ OB X w.heap.size A1 c1 (digs 4294967296 (val 18446744073709551616 p256p))
    | 2 => ∃ b, f 2 = .slice (some ⟨b, 0, none⟩) 4 4 ∧ RU X (some ⟨b, 0, none⟩) 4 p256n
    | 3 => ∃ A1 c1, f 3 = .slice A1 (digs 4294967296 (val 18446744073709551616 p256n)).length c1 ∧ OB X w.heap.size A1 c1 (digs 4294967296 (val 18446744073709551616 p256n))
    | 4 => ∃ b, f 4 = .slice (some ⟨b, 0, none⟩) 4 4 ∧ RU X (some ⟨b, 0, none⟩) 4 p256b
    | 5 => ∃ A1 c1, f 5 = .slice A1 (digs 4294967296 (val 18446744073709551616 p256b)).length c1 ∧ OB X w.heap.size A1 c1 (digs 4294967296 (val 18446744073709551616 p256b))
    | 6 => ∃ b, f 6 = .slice (some ⟨b, 0, none⟩) 4 4 ∧ RU X (some ⟨b, 0, none⟩) 4 p256x
    | 7 => ∃ A1 c1, f 7 = .slice A1 (digs 4294967296 (val 18446744073709551616 p256x)).length c1 ∧ OB X w.heap.size A1 c1 (digs 4294967296 (val 18446744073709551616 p256x))
    | 8 => ∃ b, f 8 = .slice (some ⟨b, 0, none⟩) 4 4 ∧ RU X (some ⟨b, 0, none⟩) 4 p256y
    | 9 => ∃ A1 c1, f 9 = .slice A1 (digs 4294967296 (val 18446744073709551616 p256y)).length c1 ∧ OB X w.heap.size A1 c1 (digs 4294967296 (val 18446744073709551616 p256y))
    | 10 => f 10 = .agg #[f 1, f 3, f 5, f 7, f 9, .int .i64 32]
    | _ => True) (by kernel_rfl) [(6, 0), (7, 1), (8, 2), (9, 3), (10, 4), (11, 5), (12, 6), (13, 7), (14, 8), (15, 9), (16, 10)] (by kernel_rfl) ?_
   refine Par.S 1 10 [(8, 2), (10, 4), (12, 6), (14, 8)] (fun f X hX hR K hK => ?_) ?_
   · simp only [yA, yB, yC, yD, yE]
     refine ⟨?_⟩
     go_simp
     exact hK.out _ (.slice (some ⟨X.heap.size, 0, none⟩) 4 4) _ (by simp only [yA, yB, yC, yD, yE]) (Ext.alloc _ _) trivial (fun Y hY => ⟨X.heap.size, rfl, ((RN.lits X p256p ⟨by decide, by decide⟩).mono (fun b hb => by rw [World.size_alloc]; exact hb.2)).up hY⟩)
   refine Par.c0 2 9 (fun f => #[f 0]) (F' := 19) (fun f X hX hR => ?_) ?_
   · obtain ⟨b0, (e0 : f 0 = _), h0⟩ := hR.out 0 rfl
     simp only [e0]
     refine (from_any _ (some ⟨b0, 0, none⟩) 4 p256p X h0 (fun _ hb => hb) (by decide)).mono ?_
     rintro e w2 ⟨A1, c1, rfl, hO, hB⟩
     exact ⟨(.slice A1 (digs 4294967296 (val 18446744073709551616 p256p)).length c1), rfl, hB, fun Y hY => ⟨A1, c1, rfl, (hO.mono (Nat.le_trans (Ext.alloc w _).bsize hX.bsize)).below hY (Nat.le_refl _)⟩⟩
   refine Par.S 3 8 [(6, 0), (7, 1), (10, 4), (12, 6), (14, 8)] (fun f X hX hR K hK => ?_) ?_
   · simp only [yA, yB, yC, yD, yE]
     refine ⟨?_⟩
     go_simp
     exact hK.out _ (.slice (some ⟨X.heap.size, 0, none⟩) 4 4) _ (by simp only [yA, yB, yC, yD, yE]) (Ext.alloc _ _) trivial (fun Y hY => ⟨X.heap.size, rfl, ((RN.lits X p256n ⟨by decide, by decide⟩).mono (fun b hb => by rw [World.size_alloc]; exact hb.2)).up hY⟩)
   refine Par.c0 4 7 (fun f => #[f 2]) (F' := 19) (fun f X hX hR => ?_) ?_
   · obtain ⟨b2, (e2 : f 2 = _), h2⟩ := hR.out 2 rfl
     simp only [e2]
     refine (from_any _ (some ⟨b2, 0, none⟩) 4 p256n X h2 (fun _ hb => hb) (by decide)).mono ?_
     rintro e w2 ⟨A1, c1, rfl, hO, hB⟩
     exact ⟨(.slice A1 (digs 4294967296 (val 18446744073709551616 p256n)).length c1), rfl, hB, fun Y hY => ⟨A1, c1, rfl, (hO.mono (Nat.le_trans (Ext.alloc w _).bsize hX.bsize)).below hY (Nat.le_refl _)⟩⟩
   refine Par.S 5 6 [(6, 0), (7, 1), (8, 2), (9, 3), (12, 6), (14, 8)] (fun f X hX hR K hK => ?_) ?_
   · simp only [yA, yB, yC, yD, yE]
     refine ⟨?_⟩
     go_simp
     exact hK.out _ (.slice (some ⟨X.heap.size, 0, none⟩) 4 4) _ (by simp only [yA, yB, yC, yD, yE]) (Ext.alloc _ _) trivial (fun Y hY => ⟨X.heap.size, rfl, ((RN.lits X p256b ⟨by decide, by decide⟩).mono (fun b hb => by rw [World.size_alloc]; exact hb.2)).up hY⟩)
   refine Par.c0 6 5 (fun f => #[f 4]) (F' := 19) (fun f X hX hR => ?_) ?_
   · obtain ⟨b4, (e4 : f 4 = _), h4⟩ := hR.out 4 rfl
     simp only [e4]
     refine (from_any _ (some ⟨b4, 0, none⟩) 4 p256b X h4 (fun _ hb => hb) (by decide)).mono ?_
     rintro e w2 ⟨A1, c1, rfl, hO, hB⟩
     exact ⟨(.slice A1 (digs 4294967296 (val 18446744073709551616 p256b)).length c1), rfl, hB, fun Y hY => ⟨A1, c1, rfl, (hO.mono (Nat.le_trans (Ext.alloc w _).bsize hX.bsize)).below hY (Nat.le_refl _)⟩⟩
   refine Par.S 7 4 [(6, 0), (7, 1), (8, 2), (9, 3), (10, 4), (11, 5), (14, 8)] (fun f X hX hR K hK => ?_) ?_
   · simp only [yA, yB, yC, yD, yE]
     refine ⟨?_⟩
     go_simp
     exact hK.out _ (.slice (some ⟨X.heap.size, 0, none⟩) 4 4) _ (by simp only [yA, yB, yC, yD, yE]) (Ext.alloc _ _) trivial (fun Y hY => ⟨X.heap.size, rfl, ((RN.lits X p256x ⟨by decide, by decide⟩).mono (fun b hb => by rw [World.size_alloc]; exact hb.2)).up hY⟩)
   refine Par.c0 8 3 (fun f => #[f 6]) (F' := 19) (fun f X hX hR => ?_) ?_
   · obtain ⟨b6, (e6 : f 6 = _), h6⟩ := hR.out 6 rfl
     simp only [e6]
     refine (from_any _ (some ⟨b6, 0, none⟩) 4 p256x X h6 (fun _ hb => hb) (by decide)).mono ?_
     rintro e w2 ⟨A1, c1, rfl, hO, hB⟩
     exact ⟨(.slice A1 (digs 4294967296 (val 18446744073709551616 p256x)).length c1), rfl, hB, fun Y hY => ⟨A1, c1, rfl, (hO.mono (Nat.le_trans (Ext.alloc w _).bsize hX.bsize)).below hY (Nat.le_refl _)⟩⟩
   refine Par.S 9 2 [(6, 0), (7, 1), (8, 2), (9, 3), (10, 4), (11, 5), (12, 6), (13, 7)] (fun f X hX hR K hK => ?_) ?_
   · simp only [yA, yB, yC, yD, yE]
     refine ⟨?_⟩
     go_simp
     exact hK.out _ (.slice (some ⟨X.heap.size, 0, none⟩) 4 4) _ (by simp only [yA, yB, yC, yD, yE]) (Ext.alloc _ _) trivial (fun Y hY => ⟨X.heap.size, rfl, ((RN.lits X p256y ⟨by decide, by decide⟩).mono (fun b hb => by rw [World.size_alloc]; exact hb.2)).up hY⟩)
   refine Par.c0 10 1 (fun f => #[f 8]) (F' := 19) (fun f X hX hR => ?_) ?_
   · obtain ⟨b8, (e8 : f 8 = _), h8⟩ := hR.out 8 rfl
     simp only [e8]
     refine (from_any _ (some ⟨b8, 0, none⟩) 4 p256y X h8 (fun _ hb => hb) (by decide)).mono ?_
     rintro e w2 ⟨A1, c1, rfl, hO, hB⟩
     exact ⟨(.slice A1 (digs 4294967296 (val 18446744073709551616 p256y)).length c1), rfl, hB, fun Y hY => ⟨A1, c1, rfl, (hO.mono (Nat.le_trans (Ext.alloc w _).bsize hX.bsize)).below hY (Nat.le_refl _)⟩⟩
   refine Par.S 11 0 [(6, 0), (7, 1), (8, 2), (9, 3), (10, 4), (11, 5), (12, 6), (13, 7), (14, 8), (15, 9)] (fun f X hX hR K hK => ?_) ?_
   · obtain ⟨A1, c1, (e1 : f 1 = _), o1⟩ := hR.out 1 rfl
     obtain ⟨A3, c3, (e3 : f 3 = _), o3⟩ := hR.out 3 rfl
     obtain ⟨A5, c5, (e5 : f 5 = _), o5⟩ := hR.out 5 rfl
     obtain ⟨A7, c7, (e7 : f 7 = _), o7⟩ := hR.out 7 rfl
     obtain ⟨A9, c9, (e9 : f 9 = _), o9⟩ := hR.out 9 rfl
     simp only [yA, yB, yC, yD, yE, e1, e3, e5, e7, e9]
     refine ⟨?_⟩
     go_simp
     exact hK.out _ (.agg #[f 1, f 3, f 5, f 7, f 9, .int .i64 32]) _ (by simp only [yA, yB, yC, yD, yE, e1, e3, e5, e7, e9]) (Ext.refl _) trivial (fun _ _ => rfl)
   refine Par.AllOps.fin ⟨fun f X hX hR hal hap => ?_⟩
   obtain ⟨b0, (e0 : f 0 = _), h0⟩ := hR 0 (by decide)
   obtain ⟨A1, c1, (e1 : f 1 = _), o1⟩ := hR 1 (by decide)
   obtain ⟨b2, (e2 : f 2 = _), h2⟩ := hR 2 (by decide)
   obtain ⟨A3, c3, (e3 : f 3 = _), o3⟩ := hR 3 (by decide)
   obtain ⟨b4, (e4 : f 4 = _), h4⟩ := hR 4 (by decide)
   obtain ⟨A5, c5, (e5 : f 5 = _), o5⟩ := hR 5 (by decide)
   obtain ⟨b6, (e6 : f 6 = _), h6⟩ := hR 6 (by decide)
   obtain ⟨A7, c7, (e7 : f 7 = _), o7⟩ := hR 7 (by decide)
   obtain ⟨b8, (e8 : f 8 = _), h8⟩ := hR 8 (by decide)
   obtain ⟨A9, c9, (e9 : f 9 = _), o9⟩ := hR 9 (by decide)
   have e10 : f 10 = .agg #[f 1, f 3, f 5, f 7, f 9, .int .i64 32] := hR 10 (by decide)
   simp only [yA, yB, yD, yE, e0, e1, e2, e3, e4, e5, e6, e7, e8, e9, e10]
   clear hR hal hap e0 e1 e2 e3 e4 e5 e6 e7 e8 e9 e10
   refine Par.Chain.next (fun K hK => ⟨Par.want (by kernel_rfl) (wp_storeV 31 (.tmp 2) (.tmp 16) rfl rfl rfl rfl (hX.at_ hz) infoRC rfl (rc_one _ _ _ _ _ _ _ _ _ _ _ _ _ _ _ _) (fun Y1 g1 g2 g3 => hK.out _ _ ?_))⟩)
   refine Par.Chain.done ?_
   go_wp2
   refine end_rc rfl rfl rfl g1 ⟨_, rfl, ⟨A1, A3, A5, A7, A9, c1, c3, c5, c7, c9, rfl, (o1.just g2 (hX.at_ hz) (by decide)).ru, (o3.just g2 (hX.at_ hz) (by decide)).ru, (o5.just g2 (hX.at_ hz) (by decide)).ru, (o7.just g2 (hX.at_ hz) (by decide)).ru, (o9.just g2 (hX.at_ hz) (by decide)).ru⟩, g2.ext ((Ext.alloc w _).trans hX) (Nat.le_refl _)⟩
 · go_enter Try.func13, Try.ntmps13
   go_upto_region 5 with fail
   refine Par.region_txt 11 [0, 1, 0, 7, 0, 31, 0, 127, 0, 511, 1023, 2047] [] (fun j f X => match j with
    | 0 => ∃ b, f 0 = .slice (some ⟨b, 0, none⟩) 6 6 ∧ RU X (some ⟨b, 0, none⟩) 6 p384p
    | 1 => ∃ A1 c1, f 1 = .slice A1 (digs 4294967296 (val 18446744073709551616 p384p)).length c1 ∧ OB X w.heap.size A1 c1 (digs 4294967296 (val 18446744073709551616 p384p))
    | 2 => ∃ b, f 2 = .slice (some ⟨b, 0, none⟩) 6 6 ∧ RU X (some ⟨b, 0, none⟩) 6 p384n
    | 3 => ∃ A1 c1, f 3 = .slice A1 (digs 4294967296 (val 18446744073709551616 p384n)).length c1 ∧ OB X w.heap.size A1 c1 (digs 4294967296 (val 18446744073709551616 p384n))
    | 4 => ∃ b, f 4 = .slice (some ⟨b, 0, none⟩) 6 6 ∧ RU X (some ⟨b, 0, none⟩) 6 p384b
    | 5 => ∃ A1 c1, f 5 = .slice A1 (digs 4294967296 (val 18446744073709551616 p384b)).length c1 ∧ OB X w.heap.size A1 c1 (digs 4294967296 (val 18446744073709551616 p384b))
    | 6 => ∃ b, f 6 = .slice (some ⟨b, 0, none⟩) 6 6 ∧ RU X (some ⟨b, 0, none⟩) 6 p384x
    | 7 => ∃ A1 c1, f 7 = .slice A1 (digs 4294967296 (val 18446744073709551616 p384x)).length c1 ∧ OB X w.heap.size A1 c1 (digs 4294967296 (val 18446744073709551616 p384x))
    | 8 => ∃ b, f 8 = .slice (some ⟨b, 0, none⟩) 6 6 ∧ RU X (some ⟨b, 0, none⟩) 6 p384y
    | 9 => ∃ A1 c1, f 9 = .slice A1 (digs 4294967296 (val 18446744073709551616 p384y)).length c1 ∧ OB X w.heap.size A1 c1 (digs 4294967296 (val 18446744073709551616 p384y))
    | 10 => f 10 = .agg #[f 1, f 3, f 5, f 7, f 9, .int .i64 48]
    | _ => True) (by kernel_rfl) [(19, 0), (20, 1), (21, 2), (22, 3), (23, 4), (24, 5), (25, 6), (26, 7), (27, 8), (28, 9), (29, 10)] (by kernel_rfl) ?_
   refine Par.S 1 10 [(21, 2), (23, 4), (25, 6), (27, 8)] (fun f X hX hR K hK => ?_) ?_
   · simp only [yA, yB, yC, yD, yE]
     refine ⟨?_⟩
     go_simp
     exact hK.out _ (.slice (some ⟨X.heap.size, 0, none⟩) 6 6) _ (by simp only [yA, yB, yC, yD, yE]) (Ext.alloc _ _) trivial (fun Y hY => ⟨X.heap.size, rfl, ((RN.lits X p384p ⟨by decide, by decide⟩).mono (fun b hb => by rw [World.size_alloc]; exact hb.2)).up hY⟩)
   refine Par.c0 2 9 (fun f => #[f 0]) (F' := 19) (fun f X hX hR => ?_) ?_
   · obtain ⟨b0, (e0 : f 0 = _), h0⟩ := hR.out 0 rfl
     simp only [e0]
     refine (from_any _ (some ⟨b0, 0, none⟩) 6 p384p X h0 (fun _ hb => hb) (by decide)).mono ?_
     rintro e w2 ⟨A1, c1, rfl, hO, hB⟩
     exact ⟨(.slice A1 (digs 4294967296 (val 18446744073709551616 p384p)).length c1), rfl, hB, fun Y hY => ⟨A1, c1, rfl, (hO.mono (Nat.le_trans (Ext.alloc w _).bsize hX.bsize)).below hY (Nat.le_refl _)⟩⟩
   refine Par.S 3 8 [(19, 0), (20, 1), (23, 4), (25, 6), (27, 8)] (fun f X hX hR K hK => ?_) ?_
   · simp only [yA, yB, yC, yD, yE]
     refine ⟨?_⟩
     go_simp
     exact hK.out _ (.slice (some ⟨X.heap.size, 0, none⟩) 6 6) _ (by simp only [yA, yB, yC, yD, yE]) (Ext.alloc _ _) trivial (fun Y hY => ⟨X.heap.size, rfl, ((RN.lits X p384n ⟨by decide, by decide⟩).mono (fun b hb => by rw [World.size_alloc]; exact hb.2)).up hY⟩)
   refine Par.c0 4 7 (fun f => #[f 2]) (F' := 19) (fun f X hX hR => ?_) ?_
   · obtain ⟨b2, (e2 : f 2 = _), h2⟩ := hR.out 2 rfl
     simp only [e2]
     refine (from_any _ (some ⟨b2, 0, none⟩) 6 p384n X h2 (fun _ hb => hb) (by decide)).mono ?_
     rintro e w2 ⟨A1, c1, rfl, hO, hB⟩
     exact ⟨(.slice A1 (digs 4294967296 (val 18446744073709551616 p384n)).length c1), rfl, hB, fun Y hY => ⟨A1, c1, rfl, (hO.mono (Nat.le_trans (Ext.alloc w _).bsize hX.bsize)).below hY (Nat.le_refl _)⟩⟩
   refine Par.S 5 6 [(19, 0), (20, 1), (21, 2), (22, 3), (25, 6), (27, 8)] (fun f X hX hR K hK => ?_) ?_
   · simp only [yA, yB, yC, yD, yE]
     refine ⟨?_⟩
     go_simp
     exact hK.out _ (.slice (some ⟨X.heap.size, 0, none⟩) 6 6) _ (by simp only [yA, yB, yC, yD, yE]) (Ext.alloc _ _) trivial (fun Y hY => ⟨X.heap.size, rfl, ((RN.lits X p384b ⟨by decide, by decide⟩).mono (fun b hb => by rw [World.size_alloc]; exact hb.2)).up hY⟩)
   refine Par.c0 6 5 (fun f => #[f 4]) (F' := 19) (fun f X hX hR => ?_) ?_
   · obtain ⟨b4, (e4 : f 4 = _), h4⟩ := hR.out 4 rfl
     simp only [e4]
     refine (from_any _ (some ⟨b4, 0, none⟩) 6 p384b X h4 (fun _ hb => hb) (by decide)).mono ?_
     rintro e w2 ⟨A1, c1, rfl, hO, hB⟩
     exact ⟨(.slice A1 (digs 4294967296 (val 18446744073709551616 p384b)).length c1), rfl, hB, fun Y hY => ⟨A1, c1, rfl, (hO.mono (Nat.le_trans (Ext.alloc w _).bsize hX.bsize)).below hY (Nat.le_refl _)⟩⟩
   refine Par.S 7 4 [(19, 0), (20, 1), (21, 2), (22, 3), (23, 4), (24, 5), (27, 8)] (fun f X hX hR K hK => ?_) ?_
   · simp only [yA, yB, yC, yD, yE]
     refine ⟨?_⟩
     go_simp
     exact hK.out _ (.slice (some ⟨X.heap.size, 0, none⟩) 6 6) _ (by simp only [yA, yB, yC, yD, yE]) (Ext.alloc _ _) trivial (fun Y hY => ⟨X.heap.size, rfl, ((RN.lits X p384x ⟨by decide, by decide⟩).mono (fun b hb => by rw [World.size_alloc]; exact hb.2)).up hY⟩)
   refine Par.c0 8 3 (fun f => #[f 6]) (F' := 19) (fun f X hX hR => ?_) ?_
   · obtain ⟨b6, (e6 : f 6 = _), h6⟩ := hR.out 6 rfl
     simp only [e6]
     refine (from_any _ (some ⟨b6, 0, none⟩) 6 p384x X h6 (fun _ hb => hb) (by decide)).mono ?_
     rintro e w2 ⟨A1, c1, rfl, hO, hB⟩
     exact ⟨(.slice A1 (digs 4294967296 (val 18446744073709551616 p384x)).length c1), rfl, hB, fun Y hY => ⟨A1, c1, rfl, (hO.mono (Nat.le_trans (Ext.alloc w _).bsize hX.bsize)).below hY (Nat.le_refl _)⟩⟩
   refine Par.S 9 2 [(19, 0), (20, 1), (21, 2), (22, 3), (23, 4), (24, 5), (25, 6), (26, 7)] (fun f X hX hR K hK => ?_) ?_
   · simp only [yA, yB, yC, yD, yE]
     refine ⟨?_⟩
     go_simp
     exact hK.out _ (.slice (some ⟨X.heap.size, 0, none⟩) 6 6) _ (by simp only [yA, yB, yC, yD, yE]) (Ext.alloc _ _) trivial (fun Y hY => ⟨X.heap.size, rfl, ((RN.lits X p384y ⟨by decide, by decide⟩).mono (fun b hb => by rw [World.size_alloc]; exact hb.2)).up hY⟩)
   refine Par.c0 10 1 (fun f => #[f 8]) (F' := 19) (fun f X hX hR => ?_) ?_
   · obtain ⟨b8, (e8 : f 8 = _), h8⟩ := hR.out 8 rfl
     simp only [e8]
     refine (from_any _ (some ⟨b8, 0, none⟩) 6 p384y X h8 (fun _ hb => hb) (by decide)).mono ?_
     rintro e w2 ⟨A1, c1, rfl, hO, hB⟩
     exact ⟨(.slice A1 (digs 4294967296 (val 18446744073709551616 p384y)).length c1), rfl, hB, fun Y hY => ⟨A1, c1, rfl, (hO.mono (Nat.le_trans (Ext.alloc w _).bsize hX.bsize)).below hY (Nat.le_refl _)⟩⟩
   refine Par.S 11 0 [(19, 0), (20, 1), (21, 2), (22, 3), (23, 4), (24, 5), (25, 6), (26, 7), (27, 8), (28, 9)] (fun f X hX hR K hK => ?_) ?_
   · obtain ⟨A1, c1, (e1 : f 1 = _), o1⟩ := hR.out 1 rfl
     obtain ⟨A3, c3, (e3 : f 3 = _), o3⟩ := hR.out 3 rfl
     obtain ⟨A5, c5, (e5 : f 5 = _), o5⟩ := hR.out 5 rfl
     obtain ⟨A7, c7, (e7 : f 7 = _), o7⟩ := hR.out 7 rfl
     obtain ⟨A9, c9, (e9 : f 9 = _), o9⟩ := hR.out 9 rfl
     simp only [yA, yB, yC, yD, yE, e1, e3, e5, e7, e9]
     refine ⟨?_⟩
     go_simp
     exact hK.out _ (.agg #[f 1, f 3, f 5, f 7, f 9, .int .i64 48]) _ (by simp only [yA, yB, yC, yD, yE, e1, e3, e5, e7, e9]) (Ext.refl _) trivial (fun _ _ => rfl)
   refine Par.AllOps.fin ⟨fun f X hX hR hal hap => ?_⟩
   obtain ⟨b0, (e0 : f 0 = _), h0⟩ := hR 0 (by decide)
   obtain ⟨A1, c1, (e1 : f 1 = _), o1⟩ := hR 1 (by decide)
   obtain ⟨b2, (e2 : f 2 = _), h2⟩ := hR 2 (by decide)
   obtain ⟨A3, c3, (e3 : f 3 = _), o3⟩ := hR 3 (by decide)
   obtain ⟨b4, (e4 : f 4 = _), h4⟩ := hR 4 (by decide)
   obtain ⟨A5, c5, (e5 : f 5 = _), o5⟩ := hR 5 (by decide)
   obtain ⟨b6, (e6 : f 6 = _), h6⟩ := hR 6 (by decide)
   obtain ⟨A7, c7, (e7 : f 7 = _), o7⟩ := hR 7 (by decide)
   obtain ⟨b8, (e8 : f 8 = _), h8⟩ := hR 8 (by decide)
   obtain ⟨A9, c9, (e9 : f 9 = _), o9⟩ := hR 9 (by decide)
   have e10 : f 10 = .agg #[f 1, f 3, f 5, f 7, f 9, .int .i64 48] := hR 10 (by decide)
   simp only [yA, yB, yD, yE, e0, e1, e2, e3, e4, e5, e6, e7, e8, e9, e10]
   clear hR hal hap e0 e1 e2 e3 e4 e5 e6 e7 e8 e9 e10
   refine Par.Chain.next (fun K hK => ⟨Par.want (by kernel_rfl) (wp_storeV 31 (.tmp 2) (.tmp 29) rfl rfl rfl rfl (hX.at_ hz) infoRC rfl (rc_one _ _ _ _ _ _ _ _ _ _ _ _ _ _ _ _) (fun Y1 g1 g2 g3 => hK.out _ _ ?_))⟩)
   refine Par.Chain.done ?_
   go_wp2
   refine end_rc rfl rfl rfl g1 ⟨_, rfl, ⟨A1, A3, A5, A7, A9, c1, c3, c5, c7, c9, rfl, (o1.just g2 (hX.at_ hz) (by decide)).ru, (o3.just g2 (hX.at_ hz) (by decide)).ru, (o5.just g2 (hX.at_ hz) (by decide)).ru, (o7.just g2 (hX.at_ hz) (by decide)).ru, (o9.just g2 (hX.at_ hz) (by decide)).ru⟩, g2.ext ((Ext.alloc w _).trans hX) (Nat.le_refl _)⟩
theorem refOf_none {c : Int} (h1 : c ≠ 1) (h2 : c ≠ 2) (w : World) : Calls Try.prog 13 #[.int .i64 c] w fun e w' => ∃ v, e = .returned v ∧ RC w' c0 v ∧ Ext w w' := by
 have e1 : (c == 1) = false := by simpa using h1
 have e2 : (c == 2) = false := by simpa using h2
 have hn : ∀ X : World, RU X none 0 (digs 4294967296 0) := fun X => by rw [digs_zero]; exact RN.nil_ X _
 have hd : (digs 4294967296 0).length = 0 := by rw [digs_zero]; rfl
 have hc : ∀ X : World, RC X c0 (.agg #[.slice none 0 0, .slice none 0 0, .slice none 0 0, .slice none 0 0, .slice none 0 0, .int .i64 0]) := fun X => by
  refine ⟨none, none, none, none, none, 0, 0, 0, 0, 0, ?_, hn X, hn X, hn X, hn X, hn X⟩
  show _ = Value.agg #[.slice none (digs 4294967296 0).length 0, .slice none (digs 4294967296 0).length 0, .slice none (digs 4294967296 0).length 0, .slice none (digs 4294967296 0).length 0, .slice none (digs 4294967296 0).length 0, .int .i64 0]
  rw [hd]
 have Hc := Lib.hid hc
 clear hc hn hd
 go_enter Try.func13, Try.ntmps13
 go_wp2
 refine end_rc rfl rfl rfl (heap_alloc_new w _) ⟨_, rfl, Hc.out _, Ext.alloc _ _⟩
theorem mm_lt {M : Nat} (h : 0 < M) (a b : Nat) : mm M a b < M := Nat.mod_lt _ h
theorem am_lt {M : Nat} (h : 0 < M) (a b : Nat) : am M a b < M := Nat.mod_lt _ h
theorem sm_lt {M : Nat} (h : 0 < M) (a b : Nat) : sm M a b < M := Nat.mod_lt _ h
theorem Crv.Fine.len' {C : Crv} (h : C.Fine) {x : Nat} (hx : x < C.M) : (digs 4294967296 x).length ≤ 96 := digs_le_len (Nat.le_of_lt hx) h.len
section
variable {C : Crv} {v : Value} {A A' : Option Addr} {c c' x y : Nat}
theorem times_r (w : World) (hF : C.Fine) (hc : RC w C v) (h : RU w A c (digs 4294967296 x)) (h' : RU w A' c' (digs 4294967296 y)) (hx : x < C.M) (hy : y < C.M) :
 Calls Try.prog 52 #[v, .slice A (digs 4294967296 x).length c, .slice A' (digs 4294967296 y).length c'] w fun e w' => ∃ A1 c1, e = .returned (.slice A1 (digs 4294967296 (mm C.M x y)).length c1) ∧ RU w' A1 c1 (digs 4294967296 (mm C.M x y)) ∧ Ext w w' :=
 times_any A A' c c' x y w hc h h' (by have := hF.len' hx; omega) (by have := hF.len' hy; omega) (by have := hF.three; omega)
theorem minus_r (w : World) (hF : C.Fine) (hc : RC w C v) (h : RU w A c (digs 4294967296 x)) (h' : RU w A' c' (digs 4294967296 y)) (hx : x < C.M) (hy : y < C.M) :
 Calls Try.prog 54 #[v, .slice A (digs 4294967296 x).length c, .slice A' (digs 4294967296 y).length c'] w fun e w' => ∃ A1 c1, e = .returned (.slice A1 (digs 4294967296 (sm C.M x y)).length c1) ∧ RU w' A1 c1 (digs 4294967296 (sm C.M x y)) ∧ Ext w w' := by
 rw [show sm C.M x y = (x + C.M - y) % C.M by rw [sm, Nat.mod_eq_of_lt hy]]
 exact minus_any A A' c c' x y w hc h h' (by have := hF.len' hx; omega) (by have := hF.len; omega) (by omega) (by have := hF.three; omega)
theorem add_r (w : World) (hF : C.Fine) (h : RU w A c (digs 4294967296 x)) (h' : RU w A' c' (digs 4294967296 y)) (hx : x < C.M) (hy : y < C.M) :
 Calls Try.prog 23 #[.slice A (digs 4294967296 x).length c, .slice A' (digs 4294967296 y).length c'] w fun e w' => ∃ A1 c1, e = .returned (.slice A1 (digs 4294967296 (x + y)).length c1) ∧ RU w' A1 c1 (digs 4294967296 (x + y)) ∧ Ext w w' :=
 (refAdd_any _ _ A A' c c' x y w h h' (fun _ h => h) (fun _ h => h) (by have := hF.len' hx; omega) (by have := hF.len' hy; omega)).mono fun _ _ ⟨A1, c1, h1, h2, h3⟩ => ⟨A1, c1, h1, h2.ru, h3⟩
theorem mod_r (w : World) (hF : C.Fine) (h : RU w A c (digs 4294967296 x)) (h' : RU w A' c' (digs 4294967296 C.M)) (hx : x < 2 * C.M) :
 Calls Try.prog 53 #[.slice A (digs 4294967296 x).length c, .slice A' (digs 4294967296 C.M).length c'] w fun e w' => ∃ A1 c1, e = .returned (.slice A1 (digs 4294967296 (x % C.M)).length c1) ∧ RU w' A1 c1 (digs 4294967296 (x % C.M)) ∧ Ext w w' :=
 refMod_any A A' c c' x C.M w h h' (by
  have h1 : x < 4294967296 ^ 97 := by
   have h2 := hF.len
   have h3 : C.M < 4294967296 ^ 96 := by
    have := val_lt (digs_lt (B := 4294967296) (by omega) C.M)
    rw [val_digs (by omega)] at this
    exact Nat.lt_of_lt_of_le this (Nat.pow_le_pow_right (by omega) h2)
   rw [Nat.pow_succ]
   omega
  have := digs_length_of_lt (by omega) h1
  omega) (by have := hF.three; omega)
theorem of_r (x : Nat) (w : World) (hx : x < 18446744073709551616) :
 Calls Try.prog 39 #[.int .u64 (x : Int)] w fun e w' => ∃ A' c', e = .returned (.slice A' (digs 4294967296 x).length c') ∧ RU w' A' c' (digs 4294967296 x) ∧ Ext w w' :=
 (refOf_any x w hx).mono fun _ _ ⟨A1, c1, h1, h2, h3⟩ => ⟨A1, c1, h1, h2.ru, h3⟩
end
section
variable {Q : Exit → Act → World → Prop} {ol : List Oper} {m : Nat} {L AL : List Nat} {R : Nat → (Nat → Value) → World → Prop} {a : Act} {w : World} {F : List Oper → Prop} {k n : Nat} {o : Oper} {l : List Oper}
theorem rc (k' n' i j j' : Nat) {F' : FuncId} {pf : Value} {x y z z' : Nat} (h1 : ∀ f X, Ext w X → R j (Par.mask (fun i => L.getD i 0) j f) X → ∃ A c, f j = .slice A (digs 4294967296 x).length c ∧ RU X A c (digs 4294967296 x)) (h2 : ∀ f X, Ext w X → R j' (Par.mask (fun i => L.getD i 0) j' f) X → ∃ A c, f j' = .slice A (digs 4294967296 y).length c ∧ RU X A c (digs 4294967296 y))
 (hc : ∀ X, Ext w X → ∀ A c A' c', RU X A c (digs 4294967296 x) → RU X A' c' (digs 4294967296 y) → Calls Try.prog F' #[pf, .slice A (digs 4294967296 x).length c, .slice A' (digs 4294967296 y).length c'] X fun e w' => ∃ A1 c1, e = .returned (.slice A1 (digs 4294967296 z').length c1) ∧ RU w' A1 c1 (digs 4294967296 z') ∧ Ext X w') (hz : z' = z) (hs : Par.AllOps (Par.StepO Try.prog ol Q Ext m L AL R a w) F k' n' l)
 (hr : ∀ f X, R i (Par.mask (fun i => L.getD i 0) i f) X → f i = pf := by exact fun _ _ h => h)
 (hR : ∀ f X, (∃ A c, f k = .slice A (digs 4294967296 z).length c ∧ RU X A c (digs 4294967296 z)) → R k (Par.mask (fun i => L.getD i 0) k f) X := by exact fun _ _ h => h) (hk : k + 1 = k' := by rfl) (hn : n' + 1 = n := by rfl) (ha : AL.contains k = false := by kernel_rfl) (hi : (L.getD k 0).testBit i = true := by kernel_rfl) (hj : (L.getD k 0).testBit j = true := by kernel_rfl) (hj' : (L.getD k 0).testBit j' = true := by kernel_rfl)
 (hw : ∀ f, Region.wanted o (yielded ol.toArray (Par.put ol.toArray (Par.nd (fun i => L.getD i 0) k) f (List.range m) a).tmps) = true := by intro _; kernel_rfl)
 (hrun : ∀ f X, (execOp (Par.put ol.toArray (Par.nd (fun i => L.getD i 0) k) f (List.range m) a).eval o).run Try.prog X = .ok (.enter F' #[f i, f j, f j']) X := by intro _ _; kernel_rfl) : Par.AllOps (Par.StepO Try.prog ol Q Ext m L AL R a w) F k n (o :: l) :=
 Par.cx (args := fun f => #[f i, f j, f j']) hs hk hn ha (fun f _ _ => hw f) hrun fun f X hX h => by
  obtain ⟨A, c, e1, g1⟩ := h1 f X hX (h.out j hj)
  obtain ⟨A', c', e2, g2⟩ := h2 f X hX (h.out j' hj')
  rw [hr f X (h.out i hi), e1, e2]
  refine (hc X hX A c A' c' g1 g2).mono ?_
  rintro e w' ⟨A1, c1, rfl, hv, hE⟩
  subst hz
  exact ⟨_, rfl, hE, fun Y hY => hR _ _ ⟨A1, c1, by simp [Par.upd], RN.up hv hY⟩⟩
end
def JN (w : World) (C : Crv) (v : Value) (p : Nat × Nat × Nat) : Prop := ∃ (A1 A2 A3 : Option Addr) (c1 c2 c3 : Nat), v = .agg #[.slice A1 (digs 4294967296 p.1).length c1, .slice A2 (digs 4294967296 p.2.1).length c2, .slice A3 (digs 4294967296 p.2.2).length c3] ∧
 RU w A1 c1 (digs 4294967296 p.1) ∧ RU w A2 c2 (digs 4294967296 p.2.1) ∧ RU w A3 c3 (digs 4294967296 p.2.2) ∧ p.1 < C.M ∧ p.2.1 < C.M ∧ p.2.2 < C.M
theorem JN.ext {w X : World} {C : Crv} {v : Value} {p : Nat × Nat × Nat} (h : JN w C v p) (hE : Ext w X) : JN X C v p := by
 obtain ⟨A1, A2, A3, c1, c2, c3, e, h1, h2, h3, h4⟩ := h
 exact ⟨A1, A2, A3, c1, c2, c3, e, RN.up h1 hE, RN.up h2 hE, RN.up h3 hE, h4⟩
theorem infoRJ : (Try.prog.info? 95).map (·.size) = some 3 := by kernel_rfl
theorem end_rj {fn : Func} {R : Ending → World → Prop} {a : Act} {W : World} {p : Tmp} {g : Nat} {ty : TypeId} {fr : Nat × Nat} {x0 x1 x2 : Value} (hr : fn.results = #[.cell p 95]) (hp : a.tmps.getD p undef = .pointer (some ⟨g, 0, none⟩)) (hd : a.defers = [])
 (hg : W.heap[g]? = some (.cells #[x0, x1, x2] ty fr)) (hR : R (.returned (.agg #[x0, x1, x2])) W) : bodyPost Try.prog fn R .ret a W :=
 bodyPost_ret (results_cell_row hr a.tmps W g _ _ _ _ hp hg Try.underlying95 rfl infoRJ) hd hR
theorem sl_one (A1 A2 A3 : Option Addr) (n1 n2 n3 c1 c2 c3 : Nat) : (#[Value.slice A1 n1 c1, .slice A2 n2 c2, .slice A3 n3 c3] : Array Value).all (·.oneCell') = true := by simp [Value.oneCell']
theorem digs_len0 {x : Nat} : (digs 4294967296 x).length = 0 ↔ x = 0 := by
 constructor
 · intro h
   have := val_digs (B := 4294967296) (by omega) x
   rw [List.eq_nil_of_length_eq_zero h] at this
   simpa [val] using this.symm
 · rintro rfl
   rw [digs_zero]
   rfl
theorem zden_true {x : Nat} (h : x = 0) : decide ((digs 4294967296 x).length = 0) = true := decide_eq_true (digs_len0.2 h)
theorem zden_false {x : Nat} (h : ¬ x = 0) : decide ((digs 4294967296 x).length = 0) = false := decide_eq_false (fun e => h (digs_len0.1 e))
theorem zdec_true {x : Nat} (h : x = 0) : decide (((digs 4294967296 x).length : Int) = 0) = true := decide_eq_true (by have := digs_len0.2 h; omega)
theorem zdec_false {x : Nat} (h : ¬ x = 0) : decide (((digs 4294967296 x).length : Int) = 0) = false := decide_eq_false (fun e => h (digs_len0.1 (by omega)))
theorem zbeq_true {x : Nat} (h : x = 0) : ((((digs 4294967296 x).length : Nat) : Int) == 0) = true := by rw [digs_len0.2 h]; rfl
theorem zbeq_false {x : Nat} (h : ¬ x = 0) : ((((digs 4294967296 x).length : Nat) : Int) == 0) = false := by rw [beq_eq_false_iff_ne]; exact fun e => h (digs_len0.1 (by omega))
theorem three_w (w : World) (o1 o2 o3 : Obj) : (((w.alloc o1).alloc o2).alloc o3).heap[w.heap.size]? = some o1 ∧ (((w.alloc o1).alloc o2).alloc o3).heap[w.heap.size + 1]? = some o2 ∧ (((w.alloc o1).alloc o2).alloc o3).heap[w.heap.size + 2]? = some o3 ∧ (((w.alloc o1).alloc o2).alloc o3).heap.size = w.heap.size + 3 :=
 ⟨(Ext.alloc _ _).at_ (two_at2 w o1 o2).1, (Ext.alloc _ _).at_ (two_at2 w o1 o2).2.1, by have := heap_alloc_new ((w.alloc o1).alloc o2) o3; rwa [(two_at2 w o1 o2).2.2] at this, by simp⟩
def twP (M x y z : Nat) : Nat × Nat × Nat := if z = 0 then (0, 0, 0) else if y = 0 then (0, 0, 0) else let u1 := mm M z z; let u2 := am M x u1; let u3 := sm M x u1; let u4 := mm M u3 u2; let u5 := mm M 3 u4; let u6 := mm M y y; let u7 := mm M x u6; let u8 := mm M 4 u7; let u9 := mm M u5 u5; let u10 := sm M u9 u8; let u11 := sm M u10 u8; let u12 := sm M u8 u11; let u13 := mm M u5 u12; let u14 := mm M u6 u6; let u15 := mm M 8 u14; let u16 := sm M u13 u15; let u17 := mm M y z; let u18 := mm M 2 u17; (u11, u16, u18)
theorem twice_n {C : Crv} {ccs : Array Value} {v : Value} {p : Nat × Nat × Nat} (hF : C.Fine) (h8 : 8 < C.M) (w : World) (hc : RC w C (.agg ccs)) (hj : JN w C v p) :
 Calls Try.prog 56 #[.agg ccs, v] w fun e w' => ∃ o, e = .returned o ∧ JN w' C o (twP C.M p.1 p.2.1 p.2.2) ∧ Ext w w' := by
 obtain ⟨A1, A2, A3, k1, k2, k3, rfl, hj1, hj2, hj3, hx, hy, hz⟩ := hj
 obtain ⟨x, y, z⟩ := p
 simp only at hj1 hj2 hj3 hx hy hz ⊢
 obtain ⟨Ap, An, Ab, Ax, Ay, cp, cn, cb, cx, cy, hccs, hP, hN, hB, hX1, hY1⟩ := hc
 injection hccs with hccs
 have hRC0 : RC w C (.agg ccs) := ⟨Ap, An, Ab, Ax, Ay, cp, cn, cb, cx, cy, by rw [hccs], hP, hN, hB, hX1, hY1⟩
 obtain ⟨W0, hW0⟩ : ∃ W0, W0 = ((w.alloc (.cells ccs 31)).alloc (.cells #[.slice A1 (digs 4294967296 x).length k1, .slice A2 (digs 4294967296 y).length k2, .slice A3 (digs 4294967296 z).length k3] 95)).alloc (.cells #[.slice none 0 0, .slice none 0 0, .slice none 0 0] 95) := ⟨_, rfl⟩
 obtain ⟨q, hq⟩ : ∃ q, w.heap.size = q := ⟨_, rfl⟩
 have hE0 : Ext w W0 := by rw [hW0]; exact ((Ext.alloc _ _).trans (Ext.alloc _ _)).trans (Ext.alloc _ _)
 obtain ⟨hcb, hjb, hrb, hz0⟩ := three_w w (.cells ccs 31) (.cells #[.slice A1 (digs 4294967296 x).length k1, .slice A2 (digs 4294967296 y).length k2, .slice A3 (digs 4294967296 z).length k3] 95) (.cells #[.slice none 0 0, .slice none 0 0, .slice none 0 0] 95)
 rw [← hW0, hq] at hcb hjb hrb hz0
 have j0 := blk_cell hjb 0
 have j1 := blk_cell hjb 1
 have j2 := blk_cell hjb 2
 have cP := blk_cell hcb 0
 rw [hccs] at cP
 simp only [List.getElem?_toArray, List.getElem?_cons_zero, List.getElem?_cons_succ] at j0 j1 j2 cP
 have hRC := Lib.hid (hRC0.ext hE0)
 have Hccs := Lib.hid (show ccs.size = 6 by rw [hccs]; rfl)
 have HRP := Lib.hid (RN.up hP hE0)
 have HX1 := Lib.hid (RN.up hj1 hE0)
 have HX2 := Lib.hid (RN.up hj2 hE0)
 have HX3 := Lib.hid (RN.up hj3 hE0)
 have HF := Lib.hid hF
 have H8 := Lib.hid h8
 have hM0 : 0 < C.M := by omega
 have HE0 := Lib.hid hE0
 have Hz0 := Lib.hid hz0
 replace hx := Lib.hid hx
 replace hy := Lib.hid hy
 replace hz := Lib.hid hz
 clear hRC0 hccs hP hN hB hX1 hY1 hj1 hj2 hj3 hF h8 hE0 hz0 hjb
 by_cases hz0 : z = 0
 · rw [show twP C.M x y z = (0, 0, 0) by rw [twP, if_pos hz0]]
   replace hz0 := Lib.hid hz0
   go_enter Try.func56, Try.ntmps56
   go_upto_region 1 with fail
   rw [← hW0]
   have Hq := Lib.hid hq
   have HW0 := Lib.hid hW0
   have hE := Ext.refl W0
   clear hq hW0
   refine Par.region_txt 10 [0, 1, 3, 7, 15, 31, 63, 127, 255, 511] [] (fun j f X => match j with
    | 0 => f 0 = .pointer (some ⟨q + 1, 2, none⟩)
    | 1 => f 1 = .slice A3 (digs 4294967296 z).length k3
    | 2 => f 2 = .int .i64 ((digs 4294967296 z).length : Int)
    | 3 => f 3 = .bool true
    | 4 => f 4 = .bool true
    | 5 => f 5 = undef
    | 6 => f 6 = undef
    | 7 => f 7 = undef
    | 8 => f 8 = undef
    | 9 => f 9 = .bool true
    | _ => True) (by kernel_rfl) [(12, 0), (13, 1), (14, 2), (15, 3), (16, 4), (17, 5), (18, 6), (19, 7), (20, 8), (21, 9)] (by kernel_rfl) ?_
   refine Par.v0 1 9 ?_
   refine Par.ld1 2 8 0 (hE.cell j2) ?_
   refine Par.S 3 7 [(12, 0), (13, 1)] (fun f X hX hR K hK => ?_) ?_
   · have e1 : f 1 = _ := hR.out 1 rfl
     simp only [yA, yB, yC, yD, yE, e1]
     refine ⟨?_⟩
     go_simp
     exact Par.k hK (s := by simp only [yA, yB, yC, yD, yE, e1])
   refine Par.S 4 6 [(12, 0), (13, 1), (14, 2)] (fun f X hX hR K hK => ?_) ?_
   · have e2 : f 2 = _ := hR.out 2 rfl
     have hz1 : decide (((digs 4294967296 z).length : Int) = 0) = true := zdec_true hz0.out
     have hz2 : decide ((digs 4294967296 z).length = 0) = true := zden_true hz0.out
     have hz4 : ((((digs 4294967296 z).length : Nat) : Int) == 0) = true := zbeq_true hz0.out
     simp only [yA, yB, yC, yD, yE, e2]
     refine ⟨?_⟩
     go_simp
     exact Par.k hK (s := by simp only [yA, yB, yC, yD, yE, e2])
   refine Par.v1 5 5 3 ?_
   refine Par.sk 6 4 4 ?_
   refine Par.sk 7 3 4 ?_
   refine Par.sk 8 2 4 ?_
   refine Par.sk 9 1 4 ?_
   refine Par.v2 10 0 4 8 ?_
   refine Par.AllOps.fin ⟨fun f X hX hR hal hap => ?_⟩
   have e9 : f 9 = _ := hR 9 (by decide)
   simp only [yA, yB, yD, yE, e9]
   clear hR hal hap e9
   refine Par.Chain.done ?_
   replace hE := hE.trans hX
   clear hX  
   rename World => X1_k
   have hb1 := hE.at_ hrb
   obtain ⟨z0, z1, z2, f0, f1, f2⟩ := pt_facts hb1
   go_wp2
   exact end_rj rfl rfl rfl (pt_set hb1 _ _ _) ⟨_, rfl, ⟨none, none, none, 0, 0, 0, by rw [digs_zero]; rfl, RN.nil0 _, RN.nil0 _, RN.nil0 _, hM0, hM0, hM0⟩, pt_ext (HE0.out.trans hE) (by have := Hq.out; omega) _ _ _⟩
 by_cases hy0 : y = 0
 · rw [show twP C.M x y z = (0, 0, 0) by rw [twP, if_neg hz0, if_pos hy0]]
   replace hz0 := Lib.hid hz0
   replace hy0 := Lib.hid hy0
   go_enter Try.func56, Try.ntmps56
   go_upto_region 1 with fail
   rw [← hW0]
   have Hq := Lib.hid hq
   have HW0 := Lib.hid hW0
   have hE := Ext.refl W0
   clear hq hW0
   refine Par.region_txt 10 [0, 1, 3, 7, 15, 31, 63, 127, 255, 511] [] (fun j f X => match j with
    | 0 => f 0 = .pointer (some ⟨q + 1, 2, none⟩)
    | 1 => f 1 = .slice A3 (digs 4294967296 z).length k3
    | 2 => f 2 = .int .i64 ((digs 4294967296 z).length : Int)
    | 3 => f 3 = .bool false
    | 4 => f 4 = .bool false
    | 5 => f 5 = .pointer (some ⟨q + 1, 1, none⟩)
    | 6 => f 6 = .slice A2 (digs 4294967296 y).length k2
    | 7 => f 7 = .int .i64 ((digs 4294967296 y).length : Int)
    | 8 => f 8 = .bool true
    | 9 => f 9 = .bool true
    | _ => True) (by kernel_rfl) [(12, 0), (13, 1), (14, 2), (15, 3), (16, 4), (17, 5), (18, 6), (19, 7), (20, 8), (21, 9)] (by kernel_rfl) ?_
   refine Par.v0 1 9 ?_
   refine Par.ld1 2 8 0 (hE.cell j2) ?_
   refine Par.S 3 7 [(12, 0), (13, 1)] (fun f X hX hR K hK => ?_) ?_
   · have e1 : f 1 = _ := hR.out 1 rfl
     simp only [yA, yB, yC, yD, yE, e1]
     refine ⟨?_⟩
     go_simp
     exact Par.k hK (s := by simp only [yA, yB, yC, yD, yE, e1])
   refine Par.S 4 6 [(12, 0), (13, 1), (14, 2)] (fun f X hX hR K hK => ?_) ?_
   · have e2 : f 2 = _ := hR.out 2 rfl
     have hz1 : decide (((digs 4294967296 z).length : Int) = 0) = false := zdec_false hz0.out
     have hz2 : decide ((digs 4294967296 z).length = 0) = false := zden_false hz0.out
     have hz4 : ((((digs 4294967296 z).length : Nat) : Int) == 0) = false := zbeq_false hz0.out
     simp only [yA, yB, yC, yD, yE, e2]
     refine ⟨?_⟩
     go_simp
     exact Par.k hK (s := by simp only [yA, yB, yC, yD, yE, e2])
   refine Par.v1 5 5 3 ?_
   refine Par.v1 6 4 4 ?_
   refine Par.S 7 3 [(12, 0), (13, 1), (14, 2), (15, 3), (16, 4), (17, 5)] (fun f X hX hR K hK => ?_) ?_
   · have e4 : f 4 = _ := hR.out 4 rfl
     have e5 : f 5 = _ := hR.out 5 rfl
     have x0 := (hE.trans hX).cell j1
     simp only [yA, yB, yC, yD, yE, e4, e5]
     refine ⟨Par.want (by kernel_rfl) ?_⟩
     go_simp
     exact Par.k hK (s := by simp only [yA, yB, yC, yD, yE, e4, e5])
   refine Par.S 8 2 [(12, 0), (13, 1), (14, 2), (15, 3), (16, 4), (17, 5), (18, 6)] (fun f X hX hR K hK => ?_) ?_
   · have e4 : f 4 = _ := hR.out 4 rfl
     have e6 : f 6 = _ := hR.out 6 rfl
     simp only [yA, yB, yC, yD, yE, e4, e6]
     refine ⟨Par.want (by kernel_rfl) ?_⟩
     go_simp
     exact Par.k hK (s := by simp only [yA, yB, yC, yD, yE, e4, e6])
   refine Par.S 9 1 [(12, 0), (13, 1), (14, 2), (15, 3), (16, 4), (17, 5), (18, 6), (19, 7)] (fun f X hX hR K hK => ?_) ?_
   · have e4 : f 4 = _ := hR.out 4 rfl
     have e7 : f 7 = _ := hR.out 7 rfl
     have hz1 : decide (((digs 4294967296 y).length : Int) = 0) = true := zdec_true hy0.out
     have hz2 : decide ((digs 4294967296 y).length = 0) = true := zden_true hy0.out
     have hz4 : ((((digs 4294967296 y).length : Nat) : Int) == 0) = true := zbeq_true hy0.out
     simp only [yA, yB, yC, yD, yE, e4, e7]
     refine ⟨Par.want (by kernel_rfl) ?_⟩
     go_simp
     exact Par.k hK (s := by simp only [yA, yB, yC, yD, yE, e4, e7])
   refine Par.v2 10 0 4 8 ?_
   refine Par.AllOps.fin ⟨fun f X hX hR hal hap => ?_⟩
   have e9 : f 9 = _ := hR 9 (by decide)
   simp only [yA, yB, yD, yE, e9]
   clear hR hal hap e9
   refine Par.Chain.done ?_
   replace hE := hE.trans hX
   clear hX  
   rename World => X1_k
   have hb1 := hE.at_ hrb
   obtain ⟨z0, z1, z2, f0, f1, f2⟩ := pt_facts hb1
   go_wp2
   exact end_rj rfl rfl rfl (pt_set hb1 _ _ _) ⟨_, rfl, ⟨none, none, none, 0, 0, 0, by rw [digs_zero]; rfl, RN.nil0 _, RN.nil0 _, RN.nil0 _, hM0, hM0, hM0⟩, pt_ext (HE0.out.trans hE) (by have := Hq.out; omega) _ _ _⟩
 obtain ⟨u1, e_u1⟩ : ∃ v, mm C.M z z = v := ⟨_, rfl⟩
 have L_u1 := Lib.hid (show u1 < C.M by rw [← e_u1]; exact mm_lt hM0 _ _)
 have E_u1 := Lib.hid e_u1
 clear e_u1
 obtain ⟨u2, e_u2⟩ : ∃ v, am C.M x u1 = v := ⟨_, rfl⟩
 have L_u2 := Lib.hid (show u2 < C.M by rw [← e_u2]; exact am_lt hM0 _ _)
 have E_u2 := Lib.hid e_u2
 clear e_u2
 obtain ⟨u3, e_u3⟩ : ∃ v, sm C.M x u1 = v := ⟨_, rfl⟩
 have L_u3 := Lib.hid (show u3 < C.M by rw [← e_u3]; exact sm_lt hM0 _ _)
 have E_u3 := Lib.hid e_u3
 clear e_u3
 obtain ⟨u4, e_u4⟩ : ∃ v, mm C.M u3 u2 = v := ⟨_, rfl⟩
 have L_u4 := Lib.hid (show u4 < C.M by rw [← e_u4]; exact mm_lt hM0 _ _)
 have E_u4 := Lib.hid e_u4
 clear e_u4
 obtain ⟨u5, e_u5⟩ : ∃ v, mm C.M 3 u4 = v := ⟨_, rfl⟩
 have L_u5 := Lib.hid (show u5 < C.M by rw [← e_u5]; exact mm_lt hM0 _ _)
 have E_u5 := Lib.hid e_u5
 clear e_u5
 obtain ⟨u6, e_u6⟩ : ∃ v, mm C.M y y = v := ⟨_, rfl⟩
 have L_u6 := Lib.hid (show u6 < C.M by rw [← e_u6]; exact mm_lt hM0 _ _)
 have E_u6 := Lib.hid e_u6
 clear e_u6
 obtain ⟨u7, e_u7⟩ : ∃ v, mm C.M x u6 = v := ⟨_, rfl⟩
 have L_u7 := Lib.hid (show u7 < C.M by rw [← e_u7]; exact mm_lt hM0 _ _)
 have E_u7 := Lib.hid e_u7
 clear e_u7
 obtain ⟨u8, e_u8⟩ : ∃ v, mm C.M 4 u7 = v := ⟨_, rfl⟩
 have L_u8 := Lib.hid (show u8 < C.M by rw [← e_u8]; exact mm_lt hM0 _ _)
 have E_u8 := Lib.hid e_u8
 clear e_u8
 obtain ⟨u9, e_u9⟩ : ∃ v, mm C.M u5 u5 = v := ⟨_, rfl⟩
 have L_u9 := Lib.hid (show u9 < C.M by rw [← e_u9]; exact mm_lt hM0 _ _)
 have E_u9 := Lib.hid e_u9
 clear e_u9
 obtain ⟨u10, e_u10⟩ : ∃ v, sm C.M u9 u8 = v := ⟨_, rfl⟩
 have L_u10 := Lib.hid (show u10 < C.M by rw [← e_u10]; exact sm_lt hM0 _ _)
 have E_u10 := Lib.hid e_u10
 clear e_u10
 obtain ⟨u11, e_u11⟩ : ∃ v, sm C.M u10 u8 = v := ⟨_, rfl⟩
 have L_u11 := Lib.hid (show u11 < C.M by rw [← e_u11]; exact sm_lt hM0 _ _)
 have E_u11 := Lib.hid e_u11
 clear e_u11
 obtain ⟨u12, e_u12⟩ : ∃ v, sm C.M u8 u11 = v := ⟨_, rfl⟩
 have L_u12 := Lib.hid (show u12 < C.M by rw [← e_u12]; exact sm_lt hM0 _ _)
 have E_u12 := Lib.hid e_u12
 clear e_u12
 obtain ⟨u13, e_u13⟩ : ∃ v, mm C.M u5 u12 = v := ⟨_, rfl⟩
 have L_u13 := Lib.hid (show u13 < C.M by rw [← e_u13]; exact mm_lt hM0 _ _)
 have E_u13 := Lib.hid e_u13
 clear e_u13
 obtain ⟨u14, e_u14⟩ : ∃ v, mm C.M u6 u6 = v := ⟨_, rfl⟩
 have L_u14 := Lib.hid (show u14 < C.M by rw [← e_u14]; exact mm_lt hM0 _ _)
 have E_u14 := Lib.hid e_u14
 clear e_u14
 obtain ⟨u15, e_u15⟩ : ∃ v, mm C.M 8 u14 = v := ⟨_, rfl⟩
 have L_u15 := Lib.hid (show u15 < C.M by rw [← e_u15]; exact mm_lt hM0 _ _)
 have E_u15 := Lib.hid e_u15
 clear e_u15
 obtain ⟨u16, e_u16⟩ : ∃ v, sm C.M u13 u15 = v := ⟨_, rfl⟩
 have L_u16 := Lib.hid (show u16 < C.M by rw [← e_u16]; exact sm_lt hM0 _ _)
 have E_u16 := Lib.hid e_u16
 clear e_u16
 obtain ⟨u17, e_u17⟩ : ∃ v, mm C.M y z = v := ⟨_, rfl⟩
 have L_u17 := Lib.hid (show u17 < C.M by rw [← e_u17]; exact mm_lt hM0 _ _)
 have E_u17 := Lib.hid e_u17
 clear e_u17
 obtain ⟨u18, e_u18⟩ : ∃ v, mm C.M 2 u17 = v := ⟨_, rfl⟩
 have L_u18 := Lib.hid (show u18 < C.M by rw [← e_u18]; exact mm_lt hM0 _ _)
 have E_u18 := Lib.hid e_u18
 clear e_u18
 have hres : twP C.M x y z = (u11, u16, u18) := by rw [twP, if_neg hz0, if_neg hy0]; simp only [E_u1.out, E_u2.out, E_u3.out, E_u4.out, E_u5.out, E_u6.out, E_u7.out, E_u8.out, E_u9.out, E_u10.out, E_u11.out, E_u12.out, E_u13.out, E_u14.out, E_u15.out, E_u16.out, E_u17.out, E_u18.out]
 rw [hres]
 clear hres
 replace hz0 := Lib.hid hz0
 replace hy0 := Lib.hid hy0
 go_enter Try.func56, Try.ntmps56
 go_upto_region 1 with fail
 rw [← hW0]
 have Hq := Lib.hid hq
 have HW0 := Lib.hid hW0
 have hE := Ext.refl W0
 clear hq hW0
 refine Par.region_txt 10 [0, 1, 3, 7, 15, 31, 63, 127, 255, 511] [] (fun j f X => match j with
  | 0 => f 0 = .pointer (some ⟨q + 1, 2, none⟩)
  | 1 => f 1 = .slice A3 (digs 4294967296 z).length k3
  | 2 => f 2 = .int .i64 ((digs 4294967296 z).length : Int)
  | 3 => f 3 = .bool false
  | 4 => f 4 = .bool false
  | 5 => f 5 = .pointer (some ⟨q + 1, 1, none⟩)
  | 6 => f 6 = .slice A2 (digs 4294967296 y).length k2
  | 7 => f 7 = .int .i64 ((digs 4294967296 y).length : Int)
  | 8 => f 8 = .bool false
  | 9 => f 9 = .bool false
  | _ => True) (by kernel_rfl) [(12, 0), (13, 1), (14, 2), (15, 3), (16, 4), (17, 5), (18, 6), (19, 7), (20, 8), (21, 9)] (by kernel_rfl) ?_
 refine Par.v0 1 9 ?_
 refine Par.ld1 2 8 0 (hE.cell j2) ?_
 refine Par.S 3 7 [(12, 0), (13, 1)] (fun f X hX hR K hK => ?_) ?_
 · have e1 : f 1 = _ := hR.out 1 rfl
   simp only [yA, yB, yC, yD, yE, e1]
   refine ⟨?_⟩
   go_simp
   exact Par.k hK (s := by simp only [yA, yB, yC, yD, yE, e1])
 refine Par.S 4 6 [(12, 0), (13, 1), (14, 2)] (fun f X hX hR K hK => ?_) ?_
 · have e2 : f 2 = _ := hR.out 2 rfl
   have hz1 : decide (((digs 4294967296 z).length : Int) = 0) = false := zdec_false hz0.out
   have hz2 : decide ((digs 4294967296 z).length = 0) = false := zden_false hz0.out
   have hz4 : ((((digs 4294967296 z).length : Nat) : Int) == 0) = false := zbeq_false hz0.out
   simp only [yA, yB, yC, yD, yE, e2]
   refine ⟨?_⟩
   go_simp
   exact Par.k hK (s := by simp only [yA, yB, yC, yD, yE, e2])
 refine Par.v1 5 5 3 ?_
 refine Par.v1 6 4 4 ?_
 refine Par.S 7 3 [(12, 0), (13, 1), (14, 2), (15, 3), (16, 4), (17, 5)] (fun f X hX hR K hK => ?_) ?_
 · have e4 : f 4 = _ := hR.out 4 rfl
   have e5 : f 5 = _ := hR.out 5 rfl
   have x0 := (hE.trans hX).cell j1
   simp only [yA, yB, yC, yD, yE, e4, e5]
   refine ⟨Par.want (by kernel_rfl) ?_⟩
   go_simp
   exact Par.k hK (s := by simp only [yA, yB, yC, yD, yE, e4, e5])
 refine Par.S 8 2 [(12, 0), (13, 1), (14, 2), (15, 3), (16, 4), (17, 5), (18, 6)] (fun f X hX hR K hK => ?_) ?_
 · have e4 : f 4 = _ := hR.out 4 rfl
   have e6 : f 6 = _ := hR.out 6 rfl
   simp only [yA, yB, yC, yD, yE, e4, e6]
   refine ⟨Par.want (by kernel_rfl) ?_⟩
   go_simp
   exact Par.k hK (s := by simp only [yA, yB, yC, yD, yE, e4, e6])
 refine Par.S 9 1 [(12, 0), (13, 1), (14, 2), (15, 3), (16, 4), (17, 5), (18, 6), (19, 7)] (fun f X hX hR K hK => ?_) ?_
 · have e4 : f 4 = _ := hR.out 4 rfl
   have e7 : f 7 = _ := hR.out 7 rfl
   have hz1 : decide (((digs 4294967296 y).length : Int) = 0) = false := zdec_false hy0.out
   have hz2 : decide ((digs 4294967296 y).length = 0) = false := zden_false hy0.out
   have hz4 : ((((digs 4294967296 y).length : Nat) : Int) == 0) = false := zbeq_false hy0.out
   simp only [yA, yB, yC, yD, yE, e4, e7]
   refine ⟨Par.want (by kernel_rfl) ?_⟩
   go_simp
   exact Par.k hK (s := by simp only [yA, yB, yC, yD, yE, e4, e7])
 refine Par.v2 10 0 4 8 ?_
 refine Par.AllOps.fin ⟨fun f X hX hR hal hap => ?_⟩
 have e9 : f 9 = _ := hR 9 (by decide)
 simp only [yA, yB, yD, yE, e9]
 clear hR hal hap e9
 refine Par.Chain.done ?_
 replace hE := hE.trans hX
 clear hX  
 rename World => X1_k
 go_upto_region 3 with fail
 refine Par.region_txt 7 [0, 0, 2, 0, 8, 31, 63] [] (fun j f X => match j with
  | 0 => f 0 = .agg ccs
  | 1 => f 1 = .pointer (some ⟨q + 1, 2, none⟩)
  | 2 => f 2 = .slice A3 (digs 4294967296 z).length k3
  | 3 => f 3 = .pointer (some ⟨q + 1, 2, none⟩)
  | 4 => f 4 = .slice A3 (digs 4294967296 z).length k3
  | 5 => ∃ A1 c1, f 5 = .slice A1 (digs 4294967296 u1).length c1 ∧ RU X A1 c1 (digs 4294967296 u1)
  | 6 => ∃ A1 c1, f 6 = .slice A1 (digs 4294967296 u1).length c1 ∧ RU X A1 c1 (digs 4294967296 u1)
  | _ => True) (by kernel_rfl) [(23, 0), (24, 1), (25, 2), (26, 3), (27, 4), (28, 5), (5, 6)] (by kernel_rfl) ?_
 refine lV0 1 6 (hE.at_ hcb) (by rw [Hccs.out]; exact infoRC) ?_
 refine Par.v0 2 5 ?_
 refine Par.ld1 3 4 1 (hE.cell j2) ?_
 refine Par.v0 4 3 ?_
 refine Par.ld1 5 2 3 (hE.cell j2) ?_
 refine rc 6 1 0 2 4 (fun _ _ hX h => ⟨_, _, h, (RN.up HX3.out (hE.trans hX))⟩) (fun _ _ hX h => ⟨_, _, h, (RN.up HX3.out (hE.trans hX))⟩) (fun X hX _ _ _ _ h h' => times_r X HF.out (hRC.out.ext (hE.trans hX)) h h' hz.out hz.out) E_u1.out ?_
 refine Par.S 7 0 [(23, 0), (24, 1), (25, 2), (26, 3), (27, 4), (28, 5)] (fun f X hX hR K hK => ?_) ?_
 · obtain ⟨A3_5, c3_5, (e5 : f 5 = _), o3_5⟩ := hR.out 5 rfl
   simp only [yA, yB, yC, yD, yE, e5]
   refine ⟨?_⟩
   go_simp
   exact hK.out _ _ _ (by simp only [yA, yB, yC, yD, yE, e5]) (Ext.refl _) trivial (fun Y hY => ⟨A3_5, c3_5, rfl, RN.up o3_5 hY⟩)
 refine Par.AllOps.fin ⟨fun f X hX hR hal hap => ?_⟩
 obtain ⟨A3_5, c3_5, (e5 : f 5 = _), o3_5⟩ := hR 5 (by decide)
 obtain ⟨A3_6, c3_6, (e6 : f 6 = _), o3_6⟩ := hR 6 (by decide)
 simp only [yA, yB, yD, yE, e5, e6]
 clear hR hal hap e5 e6
 refine Par.Chain.done ?_
 replace hE := hE.trans hX
 have N5 := Lib.hid o3_6
 clear hX o3_5 o3_6 
 rename World => X3_k
 go_upto_region 4 with fail
 refine Par.region_ext (by kernel_rfl) 8 [0, 1, 0, 7, 0, 16, 63, 127] [] (fun j f X => match j with
  | 0 => f 0 = .pointer (some ⟨q + 1, 0, none⟩)
  | 1 => f 1 = .slice A1 (digs 4294967296 x).length k1
  | 2 => f 2 = .slice A3_6 (digs 4294967296 u1).length c3_6
  | 3 => ∃ A1 c1, f 3 = .slice A1 (digs 4294967296 (x + u1)).length c1 ∧ RU X A1 c1 (digs 4294967296 (x + u1))
  | 4 => f 4 = .pointer (some ⟨q, 0, none⟩)
  | 5 => f 5 = .slice Ap (digs 4294967296 C.M).length cp
  | 6 => ∃ A1 c1, f 6 = .slice A1 (digs 4294967296 u2).length c1 ∧ RU X A1 c1 (digs 4294967296 u2)
  | 7 => ∃ A1 c1, f 7 = .slice A1 (digs 4294967296 u2).length c1 ∧ RU X A1 c1 (digs 4294967296 u2)
  | _ => True) (by kernel_rfl) [(29, 0), (30, 1), (31, 2), (32, 3), (33, 4), (34, 5), (35, 6), (6, 7)] (by kernel_rfl) ?_
 refine Par.v0 1 7 ?_
 refine Par.ld1 2 6 0 (hE.cell j0) ?_
 refine Par.v0 3 5 ?_
 refine Par.c0 4 4 (fun f => #[f 1, f 2]) (F' := 23) (fun f X hX hR => ?_) ?_
 · have e1 : f 1 = _ := hR.out 1 rfl
   have e2 : f 2 = _ := hR.out 2 rfl
   simp only [e1, e2]
   refine (add_r X HF.out (RN.up HX1.out (hE.trans hX)) (RN.up N5.out hX) hx.out L_u1.out).mono ?_
   rintro e w2 ⟨A1, c1, rfl, hO, hB⟩
   exact ⟨_, rfl, hB, fun Y hY => ⟨A1, c1, rfl, RN.up hO hY⟩⟩
 refine Par.v0 5 3 ?_
 refine Par.ld1 6 2 4 (hE.cell cP) ?_
 refine Par.c0 7 1 (fun f => #[f 3, f 5]) (F' := 53) (fun f X hX hR => ?_) ?_
 · obtain ⟨A4_3, c4_3, (e3 : f 3 = _), o4_3⟩ := hR.out 3 rfl
   have e5 : f 5 = _ := hR.out 5 rfl
   simp only [e3, e5]
   refine (mod_r X HF.out o4_3 (RN.up HRP.out (hE.trans hX)) (show x + u1 < 2 * C.M by have := hx.out; have := L_u1.out; omega)).mono ?_
   rw [show (x + u1) % C.M = u2 from E_u2.out]
   rintro e w2 ⟨A1, c1, rfl, hO, hB⟩
   exact ⟨_, rfl, hB, fun Y hY => ⟨A1, c1, rfl, RN.up hO hY⟩⟩
 refine Par.S 8 0 [(29, 0), (30, 1), (31, 2), (32, 3), (33, 4), (34, 5), (35, 6)] (fun f X hX hR K hK => ?_) ?_
 · obtain ⟨A4_6, c4_6, (e6 : f 6 = _), o4_6⟩ := hR.out 6 rfl
   simp only [yA, yB, yC, yD, yE, e6]
   refine ⟨?_⟩
   go_simp
   exact hK.out _ _ _ (by simp only [yA, yB, yC, yD, yE, e6]) (Ext.refl _) trivial (fun Y hY => ⟨A4_6, c4_6, rfl, RN.up o4_6 hY⟩)
 refine Par.AllOps.fin ⟨fun f X hX hR hal hap => ?_⟩
 obtain ⟨A4_3, c4_3, (e3 : f 3 = _), o4_3⟩ := hR 3 (by decide)
 obtain ⟨A4_6, c4_6, (e6 : f 6 = _), o4_6⟩ := hR 6 (by decide)
 obtain ⟨A4_7, c4_7, (e7 : f 7 = _), o4_7⟩ := hR 7 (by decide)
 simp only [yA, yB, yD, yE, e3, e6, e7]
 clear hR hal hap e3 e6 e7
 refine Par.Chain.done ?_
 replace hE := hE.trans hX
 replace N5 := Lib.hid (RN.up N5.out hX)
 have N6 := Lib.hid o4_7
 clear hX o4_3 o4_6 o4_7
 rename World => X4_k
 go_upto_region 5 with fail
 refine Par.region_ext (by kernel_rfl) 12 [0, 0, 0, 0, 0, 16, 0, 122, 0, 510, 1023, 2047] [] (fun j f X => match j with
  | 0 => f 0 = .agg ccs
  | 1 => ∃ A1 c1, f 1 = .slice A1 (digs 4294967296 3).length c1 ∧ RU X A1 c1 (digs 4294967296 3)
  | 2 => f 2 = .agg ccs
  | 3 => f 3 = .agg ccs
  | 4 => f 4 = .pointer (some ⟨q + 1, 0, none⟩)
  | 5 => f 5 = .slice A1 (digs 4294967296 x).length k1
  | 6 => f 6 = .slice A3_6 (digs 4294967296 u1).length c3_6
  | 7 => ∃ A1 c1, f 7 = .slice A1 (digs 4294967296 u3).length c1 ∧ RU X A1 c1 (digs 4294967296 u3)
  | 8 => f 8 = .slice A4_7 (digs 4294967296 u2).length c4_7
  | 9 => ∃ A1 c1, f 9 = .slice A1 (digs 4294967296 u4).length c1 ∧ RU X A1 c1 (digs 4294967296 u4)
  | 10 => ∃ A1 c1, f 10 = .slice A1 (digs 4294967296 u5).length c1 ∧ RU X A1 c1 (digs 4294967296 u5)
  | 11 => ∃ A1 c1, f 11 = .slice A1 (digs 4294967296 u5).length c1 ∧ RU X A1 c1 (digs 4294967296 u5)
  | _ => True) (by kernel_rfl) [(36, 0), (37, 1), (38, 2), (39, 3), (40, 4), (41, 5), (42, 6), (43, 7), (44, 8), (45, 9), (46, 10), (7, 11)] (by kernel_rfl) ?_
 refine lV0 1 11 (hE.at_ hcb) (by rw [Hccs.out]; exact infoRC) ?_
 refine Par.c0 2 10 (fun _ => #[Value.int IntKind.u64 3]) (F' := 39) (fun f X hX hR => ?_) ?_
 · refine (of_r 3 X (by omega)).mono ?_
   rintro e w2 ⟨A1, c1, rfl, hO, hB⟩
   exact ⟨_, rfl, hB, fun Y hY => ⟨A1, c1, rfl, RN.up hO hY⟩⟩
 refine lV0 3 9 (hE.at_ hcb) (by rw [Hccs.out]; exact infoRC) ?_
 refine lV0 4 8 (hE.at_ hcb) (by rw [Hccs.out]; exact infoRC) ?_
 refine Par.v0 5 7 ?_
 refine Par.ld1 6 6 4 (hE.cell j0) ?_
 refine Par.v0 7 5 ?_
 refine rc 8 4 3 5 6 (fun _ _ hX h => ⟨_, _, h, (RN.up HX1.out (hE.trans hX))⟩) (fun _ _ hX h => ⟨_, _, h, (RN.up N5.out hX)⟩) (fun X hX _ _ _ _ h h' => minus_r X HF.out (hRC.out.ext (hE.trans hX)) h h' hx.out L_u1.out) E_u3.out ?_
 refine Par.v0 9 3 ?_
 refine rc 10 2 2 7 8 (fun _ _ _ h => h) (fun _ _ hX h => ⟨_, _, h, (RN.up N6.out hX)⟩) (fun X hX _ _ _ _ h h' => times_r X HF.out (hRC.out.ext (hE.trans hX)) h h' L_u3.out L_u2.out) E_u4.out ?_
 refine rc 11 1 0 1 9 (fun _ _ _ h => h) (fun _ _ _ h => h) (fun X hX _ _ _ _ h h' => times_r X HF.out (hRC.out.ext (hE.trans hX)) h h' (show 3 < C.M by have := H8.out; omega) L_u4.out) E_u5.out ?_
 refine Par.S 12 0 [(36, 0), (37, 1), (38, 2), (39, 3), (40, 4), (41, 5), (42, 6), (43, 7), (44, 8), (45, 9), (46, 10)] (fun f X hX hR K hK => ?_) ?_
 · obtain ⟨A5_10, c5_10, (e10 : f 10 = _), o5_10⟩ := hR.out 10 rfl
   simp only [yA, yB, yC, yD, yE, e10]
   refine ⟨?_⟩
   go_simp
   exact hK.out _ _ _ (by simp only [yA, yB, yC, yD, yE, e10]) (Ext.refl _) trivial (fun Y hY => ⟨A5_10, c5_10, rfl, RN.up o5_10 hY⟩)
 refine Par.AllOps.fin ⟨fun f X hX hR hal hap => ?_⟩
 obtain ⟨A5_1, c5_1, (e1 : f 1 = _), o5_1⟩ := hR 1 (by decide)
 obtain ⟨A5_7, c5_7, (e7 : f 7 = _), o5_7⟩ := hR 7 (by decide)
 obtain ⟨A5_9, c5_9, (e9 : f 9 = _), o5_9⟩ := hR 9 (by decide)
 obtain ⟨A5_10, c5_10, (e10 : f 10 = _), o5_10⟩ := hR 10 (by decide)
 obtain ⟨A5_11, c5_11, (e11 : f 11 = _), o5_11⟩ := hR 11 (by decide)
 simp only [yA, yB, yD, yE, e1, e7, e9, e10, e11]
 clear hR hal hap e1 e7 e9 e10 e11
 refine Par.Chain.done ?_
 replace hE := hE.trans hX
 replace N5 := Lib.hid (RN.up N5.out hX)
 replace N6 := Lib.hid (RN.up N6.out hX)
 have N7 := Lib.hid o5_11
 clear hX o5_1 o5_7 o5_9 o5_10 o5_11
 rename World => X5_k
 go_upto_region 6 with fail
 refine Par.region_txt 7 [0, 0, 2, 0, 8, 31, 63] [] (fun j f X => match j with
  | 0 => f 0 = .agg ccs
  | 1 => f 1 = .pointer (some ⟨q + 1, 1, none⟩)
  | 2 => f 2 = .slice A2 (digs 4294967296 y).length k2
  | 3 => f 3 = .pointer (some ⟨q + 1, 1, none⟩)
  | 4 => f 4 = .slice A2 (digs 4294967296 y).length k2
  | 5 => ∃ A1 c1, f 5 = .slice A1 (digs 4294967296 u6).length c1 ∧ RU X A1 c1 (digs 4294967296 u6)
  | 6 => ∃ A1 c1, f 6 = .slice A1 (digs 4294967296 u6).length c1 ∧ RU X A1 c1 (digs 4294967296 u6)
  | _ => True) (by kernel_rfl) [(47, 0), (48, 1), (49, 2), (50, 3), (51, 4), (52, 5), (8, 6)] (by kernel_rfl) ?_
 refine lV0 1 6 (hE.at_ hcb) (by rw [Hccs.out]; exact infoRC) ?_
 refine Par.v0 2 5 ?_
 refine Par.ld1 3 4 1 (hE.cell j1) ?_
 refine Par.v0 4 3 ?_
 refine Par.ld1 5 2 3 (hE.cell j1) ?_
 refine rc 6 1 0 2 4 (fun _ _ hX h => ⟨_, _, h, (RN.up HX2.out (hE.trans hX))⟩) (fun _ _ hX h => ⟨_, _, h, (RN.up HX2.out (hE.trans hX))⟩) (fun X hX _ _ _ _ h h' => times_r X HF.out (hRC.out.ext (hE.trans hX)) h h' hy.out hy.out) E_u6.out ?_
 refine Par.S 7 0 [(47, 0), (48, 1), (49, 2), (50, 3), (51, 4), (52, 5)] (fun f X hX hR K hK => ?_) ?_
 · obtain ⟨A6_5, c6_5, (e5 : f 5 = _), o6_5⟩ := hR.out 5 rfl
   simp only [yA, yB, yC, yD, yE, e5]
   refine ⟨?_⟩
   go_simp
   exact hK.out _ _ _ (by simp only [yA, yB, yC, yD, yE, e5]) (Ext.refl _) trivial (fun Y hY => ⟨A6_5, c6_5, rfl, RN.up o6_5 hY⟩)
 refine Par.AllOps.fin ⟨fun f X hX hR hal hap => ?_⟩
 obtain ⟨A6_5, c6_5, (e5 : f 5 = _), o6_5⟩ := hR 5 (by decide)
 obtain ⟨A6_6, c6_6, (e6 : f 6 = _), o6_6⟩ := hR 6 (by decide)
 simp only [yA, yB, yD, yE, e5, e6]
 clear hR hal hap e5 e6
 refine Par.Chain.done ?_
 replace hE := hE.trans hX
 replace N5 := Lib.hid (RN.up N5.out hX)
 replace N6 := Lib.hid (RN.up N6.out hX)
 replace N7 := Lib.hid (RN.up N7.out hX)
 have N8 := Lib.hid o6_6
 clear hX o6_5 o6_6
 rename World => X6_k
 go_upto_region 7 with fail
 refine Par.region_ext (by kernel_rfl) 9 [0, 0, 0, 0, 8, 0, 62, 127, 255] [] (fun j f X => match j with
  | 0 => f 0 = .agg ccs
  | 1 => ∃ A1 c1, f 1 = .slice A1 (digs 4294967296 4).length c1 ∧ RU X A1 c1 (digs 4294967296 4)
  | 2 => f 2 = .agg ccs
  | 3 => f 3 = .pointer (some ⟨q + 1, 0, none⟩)
  | 4 => f 4 = .slice A1 (digs 4294967296 x).length k1
  | 5 => f 5 = .slice A6_6 (digs 4294967296 u6).length c6_6
  | 6 => ∃ A1 c1, f 6 = .slice A1 (digs 4294967296 u7).length c1 ∧ RU X A1 c1 (digs 4294967296 u7)
  | 7 => ∃ A1 c1, f 7 = .slice A1 (digs 4294967296 u8).length c1 ∧ RU X A1 c1 (digs 4294967296 u8)
  | 8 => ∃ A1 c1, f 8 = .slice A1 (digs 4294967296 u8).length c1 ∧ RU X A1 c1 (digs 4294967296 u8)
  | _ => True) (by kernel_rfl) [(53, 0), (54, 1), (55, 2), (56, 3), (57, 4), (58, 5), (59, 6), (60, 7), (9, 8)] (by kernel_rfl) ?_
 refine lV0 1 8 (hE.at_ hcb) (by rw [Hccs.out]; exact infoRC) ?_
 refine Par.c0 2 7 (fun _ => #[Value.int IntKind.u64 4]) (F' := 39) (fun f X hX hR => ?_) ?_
 · refine (of_r 4 X (by omega)).mono ?_
   rintro e w2 ⟨A1, c1, rfl, hO, hB⟩
   exact ⟨_, rfl, hB, fun Y hY => ⟨A1, c1, rfl, RN.up hO hY⟩⟩
 refine lV0 3 6 (hE.at_ hcb) (by rw [Hccs.out]; exact infoRC) ?_
 refine Par.v0 4 5 ?_
 refine Par.ld1 5 4 3 (hE.cell j0) ?_
 refine Par.v0 6 3 ?_
 refine rc 7 2 2 4 5 (fun _ _ hX h => ⟨_, _, h, (RN.up HX1.out (hE.trans hX))⟩) (fun _ _ hX h => ⟨_, _, h, (RN.up N8.out hX)⟩) (fun X hX _ _ _ _ h h' => times_r X HF.out (hRC.out.ext (hE.trans hX)) h h' hx.out L_u6.out) E_u7.out ?_
 refine rc 8 1 0 1 6 (fun _ _ _ h => h) (fun _ _ _ h => h) (fun X hX _ _ _ _ h h' => times_r X HF.out (hRC.out.ext (hE.trans hX)) h h' (show 4 < C.M by have := H8.out; omega) L_u7.out) E_u8.out ?_
 refine Par.S 9 0 [(53, 0), (54, 1), (55, 2), (56, 3), (57, 4), (58, 5), (59, 6), (60, 7)] (fun f X hX hR K hK => ?_) ?_
 · obtain ⟨A7_7, c7_7, (e7 : f 7 = _), o7_7⟩ := hR.out 7 rfl
   simp only [yA, yB, yC, yD, yE, e7]
   refine ⟨?_⟩
   go_simp
   exact hK.out _ _ _ (by simp only [yA, yB, yC, yD, yE, e7]) (Ext.refl _) trivial (fun Y hY => ⟨A7_7, c7_7, rfl, RN.up o7_7 hY⟩)
 refine Par.AllOps.fin ⟨fun f X hX hR hal hap => ?_⟩
 obtain ⟨A7_1, c7_1, (e1 : f 1 = _), o7_1⟩ := hR 1 (by decide)
 obtain ⟨A7_6, c7_6, (e6 : f 6 = _), o7_6⟩ := hR 6 (by decide)
 obtain ⟨A7_7, c7_7, (e7 : f 7 = _), o7_7⟩ := hR 7 (by decide)
 obtain ⟨A7_8, c7_8, (e8 : f 8 = _), o7_8⟩ := hR 8 (by decide)
 simp only [yA, yB, yD, yE, e1, e6, e7, e8]
 clear hR hal hap e1 e6 e7 e8
 refine Par.Chain.done ?_
 replace hE := hE.trans hX
 replace N5 := Lib.hid (RN.up N5.out hX)
 replace N6 := Lib.hid (RN.up N6.out hX)
 replace N7 := Lib.hid (RN.up N7.out hX)
 replace N8 := Lib.hid (RN.up N8.out hX)
 have N9 := Lib.hid o7_8
 clear hX o7_1 o7_6 o7_7 o7_8
 rename World => X7_k
 go_upto_region 8 with fail
 refine Par.region_ext (by kernel_rfl) 11 [0, 0, 0, 0, 0, 28, 0, 126, 0, 511, 1023] [] (fun j f X => match j with
  | 0 => f 0 = .agg ccs
  | 1 => f 1 = .agg ccs
  | 2 => f 2 = .agg ccs
  | 3 => f 3 = .slice A5_11 (digs 4294967296 u5).length c5_11
  | 4 => f 4 = .slice A5_11 (digs 4294967296 u5).length c5_11
  | 5 => ∃ A1 c1, f 5 = .slice A1 (digs 4294967296 u9).length c1 ∧ RU X A1 c1 (digs 4294967296 u9)
  | 6 => f 6 = .slice A7_8 (digs 4294967296 u8).length c7_8
  | 7 => ∃ A1 c1, f 7 = .slice A1 (digs 4294967296 u10).length c1 ∧ RU X A1 c1 (digs 4294967296 u10)
  | 8 => f 8 = .slice A7_8 (digs 4294967296 u8).length c7_8
  | 9 => ∃ A1 c1, f 9 = .slice A1 (digs 4294967296 u11).length c1 ∧ RU X A1 c1 (digs 4294967296 u11)
  | 10 => ∃ A1 c1, f 10 = .slice A1 (digs 4294967296 u11).length c1 ∧ RU X A1 c1 (digs 4294967296 u11)
  | _ => True) (by kernel_rfl) [(61, 0), (62, 1), (63, 2), (64, 3), (65, 4), (66, 5), (67, 6), (68, 7), (69, 8), (70, 9), (10, 10)] (by kernel_rfl) ?_
 refine lV0 1 10 (hE.at_ hcb) (by rw [Hccs.out]; exact infoRC) ?_
 refine lV0 2 9 (hE.at_ hcb) (by rw [Hccs.out]; exact infoRC) ?_
 refine lV0 3 8 (hE.at_ hcb) (by rw [Hccs.out]; exact infoRC) ?_
 refine Par.v0 4 7 ?_
 refine Par.v0 5 6 ?_
 refine rc 6 5 2 3 4 (fun _ _ hX h => ⟨_, _, h, (RN.up N7.out hX)⟩) (fun _ _ hX h => ⟨_, _, h, (RN.up N7.out hX)⟩) (fun X hX _ _ _ _ h h' => times_r X HF.out (hRC.out.ext (hE.trans hX)) h h' L_u5.out L_u5.out) E_u9.out ?_
 refine Par.v0 7 4 ?_
 refine rc 8 3 1 5 6 (fun _ _ _ h => h) (fun _ _ hX h => ⟨_, _, h, (RN.up N9.out hX)⟩) (fun X hX _ _ _ _ h h' => minus_r X HF.out (hRC.out.ext (hE.trans hX)) h h' L_u9.out L_u8.out) E_u10.out ?_
 refine Par.v0 9 2 ?_
 refine rc 10 1 0 7 8 (fun _ _ _ h => h) (fun _ _ hX h => ⟨_, _, h, (RN.up N9.out hX)⟩) (fun X hX _ _ _ _ h h' => minus_r X HF.out (hRC.out.ext (hE.trans hX)) h h' L_u10.out L_u8.out) E_u11.out ?_
 refine Par.S 11 0 [(61, 0), (62, 1), (63, 2), (64, 3), (65, 4), (66, 5), (67, 6), (68, 7), (69, 8), (70, 9)] (fun f X hX hR K hK => ?_) ?_
 · obtain ⟨A8_9, c8_9, (e9 : f 9 = _), o8_9⟩ := hR.out 9 rfl
   simp only [yA, yB, yC, yD, yE, e9]
   refine ⟨?_⟩
   go_simp
   exact hK.out _ _ _ (by simp only [yA, yB, yC, yD, yE, e9]) (Ext.refl _) trivial (fun Y hY => ⟨A8_9, c8_9, rfl, RN.up o8_9 hY⟩)
 refine Par.AllOps.fin ⟨fun f X hX hR hal hap => ?_⟩
 obtain ⟨A8_5, c8_5, (e5 : f 5 = _), o8_5⟩ := hR 5 (by decide)
 obtain ⟨A8_7, c8_7, (e7 : f 7 = _), o8_7⟩ := hR 7 (by decide)
 obtain ⟨A8_9, c8_9, (e9 : f 9 = _), o8_9⟩ := hR 9 (by decide)
 obtain ⟨A8_10, c8_10, (e10 : f 10 = _), o8_10⟩ := hR 10 (by decide)
 simp only [yA, yB, yD, yE, e5, e7, e9, e10]
 clear hR hal hap e5 e7 e9 e10
 refine Par.Chain.done ?_
 replace hE := hE.trans hX
 replace N5 := Lib.hid (RN.up N5.out hX)
 replace N6 := Lib.hid (RN.up N6.out hX)
 replace N7 := Lib.hid (RN.up N7.out hX)
 replace N8 := Lib.hid (RN.up N8.out hX)
 replace N9 := Lib.hid (RN.up N9.out hX)
 have N10 := Lib.hid o8_10
 clear hX o8_5 o8_7 o8_9 o8_10
 rename World => X8_k
 go_upto_region 9 with fail
 refine Par.region_ext (by kernel_rfl) 17 [0, 0, 0, 0, 0, 0, 56, 126, 0, 254, 0, 0, 0, 7934, 16382, 32767, 65535] [] (fun j f X => match j with
  | 0 => f 0 = .agg ccs
  | 1 => f 1 = .agg ccs
  | 2 => f 2 = .slice A5_11 (digs 4294967296 u5).length c5_11
  | 3 => f 3 = .agg ccs
  | 4 => f 4 = .slice A7_8 (digs 4294967296 u8).length c7_8
  | 5 => f 5 = .slice A8_10 (digs 4294967296 u11).length c8_10
  | 6 => ∃ A1 c1, f 6 = .slice A1 (digs 4294967296 u12).length c1 ∧ RU X A1 c1 (digs 4294967296 u12)
  | 7 => ∃ A1 c1, f 7 = .slice A1 (digs 4294967296 u13).length c1 ∧ RU X A1 c1 (digs 4294967296 u13)
  | 8 => f 8 = .agg ccs
  | 9 => ∃ A1 c1, f 9 = .slice A1 (digs 4294967296 8).length c1 ∧ RU X A1 c1 (digs 4294967296 8)
  | 10 => f 10 = .agg ccs
  | 11 => f 11 = .slice A6_6 (digs 4294967296 u6).length c6_6
  | 12 => f 12 = .slice A6_6 (digs 4294967296 u6).length c6_6
  | 13 => ∃ A1 c1, f 13 = .slice A1 (digs 4294967296 u14).length c1 ∧ RU X A1 c1 (digs 4294967296 u14)
  | 14 => ∃ A1 c1, f 14 = .slice A1 (digs 4294967296 u15).length c1 ∧ RU X A1 c1 (digs 4294967296 u15)
  | 15 => ∃ A1 c1, f 15 = .slice A1 (digs 4294967296 u16).length c1 ∧ RU X A1 c1 (digs 4294967296 u16)
  | 16 => ∃ A1 c1, f 16 = .slice A1 (digs 4294967296 u16).length c1 ∧ RU X A1 c1 (digs 4294967296 u16)
  | _ => True) (by kernel_rfl) [(71, 0), (72, 1), (73, 2), (74, 3), (75, 4), (76, 5), (77, 6), (78, 7), (79, 8), (80, 9), (81, 10), (82, 11), (83, 12), (84, 13), (85, 14), (86, 15), (11, 16)] (by kernel_rfl) ?_
 refine lV0 1 16 (hE.at_ hcb) (by rw [Hccs.out]; exact infoRC) ?_
 refine lV0 2 15 (hE.at_ hcb) (by rw [Hccs.out]; exact infoRC) ?_
 refine Par.v0 3 14 ?_
 refine lV0 4 13 (hE.at_ hcb) (by rw [Hccs.out]; exact infoRC) ?_
 refine Par.v0 5 12 ?_
 refine Par.v0 6 11 ?_
 refine rc 7 10 3 4 5 (fun _ _ hX h => ⟨_, _, h, (RN.up N9.out hX)⟩) (fun _ _ hX h => ⟨_, _, h, (RN.up N10.out hX)⟩) (fun X hX _ _ _ _ h h' => minus_r X HF.out (hRC.out.ext (hE.trans hX)) h h' L_u8.out L_u11.out) E_u12.out ?_
 refine rc 8 9 1 2 6 (fun _ _ hX h => ⟨_, _, h, (RN.up N7.out hX)⟩) (fun _ _ _ h => h) (fun X hX _ _ _ _ h h' => times_r X HF.out (hRC.out.ext (hE.trans hX)) h h' L_u5.out L_u12.out) E_u13.out ?_
 refine lV0 9 8 (hE.at_ hcb) (by rw [Hccs.out]; exact infoRC) ?_
 refine Par.c0 10 7 (fun _ => #[Value.int IntKind.u64 8]) (F' := 39) (fun f X hX hR => ?_) ?_
 · refine (of_r 8 X (by omega)).mono ?_
   rintro e w2 ⟨A1, c1, rfl, hO, hB⟩
   exact ⟨_, rfl, hB, fun Y hY => ⟨A1, c1, rfl, RN.up hO hY⟩⟩
 refine lV0 11 6 (hE.at_ hcb) (by rw [Hccs.out]; exact infoRC) ?_
 refine Par.v0 12 5 ?_
 refine Par.v0 13 4 ?_
 refine rc 14 3 10 11 12 (fun _ _ hX h => ⟨_, _, h, (RN.up N8.out hX)⟩) (fun _ _ hX h => ⟨_, _, h, (RN.up N8.out hX)⟩) (fun X hX _ _ _ _ h h' => times_r X HF.out (hRC.out.ext (hE.trans hX)) h h' L_u6.out L_u6.out) E_u14.out ?_
 refine rc 15 2 8 9 13 (fun _ _ _ h => h) (fun _ _ _ h => h) (fun X hX _ _ _ _ h h' => times_r X HF.out (hRC.out.ext (hE.trans hX)) h h' (show 8 < C.M by have := H8.out; omega) L_u14.out) E_u15.out ?_
 refine rc 16 1 0 7 14 (fun _ _ _ h => h) (fun _ _ _ h => h) (fun X hX _ _ _ _ h h' => minus_r X HF.out (hRC.out.ext (hE.trans hX)) h h' L_u13.out L_u15.out) E_u16.out ?_
 refine Par.S 17 0 [(71, 0), (72, 1), (73, 2), (74, 3), (75, 4), (76, 5), (77, 6), (78, 7), (79, 8), (80, 9), (81, 10), (82, 11), (83, 12), (84, 13), (85, 14), (86, 15)] (fun f X hX hR K hK => ?_) ?_
 · obtain ⟨A9_15, c9_15, (e15 : f 15 = _), o9_15⟩ := hR.out 15 rfl
   simp only [yA, yB, yC, yD, yE, e15]
   refine ⟨?_⟩
   go_simp
   exact hK.out _ _ _ (by simp only [yA, yB, yC, yD, yE, e15]) (Ext.refl _) trivial (fun Y hY => ⟨A9_15, c9_15, rfl, RN.up o9_15 hY⟩)
 refine Par.AllOps.fin ⟨fun f X hX hR hal hap => ?_⟩
 obtain ⟨A9_6, c9_6, (e6 : f 6 = _), o9_6⟩ := hR 6 (by decide)
 obtain ⟨A9_7, c9_7, (e7 : f 7 = _), o9_7⟩ := hR 7 (by decide)
 obtain ⟨A9_9, c9_9, (e9 : f 9 = _), o9_9⟩ := hR 9 (by decide)
 obtain ⟨A9_13, c9_13, (e13 : f 13 = _), o9_13⟩ := hR 13 (by decide)
 obtain ⟨A9_14, c9_14, (e14 : f 14 = _), o9_14⟩ := hR 14 (by decide)
 obtain ⟨A9_15, c9_15, (e15 : f 15 = _), o9_15⟩ := hR 15 (by decide)
 obtain ⟨A9_16, c9_16, (e16 : f 16 = _), o9_16⟩ := hR 16 (by decide)
 simp only [yA, yB, yD, yE, e6, e7, e9, e13, e14, e15, e16]
 clear hR hal hap e6 e7 e9 e13 e14 e15 e16
 refine Par.Chain.done ?_
 replace hE := hE.trans hX
 replace N5 := Lib.hid (RN.up N5.out hX)
 replace N6 := Lib.hid (RN.up N6.out hX)
 replace N7 := Lib.hid (RN.up N7.out hX)
 replace N8 := Lib.hid (RN.up N8.out hX)
 replace N9 := Lib.hid (RN.up N9.out hX)
 replace N10 := Lib.hid (RN.up N10.out hX)
 have N11 := Lib.hid o9_16
 clear hX o9_6 o9_7 o9_9 o9_13 o9_14 o9_15 o9_16
 rename World => X9_k
 have hb1 := hE.at_ hrb
 go_upto_region 10 with fail
 refine Par.region_ext (by kernel_rfl) 12 [0, 0, 0, 0, 0, 0, 32, 0, 128, 504, 1020, 2047, 4095] [] (fun j f X => match j with
  | 0 => f 0 = .slice A8_10 (digs 4294967296 u11).length c8_10
  | 1 => f 1 = .slice A9_16 (digs 4294967296 u16).length c9_16
  | 2 => f 2 = .agg ccs
  | 3 => ∃ A1 c1, f 3 = .slice A1 (digs 4294967296 2).length c1 ∧ RU X A1 c1 (digs 4294967296 2)
  | 4 => f 4 = .agg ccs
  | 5 => f 5 = .pointer (some ⟨q + 1, 1, none⟩)
  | 6 => f 6 = .slice A2 (digs 4294967296 y).length k2
  | 7 => f 7 = .pointer (some ⟨q + 1, 2, none⟩)
  | 8 => f 8 = .slice A3 (digs 4294967296 z).length k3
  | 9 => ∃ A1 c1, f 9 = .slice A1 (digs 4294967296 u17).length c1 ∧ RU X A1 c1 (digs 4294967296 u17)
  | 10 => ∃ A1 c1, f 10 = .slice A1 (digs 4294967296 u18).length c1 ∧ RU X A1 c1 (digs 4294967296 u18)
  | 11 => ∃ A c, f 11 = .agg #[.slice A8_10 (digs 4294967296 u11).length c8_10, .slice A9_16 (digs 4294967296 u16).length c9_16, .slice A (digs 4294967296 u18).length c] ∧ RU X A c (digs 4294967296 u18)
  | _ => True) (by kernel_rfl) [(87, 0), (88, 1), (89, 2), (90, 3), (91, 4), (92, 5), (93, 6), (94, 7), (95, 8), (96, 9), (97, 10), (98, 11)] (by kernel_rfl) ?_
 refine Par.v0 1 11 ?_
 refine Par.v0 2 10 ?_
 refine lV0 3 9 (hE.at_ hcb) (by rw [Hccs.out]; exact infoRC) ?_
 refine Par.c0 4 8 (fun _ => #[Value.int IntKind.u64 2]) (F' := 39) (fun f X hX hR => ?_) ?_
 · refine (of_r 2 X (by omega)).mono ?_
   rintro e w2 ⟨A1, c1, rfl, hO, hB⟩
   exact ⟨_, rfl, hB, fun Y hY => ⟨A1, c1, rfl, RN.up hO hY⟩⟩
 refine lV0 5 7 (hE.at_ hcb) (by rw [Hccs.out]; exact infoRC) ?_
 refine Par.v0 6 6 ?_
 refine Par.ld1 7 5 5 (hE.cell j1) ?_
 refine Par.v0 8 4 ?_
 refine Par.ld1 9 3 7 (hE.cell j2) ?_
 refine rc 10 2 4 6 8 (fun _ _ hX h => ⟨_, _, h, (RN.up HX2.out (hE.trans hX))⟩) (fun _ _ hX h => ⟨_, _, h, (RN.up HX3.out (hE.trans hX))⟩) (fun X hX _ _ _ _ h h' => times_r X HF.out (hRC.out.ext (hE.trans hX)) h h' hy.out hz.out) E_u17.out ?_
 refine rc 11 1 2 3 9 (fun _ _ _ h => h) (fun _ _ _ h => h) (fun X hX _ _ _ _ h h' => times_r X HF.out (hRC.out.ext (hE.trans hX)) h h' (show 2 < C.M by have := H8.out; omega) L_u17.out) E_u18.out ?_
 refine Par.S 12 0 [(87, 0), (88, 1), (89, 2), (90, 3), (91, 4), (92, 5), (93, 6), (94, 7), (95, 8), (96, 9), (97, 10)] (fun f X hX hR K hK => ?_) ?_
 · have e0 : f 0 = _ := hR.out 0 rfl
   have e1 : f 1 = _ := hR.out 1 rfl
   obtain ⟨A10_10, c10_10, (e10 : f 10 = _), o10_10⟩ := hR.out 10 rfl
   simp only [yA, yB, yC, yD, yE, e0, e1, e10]
   refine ⟨?_⟩
   go_simp
   exact hK.out _ _ _ (by simp only [yA, yB, yC, yD, yE, e0, e1, e10]) (Ext.refl _) trivial (fun Y hY => ⟨_, _, rfl, RN.up o10_10 hY⟩)
 refine Par.AllOps.fin ⟨fun f X hX hR hal hap => ?_⟩
 obtain ⟨A10_3, c10_3, (e3 : f 3 = _), o10_3⟩ := hR 3 (by decide)
 obtain ⟨A10_9, c10_9, (e9 : f 9 = _), o10_9⟩ := hR 9 (by decide)
 obtain ⟨A10_10, c10_10, (e10 : f 10 = _), o10_10⟩ := hR 10 (by decide)
 obtain ⟨Az, cz, (e11 : f 11 = _), oz⟩ := hR 11 (by decide)
 simp only [yA, yB, yD, yE, e3, e9, e10, e11]
 clear hR hal hap e3 e9 e10 e11
 refine Par.Chain.next (fun K hK => ⟨Par.want (by kernel_rfl) (wp_storeV (cs' := #[.slice A8_10 (digs 4294967296 u11).length c8_10, .slice A9_16 (digs 4294967296 u16).length c9_16, .slice Az (digs 4294967296 u18).length cz]) (t := 95) 95 (.tmp 4) (.tmp 98) rfl rfl rfl rfl (hX.at_ hb1) infoRJ rfl (sl_one _ _ _ _ _ _ _ _ _) (fun Y hY1 hY2 hY3 => hK.out _ _ ?_))⟩)
 refine Par.Chain.done ?_
 go_wp2
 exact end_rj rfl rfl rfl hY1 ⟨_, rfl, ⟨_, _, _, _, _, _, rfl, (RN.up N10.out hX).offJ hY2 (hX.at_ hb1) (by kernel_rfl), (RN.up N11.out hX).offJ hY2 (hX.at_ hb1) (by kernel_rfl), oz.offJ hY2 (hX.at_ hb1) (by kernel_rfl), L_u11.out, L_u16.out, L_u18.out⟩, hY2.ext (HE0.out.trans (hE.trans hX)) (by have := Hq.out; omega)⟩
end Go.Proofs.Ytldhmjfjbalakaa
