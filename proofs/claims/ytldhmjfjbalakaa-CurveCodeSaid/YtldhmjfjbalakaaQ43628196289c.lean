/- The reference's On. The reference's curves: Of. The reference's Decode. The reference's numbers modulo a curve's prime. -/
import Derived.Test.YtldhmjfjbalakaaQaa8acc848c41
import Derived.Deep.DeepCutAuto
namespace Go.Proofs.Ytldhmjfjbalakaa
open Go.RowKit

theorem digs_mod_len {x M k : Nat} (hM : 0 < M) (hl : (digs 4294967296 M).length ≤ k) : (digs 4294967296 (x % M)).length ≤ k :=
 digs_length_of_lt (by omega) (Nat.lt_of_lt_of_le (Nat.lt_trans (Nat.mod_lt x hM) (lt_pow_digs (B := 4294967296) (by omega) M)) (Nat.pow_le_pow_right (by omega) hl))
theorem digs_le_len {x M k : Nat} (hM : x ≤ M) (hl : (digs 4294967296 M).length ≤ k) : (digs 4294967296 x).length ≤ k :=
 digs_length_of_lt (by omega) (Nat.lt_of_lt_of_le (Nat.lt_of_le_of_lt hM (lt_pow_digs (B := 4294967296) (by omega) M)) (Nat.pow_le_pow_right (by omega) hl))
theorem Crv.Fine.len {C : Crv} (h : C.Fine) : (digs 4294967296 C.M).length ≤ 96 := by
 have h1 := h.room
 have h2 : (256 : Nat) ^ C.size ≤ 256 ^ 48 := Nat.pow_le_pow_right (by omega) h.small
 have h3 : (256 : Nat) ^ 48 ≤ 4294967296 ^ 96 := by decide +kernel
 exact digs_length_of_lt (by omega) (Nat.lt_of_lt_of_le h1 (Nat.le_trans h2 h3))

theorem cmpV_eq0 (a b : Nat) : (cmpV a b == 0) = decide (a = b) := by
 unfold cmpV
 split
 · rw [decide_eq_false (by omega)]; rfl
 · split
   · rw [decide_eq_true (by omega)]; rfl
   · rw [decide_eq_false (by omega)]; rfl

set_option maxRecDepth 100000 in
set_option maxHeartbeats 8000000 in
theorem refOn_any {C : Crv} {v : Value} (hF : C.Fine) (A A' : Option Addr) (c c' x y : Nat) (inf : Bool) (w : World) (hc : RC w C v) (h : RU w A c (digs 4294967296 x)) (h' : RU w A' c' (digs 4294967296 y)) :
 Calls Try.prog 16 #[v, .agg #[.bool inf, .slice A (digs 4294967296 x).length c, .slice A' (digs 4294967296 y).length c']] w fun e w' => e = .returned (.bool (inf || onB C.M C.bb x y)) ∧ Ext w w' := by
 have hcv := hc
 obtain ⟨Ap, An, Ab, Ax, Ay, cp, cn, cb, cx, cy, rfl, h1, h2, h3, h4, h5⟩ := hc
 obtain ⟨s, hs⟩ : ∃ s, C.size = s := ⟨_, rfl⟩
 have s1 : 32 ≤ s := by rw [← hs]; exact hF.pos
 have hs0 : ((s : Int) == 0) = false := by simp; omega
 obtain ⟨r, hr⟩ : ∃ r, (inf || onB C.M C.bb x y) = r := ⟨_, rfl⟩
 rw [hr, hs]
 rw [hs] at hcv
 have Hr := Lib.hid hr
 have HF := Lib.hid hF
 have L := Lib.hid hF.len
 have Hcv := Lib.hid hcv
 have hM0 : 0 < C.M := by have := hF.three; omega
 have HM0 := Lib.hid hM0
 clear hr hF hs hcv
 obtain ⟨q, hq⟩ : ∃ q, w.heap.size = q := ⟨_, rfl⟩
 obtain ⟨W0, hW0⟩ : ∃ W0, W0 = (w.alloc (.cells #[.slice Ap (digs 4294967296 C.M).length cp, .slice An (digs 4294967296 (val 18446744073709551616 C.nl)).length cn, .slice Ab (digs 4294967296 C.bb).length cb, .slice Ax (digs 4294967296 (val 18446744073709551616 C.xl)).length cx, .slice Ay (digs 4294967296 (val 18446744073709551616 C.yl)).length cy, .int .i64 (s : Int)] 31)).alloc (.cells #[.bool inf, .slice A (digs 4294967296 x).length c, .slice A' (digs 4294967296 y).length c'] 34) := ⟨_, rfl⟩
 have hE0 : Ext w W0 := by rw [hW0]; exact (Ext.alloc _ _).trans (Ext.alloc _ _)
 have hcb : W0.heap[q]? = some (.cells #[.slice Ap (digs 4294967296 C.M).length cp, .slice An (digs 4294967296 (val 18446744073709551616 C.nl)).length cn, .slice Ab (digs 4294967296 C.bb).length cb, .slice Ax (digs 4294967296 (val 18446744073709551616 C.xl)).length cx, .slice Ay (digs 4294967296 (val 18446744073709551616 C.yl)).length cy, .int .i64 (s : Int)] 31 (0, 0)) := by rw [hW0, ← hq]; exact (Ext.alloc _ _).at_ (heap_alloc_new w _)
 have hpb : W0.heap[q + 1]? = some (.cells #[.bool inf, .slice A (digs 4294967296 x).length c, .slice A' (digs 4294967296 y).length c'] 34 (0, 0)) := by rw [hW0, ← hq]; have := heap_alloc_new (w.alloc (.cells #[.slice Ap (digs 4294967296 C.M).length cp, .slice An (digs 4294967296 (val 18446744073709551616 C.nl)).length cn, .slice Ab (digs 4294967296 C.bb).length cb, .slice Ax (digs 4294967296 (val 18446744073709551616 C.xl)).length cx, .slice Ay (digs 4294967296 (val 18446744073709551616 C.yl)).length cy, .int .i64 (s : Int)] 31)) (.cells #[.bool inf, .slice A (digs 4294967296 x).length c, .slice A' (digs 4294967296 y).length c'] 34); rwa [World.size_alloc] at this
 have b0 : W0.cell? ⟨q, 0, none⟩ = some (.slice Ap (digs 4294967296 C.M).length cp) := blk_cell hcb 0
 have b2 : W0.cell? ⟨q, 2, none⟩ = some (.slice Ab (digs 4294967296 C.bb).length cb) := blk_cell hcb 2
 have p1 : W0.cell? ⟨q + 1, 1, none⟩ = some (.slice A (digs 4294967296 x).length c) := blk_cell hpb 1
 have p2 : W0.cell? ⟨q + 1, 2, none⟩ = some (.slice A' (digs 4294967296 y).length c') := blk_cell hpb 2
 have HE0 := Lib.hid hE0
 have HW0 := Lib.hid hW0
 clear hE0
 cases inf
 case true =>
  obtain rfl : r = true := by rw [← Hr.out]; rfl
  clear hW0 hq
  have hW0 := HW0.out
  go_enter Try.func16, Try.ntmps16
  go_wp2
  go_ret
  exact ⟨rfl, by have := HE0.out; rw [hW0] at this; exact this⟩
 case false =>
  rw [Bool.false_or] at Hr
  have arm1 := Lib.hid (fun X (hX : Ext W0 X) => refCmp_any _ _ A Ap c cp x C.M X (h.up (HE0.out.trans hX)) (h1.up (HE0.out.trans hX)))
  have arm2 := Lib.hid (fun X (hX : Ext W0 X) => refCmp_any _ _ A' Ap c' cp y C.M X (h'.up (HE0.out.trans hX)) (h1.up (HE0.out.trans hX)))
  by_cases hxM : x < C.M
  · have tx := Lib.hid (cmpV_lt hxM)
    by_cases hyM : y < C.M
    · have ty := Lib.hid (cmpV_lt hyM)
      obtain ⟨cvv, hcvv⟩ : ∃ cvv, cvv = Value.agg #[.slice Ap (digs 4294967296 C.M).length cp, .slice An (digs 4294967296 (val 18446744073709551616 C.nl)).length cn, .slice Ab (digs 4294967296 C.bb).length cb, .slice Ax (digs 4294967296 (val 18446744073709551616 C.xl)).length cx, .slice Ay (digs 4294967296 (val 18446744073709551616 C.yl)).length cy, .int .i64 (s : Int)] := ⟨_, rfl⟩
      rw [← hcvv] at Hcv
      have HV := Lib.hid hcvv
      obtain ⟨m2, hm2⟩ : ∃ m, x * x % C.M = m := ⟨_, rfl⟩
      obtain ⟨m3, hm3⟩ : ∃ m, m2 * x % C.M = m := ⟨_, rfl⟩
      obtain ⟨t3, ht3⟩ : ∃ m, 3 * x % C.M = m := ⟨_, rfl⟩
      obtain ⟨mi, hmi⟩ : ∃ m, (m3 + C.M - t3) % C.M = m := ⟨_, rfl⟩
      obtain ⟨rt, hrt⟩ : ∃ m, (mi + C.bb) % C.M = m := ⟨_, rfl⟩
      obtain ⟨yy, hyy⟩ : ∃ m, y * y % C.M = m := ⟨_, rfl⟩
      have K2 := Lib.hid (hm2 ▸ digs_mod_len (x := x * x) HM0.out L.out)
      have K3 := Lib.hid (hm3 ▸ digs_mod_len (x := m2 * x) HM0.out L.out)
      have Kt := Lib.hid (ht3 ▸ digs_mod_len (x := 3 * x) HM0.out L.out)
      have Ki := Lib.hid (hmi ▸ digs_mod_len (x := m3 + C.M - t3) HM0.out L.out)
      have Ky := Lib.hid (hyy ▸ digs_mod_len (x := y * y) HM0.out L.out)
      have Kx := Lib.hid (digs_le_len (Nat.le_of_lt hxM) L.out)
      have KY := Lib.hid (digs_le_len (Nat.le_of_lt hyM) L.out)
      have K0 := Lib.hid (digs_le_len (Nat.le_of_lt HF.out.three) L.out)
      have Kb := Lib.hid (digs_le_len (Nat.le_of_lt HF.out.bb) L.out)
      have Ks := Lib.hid (show (digs 4294967296 (mi + C.bb)).length ≤ 97 by
       have a1 := Nat.lt_of_lt_of_le (lt_pow_digs (B := 4294967296) (by omega) C.M) (Nat.pow_le_pow_right (by omega) L.out)
       have a2 := Nat.mod_lt (m3 + C.M - t3) HM0.out
       have a3 := HF.out.bb
       refine digs_length_of_lt (by omega) ?_
       rw [Nat.pow_succ]; generalize 4294967296 ^ 96 = R at *; omega)
      have Htm := Lib.hid (show t3 ≤ m3 + C.M by have := Nat.mod_lt (3 * x) HM0.out; omega)
      have Hmb := Lib.hid (show mi < C.M by have := Nat.mod_lt (m3 + C.M - t3) HM0.out; omega)
      have Hres := Lib.hid (show r = decide (yy = rt) by rw [← Hr.out, onB, decide_eq_true hxM, decide_eq_true hyM, hm2, hm3, ht3, hmi, hrt, hyy]; rfl)
      have E2 := Lib.hid hm2
      have E3 := Lib.hid hm3
      have Et := Lib.hid ht3
      have Ei := Lib.hid hmi
      have Er := Lib.hid hrt
      have Ey := Lib.hid hyy
      clear hcvv hm2 hm3 ht3 hmi hrt hyy hxM hyM
      go_enter Try.func16, Try.ntmps16
      go_upto_region 5 with fail
      rw [← hW0]
      clear hW0 hq
      refine Par.region_txt 14 [0, 1, 0, 4, 15, 31, 63, 127, 255, 127, 639, 2047, 4095, 8191] [] (fun j f X => match j with
       | 0 => f 0 = .pointer (some ⟨q + 1, 1, none⟩)
       | 1 => f 1 = .slice A (digs 4294967296 x).length c
       | 2 => f 2 = .pointer (some ⟨q, 0, none⟩)
       | 3 => f 3 = .slice Ap (digs 4294967296 C.M).length cp
       | 4 => f 4 = .int .i64 (-1)
       | 5 => f 5 = .bool false
       | 6 => f 6 = .bool false
       | 7 => f 7 = .pointer (some ⟨q + 1, 2, none⟩)
       | 8 => f 8 = .slice A' (digs 4294967296 y).length c'
       | 9 => f 9 = .pointer (some ⟨q, 0, none⟩)
       | 10 => f 10 = .slice Ap (digs 4294967296 C.M).length cp
       | 11 => f 11 = .int .i64 (-1)
       | 12 => f 12 = .bool false
       | 13 => f 13 = .bool false
       | _ => True) (by kernel_rfl) [(13, 0), (14, 1), (15, 2), (16, 3), (17, 4), (18, 5), (19, 6), (20, 7), (21, 8), (22, 9), (23, 10), (24, 11), (25, 12), (26, 13)] (by kernel_rfl) ?_
      refine Par.v0 1 13 ?_
      refine Par.ld1 2 12 0 p1 ?_
      refine Par.v0 3 11 ?_
      refine Par.ld1 4 10 2 b0 ?_
      refine Par.c0 5 9 (fun f => #[f 1, f 3]) (F' := 51) (fun f X hX hR => ?_) ?_
      · have e1 : f 1 = _ := hR.out 1 rfl
        have e3 : f 3 = _ := hR.out 3 rfl
        simp only [e1, e3]
        refine (arm1.out X hX).mono ?_
        rintro e w2 ⟨rfl, nq, rfl⟩
        rw [tx.out]
        exact ⟨(.int .i64 (-1)), rfl, (Ext.drewN _ _), fun _ _ => rfl⟩
      refine Par.S 6 8 [(13, 0), (14, 1), (15, 2), (16, 3), (17, 4)] (fun f X hX hR K hK => ?_) ?_
      · have e4 : f 4 = _ := hR.out 4 rfl
        simp only [yA, yB, yC, yD, yE, e4]
        refine ⟨?_⟩
        go_simp
        exact Par.k hK (s := by simp only [yA, yB, yC, yD, yE, e4])
      refine Par.v1 7 7 5 ?_
      refine Par.v1 8 6 6 ?_
      refine Par.S 9 5 [(13, 0), (14, 1), (15, 2), (16, 3), (17, 4), (18, 5), (19, 6), (20, 7), (22, 9), (23, 10)] (fun f X hX hR K hK => ?_) ?_
      · have e6 : f 6 = _ := hR.out 6 rfl
        have e7 : f 7 = _ := hR.out 7 rfl
        have x0 := hX.cell p2
        simp only [yA, yB, yC, yD, yE, e6, e7]
        refine ⟨Par.want (by kernel_rfl) ?_⟩
        go_simp
        exact Par.k hK (s := by simp only [yA, yB, yC, yD, yE, e6, e7])
      refine Par.v1 10 4 6 ?_
      refine Par.S 11 3 [(13, 0), (14, 1), (15, 2), (16, 3), (17, 4), (18, 5), (19, 6), (20, 7), (21, 8), (22, 9)] (fun f X hX hR K hK => ?_) ?_
      · have e6 : f 6 = _ := hR.out 6 rfl
        have e9 : f 9 = _ := hR.out 9 rfl
        have x0 := hX.cell b0
        simp only [yA, yB, yC, yD, yE, e6, e9]
        refine ⟨Par.want (by kernel_rfl) ?_⟩
        go_simp
        exact Par.k hK (s := by simp only [yA, yB, yC, yD, yE, e6, e9])
      refine Par.c1 12 2 6 (fun f => #[f 8, f 10]) (F' := 51) (fun f X hX hR => ?_) ?_
      · have e8 : f 8 = _ := hR.out 8 rfl
        have e10 : f 10 = _ := hR.out 10 rfl
        simp only [e8, e10]
        refine (arm2.out X hX).mono ?_
        rintro e w2 ⟨rfl, nq, rfl⟩
        rw [ty.out]
        exact ⟨(.int .i64 (-1)), rfl, (Ext.drewN _ _), fun _ _ => rfl⟩
      refine Par.S 13 1 [(13, 0), (14, 1), (15, 2), (16, 3), (17, 4), (18, 5), (19, 6), (20, 7), (21, 8), (22, 9), (23, 10), (24, 11)] (fun f X hX hR K hK => ?_) ?_
      · have e6 : f 6 = _ := hR.out 6 rfl
        have e11 : f 11 = _ := hR.out 11 rfl
        simp only [yA, yB, yC, yD, yE, e6, e11]
        refine ⟨Par.want (by kernel_rfl) ?_⟩
        go_simp
        exact Par.k hK (s := by simp only [yA, yB, yC, yD, yE, e6, e11])
      refine Par.v2 14 0 6 12 ?_
      refine Par.AllOps.fin ⟨fun f X hX hR hal hap => ?_⟩
      have e13 : f 13 = _ := hR 13 (by decide)
      simp only [yA, yB, yD, yE, e13]
      clear hR hal hap e13
      refine Par.Chain.done ?_
      have hE : Ext W0 X := hX
      clear hX
      go_upto_region 7 with fail
      have d1 := hE.cell p1
      refine Par.region_ext (by kernel_rfl) 11 [0, 0, 0, 4, 0, 16, 62, 0, 128, 511, 1023] [] (fun j f X => match j with
       | 0 => f 0 = cvv
       | 1 => f 1 = cvv
       | 2 => f 2 = .pointer (some ⟨q + 1, 1, none⟩)
       | 3 => f 3 = .slice A (digs 4294967296 x).length c
       | 4 => f 4 = .pointer (some ⟨q + 1, 1, none⟩)
       | 5 => f 5 = .slice A (digs 4294967296 x).length c
       | 6 => ∃ A1 c1, f 6 = .slice A1 (digs 4294967296 m2).length c1 ∧ RU X A1 c1 (digs 4294967296 m2)
       | 7 => f 7 = .pointer (some ⟨q + 1, 1, none⟩)
       | 8 => f 8 = .slice A (digs 4294967296 x).length c
       | 9 => ∃ A1 c1, f 9 = .slice A1 (digs 4294967296 m3).length c1 ∧ RU X A1 c1 (digs 4294967296 m3)
       | 10 => ∃ A1 c1, f 10 = .slice A1 (digs 4294967296 m3).length c1 ∧ RU X A1 c1 (digs 4294967296 m3)
       | _ => True) (by kernel_rfl) [(27, 0), (28, 1), (29, 2), (30, 3), (31, 4), (32, 5), (33, 6), (34, 7), (35, 8), (36, 9), (5, 10)] (by kernel_rfl) ?_
      refine Par.S 1 10 [(28, 1), (29, 2), (30, 3), (31, 4), (32, 5), (33, 6), (34, 7), (35, 8)] (fun f X hX hR K hK => ?_) ?_
      · simp only [yA, yB, yC, yD, yE]
        refine ⟨Par.want (by kernel_rfl) (wp_loadV 31 (.tmp 2) rfl rfl (hE.trans hX |>.at_ hcb) Try.underlying31 rfl infoRC HV.out ?_)⟩
        exact hK.out _ (cvv) _ (by simp only [yA, yB, yC, yD, yE]) (Ext.refl _) trivial (fun _ _ => rfl)
      refine Par.S 2 9 [(27, 0), (29, 2), (30, 3), (31, 4), (32, 5), (34, 7), (35, 8)] (fun f X hX hR K hK => ?_) ?_
      · simp only [yA, yB, yC, yD, yE]
        refine ⟨Par.want (by kernel_rfl) (wp_loadV 31 (.tmp 2) rfl rfl (hE.trans hX |>.at_ hcb) Try.underlying31 rfl infoRC HV.out ?_)⟩
        exact hK.out _ (cvv) _ (by simp only [yA, yB, yC, yD, yE]) (Ext.refl _) trivial (fun _ _ => rfl)
      refine Par.v0 3 8 ?_
      refine Par.ld1 4 7 2 d1 ?_
      refine Par.v0 5 6 ?_
      refine Par.ld1 6 5 4 d1 ?_
      refine Par.c0 7 4 (fun f => #[f 1, f 3, f 5]) (F' := 52) (fun f X hX hR => ?_) ?_
      · have e1 : f 1 = _ := hR.out 1 rfl
        have e3 : f 3 = _ := hR.out 3 rfl
        have e5 : f 5 = _ := hR.out 5 rfl
        simp only [e1, e3, e5]
        refine (times_any A A c c x x X (Hcv.out.ext (HE0.out.trans (hE.trans hX))) (h.up (HE0.out.trans (hE.trans hX))) (h.up (HE0.out.trans (hE.trans hX))) (by have := Kx.out; omega) (by have := Kx.out; omega) HM0.out).mono ?_
        rw [E2.out]
        rintro e w2 ⟨A1, c1, rfl, hO, hB⟩
        exact ⟨(.slice A1 (digs 4294967296 m2).length c1), rfl, hB, fun Y hY => ⟨A1, c1, rfl, hO.up hY⟩⟩
      refine Par.v0 8 3 ?_
      refine Par.ld1 9 2 7 d1 ?_
      refine Par.c0 10 1 (fun f => #[f 0, f 6, f 8]) (F' := 52) (fun f X hX hR => ?_) ?_
      · have e0 : f 0 = _ := hR.out 0 rfl
        obtain ⟨A6, c6, (e6 : f 6 = _), o6⟩ := hR.out 6 rfl
        have e8 : f 8 = _ := hR.out 8 rfl
        simp only [e0, e6, e8]
        refine (times_any A6 A c6 c m2 x X (Hcv.out.ext (HE0.out.trans (hE.trans hX))) o6 (h.up (HE0.out.trans (hE.trans hX))) (by have := K2.out; omega) (by have := Kx.out; omega) HM0.out).mono ?_
        rw [E3.out]
        rintro e w2 ⟨A1, c1, rfl, hO, hB⟩
        exact ⟨(.slice A1 (digs 4294967296 m3).length c1), rfl, hB, fun Y hY => ⟨A1, c1, rfl, hO.up hY⟩⟩
      refine Par.S 11 0 [(27, 0), (28, 1), (29, 2), (30, 3), (31, 4), (32, 5), (33, 6), (34, 7), (35, 8), (36, 9)] (fun f X hX hR K hK => ?_) ?_
      · obtain ⟨A9, c9, (e9 : f 9 = _), o9⟩ := hR.out 9 rfl
        simp only [yA, yB, yC, yD, yE, e9]
        refine ⟨?_⟩
        go_simp
        exact hK.out _ (.slice A9 (digs 4294967296 m3).length c9) _ (by simp only [yA, yB, yC, yD, yE, e9]) (Ext.refl _) trivial (fun Y hY => ⟨A9, c9, rfl, o9.up hY⟩)
      refine Par.AllOps.fin ⟨fun f X hX hR hal hap => ?_⟩
      obtain ⟨A6, c6, (e6 : f 6 = _), o6⟩ := hR 6 (by decide)
      obtain ⟨A9, c9, (e9 : f 9 = _), o9⟩ := hR 9 (by decide)
      obtain ⟨A10, c10, (e10 : f 10 = _), o10⟩ := hR 10 (by decide)
      simp only [yA, yB, yD, yE, e6, e9, e10]
      clear hR hal hap e6 e9 e10
      refine Par.Chain.done ?_
      replace hE := hE.trans hX
      clear hX d1 o6 o9
      go_upto_region 8 with fail
      have d1 := hE.cell p1
      refine Par.region_ext (by kernel_rfl) 6 [0, 0, 0, 4, 15, 31] [] (fun j f X => match j with
       | 0 => f 0 = cvv
       | 1 => ∃ A1 c1, f 1 = .slice A1 (digs 4294967296 3).length c1 ∧ RU X A1 c1 (digs 4294967296 3)
       | 2 => f 2 = .pointer (some ⟨q + 1, 1, none⟩)
       | 3 => f 3 = .slice A (digs 4294967296 x).length c
       | 4 => ∃ A1 c1, f 4 = .slice A1 (digs 4294967296 t3).length c1 ∧ RU X A1 c1 (digs 4294967296 t3)
       | 5 => ∃ A1 c1, f 5 = .slice A1 (digs 4294967296 t3).length c1 ∧ RU X A1 c1 (digs 4294967296 t3)
       | _ => True) (by kernel_rfl) [(37, 0), (38, 1), (39, 2), (40, 3), (41, 4), (6, 5)] (by kernel_rfl) ?_
      refine Par.S 1 5 [(38, 1), (39, 2), (40, 3)] (fun f X hX hR K hK => ?_) ?_
      · simp only [yA, yB, yC, yD, yE]
        refine ⟨Par.want (by kernel_rfl) (wp_loadV 31 (.tmp 2) rfl rfl (hE.trans hX |>.at_ hcb) Try.underlying31 rfl infoRC HV.out ?_)⟩
        exact hK.out _ (cvv) _ (by simp only [yA, yB, yC, yD, yE]) (Ext.refl _) trivial (fun _ _ => rfl)
      refine Par.c0 2 4 (fun _ => #[Value.int IntKind.u64 3]) (F' := 39) (fun f X hX hR => ?_) ?_
      · refine (refOf_any 3 X (by omega)).mono ?_
        rintro e w2 ⟨A1, c1, rfl, hO, hB⟩
        exact ⟨(.slice A1 (digs 4294967296 3).length c1), rfl, hB, fun Y hY => ⟨A1, c1, rfl, hO.ru.up hY⟩⟩
      refine Par.v0 3 3 ?_
      refine Par.ld1 4 2 2 d1 ?_
      refine Par.c0 5 1 (fun f => #[f 0, f 1, f 3]) (F' := 52) (fun f X hX hR => ?_) ?_
      · have e0 : f 0 = _ := hR.out 0 rfl
        obtain ⟨A1, c1, (e1 : f 1 = _), o1⟩ := hR.out 1 rfl
        have e3 : f 3 = _ := hR.out 3 rfl
        simp only [e0, e1, e3]
        refine (times_any A1 A c1 c 3 x X (Hcv.out.ext (HE0.out.trans (hE.trans hX))) o1 (h.up (HE0.out.trans (hE.trans hX))) (by have := K0.out; omega) (by have := Kx.out; omega) HM0.out).mono ?_
        rw [Et.out]
        rintro e w2 ⟨A1, c1, rfl, hO, hB⟩
        exact ⟨(.slice A1 (digs 4294967296 t3).length c1), rfl, hB, fun Y hY => ⟨A1, c1, rfl, hO.up hY⟩⟩
      refine Par.S 6 0 [(37, 0), (38, 1), (39, 2), (40, 3), (41, 4)] (fun f X hX hR K hK => ?_) ?_
      · obtain ⟨A4, c4, (e4 : f 4 = _), o4⟩ := hR.out 4 rfl
        simp only [yA, yB, yC, yD, yE, e4]
        refine ⟨?_⟩
        go_simp
        exact hK.out _ (.slice A4 (digs 4294967296 t3).length c4) _ (by simp only [yA, yB, yC, yD, yE, e4]) (Ext.refl _) trivial (fun Y hY => ⟨A4, c4, rfl, o4.up hY⟩)
      refine Par.AllOps.fin ⟨fun f X hX hR hal hap => ?_⟩
      obtain ⟨A1, c1, (e1 : f 1 = _), o1⟩ := hR 1 (by decide)
      obtain ⟨A4, c4, (e4 : f 4 = _), o4⟩ := hR 4 (by decide)
      obtain ⟨A5, c5, (e5 : f 5 = _), o5⟩ := hR 5 (by decide)
      simp only [yA, yB, yD, yE, e1, e4, e5]
      clear hR hal hap e1 e4 e5
      refine Par.Chain.done ?_
      have g10 := o10.up hX
      replace hE := hE.trans hX
      clear hX d1 o1 o4 o10
      go_upto_region 9 with fail
      have d0 := hE.cell b0
      have d2 := hE.cell b2
      refine Par.region_ext (by kernel_rfl) 11 [0, 0, 0, 7, 0, 16, 63, 0, 128, 511, 1023] [] (fun j f X => match j with
       | 0 => f 0 = cvv
       | 1 => f 1 = .slice A10 (digs 4294967296 m3).length c10
       | 2 => f 2 = .slice A5 (digs 4294967296 t3).length c5
       | 3 => ∃ A1 c1, f 3 = .slice A1 (digs 4294967296 mi).length c1 ∧ RU X A1 c1 (digs 4294967296 mi)
       | 4 => f 4 = .pointer (some ⟨q, 2, none⟩)
       | 5 => f 5 = .slice Ab (digs 4294967296 C.bb).length cb
       | 6 => ∃ A1 c1, f 6 = .slice A1 (digs 4294967296 (mi + C.bb)).length c1 ∧ RU X A1 c1 (digs 4294967296 (mi + C.bb))
       | 7 => f 7 = .pointer (some ⟨q, 0, none⟩)
       | 8 => f 8 = .slice Ap (digs 4294967296 C.M).length cp
       | 9 => ∃ A1 c1, f 9 = .slice A1 (digs 4294967296 rt).length c1 ∧ RU X A1 c1 (digs 4294967296 rt)
       | 10 => ∃ A1 c1, f 10 = .slice A1 (digs 4294967296 rt).length c1 ∧ RU X A1 c1 (digs 4294967296 rt)
       | _ => True) (by kernel_rfl) [(42, 0), (43, 1), (44, 2), (45, 3), (46, 4), (47, 5), (48, 6), (49, 7), (50, 8), (51, 9), (7, 10)] (by kernel_rfl) ?_
      refine Par.S 1 10 [(43, 1), (44, 2), (46, 4), (47, 5), (49, 7), (50, 8)] (fun f X hX hR K hK => ?_) ?_
      · simp only [yA, yB, yC, yD, yE]
        refine ⟨Par.want (by kernel_rfl) (wp_loadV 31 (.tmp 2) rfl rfl (hE.trans hX |>.at_ hcb) Try.underlying31 rfl infoRC HV.out ?_)⟩
        exact hK.out _ (cvv) _ (by simp only [yA, yB, yC, yD, yE]) (Ext.refl _) trivial (fun _ _ => rfl)
      refine Par.v0 2 9 ?_
      refine Par.v0 3 8 ?_
      refine Par.c0 4 7 (fun f => #[f 0, f 1, f 2]) (F' := 54) (fun f X hX hR => ?_) ?_
      · have e0 : f 0 = _ := hR.out 0 rfl
        have e1 : f 1 = _ := hR.out 1 rfl
        have e2 : f 2 = _ := hR.out 2 rfl
        simp only [e0, e1, e2]
        refine (minus_any A10 A5 c10 c5 m3 t3 X (Hcv.out.ext (HE0.out.trans (hE.trans hX))) (g10.up hX) (o5.up hX) (by have := K3.out; omega) (by have := L.out; omega) Htm.out HM0.out).mono ?_
        rw [Ei.out]
        rintro e w2 ⟨A1, c1, rfl, hO, hB⟩
        exact ⟨(.slice A1 (digs 4294967296 mi).length c1), rfl, hB, fun Y hY => ⟨A1, c1, rfl, hO.up hY⟩⟩
      refine Par.v0 5 6 ?_
      refine Par.ld1 6 5 4 d2 ?_
      refine Par.c0 7 4 (fun f => #[f 3, f 5]) (F' := 23) (fun f X hX hR => ?_) ?_
      · obtain ⟨A3, c3, (e3 : f 3 = _), o3⟩ := hR.out 3 rfl
        have e5 : f 5 = _ := hR.out 5 rfl
        simp only [e3, e5]
        refine (refAdd_any _ _ A3 Ab c3 cb mi C.bb X o3 (h3.up (HE0.out.trans (hE.trans hX))) (fun _ hb => hb) (fun _ hb => hb) (by have := Ki.out; omega) (by have := Kb.out; omega)).mono ?_
        rintro e w2 ⟨A1, c1, rfl, hO, hB⟩
        exact ⟨(.slice A1 (digs 4294967296 (mi + C.bb)).length c1), rfl, hB, fun Y hY => ⟨A1, c1, rfl, hO.ru.up hY⟩⟩
      refine Par.v0 8 3 ?_
      refine Par.ld1 9 2 7 d0 ?_
      refine Par.c0 10 1 (fun f => #[f 6, f 8]) (F' := 53) (fun f X hX hR => ?_) ?_
      · obtain ⟨A6, c6, (e6 : f 6 = _), o6⟩ := hR.out 6 rfl
        have e8 : f 8 = _ := hR.out 8 rfl
        simp only [e6, e8]
        refine (refMod_any A6 Ap c6 cp (mi + C.bb) C.M X o6 (h1.up (HE0.out.trans (hE.trans hX))) (by have := Ks.out; omega) HM0.out).mono ?_
        rw [Er.out]
        rintro e w2 ⟨A1, c1, rfl, hO, hB⟩
        exact ⟨(.slice A1 (digs 4294967296 rt).length c1), rfl, hB, fun Y hY => ⟨A1, c1, rfl, hO.up hY⟩⟩
      refine Par.S 11 0 [(42, 0), (43, 1), (44, 2), (45, 3), (46, 4), (47, 5), (48, 6), (49, 7), (50, 8), (51, 9)] (fun f X hX hR K hK => ?_) ?_
      · obtain ⟨A9, c9, (e9 : f 9 = _), o9⟩ := hR.out 9 rfl
        simp only [yA, yB, yC, yD, yE, e9]
        refine ⟨?_⟩
        go_simp
        exact hK.out _ (.slice A9 (digs 4294967296 rt).length c9) _ (by simp only [yA, yB, yC, yD, yE, e9]) (Ext.refl _) trivial (fun Y hY => ⟨A9, c9, rfl, o9.up hY⟩)
      refine Par.AllOps.fin ⟨fun f X hX hR hal hap => ?_⟩
      obtain ⟨A3, c3, (e3 : f 3 = _), o3⟩ := hR 3 (by decide)
      obtain ⟨A6, c6, (e6 : f 6 = _), o6⟩ := hR 6 (by decide)
      obtain ⟨A9, c9, (e9 : f 9 = _), o9⟩ := hR 9 (by decide)
      obtain ⟨A11, c11, (e10 : f 10 = _), o11⟩ := hR 10 (by decide)
      simp only [yA, yB, yD, yE, e3, e6, e9, e10]
      clear hR hal hap e3 e6 e9 e10
      refine Par.Chain.done ?_
      replace hE := hE.trans hX
      clear hX d0 d2 o3 o6 o9 g10 o5
      go_upto_region 10 with fail
      have d2 := hE.cell p2
      refine Par.region_txt 10 [0, 0, 2, 0, 8, 31, 0, 127, 255, 511] [] (fun j f X => match j with
       | 0 => f 0 = cvv
       | 1 => f 1 = .pointer (some ⟨q + 1, 2, none⟩)
       | 2 => f 2 = .slice A' (digs 4294967296 y).length c'
       | 3 => f 3 = .pointer (some ⟨q + 1, 2, none⟩)
       | 4 => f 4 = .slice A' (digs 4294967296 y).length c'
       | 5 => ∃ A1 c1, f 5 = .slice A1 (digs 4294967296 yy).length c1 ∧ RU X A1 c1 (digs 4294967296 yy)
       | 6 => f 6 = .slice A11 (digs 4294967296 rt).length c11
       | 7 => f 7 = .int .i64 (cmpV yy rt)
       | 8 => f 8 = .bool r
       | 9 => f 9 = .bool r
       | _ => True) (by kernel_rfl) [(52, 0), (53, 1), (54, 2), (55, 3), (56, 4), (57, 5), (58, 6), (59, 7), (60, 8), (4, 9)] (by kernel_rfl) ?_
      refine Par.S 1 9 [(53, 1), (54, 2), (55, 3), (56, 4), (58, 6)] (fun f X hX hR K hK => ?_) ?_
      · simp only [yA, yB, yC, yD, yE]
        refine ⟨Par.want (by kernel_rfl) (wp_loadV 31 (.tmp 2) rfl rfl (hE.trans hX |>.at_ hcb) Try.underlying31 rfl infoRC HV.out ?_)⟩
        exact hK.out _ (cvv) _ (by simp only [yA, yB, yC, yD, yE]) (Ext.refl _) trivial (fun _ _ => rfl)
      refine Par.v0 2 8 ?_
      refine Par.ld1 3 7 1 d2 ?_
      refine Par.v0 4 6 ?_
      refine Par.ld1 5 5 3 d2 ?_
      refine Par.c0 6 4 (fun f => #[f 0, f 2, f 4]) (F' := 52) (fun f X hX hR => ?_) ?_
      · have e0 : f 0 = _ := hR.out 0 rfl
        have e2 : f 2 = _ := hR.out 2 rfl
        have e4 : f 4 = _ := hR.out 4 rfl
        simp only [e0, e2, e4]
        refine (times_any A' A' c' c' y y X (Hcv.out.ext (HE0.out.trans (hE.trans hX))) (h'.up (HE0.out.trans (hE.trans hX))) (h'.up (HE0.out.trans (hE.trans hX))) (by have := KY.out; omega) (by have := KY.out; omega) HM0.out).mono ?_
        rw [Ey.out]
        rintro e w2 ⟨A1, c1, rfl, hO, hB⟩
        exact ⟨(.slice A1 (digs 4294967296 yy).length c1), rfl, hB, fun Y hY => ⟨A1, c1, rfl, hO.up hY⟩⟩
      refine Par.v0 7 3 ?_
      refine Par.c0 8 2 (fun f => #[f 5, f 6]) (F' := 51) (fun f X hX hR => ?_) ?_
      · obtain ⟨A5, c5, (e5 : f 5 = _), o5⟩ := hR.out 5 rfl
        have e6 : f 6 = _ := hR.out 6 rfl
        simp only [e5, e6]
        refine (refCmp_any _ _ A5 A11 c5 c11 yy rt X o5 (o11.up hX)).mono ?_
        rintro e w2 ⟨rfl, nq, rfl⟩
        exact ⟨(.int .i64 (cmpV yy rt)), rfl, (Ext.drewN _ _), fun _ _ => rfl⟩
      refine Par.S 9 1 [(52, 0), (53, 1), (54, 2), (55, 3), (56, 4), (57, 5), (58, 6), (59, 7)] (fun f X hX hR K hK => ?_) ?_
      · have e7 : f 7 = _ := hR.out 7 rfl
        simp only [yA, yB, yC, yD, yE, e7]
        refine ⟨?_⟩
        go_simp
        have hd : (cmpV yy rt == 0) = r := by rw [Hres.out]; exact cmpV_eq0 yy rt
        rw [hd]
        exact Par.k hK (s := by simp only [yA, yB, yC, yD, yE, e7])
      refine Par.v1 10 0 8 ?_
      refine Par.AllOps.fin ⟨fun f X hX hR hal hap => ?_⟩
      obtain ⟨A5, c5, (e5 : f 5 = _), o5⟩ := hR 5 (by decide)
      have e9 : f 9 = _ := hR 9 (by decide)
      simp only [yA, yB, yD, yE, e5, e9]
      clear hR hal hap e5 e9
      refine Par.Chain.done ?_
      go_wp2
      go_ret
      exact ⟨rfl, HE0.out.trans (hE.trans hX)⟩
    · obtain ⟨v, hv⟩ : ∃ v, cmpV y C.M = v := ⟨_, rfl⟩
      have hv0 : 0 ≤ v := by rw [← hv]; rcases cmpV_cases y C.M with h | h | h <;> omega
      have Hv := Lib.hid hv
      have HH := Lib.hid hyM
      clear hv hyM
      go_enter Try.func16, Try.ntmps16
      go_upto_region 5 with fail
      rw [← hW0]
      clear hW0 hq
      refine Par.region_txt 14 [0, 1, 0, 4, 15, 31, 63, 127, 255, 127, 639, 2047, 4095, 8191] [] (fun j f X => match j with
       | 0 => f 0 = .pointer (some ⟨q + 1, 1, none⟩)
       | 1 => f 1 = .slice A (digs 4294967296 x).length c
       | 2 => f 2 = .pointer (some ⟨q, 0, none⟩)
       | 3 => f 3 = .slice Ap (digs 4294967296 C.M).length cp
       | 4 => f 4 = .int .i64 (-1)
       | 5 => f 5 = .bool false
       | 6 => f 6 = .bool false
       | 7 => f 7 = .pointer (some ⟨q + 1, 2, none⟩)
       | 8 => f 8 = .slice A' (digs 4294967296 y).length c'
       | 9 => f 9 = .pointer (some ⟨q, 0, none⟩)
       | 10 => f 10 = .slice Ap (digs 4294967296 C.M).length cp
       | 11 => f 11 = .int .i64 v
       | 12 => f 12 = .bool true
       | 13 => f 13 = .bool true
       | _ => True) (by kernel_rfl) [(13, 0), (14, 1), (15, 2), (16, 3), (17, 4), (18, 5), (19, 6), (20, 7), (21, 8), (22, 9), (23, 10), (24, 11), (25, 12), (26, 13)] (by kernel_rfl) ?_
      refine Par.v0 1 13 ?_
      refine Par.ld1 2 12 0 p1 ?_
      refine Par.v0 3 11 ?_
      refine Par.ld1 4 10 2 b0 ?_
      refine Par.c0 5 9 (fun f => #[f 1, f 3]) (F' := 51) (fun f X hX hR => ?_) ?_
      · have e1 : f 1 = _ := hR.out 1 rfl
        have e3 : f 3 = _ := hR.out 3 rfl
        simp only [e1, e3]
        refine (arm1.out X hX).mono ?_
        rintro e w2 ⟨rfl, nq, rfl⟩
        rw [tx.out]
        exact ⟨(.int .i64 (-1)), rfl, (Ext.drewN _ _), fun _ _ => rfl⟩
      refine Par.S 6 8 [(13, 0), (14, 1), (15, 2), (16, 3), (17, 4)] (fun f X hX hR K hK => ?_) ?_
      · have e4 : f 4 = _ := hR.out 4 rfl
        simp only [yA, yB, yC, yD, yE, e4]
        refine ⟨?_⟩
        go_simp
        exact Par.k hK (s := by simp only [yA, yB, yC, yD, yE, e4])
      refine Par.v1 7 7 5 ?_
      refine Par.v1 8 6 6 ?_
      refine Par.S 9 5 [(13, 0), (14, 1), (15, 2), (16, 3), (17, 4), (18, 5), (19, 6), (20, 7), (22, 9), (23, 10)] (fun f X hX hR K hK => ?_) ?_
      · have e6 : f 6 = _ := hR.out 6 rfl
        have e7 : f 7 = _ := hR.out 7 rfl
        have x0 := hX.cell p2
        simp only [yA, yB, yC, yD, yE, e6, e7]
        refine ⟨Par.want (by kernel_rfl) ?_⟩
        go_simp
        exact Par.k hK (s := by simp only [yA, yB, yC, yD, yE, e6, e7])
      refine Par.v1 10 4 6 ?_
      refine Par.S 11 3 [(13, 0), (14, 1), (15, 2), (16, 3), (17, 4), (18, 5), (19, 6), (20, 7), (21, 8), (22, 9)] (fun f X hX hR K hK => ?_) ?_
      · have e6 : f 6 = _ := hR.out 6 rfl
        have e9 : f 9 = _ := hR.out 9 rfl
        have x0 := hX.cell b0
        simp only [yA, yB, yC, yD, yE, e6, e9]
        refine ⟨Par.want (by kernel_rfl) ?_⟩
        go_simp
        exact Par.k hK (s := by simp only [yA, yB, yC, yD, yE, e6, e9])
      refine Par.c1 12 2 6 (fun f => #[f 8, f 10]) (F' := 51) (fun f X hX hR => ?_) ?_
      · have e8 : f 8 = _ := hR.out 8 rfl
        have e10 : f 10 = _ := hR.out 10 rfl
        simp only [e8, e10]
        refine (arm2.out X hX).mono ?_
        rintro e w2 ⟨rfl, nq, rfl⟩
        rw [Hv.out]
        exact ⟨(.int .i64 v), rfl, (Ext.drewN _ _), fun _ _ => rfl⟩
      refine Par.S 13 1 [(13, 0), (14, 1), (15, 2), (16, 3), (17, 4), (18, 5), (19, 6), (20, 7), (21, 8), (22, 9), (23, 10), (24, 11)] (fun f X hX hR K hK => ?_) ?_
      · have e6 : f 6 = _ := hR.out 6 rfl
        have e11 : f 11 = _ := hR.out 11 rfl
        simp only [yA, yB, yC, yD, yE, e6, e11]
        refine ⟨Par.want (by kernel_rfl) ?_⟩
        go_simp
        exact Par.k hK (s := by simp only [yA, yB, yC, yD, yE, e6, e11])
      refine Par.v2 14 0 6 12 ?_
      refine Par.AllOps.fin ⟨fun f X hX hR hal hap => ?_⟩
      have e13 : f 13 = _ := hR 13 (by decide)
      simp only [yA, yB, yD, yE, e13]
      clear hR hal hap e13
      refine Par.Chain.done ?_
      go_wp2
      go_ret
      exact ⟨by rw [show r = false by rw [← Hr.out]; simp [onB, HH.out]]; rfl, HE0.out.trans hX⟩
  · obtain ⟨v, hv⟩ : ∃ v, cmpV x C.M = v := ⟨_, rfl⟩
    have hv0 : 0 ≤ v := by rw [← hv]; rcases cmpV_cases x C.M with h | h | h <;> omega
    have Hv := Lib.hid hv
    have HH := Lib.hid hxM
    clear hv hxM
    go_enter Try.func16, Try.ntmps16
    go_upto_region 5 with fail
    rw [← hW0]
    clear hW0 hq
    refine Par.region_txt 14 [0, 1, 0, 4, 15, 31, 63, 127, 255, 127, 639, 2047, 4095, 8191] [] (fun j f X => match j with
     | 0 => f 0 = .pointer (some ⟨q + 1, 1, none⟩)
     | 1 => f 1 = .slice A (digs 4294967296 x).length c
     | 2 => f 2 = .pointer (some ⟨q, 0, none⟩)
     | 3 => f 3 = .slice Ap (digs 4294967296 C.M).length cp
     | 4 => f 4 = .int .i64 v
     | 5 => f 5 = .bool true
     | 6 => f 6 = .bool true
     | 7 => f 7 = undef
     | 8 => f 8 = undef
     | 9 => f 9 = undef
     | 10 => f 10 = undef
     | 11 => f 11 = undef
     | 12 => f 12 = undef
     | 13 => f 13 = .bool true
     | _ => True) (by kernel_rfl) [(13, 0), (14, 1), (15, 2), (16, 3), (17, 4), (18, 5), (19, 6), (20, 7), (21, 8), (22, 9), (23, 10), (24, 11), (25, 12), (26, 13)] (by kernel_rfl) ?_
    refine Par.v0 1 13 ?_
    refine Par.ld1 2 12 0 p1 ?_
    refine Par.v0 3 11 ?_
    refine Par.ld1 4 10 2 b0 ?_
    refine Par.c0 5 9 (fun f => #[f 1, f 3]) (F' := 51) (fun f X hX hR => ?_) ?_
    · have e1 : f 1 = _ := hR.out 1 rfl
      have e3 : f 3 = _ := hR.out 3 rfl
      simp only [e1, e3]
      refine (arm1.out X hX).mono ?_
      rintro e w2 ⟨rfl, nq, rfl⟩
      rw [Hv.out]
      exact ⟨(.int .i64 v), rfl, (Ext.drewN _ _), fun _ _ => rfl⟩
    refine Par.S 6 8 [(13, 0), (14, 1), (15, 2), (16, 3), (17, 4)] (fun f X hX hR K hK => ?_) ?_
    · have e4 : f 4 = _ := hR.out 4 rfl
      simp only [yA, yB, yC, yD, yE, e4]
      refine ⟨?_⟩
      go_simp
      exact Par.k hK (s := by simp only [yA, yB, yC, yD, yE, e4])
    refine Par.v1 7 7 5 ?_
    refine Par.sk 8 6 6 ?_
    refine Par.sk 9 5 6 ?_
    refine Par.sk 10 4 6 ?_
    refine Par.sk 11 3 6 ?_
    refine Par.sk 12 2 6 ?_
    refine Par.sk 13 1 6 ?_
    refine Par.v2 14 0 6 12 ?_
    refine Par.AllOps.fin ⟨fun f X hX hR hal hap => ?_⟩
    have e13 : f 13 = _ := hR 13 (by decide)
    simp only [yA, yB, yD, yE, e13]
    clear hR hal hap e13
    refine Par.Chain.done ?_
    go_wp2
    go_ret
    exact ⟨by rw [show r = false by rw [← Hr.out]; simp [onB, HH.out]]; rfl, HE0.out.trans hX⟩
end Go.Proofs.Ytldhmjfjbalakaa

namespace Go.Proofs.Ytldhmjfjbalakaa
open Go.RowKit

def c0 : Crv := ⟨0, 0, 0, 0, [], [], [], [], []⟩
theorem end_rc {fn : Func} {R : Ending → World → Prop} {a : Act} {W : World} {p : Tmp} {g : Nat} {ty : TypeId} {fr : Nat × Nat} {x0 x1 x2 x3 x4 x5 : Value} (hr : fn.results = #[.cell p 31]) (hp : a.tmps.getD p undef = .pointer (some ⟨g, 0, none⟩)) (hd : a.defers = [])
 (hg : W.heap[g]? = some (.cells #[x0, x1, x2, x3, x4, x5] ty fr)) (hR : R (.returned (.agg #[x0, x1, x2, x3, x4, x5])) W) : bodyPost Try.prog fn R .ret a W :=
 bodyPost_ret (results_cell_row hr a.tmps W g _ _ _ _ hp hg Try.underlying31 rfl infoRC) hd hR
theorem rc_one (A1 A2 A3 A4 A5 : Option Addr) (n1 n2 n3 n4 n5 c1 c2 c3 c4 c5 : Nat) (s : Int) : (#[Value.slice A1 n1 c1, .slice A2 n2 c2, .slice A3 n3 c3, .slice A4 n4 c4, .slice A5 n5 c5, .int .i64 s] : Array Value).all (·.oneCell') = true := by simp [Value.oneCell']
set_option maxRecDepth 100000 in
set_option maxHeartbeats 8000000 in
theorem refOf_c {c : Int} {C : Crv} (hC : IsC c C) (w : World) : Calls Try.prog 13 #[.int .i64 c] w fun e w' => ∃ v, e = .returned v ∧ RC w' C v ∧ Ext w w' := by
 have hz : (w.alloc (.cells #[.slice none 0 0, .slice none 0 0, .slice none 0 0, .slice none 0 0, .slice none 0 0, .int .i64 0] 31)).heap[w.heap.size]? = some (.cells #[.slice none 0 0, .slice none 0 0, .slice none 0 0, .slice none 0 0, .slice none 0 0, .int .i64 0] 31 (0, 0)) := heap_alloc_new w _
 rcases hC with ⟨rfl, rfl⟩ | ⟨rfl, rfl⟩
 · go_enter Try.func13, Try.ntmps13
   go_upto_region 3 with fail
   refine Par.region_txt 11 [0, 1, 0, 7, 0, 31, 0, 127, 0, 511, 1023, 2047] [] (fun j f X => match j with
    | 0 => ∃ b, f 0 = .slice (some ⟨b, 0, none⟩) 4 4 ∧ RU X (some ⟨b, 0, none⟩) 4 p256p
    | 1 => ∃ A1 c1, f 1 = .slice A1 (digs 4294967296 (val 18446744073709551616 p256p)).length c1 ∧ OB X w.heap.size A1 c1 (digs 4294967296 (val 18446744073709551616 p256p))
    | 2 => ∃ b, f 2 = .slice (some ⟨b, 0, none⟩) 4 4 ∧ RU X (some ⟨b, 0, none⟩) 4 p256n
    | 3 => ∃ A1 c1, f 3 = .slice A1 (digs 4294967296 (val 18446744073709551616 p256n)).length c1 ∧ OB X w.heap.size A1 c1 (digs 4294967296 (val 18446744073709551616 p256n))
    | 4 => ∃ b, f 4 = .slice (some ⟨b, 0, none⟩) 4 4 ∧ RU X (some ⟨b, 0, none⟩) 4 p256b
    | 5 => ∃ A1 c1, f 5 = .slice A1 (digs 4294967296 (val 18446744073709551616 p256b)).length c1 ∧ OB X w.heap.size A1 c1 (digs 4294967296 (val 18446744073709551616 p256b))
    | 6 => ∃ b, f 6 = .slice (some ⟨b, 0, none⟩) 4 4 ∧ RU X (some ⟨b, 0, none⟩) 4 p256x
    | 7 => ∃ A1 c1, f 7 = .slice A1 (digs 4294967296 (val 18446744073709551616 p256x)).length c1 ∧ OB X w.heap.size A1 c1 (digs 4294967296 (val 18446744073709551616 p256x))
    | 8 => ∃ b, f 8 = .slice (some ⟨b, 0, none⟩) 4 4 ∧ RU X (some ⟨b, 0, none⟩) 4 p256y
    | 9 => ∃ A1 c1, f 9 = .slice A1 (digs 4294967296 (val 18446744073709551616 p256y)).length c1 ∧ OB X w.heap.size A1 c1 (digs 4294967296 (val 18446744073709551616 p256y))
    | 10 => f 10 = .agg #[f 1, f 3, f 5, f 7, f 9, .int .i64 32]
    | _ => True) (by kernel_rfl) [(6, 0), (7, 1), (8, 2), (9, 3), (10, 4), (11, 5), (12, 6), (13, 7), (14, 8), (15, 9), (16, 10)] (by kernel_rfl) ?_
   refine Par.S 1 10 [(8, 2), (10, 4), (12, 6), (14, 8)] (fun f X hX hR K hK => ?_) ?_
   · simp only [yA, yB, yC, yD, yE]
     refine ⟨?_⟩
     go_simp
     exact hK.out _ (.slice (some ⟨X.heap.size, 0, none⟩) 4 4) _ (by simp only [yA, yB, yC, yD, yE]) (Ext.alloc _ _) trivial (fun Y hY => ⟨X.heap.size, rfl, ((RN.lits X p256p ⟨by decide, by decide⟩).mono (fun b hb => by rw [World.size_alloc]; exact hb.2)).up hY⟩)
   refine Par.c0 2 9 (fun f => #[f 0]) (F' := 19) (fun f X hX hR => ?_) ?_
   · obtain ⟨b0, (e0 : f 0 = _), h0⟩ := hR.out 0 rfl
     simp only [e0]
     refine (from_any _ (some ⟨b0, 0, none⟩) 4 p256p X h0 (fun _ hb => hb) (by decide)).mono ?_
     rintro e w2 ⟨A1, c1, rfl, hO, hB⟩
     exact ⟨(.slice A1 (digs 4294967296 (val 18446744073709551616 p256p)).length c1), rfl, hB, fun Y hY => ⟨A1, c1, rfl, (hO.mono (Nat.le_trans (Ext.alloc w _).bsize hX.bsize)).below hY (Nat.le_refl _)⟩⟩
   refine Par.S 3 8 [(6, 0), (7, 1), (10, 4), (12, 6), (14, 8)] (fun f X hX hR K hK => ?_) ?_
   · simp only [yA, yB, yC, yD, yE]
     refine ⟨?_⟩
     go_simp
     exact hK.out _ (.slice (some ⟨X.heap.size, 0, none⟩) 4 4) _ (by simp only [yA, yB, yC, yD, yE]) (Ext.alloc _ _) trivial (fun Y hY => ⟨X.heap.size, rfl, ((RN.lits X p256n ⟨by decide, by decide⟩).mono (fun b hb => by rw [World.size_alloc]; exact hb.2)).up hY⟩)
   refine Par.c0 4 7 (fun f => #[f 2]) (F' := 19) (fun f X hX hR => ?_) ?_
   · obtain ⟨b2, (e2 : f 2 = _), h2⟩ := hR.out 2 rfl
     simp only [e2]
     refine (from_any _ (some ⟨b2, 0, none⟩) 4 p256n X h2 (fun _ hb => hb) (by decide)).mono ?_
     rintro e w2 ⟨A1, c1, rfl, hO, hB⟩
     exact ⟨(.slice A1 (digs 4294967296 (val 18446744073709551616 p256n)).length c1), rfl, hB, fun Y hY => ⟨A1, c1, rfl, (hO.mono (Nat.le_trans (Ext.alloc w _).bsize hX.bsize)).below hY (Nat.le_refl _)⟩⟩
   refine Par.S 5 6 [(6, 0), (7, 1), (8, 2), (9, 3), (12, 6), (14, 8)] (fun f X hX hR K hK => ?_) ?_
   · simp only [yA, yB, yC, yD, yE]
     refine ⟨?_⟩
     go_simp
     exact hK.out _ (.slice (some ⟨X.heap.size, 0, none⟩) 4 4) _ (by simp only [yA, yB, yC, yD, yE]) (Ext.alloc _ _) trivial (fun Y hY => ⟨X.heap.size, rfl, ((RN.lits X p256b ⟨by decide, by decide⟩).mono (fun b hb => by rw [World.size_alloc]; exact hb.2)).up hY⟩)
   refine Par.c0 6 5 (fun f => #[f 4]) (F' := 19) (fun f X hX hR => ?_) ?_
   · obtain ⟨b4, (e4 : f 4 = _), h4⟩ := hR.out 4 rfl
     simp only [e4]
     refine (from_any _ (some ⟨b4, 0, none⟩) 4 p256b X h4 (fun _ hb => hb) (by decide)).mono ?_
     rintro e w2 ⟨A1, c1, rfl, hO, hB⟩
     exact ⟨(.slice A1 (digs 4294967296 (val 18446744073709551616 p256b)).length c1), rfl, hB, fun Y hY => ⟨A1, c1, rfl, (hO.mono (Nat.le_trans (Ext.alloc w _).bsize hX.bsize)).below hY (Nat.le_refl _)⟩⟩
   refine Par.S 7 4 [(6, 0), (7, 1), (8, 2), (9, 3), (10, 4), (11, 5), (14, 8)] (fun f X hX hR K hK => ?_) ?_
   · simp only [yA, yB, yC, yD, yE]
     refine ⟨?_⟩
     go_simp
     exact hK.out _ (.slice (some ⟨X.heap.size, 0, none⟩) 4 4) _ (by simp only [yA, yB, yC, yD, yE]) (Ext.alloc _ _) trivial (fun Y hY => ⟨X.heap.size, rfl, ((RN.lits X p256x ⟨by decide, by decide⟩).mono (fun b hb => by rw [World.size_alloc]; exact hb.2)).up hY⟩)
   refine Par.c0 8 3 (fun f => #[f 6]) (F' := 19) (fun f X hX hR => ?_) ?_
   · obtain ⟨b6, (e6 : f 6 = _), h6⟩ := hR.out 6 rfl
     simp only [e6]
     refine (from_any _ (some ⟨b6, 0, none⟩) 4 p256x X h6 (fun _ hb => hb) (by decide)).mono ?_
     rintro e w2 ⟨A1, c1, rfl, hO, hB⟩
     exact ⟨(.slice A1 (digs 4294967296 (val 18446744073709551616 p256x)).length c1), rfl, hB, fun Y hY => ⟨A1, c1, rfl, (hO.mono (Nat.le_trans (Ext.alloc w _).bsize hX.bsize)).below hY (Nat.le_refl _)⟩⟩
   refine Par.S 9 2 [(6, 0), (7, 1), (8, 2), (9, 3), (10, 4), (11, 5), (12, 6), (13, 7)] (fun f X hX hR K hK => ?_) ?_
   · simp only [yA, yB, yC, yD, yE]
     refine ⟨?_⟩
     go_simp
     exact hK.out _ (.slice (some ⟨X.heap.size, 0, none⟩) 4 4) _ (by simp only [yA, yB, yC, yD, yE]) (Ext.alloc _ _) trivial (fun Y hY => ⟨X.heap.size, rfl, ((RN.lits X p256y ⟨by decide, by decide⟩).mono (fun b hb => by rw [World.size_alloc]; exact hb.2)).up hY⟩)
   refine Par.c0 10 1 (fun f => #[f 8]) (F' := 19) (fun f X hX hR => ?_) ?_
   · obtain ⟨b8, (e8 : f 8 = _), h8⟩ := hR.out 8 rfl
     simp only [e8]
     refine (from_any _ (some ⟨b8, 0, none⟩) 4 p256y X h8 (fun _ hb => hb) (by decide)).mono ?_
     rintro e w2 ⟨A1, c1, rfl, hO, hB⟩
     exact ⟨(.slice A1 (digs 4294967296 (val 18446744073709551616 p256y)).length c1), rfl, hB, fun Y hY => ⟨A1, c1, rfl, (hO.mono (Nat.le_trans (Ext.alloc w _).bsize hX.bsize)).below hY (Nat.le_refl _)⟩⟩
   refine Par.S 11 0 [(6, 0), (7, 1), (8, 2), (9, 3), (10, 4), (11, 5), (12, 6), (13, 7), (14, 8), (15, 9)] (fun f X hX hR K hK => ?_) ?_
   · obtain ⟨A1, c1, (e1 : f 1 = _), o1⟩ := hR.out 1 rfl
     obtain ⟨A3, c3, (e3 : f 3 = _), o3⟩ := hR.out 3 rfl
     obtain ⟨A5, c5, (e5 : f 5 = _), o5⟩ := hR.out 5 rfl
     obtain ⟨A7, c7, (e7 : f 7 = _), o7⟩ := hR.out 7 rfl
     obtain ⟨A9, c9, (e9 : f 9 = _), o9⟩ := hR.out 9 rfl
     simp only [yA, yB, yC, yD, yE, e1, e3, e5, e7, e9]
     refine ⟨?_⟩
     go_simp
     exact hK.out _ (.agg #[f 1, f 3, f 5, f 7, f 9, .int .i64 32]) _ (by simp only [yA, yB, yC, yD, yE, e1, e3, e5, e7, e9]) (Ext.refl _) trivial (fun _ _ => rfl)
   refine Par.AllOps.fin ⟨fun f X hX hR hal hap => ?_⟩
   obtain ⟨b0, (e0 : f 0 = _), h0⟩ := hR 0 (by decide)
   obtain ⟨A1, c1, (e1 : f 1 = _), o1⟩ := hR 1 (by decide)
   obtain ⟨b2, (e2 : f 2 = _), h2⟩ := hR 2 (by decide)
   obtain ⟨A3, c3, (e3 : f 3 = _), o3⟩ := hR 3 (by decide)
   obtain ⟨b4, (e4 : f 4 = _), h4⟩ := hR 4 (by decide)
   obtain ⟨A5, c5, (e5 : f 5 = _), o5⟩ := hR 5 (by decide)
   obtain ⟨b6, (e6 : f 6 = _), h6⟩ := hR 6 (by decide)
   obtain ⟨A7, c7, (e7 : f 7 = _), o7⟩ := hR 7 (by decide)
   obtain ⟨b8, (e8 : f 8 = _), h8⟩ := hR 8 (by decide)
   obtain ⟨A9, c9, (e9 : f 9 = _), o9⟩ := hR 9 (by decide)
   have e10 : f 10 = .agg #[f 1, f 3, f 5, f 7, f 9, .int .i64 32] := hR 10 (by decide)
   simp only [yA, yB, yD, yE, e0, e1, e2, e3, e4, e5, e6, e7, e8, e9, e10]
   clear hR hal hap e0 e1 e2 e3 e4 e5 e6 e7 e8 e9 e10
   refine Par.Chain.next (fun K hK => ⟨Par.want (by kernel_rfl) (wp_storeV 31 (.tmp 2) (.tmp 16) rfl rfl rfl rfl (hX.at_ hz) infoRC rfl (rc_one _ _ _ _ _ _ _ _ _ _ _ _ _ _ _ _) (fun Y1 g1 g2 g3 => hK.out _ _ ?_))⟩)
   refine Par.Chain.done ?_
   go_wp2
   refine end_rc rfl rfl rfl g1 ⟨_, rfl, ⟨A1, A3, A5, A7, A9, c1, c3, c5, c7, c9, rfl, (o1.just g2 (hX.at_ hz) (by decide)).ru, (o3.just g2 (hX.at_ hz) (by decide)).ru, (o5.just g2 (hX.at_ hz) (by decide)).ru, (o7.just g2 (hX.at_ hz) (by decide)).ru, (o9.just g2 (hX.at_ hz) (by decide)).ru⟩, g2.ext ((Ext.alloc w _).trans hX) (Nat.le_refl _)⟩
 · go_enter Try.func13, Try.ntmps13
   go_upto_region 5 with fail
   refine Par.region_txt 11 [0, 1, 0, 7, 0, 31, 0, 127, 0, 511, 1023, 2047] [] (fun j f X => match j with
    | 0 => ∃ b, f 0 = .slice (some ⟨b, 0, none⟩) 6 6 ∧ RU X (some ⟨b, 0, none⟩) 6 p384p
    | 1 => ∃ A1 c1, f 1 = .slice A1 (digs 4294967296 (val 18446744073709551616 p384p)).length c1 ∧ OB X w.heap.size A1 c1 (digs 4294967296 (val 18446744073709551616 p384p))
    | 2 => ∃ b, f 2 = .slice (some ⟨b, 0, none⟩) 6 6 ∧ RU X (some ⟨b, 0, none⟩) 6 p384n
    | 3 => ∃ A1 c1, f 3 = .slice A1 (digs 4294967296 (val 18446744073709551616 p384n)).length c1 ∧ OB X w.heap.size A1 c1 (digs 4294967296 (val 18446744073709551616 p384n))
    | 4 => ∃ b, f 4 = .slice (some ⟨b, 0, none⟩) 6 6 ∧ RU X (some ⟨b, 0, none⟩) 6 p384b
    | 5 => ∃ A1 c1, f 5 = .slice A1 (digs 4294967296 (val 18446744073709551616 p384b)).length c1 ∧ OB X w.heap.size A1 c1 (digs 4294967296 (val 18446744073709551616 p384b))
    | 6 => ∃ b, f 6 = .slice (some ⟨b, 0, none⟩) 6 6 ∧ RU X (some ⟨b, 0, none⟩) 6 p384x
    | 7 => ∃ A1 c1, f 7 = .slice A1 (digs 4294967296 (val 18446744073709551616 p384x)).length c1 ∧ OB X w.heap.size A1 c1 (digs 4294967296 (val 18446744073709551616 p384x))
    | 8 => ∃ b, f 8 = .slice (some ⟨b, 0, none⟩) 6 6 ∧ RU X (some ⟨b, 0, none⟩) 6 p384y
    | 9 => ∃ A1 c1, f 9 = .slice A1 (digs 4294967296 (val 18446744073709551616 p384y)).length c1 ∧ OB X w.heap.size A1 c1 (digs 4294967296 (val 18446744073709551616 p384y))
    | 10 => f 10 = .agg #[f 1, f 3, f 5, f 7, f 9, .int .i64 48]
    | _ => True) (by kernel_rfl) [(19, 0), (20, 1), (21, 2), (22, 3), (23, 4), (24, 5), (25, 6), (26, 7), (27, 8), (28, 9), (29, 10)] (by kernel_rfl) ?_
   refine Par.S 1 10 [(21, 2), (23, 4), (25, 6), (27, 8)] (fun f X hX hR K hK => ?_) ?_
   · simp only [yA, yB, yC, yD, yE]
     refine ⟨?_⟩
     go_simp
     exact hK.out _ (.slice (some ⟨X.heap.size, 0, none⟩) 6 6) _ (by simp only [yA, yB, yC, yD, yE]) (Ext.alloc _ _) trivial (fun Y hY => ⟨X.heap.size, rfl, ((RN.lits X p384p ⟨by decide, by decide⟩).mono (fun b hb => by rw [World.size_alloc]; exact hb.2)).up hY⟩)
   refine Par.c0 2 9 (fun f => #[f 0]) (F' := 19) (fun f X hX hR => ?_) ?_
   · obtain ⟨b0, (e0 : f 0 = _), h0⟩ := hR.out 0 rfl
     simp only [e0]
     refine (from_any _ (some ⟨b0, 0, none⟩) 6 p384p X h0 (fun _ hb => hb) (by decide)).mono ?_
     rintro e w2 ⟨A1, c1, rfl, hO, hB⟩
     exact ⟨(.slice A1 (digs 4294967296 (val 18446744073709551616 p384p)).length c1), rfl, hB, fun Y hY => ⟨A1, c1, rfl, (hO.mono (Nat.le_trans (Ext.alloc w _).bsize hX.bsize)).below hY (Nat.le_refl _)⟩⟩
   refine Par.S 3 8 [(19, 0), (20, 1), (23, 4), (25, 6), (27, 8)] (fun f X hX hR K hK => ?_) ?_
   · simp only [yA, yB, yC, yD, yE]
     refine ⟨?_⟩
     go_simp
     exact hK.out _ (.slice (some ⟨X.heap.size, 0, none⟩) 6 6) _ (by simp only [yA, yB, yC, yD, yE]) (Ext.alloc _ _) trivial (fun Y hY => ⟨X.heap.size, rfl, ((RN.lits X p384n ⟨by decide, by decide⟩).mono (fun b hb => by rw [World.size_alloc]; exact hb.2)).up hY⟩)
   refine Par.c0 4 7 (fun f => #[f 2]) (F' := 19) (fun f X hX hR => ?_) ?_
   · obtain ⟨b2, (e2 : f 2 = _), h2⟩ := hR.out 2 rfl
     simp only [e2]
     refine (from_any _ (some ⟨b2, 0, none⟩) 6 p384n X h2 (fun _ hb => hb) (by decide)).mono ?_
     rintro e w2 ⟨A1, c1, rfl, hO, hB⟩
     exact ⟨(.slice A1 (digs 4294967296 (val 18446744073709551616 p384n)).length c1), rfl, hB, fun Y hY => ⟨A1, c1, rfl, (hO.mono (Nat.le_trans (Ext.alloc w _).bsize hX.bsize)).below hY (Nat.le_refl _)⟩⟩
   refine Par.S 5 6 [(19, 0), (20, 1), (21, 2), (22, 3), (25, 6), (27, 8)] (fun f X hX hR K hK => ?_) ?_
   · simp only [yA, yB, yC, yD, yE]
     refine ⟨?_⟩
     go_simp
     exact hK.out _ (.slice (some ⟨X.heap.size, 0, none⟩) 6 6) _ (by simp only [yA, yB, yC, yD, yE]) (Ext.alloc _ _) trivial (fun Y hY => ⟨X.heap.size, rfl, ((RN.lits X p384b ⟨by decide, by decide⟩).mono (fun b hb => by rw [World.size_alloc]; exact hb.2)).up hY⟩)
   refine Par.c0 6 5 (fun f => #[f 4]) (F' := 19) (fun f X hX hR => ?_) ?_
   · obtain ⟨b4, (e4 : f 4 = _), h4⟩ := hR.out 4 rfl
     simp only [e4]
     refine (from_any _ (some ⟨b4, 0, none⟩) 6 p384b X h4 (fun _ hb => hb) (by decide)).mono ?_
     rintro e w2 ⟨A1, c1, rfl, hO, hB⟩
     exact ⟨(.slice A1 (digs 4294967296 (val 18446744073709551616 p384b)).length c1), rfl, hB, fun Y hY => ⟨A1, c1, rfl, (hO.mono (Nat.le_trans (Ext.alloc w _).bsize hX.bsize)).below hY (Nat.le_refl _)⟩⟩
   refine Par.S 7 4 [(19, 0), (20, 1), (21, 2), (22, 3), (23, 4), (24, 5), (27, 8)] (fun f X hX hR K hK => ?_) ?_
   · simp only [yA, yB, yC, yD, yE]
     refine ⟨?_⟩
     go_simp
     exact hK.out _ (.slice (some ⟨X.heap.size, 0, none⟩) 6 6) _ (by simp only [yA, yB, yC, yD, yE]) (Ext.alloc _ _) trivial (fun Y hY => ⟨X.heap.size, rfl, ((RN.lits X p384x ⟨by decide, by decide⟩).mono (fun b hb => by rw [World.size_alloc]; exact hb.2)).up hY⟩)
   refine Par.c0 8 3 (fun f => #[f 6]) (F' := 19) (fun f X hX hR => ?_) ?_
   · obtain ⟨b6, (e6 : f 6 = _), h6⟩ := hR.out 6 rfl
     simp only [e6]
     refine (from_any _ (some ⟨b6, 0, none⟩) 6 p384x X h6 (fun _ hb => hb) (by decide)).mono ?_
     rintro e w2 ⟨A1, c1, rfl, hO, hB⟩
     exact ⟨(.slice A1 (digs 4294967296 (val 18446744073709551616 p384x)).length c1), rfl, hB, fun Y hY => ⟨A1, c1, rfl, (hO.mono (Nat.le_trans (Ext.alloc w _).bsize hX.bsize)).below hY (Nat.le_refl _)⟩⟩
   refine Par.S 9 2 [(19, 0), (20, 1), (21, 2), (22, 3), (23, 4), (24, 5), (25, 6), (26, 7)] (fun f X hX hR K hK => ?_) ?_
   · simp only [yA, yB, yC, yD, yE]
     refine ⟨?_⟩
     go_simp
     exact hK.out _ (.slice (some ⟨X.heap.size, 0, none⟩) 6 6) _ (by simp only [yA, yB, yC, yD, yE]) (Ext.alloc _ _) trivial (fun Y hY => ⟨X.heap.size, rfl, ((RN.lits X p384y ⟨by decide, by decide⟩).mono (fun b hb => by rw [World.size_alloc]; exact hb.2)).up hY⟩)
   refine Par.c0 10 1 (fun f => #[f 8]) (F' := 19) (fun f X hX hR => ?_) ?_
   · obtain ⟨b8, (e8 : f 8 = _), h8⟩ := hR.out 8 rfl
     simp only [e8]
     refine (from_any _ (some ⟨b8, 0, none⟩) 6 p384y X h8 (fun _ hb => hb) (by decide)).mono ?_
     rintro e w2 ⟨A1, c1, rfl, hO, hB⟩
     exact ⟨(.slice A1 (digs 4294967296 (val 18446744073709551616 p384y)).length c1), rfl, hB, fun Y hY => ⟨A1, c1, rfl, (hO.mono (Nat.le_trans (Ext.alloc w _).bsize hX.bsize)).below hY (Nat.le_refl _)⟩⟩
   refine Par.S 11 0 [(19, 0), (20, 1), (21, 2), (22, 3), (23, 4), (24, 5), (25, 6), (26, 7), (27, 8), (28, 9)] (fun f X hX hR K hK => ?_) ?_
   · obtain ⟨A1, c1, (e1 : f 1 = _), o1⟩ := hR.out 1 rfl
     obtain ⟨A3, c3, (e3 : f 3 = _), o3⟩ := hR.out 3 rfl
     obtain ⟨A5, c5, (e5 : f 5 = _), o5⟩ := hR.out 5 rfl
     obtain ⟨A7, c7, (e7 : f 7 = _), o7⟩ := hR.out 7 rfl
     obtain ⟨A9, c9, (e9 : f 9 = _), o9⟩ := hR.out 9 rfl
     simp only [yA, yB, yC, yD, yE, e1, e3, e5, e7, e9]
     refine ⟨?_⟩
     go_simp
     exact hK.out _ (.agg #[f 1, f 3, f 5, f 7, f 9, .int .i64 48]) _ (by simp only [yA, yB, yC, yD, yE, e1, e3, e5, e7, e9]) (Ext.refl _) trivial (fun _ _ => rfl)
   refine Par.AllOps.fin ⟨fun f X hX hR hal hap => ?_⟩
   obtain ⟨b0, (e0 : f 0 = _), h0⟩ := hR 0 (by decide)
   obtain ⟨A1, c1, (e1 : f 1 = _), o1⟩ := hR 1 (by decide)
   obtain ⟨b2, (e2 : f 2 = _), h2⟩ := hR 2 (by decide)
   obtain ⟨A3, c3, (e3 : f 3 = _), o3⟩ := hR 3 (by decide)
   obtain ⟨b4, (e4 : f 4 = _), h4⟩ := hR 4 (by decide)
   obtain ⟨A5, c5, (e5 : f 5 = _), o5⟩ := hR 5 (by decide)
   obtain ⟨b6, (e6 : f 6 = _), h6⟩ := hR 6 (by decide)
   obtain ⟨A7, c7, (e7 : f 7 = _), o7⟩ := hR 7 (by decide)
   obtain ⟨b8, (e8 : f 8 = _), h8⟩ := hR 8 (by decide)
   obtain ⟨A9, c9, (e9 : f 9 = _), o9⟩ := hR 9 (by decide)
   have e10 : f 10 = .agg #[f 1, f 3, f 5, f 7, f 9, .int .i64 48] := hR 10 (by decide)
   simp only [yA, yB, yD, yE, e0, e1, e2, e3, e4, e5, e6, e7, e8, e9, e10]
   clear hR hal hap e0 e1 e2 e3 e4 e5 e6 e7 e8 e9 e10
   refine Par.Chain.next (fun K hK => ⟨Par.want (by kernel_rfl) (wp_storeV 31 (.tmp 2) (.tmp 29) rfl rfl rfl rfl (hX.at_ hz) infoRC rfl (rc_one _ _ _ _ _ _ _ _ _ _ _ _ _ _ _ _) (fun Y1 g1 g2 g3 => hK.out _ _ ?_))⟩)
   refine Par.Chain.done ?_
   go_wp2
   refine end_rc rfl rfl rfl g1 ⟨_, rfl, ⟨A1, A3, A5, A7, A9, c1, c3, c5, c7, c9, rfl, (o1.just g2 (hX.at_ hz) (by decide)).ru, (o3.just g2 (hX.at_ hz) (by decide)).ru, (o5.just g2 (hX.at_ hz) (by decide)).ru, (o7.just g2 (hX.at_ hz) (by decide)).ru, (o9.just g2 (hX.at_ hz) (by decide)).ru⟩, g2.ext ((Ext.alloc w _).trans hX) (Nat.le_refl _)⟩
set_option maxRecDepth 100000 in
theorem refOf_none {c : Int} (h1 : c ≠ 1) (h2 : c ≠ 2) (w : World) : Calls Try.prog 13 #[.int .i64 c] w fun e w' => ∃ v, e = .returned v ∧ RC w' c0 v ∧ Ext w w' := by
 have e1 : (c == 1) = false := by simpa using h1
 have e2 : (c == 2) = false := by simpa using h2
 have hn : ∀ X : World, RU X none 0 (digs 4294967296 0) := fun X => by rw [digs_zero]; exact RN.nil_ X _
 have hd : (digs 4294967296 0).length = 0 := by rw [digs_zero]; rfl
 have hc : ∀ X : World, RC X c0 (.agg #[.slice none 0 0, .slice none 0 0, .slice none 0 0, .slice none 0 0, .slice none 0 0, .int .i64 0]) := fun X => by
  refine ⟨none, none, none, none, none, 0, 0, 0, 0, 0, ?_, hn X, hn X, hn X, hn X, hn X⟩
  show _ = Value.agg #[.slice none (digs 4294967296 0).length 0, .slice none (digs 4294967296 0).length 0, .slice none (digs 4294967296 0).length 0, .slice none (digs 4294967296 0).length 0, .slice none (digs 4294967296 0).length 0, .int .i64 0]
  rw [hd]
 have Hc := Lib.hid hc
 clear hc hn hd
 go_enter Try.func13, Try.ntmps13
 go_wp2
 refine end_rc rfl rfl rfl (heap_alloc_new w _) ⟨_, rfl, Hc.out _, Ext.alloc _ _⟩
end Go.Proofs.Ytldhmjfjbalakaa

namespace Go.Proofs.Ytldhmjfjbalakaa
open Go.RowKit

def RPt (w : World) (base : Nat) (v : Value) : Option (Nat × Nat) → Prop
 | none => v = infV
 | some p => ∃ A c A' c', v = .agg #[.bool false, .slice A (digs 4294967296 p.1).length c, .slice A' (digs 4294967296 p.2).length c'] ∧ OB w base A c (digs 4294967296 p.1) ∧ OB w base A' c' (digs 4294967296 p.2)
theorem end_rp {fn : Func} {R : Ending → World → Prop} {a : Act} {W : World} {p u : Tmp} {g : Nat} {ty : TypeId} {fr : Nat × Nat} {x0 x1 x2 v : Value} (hr : fn.results = #[.cell p 34, .tmp u]) (hp : a.tmps.getD p undef = .pointer (some ⟨g, 0, none⟩)) (hu : a.tmps.getD u undef = v) (hd : a.defers = [])
 (hg : W.heap[g]? = some (.cells #[x0, x1, x2] ty fr)) (hR : R (.returned (.tuple #[.agg #[x0, x1, x2], v])) W) : bodyPost Try.prog fn R .ret a W := by
 refine bodyPost_ret (v := .tuple #[.agg #[x0, x1, x2], v]) ?_ hd hR
 rw [results_cell_tmp hr, hp]
 have h1 : (asAddr (.pointer (some ⟨g, 0, none⟩)) : Sem Addr).run Try.prog W = .ok ⟨g, 0, none⟩ W := rfl
 rw [h1, Result.andThen_ok, run_loadVar_row W g ty 34 #[x0, x1, x2] fr _ hg Try.underlying34 rfl infoRP, Result.andThen_ok, hu]
set_option maxRecDepth 100000 in
theorem refDecode_zero {v : Value} (u : Value) (w : World) (hc : RC w c0 v) : Calls Try.prog 28 #[v, u] w fun e w' => e = .returned (.tuple #[infV, .bool false]) ∧ Ext w w' := by
 obtain ⟨Ap, An, Ab, Ax, Ay, cp, cn, cb, cx, cy, rfl, h1, h2, h3, h4, h5⟩ := hc
 rw [show c0.size = 0 by rfl]
 go_enter Try.func28, Try.ntmps28
 go_wp2
 exact end_rp rfl rfl rfl rfl (by have := heap_alloc_new (w.alloc (.cells #[.slice Ap (digs 4294967296 c0.M).length cp, .slice An (digs 4294967296 (val 18446744073709551616 c0.nl)).length cn, .slice Ab (digs 4294967296 c0.bb).length cb, .slice Ax (digs 4294967296 (val 18446744073709551616 c0.xl)).length cx, .slice Ay (digs 4294967296 (val 18446744073709551616 c0.yl)).length cy, .int .i64 0] 31)) (.cells #[.bool true, .slice none 0 0, .slice none 0 0] 34); rwa [World.size_alloc] at this) ⟨rfl, (Ext.alloc _ _).trans (Ext.alloc _ _)⟩

theorem two_at (w : World) (o1 o2 : Obj) : ((w.alloc o1).alloc o2).heap[w.heap.size]? = some o1 ∧ ((w.alloc o1).alloc o2).heap[w.heap.size + 1]? = some o2 ∧ ((w.alloc o1).alloc o2).heap.size = w.heap.size + 2 :=
 ⟨(Ext.alloc _ _).at_ (heap_alloc_new w _), by have := heap_alloc_new (w.alloc o1) o2; rwa [World.size_alloc] at this, by simp⟩
set_option maxRecDepth 100000 in
set_option maxHeartbeats 8000000 in
theorem refDecode_any {C : Crv} {v : Value} (hF : C.Fine) (P : Nat → Prop) (A : Option Addr) (cap : Nat) (bs : List Nat) (w : World) (hc : RC w C v) (h : RB w P A cap bs) (hP : ∀ b, P b → b < w.heap.size) :
 Calls Try.prog 28 #[v, .slice A bs.length cap] w fun e w' => ∃ u, e = .returned (.tuple #[u, .bool (decC C bs).isSome]) ∧ RPt w' w.heap.size u ((decC C bs).getD none) ∧ Ext w w' := by
 have hcv := hc
 obtain ⟨Ap, An, Ab, Ax, Ay, cp, cn, cb, cx, cy, rfl, hc1, hc2, hc3, hc4, hc5⟩ := hc
 obtain ⟨s, hs⟩ : ∃ s, C.size = s := ⟨_, rfl⟩
 have s1 : 32 ≤ s := by rw [← hs]; exact hF.pos
 have s2 : s ≤ 48 := by rw [← hs]; exact hF.small
 have hs0 : ((s : Int) == 0) = false := by simp; omega
 obtain ⟨r, hr⟩ : ∃ r, decC C bs = r := ⟨_, rfl⟩
 rw [hr, hs]
 rw [hs] at hcv
 have Hr := Lib.hid hr
 have Hs := Lib.hid hs
 have HF := Lib.hid hF
 have Hcv := Lib.hid hcv
 obtain ⟨l1, l2, l3⟩ := h.cap
 obtain ⟨n, hn⟩ : ∃ n, bs.length = n := ⟨_, rfl⟩
 rw [hn] at l1 l3
 rw [hn]
 have Hn := Lib.hid hn
 have w1 : IntKind.i64.wrap (2 * (s : Int)) = 2 * s := IntWalk.i64_in _ (by omega)
 have w2 : IntKind.i64.wrap (2 * (s : Int) + 1) = 2 * s + 1 := IntWalk.i64_in _ (by omega)
 clear hr hs hF hn hcv
 by_cases h1 : n = 1
 · subst h1
   obtain ⟨x, rfl⟩ : ∃ x, bs = [x] := by
    have := Hn.out
    match bs, this with
    | [x], _ => exact ⟨x, rfl⟩
   obtain ⟨ad, rfl, hPb, hc, hx⟩ := h.at_ (i := 0) (by simp)
   have hc0 : w.cell? ad = some (.int .u8 (x : Int)) := by rwa [show ad.add 0 = ad by simp [Addr.add]] at hc
   have hlt := hP _ hPb
   have hc2' := ((Ext.alloc w (.cells #[.slice Ap (digs 4294967296 C.M).length cp, .slice An (digs 4294967296 (val 18446744073709551616 C.nl)).length cn, .slice Ab (digs 4294967296 C.bb).length cb, .slice Ax (digs 4294967296 (val 18446744073709551616 C.xl)).length cx, .slice Ay (digs 4294967296 (val 18446744073709551616 C.yl)).length cy, .int .i64 (s : Int)] 31)).trans (Ext.alloc _ (.cells #[.bool false, .slice none 0 0, .slice none 0 0] 34))).cell hc0
   by_cases hx0 : x = 0
   · subst hx0
     obtain rfl : r = some none := by rw [← Hr.out]; simp [decC]
     go_enter Try.func28, Try.ntmps28
     go_wp2
     exact end_rp rfl rfl rfl rfl (by have := heap_alloc_new (w.alloc (.cells #[.slice Ap (digs 4294967296 C.M).length cp, .slice An (digs 4294967296 (val 18446744073709551616 C.nl)).length cn, .slice Ab (digs 4294967296 C.bb).length cb, .slice Ax (digs 4294967296 (val 18446744073709551616 C.xl)).length cx, .slice Ay (digs 4294967296 (val 18446744073709551616 C.yl)).length cy, .int .i64 (s : Int)] 31)) (.cells #[.bool true, .slice none 0 0, .slice none 0 0] 34); rwa [World.size_alloc] at this) ⟨infV, rfl, rfl, (Ext.alloc _ _).trans (Ext.alloc _ _)⟩
   · have hx1 : ((x : Int) == 0) = false := by simp; omega
     have hx2 : ((1 : Int) != 2 * (s : Int) + 1) = true := by simp; omega
     obtain rfl : r = none := by rw [← Hr.out]; simp [decC, hx0]; intro h; have := Hs.out; omega
     go_enter Try.func28, Try.ntmps28
     go_wp2
     exact end_rp rfl rfl rfl rfl (by have := heap_alloc_new (w.alloc (.cells #[.slice Ap (digs 4294967296 C.M).length cp, .slice An (digs 4294967296 (val 18446744073709551616 C.nl)).length cn, .slice Ab (digs 4294967296 C.bb).length cb, .slice Ax (digs 4294967296 (val 18446744073709551616 C.xl)).length cx, .slice Ay (digs 4294967296 (val 18446744073709551616 C.yl)).length cy, .int .i64 (s : Int)] 31)) (.cells #[.bool true, .slice none 0 0, .slice none 0 0] 34); rwa [World.size_alloc] at this) ⟨infV, rfl, rfl, (Ext.alloc _ _).trans (Ext.alloc _ _)⟩
 · have hn1 : ((n : Int) == 1) = false := by simp; omega
   by_cases h2 : n = 1 + 2 * s
   · obtain ⟨ad, rfl, hPb, hc, hx⟩ := h.at_ (i := 0) (by rw [Hn.out]; omega)
     have hn2 : ((n : Int) != 2 * (s : Int) + 1) = false := by simp; omega
     have hn3 : 0 < n := by omega
     obtain ⟨x, hxe⟩ : ∃ x, bs[0]'(by rw [Hn.out]; omega) = x := ⟨_, rfl⟩
     rw [hxe] at hc hx
     have hdx : dg bs 0 = x := by rw [dg, getD_eq' (by rw [Hn.out]; omega)]; exact hxe
     have hc0 : w.cell? ad = some (.int .u8 (x : Int)) := by rwa [show ad.add 0 = ad by simp [Addr.add]] at hc
     have hlt := hP _ hPb
     have hc2' := ((Ext.alloc w (.cells #[.slice Ap (digs 4294967296 C.M).length cp, .slice An (digs 4294967296 (val 18446744073709551616 C.nl)).length cn, .slice Ab (digs 4294967296 C.bb).length cb, .slice Ax (digs 4294967296 (val 18446744073709551616 C.xl)).length cx, .slice Ay (digs 4294967296 (val 18446744073709551616 C.yl)).length cy, .int .i64 (s : Int)] 31)).trans (Ext.alloc _ (.cells #[.bool false, .slice none 0 0, .slice none 0 0] 34))).cell hc0
     have Hdx := Lib.hid hdx
     have H2 := Lib.hid h2
     clear hxe hdx h2 hc
     by_cases hx4 : x = 4
     · have hx1 : ((x : Int) != 4) = false := by simp; omega
       obtain ⟨cvv, hcvv⟩ : ∃ cvv, cvv = Value.agg #[.slice Ap (digs 4294967296 C.M).length cp, .slice An (digs 4294967296 (val 18446744073709551616 C.nl)).length cn, .slice Ab (digs 4294967296 C.bb).length cb, .slice Ax (digs 4294967296 (val 18446744073709551616 C.xl)).length cx, .slice Ay (digs 4294967296 (val 18446744073709551616 C.yl)).length cy, .int .i64 (s : Int)] := ⟨_, rfl⟩
       rw [← hcvv] at Hcv
       have HV := Lib.hid hcvv
       clear hcvv
       go_enter Try.func28, Try.ntmps28
       go_upto_region 7 with fail
       obtain ⟨W0, hW0⟩ : ∃ W0, W0 = (w.alloc (.cells #[.slice Ap (digs 4294967296 C.M).length cp, .slice An (digs 4294967296 (val 18446744073709551616 C.nl)).length cn, .slice Ab (digs 4294967296 C.bb).length cb, .slice Ax (digs 4294967296 (val 18446744073709551616 C.xl)).length cx, .slice Ay (digs 4294967296 (val 18446744073709551616 C.yl)).length cy, .int .i64 (s : Int)] 31)).alloc (.cells #[.bool false, .slice none 0 0, .slice none 0 0] 34) := ⟨_, rfl⟩
       rw [← hW0]
       obtain ⟨hcb, hrb, hz0⟩ := two_at w (.cells #[.slice Ap (digs 4294967296 C.M).length cp, .slice An (digs 4294967296 (val 18446744073709551616 C.nl)).length cn, .slice Ab (digs 4294967296 C.bb).length cb, .slice Ax (digs 4294967296 (val 18446744073709551616 C.xl)).length cx, .slice Ay (digs 4294967296 (val 18446744073709551616 C.yl)).length cy, .int .i64 (s : Int)] 31) (.cells #[.bool false, .slice none 0 0, .slice none 0 0] 34)
       have hW : Ext w W0 := by rw [hW0]; exact (Ext.alloc _ _).trans (Ext.alloc _ _)
       rw [← hW0] at hcb hrb hz0
       clear hW0 hc2'
       obtain ⟨q, hq⟩ : ∃ q, w.heap.size = q := ⟨_, rfl⟩
       rw [hq] at hcb hrb hz0 ⊢
       have Hq := Lib.hid hq
       have Hz0 := Lib.hid hz0
       clear hq hz0
       have hks : W0.cell? ⟨q, 5, none⟩ = some (.int .i64 (s : Int)) := blk_cell hcb 5
       obtain ⟨B1, hB1⟩ : ∃ B1, (bs.drop 1).take s = B1 := ⟨_, rfl⟩
       obtain ⟨B2, hB2⟩ : ∃ B2, bs.drop (1 + s) = B2 := ⟨_, rfl⟩
       have hlen1 : B1.length = s := by rw [← hB1, List.length_take, List.length_drop, Hn.out, H2.out]; omega
       have hlen2 : B2.length = s := by rw [← hB2, List.length_drop, Hn.out, H2.out]; omega
       have hr1 := Lib.hid (fun X (hX : Ext W0 X) => show RB X P (some ⟨ad.block, ad.off + 1, none⟩) (cap - 1) B1 by
        have := (h.below (hW.trans hX) hP).mid (k := 1) (m := 1 + s) (c' := cap - 1) (A' := some ⟨ad.block, ad.off + 1, none⟩) (by omega) (by rw [Hn.out, H2.out]; omega) (by have := H2.out; omega) (by unfold maxLen; omega) (fun _ => by simp [Addr.add])
        rw [Nat.add_sub_cancel_left, hB1] at this
        exact this)
       have hr2 := Lib.hid (fun X (hX : Ext W0 X) => show RB X P (some (ad.add (1 + s))) (cap - (1 + s)) B2 by
        have := (h.below (hW.trans hX) hP).mid (k := 1 + s) (m := bs.length) (c' := cap - (1 + s)) (A' := some (ad.add (1 + s))) (by rw [Hn.out, H2.out]; omega) (Nat.le_refl _) (by rw [Hn.out]; omega) (by unfold maxLen; omega) (fun _ => rfl)
        rw [List.take_of_length_le (by rw [List.length_drop]; omega), hB2] at this
        exact this)
       have hrr : decC C bs = if onB C.M C.bb (numOf B1) (numOf B2) = true then some (some (numOf B1, numOf B2)) else none := by
        rw [decC, if_neg (fun e => by have := Hn.out; rw [e] at this; simp at this; omega), if_pos ⟨by have := Hn.out; have := Hs.out; have := H2.out; omega, by have := Hdx.out; omega⟩, Hs.out, hB1, hB2]
       rw [Hr.out] at hrr
       have Hrr := Lib.hid hrr
       have L1 := Lib.hid hlen1
       have L2 := Lib.hid hlen2
       have HW := Lib.hid hW
       have w3 : IntKind.i64.wrap (1 + (s : Int)) = 1 + s := IntWalk.i64_in _ (by omega)
       have hPw : ∀ X : World, Ext W0 X → ∀ b, P b → b < X.heap.size := fun X hX b hb => Nat.lt_of_lt_of_le (hP b hb) (HW.out.trans hX).bsize
       have HPw := Lib.hid hPw
       have c1i : 1 + (s : Int) ≤ cap := by have := H2.out; omega
       have c0i : (1 : Int) ≤ 1 + (s : Int) := by omega
       have c4i : 1 + (s : Int) ≤ n := by have := H2.out; omega
       have c5i : (0 : Int) ≤ 1 + (s : Int) := by omega
       have c6 : ¬ cap = 1 := by have := H2.out; omega
       have c7 : ¬ cap = 1 + s := by have := H2.out; omega
       have c1 : 1 + s ≤ cap := by have := H2.out; omega
       have c2 : (1 + (s : Int)).toNat = 1 + s := by omega
       have c3 : n - (1 + s) = s := by have := H2.out; omega
       have c4 : 1 + s ≤ n := by have := H2.out; omega
       have Hqw := Lib.hid (fun X (hX : Ext W0 X) => show q ≤ X.heap.size by have := hX.bsize; have := Hz0.out; omega)
       clear hlen1 hlen2 hB1 hB2 hrr hW hPw
       refine Par.region_ext (by kernel_rfl) 14 [0, 0, 2, 6, 15, 31, 0, 0, 128, 384, 960, 2047, 4095, 0, 16383] [13] (fun j f X => match j with
        | 0 => f 0 = .slice (some ad) n cap
        | 1 => f 1 = .pointer (some ⟨q, 5, none⟩)
        | 2 => f 2 = .int .i64 (s : Int)
        | 3 => f 3 = .int .i64 (1 + (s : Int))
        | 4 => f 4 = .slice (some ⟨ad.block, ad.off + 1, none⟩) s (cap - 1)
        | 5 => ∃ A1 k1, f 5 = .slice A1 (digs 4294967296 (numOf B1)).length k1 ∧ OB X q A1 k1 (digs 4294967296 (numOf B1))
        | 6 => f 6 = .slice (some ad) n cap
        | 7 => f 7 = .pointer (some ⟨q, 5, none⟩)
        | 8 => f 8 = .int .i64 (s : Int)
        | 9 => f 9 = .int .i64 (1 + (s : Int))
        | 10 => f 10 = .slice (some (ad.add (1 + s))) s (cap - (1 + s))
        | 11 => ∃ A1 k1, f 11 = .slice A1 (digs 4294967296 (numOf B2)).length k1 ∧ OB X q A1 k1 (digs 4294967296 (numOf B2))
        | 12 => f 12 = .agg #[.bool false, f 5, f 11]
        | 13 => ∃ b, f 13 = .pointer (some ⟨b, 0, none⟩) ∧ W0.heap.size ≤ b ∧ X.heap[b]? = some (.cells #[.bool false, .slice none 0 0, .slice none 0 0] 34 (0, 0))
        | _ => True) (by kernel_rfl) [(35, 0), (36, 1), (37, 2), (38, 3), (39, 4), (40, 5), (41, 6), (42, 7), (43, 8), (44, 9), (45, 10), (46, 11), (47, 12), (6, 13)] (by kernel_rfl) ?_
       refine Par.v0 1 13 ?_
       refine Par.v0 2 12 ?_
       refine Par.ld1 3 11 1 hks ?_
       refine Par.S 4 10 [(35, 0), (36, 1), (37, 2), (41, 6), (42, 7), (43, 8), (44, 9), (45, 10), (6, 13)] (fun f X hX hR K hK => ?_) ?_
       · have e2 : f 2 = _ := hR.out 2 rfl
         simp only [yA, yB, yC, yD, yE, e2]
         refine ⟨?_⟩
         go_simp
         exact Par.k hK (s := by simp only [yA, yB, yC, yD, yE, e2])
       refine Par.S 5 9 [(35, 0), (36, 1), (37, 2), (38, 3), (41, 6), (42, 7), (43, 8), (44, 9), (45, 10), (6, 13)] (fun f X hX hR K hK => ?_) ?_
       · have e0 : f 0 = _ := hR.out 0 rfl
         have e3 : f 3 = _ := hR.out 3 rfl
         simp only [yA, yB, yC, yD, yE, e0, e3]
         refine ⟨?_⟩
         go_simp
         exact Par.k hK (s := by simp only [yA, yB, yC, yD, yE, e0, e3])
       refine Par.c0 6 8 (fun f => #[f 4]) (F' := 63) (fun f X hX hR => ?_) ?_
       · have e4 : f 4 = _ := hR.out 4 rfl
         simp only [e4]
         have hf := refFromBytes_any P _ _ B1 X (hr1.out X hX) (HPw.out X hX) (by rw [L1.out]; omega)
         rw [L1.out] at hf
         refine hf.mono ?_
         rintro e w2 ⟨A1, k1, rfl, hO, hB⟩
         exact ⟨(.slice A1 (digs 4294967296 (numOf B1)).length k1), rfl, hB, fun Y hY => ⟨A1, k1, rfl, (hO.mono (Hqw.out X hX)).below hY (Nat.le_refl _)⟩⟩
       refine Par.v0 7 7 ?_
       refine Par.v0 8 6 ?_
       refine Par.ld1 9 5 7 hks ?_
       refine Par.S 10 4 [(35, 0), (36, 1), (37, 2), (38, 3), (39, 4), (40, 5), (41, 6), (42, 7), (43, 8), (6, 13)] (fun f X hX hR K hK => ?_) ?_
       · have e8 : f 8 = _ := hR.out 8 rfl
         simp only [yA, yB, yC, yD, yE, e8]
         refine ⟨?_⟩
         go_simp
         exact Par.k hK (s := by simp only [yA, yB, yC, yD, yE, e8])
       refine Par.S 11 3 [(35, 0), (36, 1), (37, 2), (38, 3), (39, 4), (40, 5), (41, 6), (42, 7), (43, 8), (44, 9), (6, 13)] (fun f X hX hR K hK => ?_) ?_
       · have e6 : f 6 = _ := hR.out 6 rfl
         have e9 : f 9 = _ := hR.out 9 rfl
         simp only [yA, yB, yC, yD, yE, e6, e9]
         refine ⟨?_⟩
         go_simp
         exact Par.k hK (s := by simp only [yA, yB, yC, yD, yE, e6, e9])
       refine Par.c0 12 2 (fun f => #[f 10]) (F' := 63) (fun f X hX hR => ?_) ?_
       · have e10 : f 10 = _ := hR.out 10 rfl
         simp only [e10]
         have hf := refFromBytes_any P _ _ B2 X (hr2.out X hX) (HPw.out X hX) (by rw [L2.out]; omega)
         rw [L2.out] at hf
         refine hf.mono ?_
         rintro e w2 ⟨A1, k1, rfl, hO, hB⟩
         exact ⟨(.slice A1 (digs 4294967296 (numOf B2)).length k1), rfl, hB, fun Y hY => ⟨A1, k1, rfl, (hO.mono (Hqw.out X hX)).below hY (Nat.le_refl _)⟩⟩
       refine Par.S 13 1 [(35, 0), (36, 1), (37, 2), (38, 3), (39, 4), (40, 5), (41, 6), (42, 7), (43, 8), (44, 9), (45, 10), (46, 11), (6, 13)] (fun f X hX hR K hK => ?_) ?_
       · obtain ⟨A7, k7, (e5 : f 5 = _), o7⟩ := hR.out 5 rfl
         obtain ⟨A15, k15, (e11 : f 11 = _), o15⟩ := hR.out 11 rfl
         simp only [yA, yB, yC, yD, yE, e5, e11]
         refine ⟨?_⟩
         go_simp
         exact hK.out _ (.agg #[.bool false, f 5, f 11]) _ (by simp only [yA, yB, yC, yD, yE, e5, e11]) (Ext.refl _) trivial (fun _ _ => rfl)
       refine Par.al 14 0 ?_
       refine Par.AllOps.fin ⟨fun f X hX hR hal hap => ?_⟩
       obtain ⟨A7, k7, (e5 : f 5 = _), o7⟩ := hR 5 (by decide)
       obtain ⟨A15, k15, (e11 : f 11 = _), o15⟩ := hR 11 (by decide)
       have e12 : f 12 = .agg #[.bool false, f 5, f 11] := hR 12 (by decide)
       obtain ⟨b13, (e13 : f 13 = _), l13, h13⟩ := hR 13 (by decide)
       simp only [yA, yB, yD, yE, e5, e11, e12, e13]
       clear hR hal hap e5 e11 e12 e13
       refine Par.Chain.next (fun K hK => ⟨Par.want (by kernel_rfl) (wp_storeV 34 (.tmp 6) (.tmp 47) rfl rfl rfl rfl h13 infoRP rfl (pt_one _ _ _ _ _ _ _) (fun Y1 g1 g2 g3 => hK.out _ _ ?_))⟩)
       refine Par.Chain.done ?_
       have hEY : Ext W0 Y1 := g2.ext hX l13
       have p7 := o7.just g2 h13 (by decide)
       have p15 := o15.just g2 h13 (by decide)
       have hrY : Y1.heap[q + 1]? = some (.cells #[.bool false, .slice none 0 0, .slice none 0 0] 34 (0, 0)) := g2.at_ (by have := Hz0.out; omega) (hX.at_ hrb)
       have hcY : Y1.heap[q]? = some (.cells #[.slice Ap (digs 4294967296 C.M).length cp, .slice An (digs 4294967296 (val 18446744073709551616 C.nl)).length cn, .slice Ab (digs 4294967296 C.bb).length cb, .slice Ax (digs 4294967296 (val 18446744073709551616 C.xl)).length cx, .slice Ay (digs 4294967296 (val 18446744073709551616 C.yl)).length cy, .int .i64 (s : Int)] 31 (0, 0)) := g2.at_ (by have := Hz0.out; omega) (hX.at_ hcb)
       obtain ⟨m, hm⟩ : ∃ m, onB C.M C.bb (numOf B1) (numOf B2) = m := ⟨_, rfl⟩
       have hon := Lib.hid (fun X (hX : Ext Y1 X) => refOn_any HF.out A7 A15 k7 k15 (numOf B1) (numOf B2) false X (Hcv.out.ext ((HW.out.trans hEY).trans hX)) (p7.ru.up hX) (p15.ru.up hX))
       have hrr := Hrr.out
       rw [hm] at hrr
       have Hm := Lib.hid hm
       have Hk7 := Lib.hid p7
       have Hk15 := Lib.hid p15
       have HEY := Lib.hid (HW.out.trans hEY)
       clear hm Hrr g2 g3 hX o7 o15 h13 l13 hEY p7 p15 w1 w2 w3 c0i c1i c4i c5i c1 c2 c3 c4 c6 c7 Hr
       go_upto_region 8 with fail
       refine Par.region_txt 4 [0, 0, 3, 7] [] (fun j f X => match j with
        | 0 => f 0 = cvv
        | 1 => f 1 = .agg #[.bool false, .slice A7 (digs 4294967296 (numOf B1)).length k7, .slice A15 (digs 4294967296 (numOf B2)).length k15]
        | 2 => f 2 = .bool m
        | 3 => f 3 = .bool (!m)
        | _ => True) (by kernel_rfl) [(48, 0), (49, 1), (50, 2), (51, 3)] (by kernel_rfl) ?_
       refine Par.S 1 3 [(49, 1)] (fun f X hX hR K hK => ?_) ?_
       · simp only [yA, yB, yC, yD, yE]
         refine ⟨Par.want (by kernel_rfl) (wp_loadV 31 (.tmp 2) rfl rfl (hX.at_ hcY) Try.underlying31 rfl infoRC HV.out ?_)⟩
         exact hK.out _ (cvv) _ (by simp only [yA, yB, yC, yD, yE]) (Ext.refl _) trivial (fun _ _ => rfl)
       refine Par.S 2 2 [(48, 0)] (fun f X hX hR K hK => ?_) ?_
       · simp only [yA, yB, yC, yD, yE]
         refine ⟨Par.want (by kernel_rfl) (wp_loadV 34 (.tmp 6) rfl rfl (hX.at_ g1) Try.underlying34 rfl infoRP rfl ?_)⟩
         exact Par.k hK (s := by simp only [yA, yB, yC, yD, yE])
       refine Par.c0 3 1 (fun f => #[f 0, f 1]) (F' := 16) (fun f X hX hR => ?_) ?_
       · have e0 : f 0 = _ := hR.out 0 rfl
         have e1 : f 1 = _ := hR.out 1 rfl
         simp only [e0, e1]
         refine (hon.out X hX).mono ?_
         rw [Bool.false_or, Hm.out]
         rintro e w2 ⟨rfl, hB⟩
         exact ⟨(.bool m), rfl, hB, fun _ _ => rfl⟩
       refine Par.v1 4 0 2 ?_
       refine Par.AllOps.fin ⟨fun f X hX hR hal hap => ?_⟩
       have e3 : f 3 = _ := hR 3 (by decide)
       simp only [yA, yB, yD, yE, e3]
       clear hR hal hap e3
       refine Par.Chain.done ?_
       obtain ⟨z0, z1, z2, f0, f1, f2⟩ := pt_facts (hX.at_ hrY)
       obtain ⟨v0, v1, v2, u0, u1, u2⟩ := pt_facts (hX.at_ g1)
       cases m
       · rw [if_neg (by decide)] at hrr
         subst hrr
         go_wp2
         exact end_rp rfl rfl rfl rfl (pt_set (hX.at_ hrY) _ _ _) ⟨infV, rfl, rfl, pt_ext (HEY.out.trans hX) (by have := Hq.out; omega) _ _ _⟩
       · rw [if_pos rfl] at hrr
         subst hrr
         go_wp2
         exact end_rp rfl rfl rfl rfl (pt_set (hX.at_ hrY) _ _ _) ⟨_, rfl, ⟨A7, k7, A15, k15, rfl, (by rw [Hq.out]; exact (Hk7.out.below hX (Nat.le_refl _)).just (pt_just _ _ _ _ _) (hX.at_ hrY) (by decide)), (by rw [Hq.out]; exact (Hk15.out.below hX (Nat.le_refl _)).just (pt_just _ _ _ _ _) (hX.at_ hrY) (by decide))⟩, pt_ext (HEY.out.trans hX) (by have := Hq.out; omega) _ _ _⟩
     · have hx1 : ((x : Int) != 4) = true := by simp; omega
       obtain rfl : r = none := by
        rw [← Hr.out, decC, if_neg (fun e => by have := Hn.out; rw [e] at this; simp at this; omega), if_neg (fun e => by have := Hdx.out; omega)]
       go_enter Try.func28, Try.ntmps28
       go_wp2
       exact end_rp rfl rfl rfl rfl (by have := heap_alloc_new (w.alloc (.cells #[.slice Ap (digs 4294967296 C.M).length cp, .slice An (digs 4294967296 (val 18446744073709551616 C.nl)).length cn, .slice Ab (digs 4294967296 C.bb).length cb, .slice Ax (digs 4294967296 (val 18446744073709551616 C.xl)).length cx, .slice Ay (digs 4294967296 (val 18446744073709551616 C.yl)).length cy, .int .i64 (s : Int)] 31)) (.cells #[.bool true, .slice none 0 0, .slice none 0 0] 34); rwa [World.size_alloc] at this) ⟨infV, rfl, rfl, (Ext.alloc _ _).trans (Ext.alloc _ _)⟩
   · have hn2 : ((n : Int) != 2 * (s : Int) + 1) = true := by simp; omega
     obtain rfl : r = none := by
      rw [← Hr.out, decC, if_neg (fun e => by have := Hn.out; rw [e] at this; simp at this; omega), if_neg (fun e => by have := Hn.out; have := Hs.out; omega)]
     go_enter Try.func28, Try.ntmps28
     go_wp2
     exact end_rp rfl rfl rfl rfl (by have := heap_alloc_new (w.alloc (.cells #[.slice Ap (digs 4294967296 C.M).length cp, .slice An (digs 4294967296 (val 18446744073709551616 C.nl)).length cn, .slice Ab (digs 4294967296 C.bb).length cb, .slice Ax (digs 4294967296 (val 18446744073709551616 C.xl)).length cx, .slice Ay (digs 4294967296 (val 18446744073709551616 C.yl)).length cy, .int .i64 (s : Int)] 31)) (.cells #[.bool true, .slice none 0 0, .slice none 0 0] 34); rwa [World.size_alloc] at this) ⟨infV, rfl, rfl, (Ext.alloc _ _).trans (Ext.alloc _ _)⟩
end Go.Proofs.Ytldhmjfjbalakaa

namespace Go.Proofs.Ytldhmjfjbalakaa
open Go.RowKit

theorem mm_lt {M : Nat} (h : 0 < M) (a b : Nat) : mm M a b < M := Nat.mod_lt _ h
theorem am_lt {M : Nat} (h : 0 < M) (a b : Nat) : am M a b < M := Nat.mod_lt _ h
theorem sm_lt {M : Nat} (h : 0 < M) (a b : Nat) : sm M a b < M := Nat.mod_lt _ h
theorem Crv.Fine.len' {C : Crv} (h : C.Fine) {x : Nat} (hx : x < C.M) : (digs 4294967296 x).length ≤ 96 := digs_le_len (Nat.le_of_lt hx) h.len
section
variable {C : Crv} {v : Value} {A A' : Option Addr} {c c' x y : Nat}
theorem times_r (w : World) (hF : C.Fine) (hc : RC w C v) (h : RU w A c (digs 4294967296 x)) (h' : RU w A' c' (digs 4294967296 y)) (hx : x < C.M) (hy : y < C.M) :
 Calls Try.prog 52 #[v, .slice A (digs 4294967296 x).length c, .slice A' (digs 4294967296 y).length c'] w fun e w' => ∃ A1 c1, e = .returned (.slice A1 (digs 4294967296 (mm C.M x y)).length c1) ∧ RU w' A1 c1 (digs 4294967296 (mm C.M x y)) ∧ Ext w w' :=
 times_any A A' c c' x y w hc h h' (by have := hF.len' hx; omega) (by have := hF.len' hy; omega) (by have := hF.three; omega)
theorem minus_r (w : World) (hF : C.Fine) (hc : RC w C v) (h : RU w A c (digs 4294967296 x)) (h' : RU w A' c' (digs 4294967296 y)) (hx : x < C.M) (hy : y < C.M) :
 Calls Try.prog 54 #[v, .slice A (digs 4294967296 x).length c, .slice A' (digs 4294967296 y).length c'] w fun e w' => ∃ A1 c1, e = .returned (.slice A1 (digs 4294967296 (sm C.M x y)).length c1) ∧ RU w' A1 c1 (digs 4294967296 (sm C.M x y)) ∧ Ext w w' := by
 rw [show sm C.M x y = (x + C.M - y) % C.M by rw [sm, Nat.mod_eq_of_lt hy]]
 exact minus_any A A' c c' x y w hc h h' (by have := hF.len' hx; omega) (by have := hF.len; omega) (by omega) (by have := hF.three; omega)
theorem add_r (w : World) (hF : C.Fine) (h : RU w A c (digs 4294967296 x)) (h' : RU w A' c' (digs 4294967296 y)) (hx : x < C.M) (hy : y < C.M) :
 Calls Try.prog 23 #[.slice A (digs 4294967296 x).length c, .slice A' (digs 4294967296 y).length c'] w fun e w' => ∃ A1 c1, e = .returned (.slice A1 (digs 4294967296 (x + y)).length c1) ∧ RU w' A1 c1 (digs 4294967296 (x + y)) ∧ Ext w w' :=
 (refAdd_any _ _ A A' c c' x y w h h' (fun _ h => h) (fun _ h => h) (by have := hF.len' hx; omega) (by have := hF.len' hy; omega)).mono fun _ _ ⟨A1, c1, h1, h2, h3⟩ => ⟨A1, c1, h1, h2.ru, h3⟩
theorem mod_r (w : World) (hF : C.Fine) (h : RU w A c (digs 4294967296 x)) (h' : RU w A' c' (digs 4294967296 C.M)) (hx : x < 2 * C.M) :
 Calls Try.prog 53 #[.slice A (digs 4294967296 x).length c, .slice A' (digs 4294967296 C.M).length c'] w fun e w' => ∃ A1 c1, e = .returned (.slice A1 (digs 4294967296 (x % C.M)).length c1) ∧ RU w' A1 c1 (digs 4294967296 (x % C.M)) ∧ Ext w w' :=
 refMod_any A A' c c' x C.M w h h' (by
  have h1 : x < 4294967296 ^ 97 := by
   have h2 := hF.len
   have h3 : C.M < 4294967296 ^ 96 := by
    have := val_lt (digs_lt (B := 4294967296) (by omega) C.M)
    rw [val_digs (by omega)] at this
    exact Nat.lt_of_lt_of_le this (Nat.pow_le_pow_right (by omega) h2)
   rw [Nat.pow_succ]
   omega
  have := digs_length_of_lt (by omega) h1
  omega) (by have := hF.three; omega)
theorem of_r (x : Nat) (w : World) (hx : x < 18446744073709551616) :
 Calls Try.prog 39 #[.int .u64 (x : Int)] w fun e w' => ∃ A' c', e = .returned (.slice A' (digs 4294967296 x).length c') ∧ RU w' A' c' (digs 4294967296 x) ∧ Ext w w' :=
 (refOf_any x w hx).mono fun _ _ ⟨A1, c1, h1, h2, h3⟩ => ⟨A1, c1, h1, h2.ru, h3⟩
end
section
variable {Q : Exit → Act → World → Prop} {ol : List Oper} {m : Nat} {L AL : List Nat} {R : Nat → (Nat → Value) → World → Prop} {a : Act} {w : World} {F : List Oper → Prop} {k n : Nat} {o : Oper} {l : List Oper}
theorem rc (k' n' i j j' : Nat) {F' : FuncId} {pf : Value} {x y z z' : Nat} (h1 : ∀ f X, Ext w X → R j (Par.mask (fun i => L.getD i 0) j f) X → ∃ A c, f j = .slice A (digs 4294967296 x).length c ∧ RU X A c (digs 4294967296 x)) (h2 : ∀ f X, Ext w X → R j' (Par.mask (fun i => L.getD i 0) j' f) X → ∃ A c, f j' = .slice A (digs 4294967296 y).length c ∧ RU X A c (digs 4294967296 y))
 (hc : ∀ X, Ext w X → ∀ A c A' c', RU X A c (digs 4294967296 x) → RU X A' c' (digs 4294967296 y) → Calls Try.prog F' #[pf, .slice A (digs 4294967296 x).length c, .slice A' (digs 4294967296 y).length c'] X fun e w' => ∃ A1 c1, e = .returned (.slice A1 (digs 4294967296 z').length c1) ∧ RU w' A1 c1 (digs 4294967296 z') ∧ Ext X w') (hz : z' = z) (hs : Par.AllOps (Par.StepO Try.prog ol Q Ext m L AL R a w) F k' n' l)
 (hr : ∀ f X, R i (Par.mask (fun i => L.getD i 0) i f) X → f i = pf := by exact fun _ _ h => h)
 (hR : ∀ f X, (∃ A c, f k = .slice A (digs 4294967296 z).length c ∧ RU X A c (digs 4294967296 z)) → R k (Par.mask (fun i => L.getD i 0) k f) X := by exact fun _ _ h => h) (hk : k + 1 = k' := by rfl) (hn : n' + 1 = n := by rfl) (ha : AL.contains k = false := by kernel_rfl) (hi : (L.getD k 0).testBit i = true := by kernel_rfl) (hj : (L.getD k 0).testBit j = true := by kernel_rfl) (hj' : (L.getD k 0).testBit j' = true := by kernel_rfl)
 (hw : ∀ f, Region.wanted o (yielded ol.toArray (Par.put ol.toArray (Par.nd (fun i => L.getD i 0) k) f (List.range m) a).tmps) = true := by intro _; kernel_rfl)
 (hrun : ∀ f X, (execOp (Par.put ol.toArray (Par.nd (fun i => L.getD i 0) k) f (List.range m) a).eval o).run Try.prog X = .ok (.enter F' #[f i, f j, f j']) X := by intro _ _; kernel_rfl) : Par.AllOps (Par.StepO Try.prog ol Q Ext m L AL R a w) F k n (o :: l) :=
 Par.cx (args := fun f => #[f i, f j, f j']) hs hk hn ha (fun f _ _ => hw f) hrun fun f X hX h => by
  obtain ⟨A, c, e1, g1⟩ := h1 f X hX (h.out j hj)
  obtain ⟨A', c', e2, g2⟩ := h2 f X hX (h.out j' hj')
  rw [hr f X (h.out i hi), e1, e2]
  refine (hc X hX A c A' c' g1 g2).mono ?_
  rintro e w' ⟨A1, c1, rfl, hv, hE⟩
  subst hz
  exact ⟨_, rfl, hE, fun Y hY => hR _ _ ⟨A1, c1, by simp [Par.upd], RN.up hv hY⟩⟩
end
def JN (w : World) (C : Crv) (v : Value) (p : Nat × Nat × Nat) : Prop := ∃ (A1 A2 A3 : Option Addr) (c1 c2 c3 : Nat), v = .agg #[.slice A1 (digs 4294967296 p.1).length c1, .slice A2 (digs 4294967296 p.2.1).length c2, .slice A3 (digs 4294967296 p.2.2).length c3] ∧
 RU w A1 c1 (digs 4294967296 p.1) ∧ RU w A2 c2 (digs 4294967296 p.2.1) ∧ RU w A3 c3 (digs 4294967296 p.2.2) ∧ p.1 < C.M ∧ p.2.1 < C.M ∧ p.2.2 < C.M
theorem JN.ext {w X : World} {C : Crv} {v : Value} {p : Nat × Nat × Nat} (h : JN w C v p) (hE : Ext w X) : JN X C v p := by
 obtain ⟨A1, A2, A3, c1, c2, c3, e, h1, h2, h3, h4⟩ := h
 exact ⟨A1, A2, A3, c1, c2, c3, e, RN.up h1 hE, RN.up h2 hE, RN.up h3 hE, h4⟩
theorem infoRJ : (Try.prog.info? 95).map (·.size) = some 3 := by kernel_rfl
theorem end_rj {fn : Func} {R : Ending → World → Prop} {a : Act} {W : World} {p : Tmp} {g : Nat} {ty : TypeId} {fr : Nat × Nat} {x0 x1 x2 : Value} (hr : fn.results = #[.cell p 95]) (hp : a.tmps.getD p undef = .pointer (some ⟨g, 0, none⟩)) (hd : a.defers = [])
 (hg : W.heap[g]? = some (.cells #[x0, x1, x2] ty fr)) (hR : R (.returned (.agg #[x0, x1, x2])) W) : bodyPost Try.prog fn R .ret a W :=
 bodyPost_ret (results_cell_row hr a.tmps W g _ _ _ _ hp hg Try.underlying95 rfl infoRJ) hd hR
theorem sl_one (A1 A2 A3 : Option Addr) (n1 n2 n3 c1 c2 c3 : Nat) : (#[Value.slice A1 n1 c1, .slice A2 n2 c2, .slice A3 n3 c3] : Array Value).all (·.oneCell') = true := by simp [Value.oneCell']
end Go.Proofs.Ytldhmjfjbalakaa
