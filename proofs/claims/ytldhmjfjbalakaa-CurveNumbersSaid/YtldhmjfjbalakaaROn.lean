/- The reference's On. -/
import Derived.Test.YtldhmjfjbalakaaKBc
import Derived.Deep.DeepCutAuto
namespace Go.Proofs.Ytldhmjfjbalakaa
open Go.RowKit

theorem digs_mod_len {x M k : Nat} (hM : 0 < M) (hl : (digs 4294967296 M).length ≤ k) : (digs 4294967296 (x % M)).length ≤ k :=
 digs_length_of_lt (by omega) (Nat.lt_of_lt_of_le (Nat.lt_trans (Nat.mod_lt x hM) (lt_pow_digs (B := 4294967296) (by omega) M)) (Nat.pow_le_pow_right (by omega) hl))
theorem digs_le_len {x M k : Nat} (hM : x ≤ M) (hl : (digs 4294967296 M).length ≤ k) : (digs 4294967296 x).length ≤ k :=
 digs_length_of_lt (by omega) (Nat.lt_of_lt_of_le (Nat.lt_of_le_of_lt hM (lt_pow_digs (B := 4294967296) (by omega) M)) (Nat.pow_le_pow_right (by omega) hl))
theorem Crv.Fine.len {C : Crv} (h : C.Fine) : (digs 4294967296 C.M).length ≤ 96 := by
 have h1 := h.room
 have h2 : (256 : Nat) ^ C.size ≤ 256 ^ 48 := Nat.pow_le_pow_right (by omega) h.small
 have h3 : (256 : Nat) ^ 48 ≤ 4294967296 ^ 96 := by decide +kernel
 exact digs_length_of_lt (by omega) (Nat.lt_of_lt_of_le h1 (Nat.le_trans h2 h3))

theorem cmpV_eq0 (a b : Nat) : (cmpV a b == 0) = decide (a = b) := by
 unfold cmpV
 split
 · rw [decide_eq_false (by omega)]; rfl
 · split
   · rw [decide_eq_true (by omega)]; rfl
   · rw [decide_eq_false (by omega)]; rfl

set_option maxRecDepth 100000 in
set_option maxHeartbeats 8000000 in
theorem refOn_any {C : Crv} {v : Value} (hF : C.Fine) (A A' : Option Addr) (c c' x y : Nat) (inf : Bool) (w : World) (hc : RC w C v) (h : RU w A c (digs 4294967296 x)) (h' : RU w A' c' (digs 4294967296 y)) :
 Calls Try.prog 16 #[v, .agg #[.bool inf, .slice A (digs 4294967296 x).length c, .slice A' (digs 4294967296 y).length c']] w fun e w' => e = .returned (.bool (inf || onB C.M C.bb x y)) ∧ Ext w w' := by
 have hcv := hc
 obtain ⟨Ap, An, Ab, Ax, Ay, cp, cn, cb, cx, cy, rfl, h1, h2, h3, h4, h5⟩ := hc
 obtain ⟨s, hs⟩ : ∃ s, C.size = s := ⟨_, rfl⟩
 have s1 : 32 ≤ s := by rw [← hs]; exact hF.pos
 have hs0 : ((s : Int) == 0) = false := by simp; omega
 obtain ⟨r, hr⟩ : ∃ r, (inf || onB C.M C.bb x y) = r := ⟨_, rfl⟩
 rw [hr, hs]
 rw [hs] at hcv
 have Hr := Lib.hid hr
 have HF := Lib.hid hF
 have L := Lib.hid hF.len
 have Hcv := Lib.hid hcv
 have hM0 : 0 < C.M := by have := hF.three; omega
 have HM0 := Lib.hid hM0
 clear hr hF hs hcv
 obtain ⟨q, hq⟩ : ∃ q, w.heap.size = q := ⟨_, rfl⟩
 obtain ⟨W0, hW0⟩ : ∃ W0, W0 = (w.alloc (.cells #[.slice Ap (digs 4294967296 C.M).length cp, .slice An (digs 4294967296 (val 18446744073709551616 C.nl)).length cn, .slice Ab (digs 4294967296 C.bb).length cb, .slice Ax (digs 4294967296 (val 18446744073709551616 C.xl)).length cx, .slice Ay (digs 4294967296 (val 18446744073709551616 C.yl)).length cy, .int .i64 (s : Int)] 31)).alloc (.cells #[.bool inf, .slice A (digs 4294967296 x).length c, .slice A' (digs 4294967296 y).length c'] 34) := ⟨_, rfl⟩
 have hE0 : Ext w W0 := by rw [hW0]; exact (Ext.alloc _ _).trans (Ext.alloc _ _)
 have hcb : W0.heap[q]? = some (.cells #[.slice Ap (digs 4294967296 C.M).length cp, .slice An (digs 4294967296 (val 18446744073709551616 C.nl)).length cn, .slice Ab (digs 4294967296 C.bb).length cb, .slice Ax (digs 4294967296 (val 18446744073709551616 C.xl)).length cx, .slice Ay (digs 4294967296 (val 18446744073709551616 C.yl)).length cy, .int .i64 (s : Int)] 31 (0, 0)) := by rw [hW0, ← hq]; exact (Ext.alloc _ _).at_ (heap_alloc_new w _)
 have hpb : W0.heap[q + 1]? = some (.cells #[.bool inf, .slice A (digs 4294967296 x).length c, .slice A' (digs 4294967296 y).length c'] 34 (0, 0)) := by rw [hW0, ← hq]; have := heap_alloc_new (w.alloc (.cells #[.slice Ap (digs 4294967296 C.M).length cp, .slice An (digs 4294967296 (val 18446744073709551616 C.nl)).length cn, .slice Ab (digs 4294967296 C.bb).length cb, .slice Ax (digs 4294967296 (val 18446744073709551616 C.xl)).length cx, .slice Ay (digs 4294967296 (val 18446744073709551616 C.yl)).length cy, .int .i64 (s : Int)] 31)) (.cells #[.bool inf, .slice A (digs 4294967296 x).length c, .slice A' (digs 4294967296 y).length c'] 34); rwa [World.size_alloc] at this
 have b0 : W0.cell? ⟨q, 0, none⟩ = some (.slice Ap (digs 4294967296 C.M).length cp) := blk_cell hcb 0
 have b2 : W0.cell? ⟨q, 2, none⟩ = some (.slice Ab (digs 4294967296 C.bb).length cb) := blk_cell hcb 2
 have p1 : W0.cell? ⟨q + 1, 1, none⟩ = some (.slice A (digs 4294967296 x).length c) := blk_cell hpb 1
 have p2 : W0.cell? ⟨q + 1, 2, none⟩ = some (.slice A' (digs 4294967296 y).length c') := blk_cell hpb 2
 have HE0 := Lib.hid hE0
 have HW0 := Lib.hid hW0
 clear hE0
 cases inf
 case true =>
  obtain rfl : r = true := by rw [← Hr.out]; rfl
  clear hW0 hq
  have hW0 := HW0.out
  go_enter Try.func16, Try.ntmps16
  go_wp2
  go_ret
  exact ⟨rfl, by have := HE0.out; rw [hW0] at this; exact this⟩
 case false =>
  rw [Bool.false_or] at Hr
  have arm1 := Lib.hid (fun X (hX : Ext W0 X) => refCmp_any _ _ A Ap c cp x C.M X (h.up (HE0.out.trans hX)) (h1.up (HE0.out.trans hX)))
  have arm2 := Lib.hid (fun X (hX : Ext W0 X) => refCmp_any _ _ A' Ap c' cp y C.M X (h'.up (HE0.out.trans hX)) (h1.up (HE0.out.trans hX)))
  by_cases hxM : x < C.M
  · have tx := Lib.hid (cmpV_lt hxM)
    by_cases hyM : y < C.M
    · have ty := Lib.hid (cmpV_lt hyM)
      obtain ⟨cvv, hcvv⟩ : ∃ cvv, cvv = Value.agg #[.slice Ap (digs 4294967296 C.M).length cp, .slice An (digs 4294967296 (val 18446744073709551616 C.nl)).length cn, .slice Ab (digs 4294967296 C.bb).length cb, .slice Ax (digs 4294967296 (val 18446744073709551616 C.xl)).length cx, .slice Ay (digs 4294967296 (val 18446744073709551616 C.yl)).length cy, .int .i64 (s : Int)] := ⟨_, rfl⟩
      rw [← hcvv] at Hcv
      have HV := Lib.hid hcvv
      obtain ⟨m2, hm2⟩ : ∃ m, x * x % C.M = m := ⟨_, rfl⟩
      obtain ⟨m3, hm3⟩ : ∃ m, m2 * x % C.M = m := ⟨_, rfl⟩
      obtain ⟨t3, ht3⟩ : ∃ m, 3 * x % C.M = m := ⟨_, rfl⟩
      obtain ⟨mi, hmi⟩ : ∃ m, (m3 + C.M - t3) % C.M = m := ⟨_, rfl⟩
      obtain ⟨rt, hrt⟩ : ∃ m, (mi + C.bb) % C.M = m := ⟨_, rfl⟩
      obtain ⟨yy, hyy⟩ : ∃ m, y * y % C.M = m := ⟨_, rfl⟩
      have K2 := Lib.hid (hm2 ▸ digs_mod_len (x := x * x) HM0.out L.out)
      have K3 := Lib.hid (hm3 ▸ digs_mod_len (x := m2 * x) HM0.out L.out)
      have Kt := Lib.hid (ht3 ▸ digs_mod_len (x := 3 * x) HM0.out L.out)
      have Ki := Lib.hid (hmi ▸ digs_mod_len (x := m3 + C.M - t3) HM0.out L.out)
      have Ky := Lib.hid (hyy ▸ digs_mod_len (x := y * y) HM0.out L.out)
      have Kx := Lib.hid (digs_le_len (Nat.le_of_lt hxM) L.out)
      have KY := Lib.hid (digs_le_len (Nat.le_of_lt hyM) L.out)
      have K0 := Lib.hid (digs_le_len (Nat.le_of_lt HF.out.three) L.out)
      have Kb := Lib.hid (digs_le_len (Nat.le_of_lt HF.out.bb) L.out)
      have Ks := Lib.hid (show (digs 4294967296 (mi + C.bb)).length ≤ 97 by
       have a1 := Nat.lt_of_lt_of_le (lt_pow_digs (B := 4294967296) (by omega) C.M) (Nat.pow_le_pow_right (by omega) L.out)
       have a2 := Nat.mod_lt (m3 + C.M - t3) HM0.out
       have a3 := HF.out.bb
       refine digs_length_of_lt (by omega) ?_
       rw [Nat.pow_succ]; generalize 4294967296 ^ 96 = R at *; omega)
      have Htm := Lib.hid (show t3 ≤ m3 + C.M by have := Nat.mod_lt (3 * x) HM0.out; omega)
      have Hmb := Lib.hid (show mi < C.M by have := Nat.mod_lt (m3 + C.M - t3) HM0.out; omega)
      have Hres := Lib.hid (show r = decide (yy = rt) by rw [← Hr.out, onB, decide_eq_true hxM, decide_eq_true hyM, hm2, hm3, ht3, hmi, hrt, hyy]; rfl)
      have E2 := Lib.hid hm2
      have E3 := Lib.hid hm3
      have Et := Lib.hid ht3
      have Ei := Lib.hid hmi
      have Er := Lib.hid hrt
      have Ey := Lib.hid hyy
      clear hcvv hm2 hm3 ht3 hmi hrt hyy hxM hyM
      go_enter Try.func16, Try.ntmps16
      go_upto_region 5 with fail
      rw [← hW0]
      clear hW0 hq
      refine Par.region_txt 14 [0, 1, 0, 4, 15, 31, 63, 127, 255, 127, 639, 2047, 4095, 8191] [] (fun j f X => match j with
       | 0 => f 0 = .pointer (some ⟨q + 1, 1, none⟩)
       | 1 => f 1 = .slice A (digs 4294967296 x).length c
       | 2 => f 2 = .pointer (some ⟨q, 0, none⟩)
       | 3 => f 3 = .slice Ap (digs 4294967296 C.M).length cp
       | 4 => f 4 = .int .i64 (-1)
       | 5 => f 5 = .bool false
       | 6 => f 6 = .bool false
       | 7 => f 7 = .pointer (some ⟨q + 1, 2, none⟩)
       | 8 => f 8 = .slice A' (digs 4294967296 y).length c'
       | 9 => f 9 = .pointer (some ⟨q, 0, none⟩)
       | 10 => f 10 = .slice Ap (digs 4294967296 C.M).length cp
       | 11 => f 11 = .int .i64 (-1)
       | 12 => f 12 = .bool false
       | 13 => f 13 = .bool false
       | _ => True) (by kernel_rfl) [(13, 0), (14, 1), (15, 2), (16, 3), (17, 4), (18, 5), (19, 6), (20, 7), (21, 8), (22, 9), (23, 10), (24, 11), (25, 12), (26, 13)] (by kernel_rfl) ?_
      refine Par.S 1 13 [(15, 2), (16, 3)] (fun f X hX hR K hK => ?_) ?_
      · simp only [yA, yB, yC, yD, yE]
        refine ⟨?_⟩
        go_simp
        exact Par.k hK (s := by simp only [yA, yB, yC, yD, yE])
      refine Par.S 2 12 [(13, 0), (15, 2), (16, 3)] (fun f X hX hR K hK => ?_) ?_
      · have e0 : f 0 = _ := hR.out 0 rfl
        have x0 := hX.cell p1
        simp only [yA, yB, yC, yD, yE, e0]
        refine ⟨?_⟩
        go_simp
        exact Par.k hK (s := by simp only [yA, yB, yC, yD, yE, e0])
      refine Par.S 3 11 [(13, 0), (14, 1)] (fun f X hX hR K hK => ?_) ?_
      · simp only [yA, yB, yC, yD, yE]
        refine ⟨?_⟩
        go_simp
        exact Par.k hK (s := by simp only [yA, yB, yC, yD, yE])
      refine Par.S 4 10 [(13, 0), (14, 1), (15, 2)] (fun f X hX hR K hK => ?_) ?_
      · have e2 : f 2 = _ := hR.out 2 rfl
        have x0 := hX.cell b0
        simp only [yA, yB, yC, yD, yE, e2]
        refine ⟨?_⟩
        go_simp
        exact Par.k hK (s := by simp only [yA, yB, yC, yD, yE, e2])
      refine Par.S 5 9 [(13, 0), (14, 1), (15, 2), (16, 3)] (fun f X hX hR K hK => ?_) ?_
      · have e1 : f 1 = _ := hR.out 1 rfl
        have e3 : f 3 = _ := hR.out 3 rfl
        simp only [yA, yB, yC, yD, yE, e1, e3]
        refine ⟨?_⟩
        go_simp
        refine (arm1.out X hX).mono ?_
        rintro e w2 ⟨rfl, nq, rfl⟩
        rw [tx.out]
        exact hK.out _ (.int .i64 (-1)) _ (by simp only [yA, yB, yC, yD, yE, e1, e3]) (Ext.drewN _ _) trivial (fun _ _ => rfl)
      refine Par.S 6 8 [(13, 0), (14, 1), (15, 2), (16, 3), (17, 4)] (fun f X hX hR K hK => ?_) ?_
      · have e4 : f 4 = _ := hR.out 4 rfl
        simp only [yA, yB, yC, yD, yE, e4]
        refine ⟨?_⟩
        go_simp
        exact Par.k hK (s := by simp only [yA, yB, yC, yD, yE, e4])
      refine Par.S 7 7 [(13, 0), (14, 1), (15, 2), (16, 3), (17, 4), (18, 5)] (fun f X hX hR K hK => ?_) ?_
      · have e5 : f 5 = _ := hR.out 5 rfl
        simp only [yA, yB, yC, yD, yE, e5]
        refine ⟨?_⟩
        go_simp
        exact Par.k hK (s := by simp only [yA, yB, yC, yD, yE, e5])
      refine Par.S 8 6 [(13, 0), (14, 1), (15, 2), (16, 3), (17, 4), (18, 5), (19, 6), (22, 9), (23, 10)] (fun f X hX hR K hK => ?_) ?_
      · have e6 : f 6 = _ := hR.out 6 rfl
        simp only [yA, yB, yC, yD, yE, e6]
        refine ⟨Par.want (by kernel_rfl) ?_⟩
        go_simp
        exact Par.k hK (s := by simp only [yA, yB, yC, yD, yE, e6])
      refine Par.S 9 5 [(13, 0), (14, 1), (15, 2), (16, 3), (17, 4), (18, 5), (19, 6), (20, 7), (22, 9), (23, 10)] (fun f X hX hR K hK => ?_) ?_
      · have e6 : f 6 = _ := hR.out 6 rfl
        have e7 : f 7 = _ := hR.out 7 rfl
        have x0 := hX.cell p2
        simp only [yA, yB, yC, yD, yE, e6, e7]
        refine ⟨Par.want (by kernel_rfl) ?_⟩
        go_simp
        exact Par.k hK (s := by simp only [yA, yB, yC, yD, yE, e6, e7])
      refine Par.S 10 4 [(13, 0), (14, 1), (15, 2), (16, 3), (17, 4), (18, 5), (19, 6), (20, 7), (21, 8)] (fun f X hX hR K hK => ?_) ?_
      · have e6 : f 6 = _ := hR.out 6 rfl
        simp only [yA, yB, yC, yD, yE, e6]
        refine ⟨Par.want (by kernel_rfl) ?_⟩
        go_simp
        exact Par.k hK (s := by simp only [yA, yB, yC, yD, yE, e6])
      refine Par.S 11 3 [(13, 0), (14, 1), (15, 2), (16, 3), (17, 4), (18, 5), (19, 6), (20, 7), (21, 8), (22, 9)] (fun f X hX hR K hK => ?_) ?_
      · have e6 : f 6 = _ := hR.out 6 rfl
        have e9 : f 9 = _ := hR.out 9 rfl
        have x0 := hX.cell b0
        simp only [yA, yB, yC, yD, yE, e6, e9]
        refine ⟨Par.want (by kernel_rfl) ?_⟩
        go_simp
        exact Par.k hK (s := by simp only [yA, yB, yC, yD, yE, e6, e9])
      refine Par.S 12 2 [(13, 0), (14, 1), (15, 2), (16, 3), (17, 4), (18, 5), (19, 6), (20, 7), (21, 8), (22, 9), (23, 10)] (fun f X hX hR K hK => ?_) ?_
      · have e6 : f 6 = _ := hR.out 6 rfl
        have e8 : f 8 = _ := hR.out 8 rfl
        have e10 : f 10 = _ := hR.out 10 rfl
        simp only [yA, yB, yC, yD, yE, e6, e8, e10]
        refine ⟨Par.want (by kernel_rfl) ?_⟩
        go_simp
        refine (arm2.out X hX).mono ?_
        rintro e w2 ⟨rfl, nq, rfl⟩
        rw [ty.out]
        exact hK.out _ (.int .i64 (-1)) _ (by simp only [yA, yB, yC, yD, yE, e6, e8, e10]) (Ext.drewN _ _) trivial (fun _ _ => rfl)
      refine Par.S 13 1 [(13, 0), (14, 1), (15, 2), (16, 3), (17, 4), (18, 5), (19, 6), (20, 7), (21, 8), (22, 9), (23, 10), (24, 11)] (fun f X hX hR K hK => ?_) ?_
      · have e6 : f 6 = _ := hR.out 6 rfl
        have e11 : f 11 = _ := hR.out 11 rfl
        simp only [yA, yB, yC, yD, yE, e6, e11]
        refine ⟨Par.want (by kernel_rfl) ?_⟩
        go_simp
        exact Par.k hK (s := by simp only [yA, yB, yC, yD, yE, e6, e11])
      refine Par.S 14 0 [(13, 0), (14, 1), (15, 2), (16, 3), (17, 4), (18, 5), (19, 6), (20, 7), (21, 8), (22, 9), (23, 10), (24, 11), (25, 12)] (fun f X hX hR K hK => ?_) ?_
      · have e6 : f 6 = _ := hR.out 6 rfl
        have e12 : f 12 = _ := hR.out 12 rfl
        simp only [yA, yB, yC, yD, yE, e6, e12]
        refine ⟨?_⟩
        go_simp
        exact Par.k hK (s := by simp only [yA, yB, yC, yD, yE, e6, e12])
      refine Par.AllOps.fin ⟨fun f X hX hR hal hap => ?_⟩
      have e0 : f 0 = _ := hR 0 (by decide)
      have e1 : f 1 = _ := hR 1 (by decide)
      have e2 : f 2 = _ := hR 2 (by decide)
      have e3 : f 3 = _ := hR 3 (by decide)
      have e4 : f 4 = _ := hR 4 (by decide)
      have e5 : f 5 = _ := hR 5 (by decide)
      have e6 : f 6 = _ := hR 6 (by decide)
      have e7 : f 7 = _ := hR 7 (by decide)
      have e8 : f 8 = _ := hR 8 (by decide)
      have e9 : f 9 = _ := hR 9 (by decide)
      have e10 : f 10 = _ := hR 10 (by decide)
      have e11 : f 11 = _ := hR 11 (by decide)
      have e12 : f 12 = _ := hR 12 (by decide)
      have e13 : f 13 = _ := hR 13 (by decide)
      simp only [yA, yB, yC, yD, yE, e0, e1, e2, e3, e4, e5, e6, e7, e8, e9, e10, e11, e12, e13]
      clear hR hal hap e0 e1 e2 e3 e4 e5 e6 e7 e8 e9 e10 e11 e12 e13
      refine Par.Chain.done ?_
      have hE : Ext W0 X := hX
      clear hX
      go_upto_region 7 with fail
      have d1 := hE.cell p1
      refine Par.region_ext (by kernel_rfl) 11 [0, 0, 0, 4, 0, 16, 62, 0, 128, 511, 1023] [] (fun j f X => match j with
       | 0 => f 0 = cvv
       | 1 => f 1 = cvv
       | 2 => f 2 = .pointer (some ⟨q + 1, 1, none⟩)
       | 3 => f 3 = .slice A (digs 4294967296 x).length c
       | 4 => f 4 = .pointer (some ⟨q + 1, 1, none⟩)
       | 5 => f 5 = .slice A (digs 4294967296 x).length c
       | 6 => ∃ A1 c1, f 6 = .slice A1 (digs 4294967296 m2).length c1 ∧ RU X A1 c1 (digs 4294967296 m2)
       | 7 => f 7 = .pointer (some ⟨q + 1, 1, none⟩)
       | 8 => f 8 = .slice A (digs 4294967296 x).length c
       | 9 => ∃ A1 c1, f 9 = .slice A1 (digs 4294967296 m3).length c1 ∧ RU X A1 c1 (digs 4294967296 m3)
       | 10 => ∃ A1 c1, f 10 = .slice A1 (digs 4294967296 m3).length c1 ∧ RU X A1 c1 (digs 4294967296 m3)
       | _ => True) (by kernel_rfl) [(27, 0), (28, 1), (29, 2), (30, 3), (31, 4), (32, 5), (33, 6), (34, 7), (35, 8), (36, 9), (5, 10)] (by kernel_rfl) ?_
      refine Par.S 1 10 [(28, 1), (29, 2), (30, 3), (31, 4), (32, 5), (33, 6), (34, 7), (35, 8)] (fun f X hX hR K hK => ?_) ?_
      · simp only [yA, yB, yC, yD, yE]
        refine ⟨Par.want (by kernel_rfl) (wp_loadV 31 (.tmp 2) rfl rfl (hE.trans hX |>.at_ hcb) Try.underlying31 rfl infoRC HV.out ?_)⟩
        exact hK.out _ (cvv) _ (by simp only [yA, yB, yC, yD, yE]) (Ext.refl _) trivial (fun _ _ => rfl)
      refine Par.S 2 9 [(27, 0), (29, 2), (30, 3), (31, 4), (32, 5), (34, 7), (35, 8)] (fun f X hX hR K hK => ?_) ?_
      · simp only [yA, yB, yC, yD, yE]
        refine ⟨Par.want (by kernel_rfl) (wp_loadV 31 (.tmp 2) rfl rfl (hE.trans hX |>.at_ hcb) Try.underlying31 rfl infoRC HV.out ?_)⟩
        exact hK.out _ (cvv) _ (by simp only [yA, yB, yC, yD, yE]) (Ext.refl _) trivial (fun _ _ => rfl)
      refine Par.S 3 8 [(27, 0), (28, 1), (31, 4), (32, 5), (34, 7), (35, 8)] (fun f X hX hR K hK => ?_) ?_
      · simp only [yA, yB, yC, yD, yE]
        refine ⟨?_⟩
        go_simp
        exact Par.k hK (s := by simp only [yA, yB, yC, yD, yE])
      refine Par.S 4 7 [(27, 0), (28, 1), (29, 2), (31, 4), (32, 5), (34, 7), (35, 8)] (fun f X hX hR K hK => ?_) ?_
      · have e2 : f 2 = _ := hR.out 2 rfl
        have x0 := hX.cell d1
        simp only [yA, yB, yC, yD, yE, e2]
        refine ⟨?_⟩
        go_simp
        exact Par.k hK (s := by simp only [yA, yB, yC, yD, yE, e2])
      refine Par.S 5 6 [(27, 0), (28, 1), (29, 2), (30, 3), (34, 7), (35, 8)] (fun f X hX hR K hK => ?_) ?_
      · simp only [yA, yB, yC, yD, yE]
        refine ⟨?_⟩
        go_simp
        exact Par.k hK (s := by simp only [yA, yB, yC, yD, yE])
      refine Par.S 6 5 [(27, 0), (28, 1), (29, 2), (30, 3), (31, 4), (34, 7), (35, 8)] (fun f X hX hR K hK => ?_) ?_
      · have e4 : f 4 = _ := hR.out 4 rfl
        have x0 := hX.cell d1
        simp only [yA, yB, yC, yD, yE, e4]
        refine ⟨?_⟩
        go_simp
        exact Par.k hK (s := by simp only [yA, yB, yC, yD, yE, e4])
      refine Par.S 7 4 [(27, 0), (28, 1), (29, 2), (30, 3), (31, 4), (32, 5), (34, 7), (35, 8)] (fun f X hX hR K hK => ?_) ?_
      · have e1 : f 1 = _ := hR.out 1 rfl
        have e3 : f 3 = _ := hR.out 3 rfl
        have e5 : f 5 = _ := hR.out 5 rfl
        simp only [yA, yB, yC, yD, yE, e1, e3, e5]
        refine ⟨?_⟩
        go_simp
        refine (times_any A A c c x x X (Hcv.out.ext (HE0.out.trans (hE.trans hX))) (h.up (HE0.out.trans (hE.trans hX))) (h.up (HE0.out.trans (hE.trans hX))) (by have := Kx.out; omega) (by have := Kx.out; omega) HM0.out).mono ?_
        rw [E2.out]
        rintro e w2 ⟨A1, c1, rfl, hO, hB⟩
        exact hK.out _ (.slice A1 (digs 4294967296 m2).length c1) _ (by simp only [yA, yB, yC, yD, yE, e1, e3, e5]) hB trivial (fun Y hY => ⟨A1, c1, rfl, hO.up hY⟩)
      refine Par.S 8 3 [(27, 0), (28, 1), (29, 2), (30, 3), (31, 4), (32, 5), (33, 6)] (fun f X hX hR K hK => ?_) ?_
      · simp only [yA, yB, yC, yD, yE]
        refine ⟨?_⟩
        go_simp
        exact Par.k hK (s := by simp only [yA, yB, yC, yD, yE])
      refine Par.S 9 2 [(27, 0), (28, 1), (29, 2), (30, 3), (31, 4), (32, 5), (33, 6), (34, 7)] (fun f X hX hR K hK => ?_) ?_
      · have e7 : f 7 = _ := hR.out 7 rfl
        have x0 := hX.cell d1
        simp only [yA, yB, yC, yD, yE, e7]
        refine ⟨?_⟩
        go_simp
        exact Par.k hK (s := by simp only [yA, yB, yC, yD, yE, e7])
      refine Par.S 10 1 [(27, 0), (28, 1), (29, 2), (30, 3), (31, 4), (32, 5), (33, 6), (34, 7), (35, 8)] (fun f X hX hR K hK => ?_) ?_
      · have e0 : f 0 = _ := hR.out 0 rfl
        obtain ⟨A6, c6, (e6 : f 6 = _), o6⟩ := hR.out 6 rfl
        have e8 : f 8 = _ := hR.out 8 rfl
        simp only [yA, yB, yC, yD, yE, e0, e6, e8]
        refine ⟨?_⟩
        go_simp
        refine (times_any A6 A c6 c m2 x X (Hcv.out.ext (HE0.out.trans (hE.trans hX))) o6 (h.up (HE0.out.trans (hE.trans hX))) (by have := K2.out; omega) (by have := Kx.out; omega) HM0.out).mono ?_
        rw [E3.out]
        rintro e w2 ⟨A1, c1, rfl, hO, hB⟩
        exact hK.out _ (.slice A1 (digs 4294967296 m3).length c1) _ (by simp only [yA, yB, yC, yD, yE, e0, e6, e8]) hB trivial (fun Y hY => ⟨A1, c1, rfl, hO.up hY⟩)
      refine Par.S 11 0 [(27, 0), (28, 1), (29, 2), (30, 3), (31, 4), (32, 5), (33, 6), (34, 7), (35, 8), (36, 9)] (fun f X hX hR K hK => ?_) ?_
      · obtain ⟨A9, c9, (e9 : f 9 = _), o9⟩ := hR.out 9 rfl
        simp only [yA, yB, yC, yD, yE, e9]
        refine ⟨?_⟩
        go_simp
        exact hK.out _ (.slice A9 (digs 4294967296 m3).length c9) _ (by simp only [yA, yB, yC, yD, yE, e9]) (Ext.refl _) trivial (fun Y hY => ⟨A9, c9, rfl, o9.up hY⟩)
      refine Par.AllOps.fin ⟨fun f X hX hR hal hap => ?_⟩
      have e0 : f 0 = _ := hR 0 (by decide)
      have e1 : f 1 = _ := hR 1 (by decide)
      have e2 : f 2 = _ := hR 2 (by decide)
      have e3 : f 3 = _ := hR 3 (by decide)
      have e4 : f 4 = _ := hR 4 (by decide)
      have e5 : f 5 = _ := hR 5 (by decide)
      obtain ⟨A6, c6, (e6 : f 6 = _), o6⟩ := hR 6 (by decide)
      have e7 : f 7 = _ := hR 7 (by decide)
      have e8 : f 8 = _ := hR 8 (by decide)
      obtain ⟨A9, c9, (e9 : f 9 = _), o9⟩ := hR 9 (by decide)
      obtain ⟨A10, c10, (e10 : f 10 = _), o10⟩ := hR 10 (by decide)
      simp only [yA, yB, yC, yD, yE, e0, e1, e2, e3, e4, e5, e6, e7, e8, e9, e10]
      clear hR hal hap e0 e1 e2 e3 e4 e5 e6 e7 e8 e9 e10
      refine Par.Chain.done ?_
      have hE' := hE.trans hX
      clear hX hE d1 o6 o9
      have hE := hE'
      clear hE'
      go_upto_region 8 with fail
      have d1 := hE.cell p1
      refine Par.region_ext (by kernel_rfl) 6 [0, 0, 0, 4, 15, 31] [] (fun j f X => match j with
       | 0 => f 0 = cvv
       | 1 => ∃ A1 c1, f 1 = .slice A1 (digs 4294967296 3).length c1 ∧ RU X A1 c1 (digs 4294967296 3)
       | 2 => f 2 = .pointer (some ⟨q + 1, 1, none⟩)
       | 3 => f 3 = .slice A (digs 4294967296 x).length c
       | 4 => ∃ A1 c1, f 4 = .slice A1 (digs 4294967296 t3).length c1 ∧ RU X A1 c1 (digs 4294967296 t3)
       | 5 => ∃ A1 c1, f 5 = .slice A1 (digs 4294967296 t3).length c1 ∧ RU X A1 c1 (digs 4294967296 t3)
       | _ => True) (by kernel_rfl) [(37, 0), (38, 1), (39, 2), (40, 3), (41, 4), (6, 5)] (by kernel_rfl) ?_
      refine Par.S 1 5 [(38, 1), (39, 2), (40, 3)] (fun f X hX hR K hK => ?_) ?_
      · simp only [yA, yB, yC, yD, yE]
        refine ⟨Par.want (by kernel_rfl) (wp_loadV 31 (.tmp 2) rfl rfl (hE.trans hX |>.at_ hcb) Try.underlying31 rfl infoRC HV.out ?_)⟩
        exact hK.out _ (cvv) _ (by simp only [yA, yB, yC, yD, yE]) (Ext.refl _) trivial (fun _ _ => rfl)
      refine Par.S 2 4 [(37, 0), (39, 2), (40, 3)] (fun f X hX hR K hK => ?_) ?_
      · simp only [yA, yB, yC, yD, yE]
        refine ⟨?_⟩
        go_simp
        refine (refOf_any 3 X (by omega)).mono ?_
        rintro e w2 ⟨A1, c1, rfl, hO, hB⟩
        exact hK.out _ (.slice A1 (digs 4294967296 3).length c1) _ (by simp only [yA, yB, yC, yD, yE]) hB trivial (fun Y hY => ⟨A1, c1, rfl, hO.ru.up hY⟩)
      refine Par.S 3 3 [(37, 0), (38, 1)] (fun f X hX hR K hK => ?_) ?_
      · simp only [yA, yB, yC, yD, yE]
        refine ⟨?_⟩
        go_simp
        exact Par.k hK (s := by simp only [yA, yB, yC, yD, yE])
      refine Par.S 4 2 [(37, 0), (38, 1), (39, 2)] (fun f X hX hR K hK => ?_) ?_
      · have e2 : f 2 = _ := hR.out 2 rfl
        have x0 := hX.cell d1
        simp only [yA, yB, yC, yD, yE, e2]
        refine ⟨?_⟩
        go_simp
        exact Par.k hK (s := by simp only [yA, yB, yC, yD, yE, e2])
      refine Par.S 5 1 [(37, 0), (38, 1), (39, 2), (40, 3)] (fun f X hX hR K hK => ?_) ?_
      · have e0 : f 0 = _ := hR.out 0 rfl
        obtain ⟨A1, c1, (e1 : f 1 = _), o1⟩ := hR.out 1 rfl
        have e3 : f 3 = _ := hR.out 3 rfl
        simp only [yA, yB, yC, yD, yE, e0, e1, e3]
        refine ⟨?_⟩
        go_simp
        refine (times_any A1 A c1 c 3 x X (Hcv.out.ext (HE0.out.trans (hE.trans hX))) o1 (h.up (HE0.out.trans (hE.trans hX))) (by have := K0.out; omega) (by have := Kx.out; omega) HM0.out).mono ?_
        rw [Et.out]
        rintro e w2 ⟨A1, c1, rfl, hO, hB⟩
        exact hK.out _ (.slice A1 (digs 4294967296 t3).length c1) _ (by simp only [yA, yB, yC, yD, yE, e0, e1, e3]) hB trivial (fun Y hY => ⟨A1, c1, rfl, hO.up hY⟩)
      refine Par.S 6 0 [(37, 0), (38, 1), (39, 2), (40, 3), (41, 4)] (fun f X hX hR K hK => ?_) ?_
      · obtain ⟨A4, c4, (e4 : f 4 = _), o4⟩ := hR.out 4 rfl
        simp only [yA, yB, yC, yD, yE, e4]
        refine ⟨?_⟩
        go_simp
        exact hK.out _ (.slice A4 (digs 4294967296 t3).length c4) _ (by simp only [yA, yB, yC, yD, yE, e4]) (Ext.refl _) trivial (fun Y hY => ⟨A4, c4, rfl, o4.up hY⟩)
      refine Par.AllOps.fin ⟨fun f X hX hR hal hap => ?_⟩
      have e0 : f 0 = _ := hR 0 (by decide)
      obtain ⟨A1, c1, (e1 : f 1 = _), o1⟩ := hR 1 (by decide)
      have e2 : f 2 = _ := hR 2 (by decide)
      have e3 : f 3 = _ := hR 3 (by decide)
      obtain ⟨A4, c4, (e4 : f 4 = _), o4⟩ := hR 4 (by decide)
      obtain ⟨A5, c5, (e5 : f 5 = _), o5⟩ := hR 5 (by decide)
      simp only [yA, yB, yC, yD, yE, e0, e1, e2, e3, e4, e5]
      clear hR hal hap e0 e1 e2 e3 e4 e5
      refine Par.Chain.done ?_
      have g10 := o10.up hX
      have hE' := hE.trans hX
      clear hX hE d1 o1 o4 o10
      have hE := hE'
      clear hE'
      go_upto_region 9 with fail
      have d0 := hE.cell b0
      have d2 := hE.cell b2
      refine Par.region_ext (by kernel_rfl) 11 [0, 0, 0, 7, 0, 16, 63, 0, 128, 511, 1023] [] (fun j f X => match j with
       | 0 => f 0 = cvv
       | 1 => f 1 = .slice A10 (digs 4294967296 m3).length c10
       | 2 => f 2 = .slice A5 (digs 4294967296 t3).length c5
       | 3 => ∃ A1 c1, f 3 = .slice A1 (digs 4294967296 mi).length c1 ∧ RU X A1 c1 (digs 4294967296 mi)
       | 4 => f 4 = .pointer (some ⟨q, 2, none⟩)
       | 5 => f 5 = .slice Ab (digs 4294967296 C.bb).length cb
       | 6 => ∃ A1 c1, f 6 = .slice A1 (digs 4294967296 (mi + C.bb)).length c1 ∧ RU X A1 c1 (digs 4294967296 (mi + C.bb))
       | 7 => f 7 = .pointer (some ⟨q, 0, none⟩)
       | 8 => f 8 = .slice Ap (digs 4294967296 C.M).length cp
       | 9 => ∃ A1 c1, f 9 = .slice A1 (digs 4294967296 rt).length c1 ∧ RU X A1 c1 (digs 4294967296 rt)
       | 10 => ∃ A1 c1, f 10 = .slice A1 (digs 4294967296 rt).length c1 ∧ RU X A1 c1 (digs 4294967296 rt)
       | _ => True) (by kernel_rfl) [(42, 0), (43, 1), (44, 2), (45, 3), (46, 4), (47, 5), (48, 6), (49, 7), (50, 8), (51, 9), (7, 10)] (by kernel_rfl) ?_
      refine Par.S 1 10 [(43, 1), (44, 2), (46, 4), (47, 5), (49, 7), (50, 8)] (fun f X hX hR K hK => ?_) ?_
      · simp only [yA, yB, yC, yD, yE]
        refine ⟨Par.want (by kernel_rfl) (wp_loadV 31 (.tmp 2) rfl rfl (hE.trans hX |>.at_ hcb) Try.underlying31 rfl infoRC HV.out ?_)⟩
        exact hK.out _ (cvv) _ (by simp only [yA, yB, yC, yD, yE]) (Ext.refl _) trivial (fun _ _ => rfl)
      refine Par.S 2 9 [(42, 0), (44, 2), (46, 4), (47, 5), (49, 7), (50, 8)] (fun f X hX hR K hK => ?_) ?_
      · simp only [yA, yB, yC, yD, yE]
        refine ⟨?_⟩
        go_simp
        exact Par.k hK (s := by simp only [yA, yB, yC, yD, yE])
      refine Par.S 3 8 [(42, 0), (43, 1), (46, 4), (47, 5), (49, 7), (50, 8)] (fun f X hX hR K hK => ?_) ?_
      · simp only [yA, yB, yC, yD, yE]
        refine ⟨?_⟩
        go_simp
        exact Par.k hK (s := by simp only [yA, yB, yC, yD, yE])
      refine Par.S 4 7 [(42, 0), (43, 1), (44, 2), (46, 4), (47, 5), (49, 7), (50, 8)] (fun f X hX hR K hK => ?_) ?_
      · have e0 : f 0 = _ := hR.out 0 rfl
        have e1 : f 1 = _ := hR.out 1 rfl
        have e2 : f 2 = _ := hR.out 2 rfl
        simp only [yA, yB, yC, yD, yE, e0, e1, e2]
        refine ⟨?_⟩
        go_simp
        refine (minus_any A10 A5 c10 c5 m3 t3 X (Hcv.out.ext (HE0.out.trans (hE.trans hX))) (g10.up hX) (o5.up hX) (by have := K3.out; omega) (by have := L.out; omega) Htm.out HM0.out).mono ?_
        rw [Ei.out]
        rintro e w2 ⟨A1, c1, rfl, hO, hB⟩
        exact hK.out _ (.slice A1 (digs 4294967296 mi).length c1) _ (by simp only [yA, yB, yC, yD, yE, e0, e1, e2]) hB trivial (fun Y hY => ⟨A1, c1, rfl, hO.up hY⟩)
      refine Par.S 5 6 [(42, 0), (43, 1), (44, 2), (45, 3), (49, 7), (50, 8)] (fun f X hX hR K hK => ?_) ?_
      · simp only [yA, yB, yC, yD, yE]
        refine ⟨?_⟩
        go_simp
        exact Par.k hK (s := by simp only [yA, yB, yC, yD, yE])
      refine Par.S 6 5 [(42, 0), (43, 1), (44, 2), (45, 3), (46, 4), (49, 7), (50, 8)] (fun f X hX hR K hK => ?_) ?_
      · have e4 : f 4 = _ := hR.out 4 rfl
        have x0 := hX.cell d2
        simp only [yA, yB, yC, yD, yE, e4]
        refine ⟨?_⟩
        go_simp
        exact Par.k hK (s := by simp only [yA, yB, yC, yD, yE, e4])
      refine Par.S 7 4 [(42, 0), (43, 1), (44, 2), (45, 3), (46, 4), (47, 5), (49, 7), (50, 8)] (fun f X hX hR K hK => ?_) ?_
      · obtain ⟨A3, c3, (e3 : f 3 = _), o3⟩ := hR.out 3 rfl
        have e5 : f 5 = _ := hR.out 5 rfl
        simp only [yA, yB, yC, yD, yE, e3, e5]
        refine ⟨?_⟩
        go_simp
        refine (refAdd_any _ _ A3 Ab c3 cb mi C.bb X o3 (h3.up (HE0.out.trans (hE.trans hX))) (fun _ hb => hb) (fun _ hb => hb) (by have := Ki.out; omega) (by have := Kb.out; omega)).mono ?_
        rintro e w2 ⟨A1, c1, rfl, hO, hB⟩
        exact hK.out _ (.slice A1 (digs 4294967296 (mi + C.bb)).length c1) _ (by simp only [yA, yB, yC, yD, yE, e3, e5]) hB trivial (fun Y hY => ⟨A1, c1, rfl, hO.ru.up hY⟩)
      refine Par.S 8 3 [(42, 0), (43, 1), (44, 2), (45, 3), (46, 4), (47, 5), (48, 6)] (fun f X hX hR K hK => ?_) ?_
      · simp only [yA, yB, yC, yD, yE]
        refine ⟨?_⟩
        go_simp
        exact Par.k hK (s := by simp only [yA, yB, yC, yD, yE])
      refine Par.S 9 2 [(42, 0), (43, 1), (44, 2), (45, 3), (46, 4), (47, 5), (48, 6), (49, 7)] (fun f X hX hR K hK => ?_) ?_
      · have e7 : f 7 = _ := hR.out 7 rfl
        have x0 := hX.cell d0
        simp only [yA, yB, yC, yD, yE, e7]
        refine ⟨?_⟩
        go_simp
        exact Par.k hK (s := by simp only [yA, yB, yC, yD, yE, e7])
      refine Par.S 10 1 [(42, 0), (43, 1), (44, 2), (45, 3), (46, 4), (47, 5), (48, 6), (49, 7), (50, 8)] (fun f X hX hR K hK => ?_) ?_
      · obtain ⟨A6, c6, (e6 : f 6 = _), o6⟩ := hR.out 6 rfl
        have e8 : f 8 = _ := hR.out 8 rfl
        simp only [yA, yB, yC, yD, yE, e6, e8]
        refine ⟨?_⟩
        go_simp
        refine (refMod_any A6 Ap c6 cp (mi + C.bb) C.M X o6 (h1.up (HE0.out.trans (hE.trans hX))) (by have := Ks.out; omega) HM0.out).mono ?_
        rw [Er.out]
        rintro e w2 ⟨A1, c1, rfl, hO, hB⟩
        exact hK.out _ (.slice A1 (digs 4294967296 rt).length c1) _ (by simp only [yA, yB, yC, yD, yE, e6, e8]) hB trivial (fun Y hY => ⟨A1, c1, rfl, hO.up hY⟩)
      refine Par.S 11 0 [(42, 0), (43, 1), (44, 2), (45, 3), (46, 4), (47, 5), (48, 6), (49, 7), (50, 8), (51, 9)] (fun f X hX hR K hK => ?_) ?_
      · obtain ⟨A9, c9, (e9 : f 9 = _), o9⟩ := hR.out 9 rfl
        simp only [yA, yB, yC, yD, yE, e9]
        refine ⟨?_⟩
        go_simp
        exact hK.out _ (.slice A9 (digs 4294967296 rt).length c9) _ (by simp only [yA, yB, yC, yD, yE, e9]) (Ext.refl _) trivial (fun Y hY => ⟨A9, c9, rfl, o9.up hY⟩)
      refine Par.AllOps.fin ⟨fun f X hX hR hal hap => ?_⟩
      have e0 : f 0 = _ := hR 0 (by decide)
      have e1 : f 1 = _ := hR 1 (by decide)
      have e2 : f 2 = _ := hR 2 (by decide)
      obtain ⟨A3, c3, (e3 : f 3 = _), o3⟩ := hR 3 (by decide)
      have e4 : f 4 = _ := hR 4 (by decide)
      have e5 : f 5 = _ := hR 5 (by decide)
      obtain ⟨A6, c6, (e6 : f 6 = _), o6⟩ := hR 6 (by decide)
      have e7 : f 7 = _ := hR 7 (by decide)
      have e8 : f 8 = _ := hR 8 (by decide)
      obtain ⟨A9, c9, (e9 : f 9 = _), o9⟩ := hR 9 (by decide)
      obtain ⟨A11, c11, (e10 : f 10 = _), o11⟩ := hR 10 (by decide)
      simp only [yA, yB, yC, yD, yE, e0, e1, e2, e3, e4, e5, e6, e7, e8, e9, e10]
      clear hR hal hap e0 e1 e2 e3 e4 e5 e6 e7 e8 e9 e10
      refine Par.Chain.done ?_
      have hE' := hE.trans hX
      clear hX hE d0 d2 o3 o6 o9 g10 o5
      have hE := hE'
      clear hE'
      go_upto_region 10 with fail
      have d2 := hE.cell p2
      refine Par.region_txt 10 [0, 0, 2, 0, 8, 31, 0, 127, 255, 511] [] (fun j f X => match j with
       | 0 => f 0 = cvv
       | 1 => f 1 = .pointer (some ⟨q + 1, 2, none⟩)
       | 2 => f 2 = .slice A' (digs 4294967296 y).length c'
       | 3 => f 3 = .pointer (some ⟨q + 1, 2, none⟩)
       | 4 => f 4 = .slice A' (digs 4294967296 y).length c'
       | 5 => ∃ A1 c1, f 5 = .slice A1 (digs 4294967296 yy).length c1 ∧ RU X A1 c1 (digs 4294967296 yy)
       | 6 => f 6 = .slice A11 (digs 4294967296 rt).length c11
       | 7 => f 7 = .int .i64 (cmpV yy rt)
       | 8 => f 8 = .bool r
       | 9 => f 9 = .bool r
       | _ => True) (by kernel_rfl) [(52, 0), (53, 1), (54, 2), (55, 3), (56, 4), (57, 5), (58, 6), (59, 7), (60, 8), (4, 9)] (by kernel_rfl) ?_
      refine Par.S 1 9 [(53, 1), (54, 2), (55, 3), (56, 4), (58, 6)] (fun f X hX hR K hK => ?_) ?_
      · simp only [yA, yB, yC, yD, yE]
        refine ⟨Par.want (by kernel_rfl) (wp_loadV 31 (.tmp 2) rfl rfl (hE.trans hX |>.at_ hcb) Try.underlying31 rfl infoRC HV.out ?_)⟩
        exact hK.out _ (cvv) _ (by simp only [yA, yB, yC, yD, yE]) (Ext.refl _) trivial (fun _ _ => rfl)
      refine Par.S 2 8 [(52, 0), (55, 3), (56, 4), (58, 6)] (fun f X hX hR K hK => ?_) ?_
      · simp only [yA, yB, yC, yD, yE]
        refine ⟨?_⟩
        go_simp
        exact Par.k hK (s := by simp only [yA, yB, yC, yD, yE])
      refine Par.S 3 7 [(52, 0), (53, 1), (55, 3), (56, 4), (58, 6)] (fun f X hX hR K hK => ?_) ?_
      · have e1 : f 1 = _ := hR.out 1 rfl
        have x0 := hX.cell d2
        simp only [yA, yB, yC, yD, yE, e1]
        refine ⟨?_⟩
        go_simp
        exact Par.k hK (s := by simp only [yA, yB, yC, yD, yE, e1])
      refine Par.S 4 6 [(52, 0), (53, 1), (54, 2), (58, 6)] (fun f X hX hR K hK => ?_) ?_
      · simp only [yA, yB, yC, yD, yE]
        refine ⟨?_⟩
        go_simp
        exact Par.k hK (s := by simp only [yA, yB, yC, yD, yE])
      refine Par.S 5 5 [(52, 0), (53, 1), (54, 2), (55, 3), (58, 6)] (fun f X hX hR K hK => ?_) ?_
      · have e3 : f 3 = _ := hR.out 3 rfl
        have x0 := hX.cell d2
        simp only [yA, yB, yC, yD, yE, e3]
        refine ⟨?_⟩
        go_simp
        exact Par.k hK (s := by simp only [yA, yB, yC, yD, yE, e3])
      refine Par.S 6 4 [(52, 0), (53, 1), (54, 2), (55, 3), (56, 4), (58, 6)] (fun f X hX hR K hK => ?_) ?_
      · have e0 : f 0 = _ := hR.out 0 rfl
        have e2 : f 2 = _ := hR.out 2 rfl
        have e4 : f 4 = _ := hR.out 4 rfl
        simp only [yA, yB, yC, yD, yE, e0, e2, e4]
        refine ⟨?_⟩
        go_simp
        refine (times_any A' A' c' c' y y X (Hcv.out.ext (HE0.out.trans (hE.trans hX))) (h'.up (HE0.out.trans (hE.trans hX))) (h'.up (HE0.out.trans (hE.trans hX))) (by have := KY.out; omega) (by have := KY.out; omega) HM0.out).mono ?_
        rw [Ey.out]
        rintro e w2 ⟨A1, c1, rfl, hO, hB⟩
        exact hK.out _ (.slice A1 (digs 4294967296 yy).length c1) _ (by simp only [yA, yB, yC, yD, yE, e0, e2, e4]) hB trivial (fun Y hY => ⟨A1, c1, rfl, hO.up hY⟩)
      refine Par.S 7 3 [(52, 0), (53, 1), (54, 2), (55, 3), (56, 4), (57, 5)] (fun f X hX hR K hK => ?_) ?_
      · simp only [yA, yB, yC, yD, yE]
        refine ⟨?_⟩
        go_simp
        exact Par.k hK (s := by simp only [yA, yB, yC, yD, yE])
      refine Par.S 8 2 [(52, 0), (53, 1), (54, 2), (55, 3), (56, 4), (57, 5), (58, 6)] (fun f X hX hR K hK => ?_) ?_
      · obtain ⟨A5, c5, (e5 : f 5 = _), o5⟩ := hR.out 5 rfl
        have e6 : f 6 = _ := hR.out 6 rfl
        simp only [yA, yB, yC, yD, yE, e5, e6]
        refine ⟨?_⟩
        go_simp
        refine (refCmp_any _ _ A5 A11 c5 c11 yy rt X o5 (o11.up hX)).mono ?_
        rintro e w2 ⟨rfl, nq, rfl⟩
        exact hK.out _ (.int .i64 (cmpV yy rt)) _ (by simp only [yA, yB, yC, yD, yE, e5, e6]) (Ext.drewN _ _) trivial (fun _ _ => rfl)
      refine Par.S 9 1 [(52, 0), (53, 1), (54, 2), (55, 3), (56, 4), (57, 5), (58, 6), (59, 7)] (fun f X hX hR K hK => ?_) ?_
      · have e7 : f 7 = _ := hR.out 7 rfl
        simp only [yA, yB, yC, yD, yE, e7]
        refine ⟨?_⟩
        go_simp
        have hd : (cmpV yy rt == 0) = r := by rw [Hres.out]; exact cmpV_eq0 yy rt
        rw [hd]
        exact Par.k hK (s := by simp only [yA, yB, yC, yD, yE, e7])
      refine Par.S 10 0 [(52, 0), (53, 1), (54, 2), (55, 3), (56, 4), (57, 5), (58, 6), (59, 7), (60, 8)] (fun f X hX hR K hK => ?_) ?_
      · have e8 : f 8 = _ := hR.out 8 rfl
        simp only [yA, yB, yC, yD, yE, e8]
        refine ⟨?_⟩
        go_simp
        exact Par.k hK (s := by simp only [yA, yB, yC, yD, yE, e8])
      refine Par.AllOps.fin ⟨fun f X hX hR hal hap => ?_⟩
      have e0 : f 0 = _ := hR 0 (by decide)
      have e1 : f 1 = _ := hR 1 (by decide)
      have e2 : f 2 = _ := hR 2 (by decide)
      have e3 : f 3 = _ := hR 3 (by decide)
      have e4 : f 4 = _ := hR 4 (by decide)
      obtain ⟨A5, c5, (e5 : f 5 = _), o5⟩ := hR 5 (by decide)
      have e6 : f 6 = _ := hR 6 (by decide)
      have e7 : f 7 = _ := hR 7 (by decide)
      have e8 : f 8 = _ := hR 8 (by decide)
      have e9 : f 9 = _ := hR 9 (by decide)
      simp only [yA, yB, yC, yD, yE, e0, e1, e2, e3, e4, e5, e6, e7, e8, e9]
      clear hR hal hap e0 e1 e2 e3 e4 e5 e6 e7 e8 e9
      refine Par.Chain.done ?_
      go_wp2
      go_ret
      exact ⟨rfl, HE0.out.trans (hE.trans hX)⟩
    · obtain ⟨v, hv⟩ : ∃ v, cmpV y C.M = v := ⟨_, rfl⟩
      have hv0 : 0 ≤ v := by rw [← hv]; rcases cmpV_cases y C.M with h | h | h <;> omega
      have Hv := Lib.hid hv
      have HH := Lib.hid hyM
      clear hv hyM
      go_enter Try.func16, Try.ntmps16
      go_upto_region 5 with fail
      rw [← hW0]
      clear hW0 hq
      refine Par.region_txt 14 [0, 1, 0, 4, 15, 31, 63, 127, 255, 127, 639, 2047, 4095, 8191] [] (fun j f X => match j with
       | 0 => f 0 = .pointer (some ⟨q + 1, 1, none⟩)
       | 1 => f 1 = .slice A (digs 4294967296 x).length c
       | 2 => f 2 = .pointer (some ⟨q, 0, none⟩)
       | 3 => f 3 = .slice Ap (digs 4294967296 C.M).length cp
       | 4 => f 4 = .int .i64 (-1)
       | 5 => f 5 = .bool false
       | 6 => f 6 = .bool false
       | 7 => f 7 = .pointer (some ⟨q + 1, 2, none⟩)
       | 8 => f 8 = .slice A' (digs 4294967296 y).length c'
       | 9 => f 9 = .pointer (some ⟨q, 0, none⟩)
       | 10 => f 10 = .slice Ap (digs 4294967296 C.M).length cp
       | 11 => f 11 = .int .i64 v
       | 12 => f 12 = .bool true
       | 13 => f 13 = .bool true
       | _ => True) (by kernel_rfl) [(13, 0), (14, 1), (15, 2), (16, 3), (17, 4), (18, 5), (19, 6), (20, 7), (21, 8), (22, 9), (23, 10), (24, 11), (25, 12), (26, 13)] (by kernel_rfl) ?_
      refine Par.S 1 13 [(15, 2), (16, 3)] (fun f X hX hR K hK => ?_) ?_
      · simp only [yA, yB, yC, yD, yE]
        refine ⟨?_⟩
        go_simp
        exact Par.k hK (s := by simp only [yA, yB, yC, yD, yE])
      refine Par.S 2 12 [(13, 0), (15, 2), (16, 3)] (fun f X hX hR K hK => ?_) ?_
      · have e0 : f 0 = _ := hR.out 0 rfl
        have x0 := hX.cell p1
        simp only [yA, yB, yC, yD, yE, e0]
        refine ⟨?_⟩
        go_simp
        exact Par.k hK (s := by simp only [yA, yB, yC, yD, yE, e0])
      refine Par.S 3 11 [(13, 0), (14, 1)] (fun f X hX hR K hK => ?_) ?_
      · simp only [yA, yB, yC, yD, yE]
        refine ⟨?_⟩
        go_simp
        exact Par.k hK (s := by simp only [yA, yB, yC, yD, yE])
      refine Par.S 4 10 [(13, 0), (14, 1), (15, 2)] (fun f X hX hR K hK => ?_) ?_
      · have e2 : f 2 = _ := hR.out 2 rfl
        have x0 := hX.cell b0
        simp only [yA, yB, yC, yD, yE, e2]
        refine ⟨?_⟩
        go_simp
        exact Par.k hK (s := by simp only [yA, yB, yC, yD, yE, e2])
      refine Par.S 5 9 [(13, 0), (14, 1), (15, 2), (16, 3)] (fun f X hX hR K hK => ?_) ?_
      · have e1 : f 1 = _ := hR.out 1 rfl
        have e3 : f 3 = _ := hR.out 3 rfl
        simp only [yA, yB, yC, yD, yE, e1, e3]
        refine ⟨?_⟩
        go_simp
        refine (arm1.out X hX).mono ?_
        rintro e w2 ⟨rfl, nq, rfl⟩
        rw [tx.out]
        exact hK.out _ (.int .i64 (-1)) _ (by simp only [yA, yB, yC, yD, yE, e1, e3]) (Ext.drewN _ _) trivial (fun _ _ => rfl)
      refine Par.S 6 8 [(13, 0), (14, 1), (15, 2), (16, 3), (17, 4)] (fun f X hX hR K hK => ?_) ?_
      · have e4 : f 4 = _ := hR.out 4 rfl
        simp only [yA, yB, yC, yD, yE, e4]
        refine ⟨?_⟩
        go_simp
        exact Par.k hK (s := by simp only [yA, yB, yC, yD, yE, e4])
      refine Par.S 7 7 [(13, 0), (14, 1), (15, 2), (16, 3), (17, 4), (18, 5)] (fun f X hX hR K hK => ?_) ?_
      · have e5 : f 5 = _ := hR.out 5 rfl
        simp only [yA, yB, yC, yD, yE, e5]
        refine ⟨?_⟩
        go_simp
        exact Par.k hK (s := by simp only [yA, yB, yC, yD, yE, e5])
      refine Par.S 8 6 [(13, 0), (14, 1), (15, 2), (16, 3), (17, 4), (18, 5), (19, 6), (22, 9), (23, 10)] (fun f X hX hR K hK => ?_) ?_
      · have e6 : f 6 = _ := hR.out 6 rfl
        simp only [yA, yB, yC, yD, yE, e6]
        refine ⟨Par.want (by kernel_rfl) ?_⟩
        go_simp
        exact Par.k hK (s := by simp only [yA, yB, yC, yD, yE, e6])
      refine Par.S 9 5 [(13, 0), (14, 1), (15, 2), (16, 3), (17, 4), (18, 5), (19, 6), (20, 7), (22, 9), (23, 10)] (fun f X hX hR K hK => ?_) ?_
      · have e6 : f 6 = _ := hR.out 6 rfl
        have e7 : f 7 = _ := hR.out 7 rfl
        have x0 := hX.cell p2
        simp only [yA, yB, yC, yD, yE, e6, e7]
        refine ⟨Par.want (by kernel_rfl) ?_⟩
        go_simp
        exact Par.k hK (s := by simp only [yA, yB, yC, yD, yE, e6, e7])
      refine Par.S 10 4 [(13, 0), (14, 1), (15, 2), (16, 3), (17, 4), (18, 5), (19, 6), (20, 7), (21, 8)] (fun f X hX hR K hK => ?_) ?_
      · have e6 : f 6 = _ := hR.out 6 rfl
        simp only [yA, yB, yC, yD, yE, e6]
        refine ⟨Par.want (by kernel_rfl) ?_⟩
        go_simp
        exact Par.k hK (s := by simp only [yA, yB, yC, yD, yE, e6])
      refine Par.S 11 3 [(13, 0), (14, 1), (15, 2), (16, 3), (17, 4), (18, 5), (19, 6), (20, 7), (21, 8), (22, 9)] (fun f X hX hR K hK => ?_) ?_
      · have e6 : f 6 = _ := hR.out 6 rfl
        have e9 : f 9 = _ := hR.out 9 rfl
        have x0 := hX.cell b0
        simp only [yA, yB, yC, yD, yE, e6, e9]
        refine ⟨Par.want (by kernel_rfl) ?_⟩
        go_simp
        exact Par.k hK (s := by simp only [yA, yB, yC, yD, yE, e6, e9])
      refine Par.S 12 2 [(13, 0), (14, 1), (15, 2), (16, 3), (17, 4), (18, 5), (19, 6), (20, 7), (21, 8), (22, 9), (23, 10)] (fun f X hX hR K hK => ?_) ?_
      · have e6 : f 6 = _ := hR.out 6 rfl
        have e8 : f 8 = _ := hR.out 8 rfl
        have e10 : f 10 = _ := hR.out 10 rfl
        simp only [yA, yB, yC, yD, yE, e6, e8, e10]
        refine ⟨Par.want (by kernel_rfl) ?_⟩
        go_simp
        refine (arm2.out X hX).mono ?_
        rintro e w2 ⟨rfl, nq, rfl⟩
        rw [Hv.out]
        exact hK.out _ (.int .i64 v) _ (by simp only [yA, yB, yC, yD, yE, e6, e8, e10]) (Ext.drewN _ _) trivial (fun _ _ => rfl)
      refine Par.S 13 1 [(13, 0), (14, 1), (15, 2), (16, 3), (17, 4), (18, 5), (19, 6), (20, 7), (21, 8), (22, 9), (23, 10), (24, 11)] (fun f X hX hR K hK => ?_) ?_
      · have e6 : f 6 = _ := hR.out 6 rfl
        have e11 : f 11 = _ := hR.out 11 rfl
        simp only [yA, yB, yC, yD, yE, e6, e11]
        refine ⟨Par.want (by kernel_rfl) ?_⟩
        go_simp
        exact Par.k hK (s := by simp only [yA, yB, yC, yD, yE, e6, e11])
      refine Par.S 14 0 [(13, 0), (14, 1), (15, 2), (16, 3), (17, 4), (18, 5), (19, 6), (20, 7), (21, 8), (22, 9), (23, 10), (24, 11), (25, 12)] (fun f X hX hR K hK => ?_) ?_
      · have e6 : f 6 = _ := hR.out 6 rfl
        have e12 : f 12 = _ := hR.out 12 rfl
        simp only [yA, yB, yC, yD, yE, e6, e12]
        refine ⟨?_⟩
        go_simp
        exact Par.k hK (s := by simp only [yA, yB, yC, yD, yE, e6, e12])
      refine Par.AllOps.fin ⟨fun f X hX hR hal hap => ?_⟩
      have e0 : f 0 = _ := hR 0 (by decide)
      have e1 : f 1 = _ := hR 1 (by decide)
      have e2 : f 2 = _ := hR 2 (by decide)
      have e3 : f 3 = _ := hR 3 (by decide)
      have e4 : f 4 = _ := hR 4 (by decide)
      have e5 : f 5 = _ := hR 5 (by decide)
      have e6 : f 6 = _ := hR 6 (by decide)
      have e7 : f 7 = _ := hR 7 (by decide)
      have e8 : f 8 = _ := hR 8 (by decide)
      have e9 : f 9 = _ := hR 9 (by decide)
      have e10 : f 10 = _ := hR 10 (by decide)
      have e11 : f 11 = _ := hR 11 (by decide)
      have e12 : f 12 = _ := hR 12 (by decide)
      have e13 : f 13 = _ := hR 13 (by decide)
      simp only [yA, yB, yC, yD, yE, e0, e1, e2, e3, e4, e5, e6, e7, e8, e9, e10, e11, e12, e13]
      clear hR hal hap e0 e1 e2 e3 e4 e5 e6 e7 e8 e9 e10 e11 e12 e13
      refine Par.Chain.done ?_
      go_wp2
      go_ret
      exact ⟨by rw [show r = false by rw [← Hr.out]; simp [onB, HH.out]]; rfl, HE0.out.trans hX⟩
  · obtain ⟨v, hv⟩ : ∃ v, cmpV x C.M = v := ⟨_, rfl⟩
    have hv0 : 0 ≤ v := by rw [← hv]; rcases cmpV_cases x C.M with h | h | h <;> omega
    have Hv := Lib.hid hv
    have HH := Lib.hid hxM
    clear hv hxM
    go_enter Try.func16, Try.ntmps16
    go_upto_region 5 with fail
    rw [← hW0]
    clear hW0 hq
    refine Par.region_txt 14 [0, 1, 0, 4, 15, 31, 63, 127, 255, 127, 639, 2047, 4095, 8191] [] (fun j f X => match j with
     | 0 => f 0 = .pointer (some ⟨q + 1, 1, none⟩)
     | 1 => f 1 = .slice A (digs 4294967296 x).length c
     | 2 => f 2 = .pointer (some ⟨q, 0, none⟩)
     | 3 => f 3 = .slice Ap (digs 4294967296 C.M).length cp
     | 4 => f 4 = .int .i64 v
     | 5 => f 5 = .bool true
     | 6 => f 6 = .bool true
     | 7 => f 7 = undef
     | 8 => f 8 = undef
     | 9 => f 9 = undef
     | 10 => f 10 = undef
     | 11 => f 11 = undef
     | 12 => f 12 = undef
     | 13 => f 13 = .bool true
     | _ => True) (by kernel_rfl) [(13, 0), (14, 1), (15, 2), (16, 3), (17, 4), (18, 5), (19, 6), (20, 7), (21, 8), (22, 9), (23, 10), (24, 11), (25, 12), (26, 13)] (by kernel_rfl) ?_
    refine Par.S 1 13 [(15, 2), (16, 3)] (fun f X hX hR K hK => ?_) ?_
    · simp only [yA, yB, yC, yD, yE]
      refine ⟨?_⟩
      go_simp
      exact Par.k hK (s := by simp only [yA, yB, yC, yD, yE])
    refine Par.S 2 12 [(13, 0), (15, 2), (16, 3)] (fun f X hX hR K hK => ?_) ?_
    · have e0 : f 0 = _ := hR.out 0 rfl
      have x0 := hX.cell p1
      simp only [yA, yB, yC, yD, yE, e0]
      refine ⟨?_⟩
      go_simp
      exact Par.k hK (s := by simp only [yA, yB, yC, yD, yE, e0])
    refine Par.S 3 11 [(13, 0), (14, 1)] (fun f X hX hR K hK => ?_) ?_
    · simp only [yA, yB, yC, yD, yE]
      refine ⟨?_⟩
      go_simp
      exact Par.k hK (s := by simp only [yA, yB, yC, yD, yE])
    refine Par.S 4 10 [(13, 0), (14, 1), (15, 2)] (fun f X hX hR K hK => ?_) ?_
    · have e2 : f 2 = _ := hR.out 2 rfl
      have x0 := hX.cell b0
      simp only [yA, yB, yC, yD, yE, e2]
      refine ⟨?_⟩
      go_simp
      exact Par.k hK (s := by simp only [yA, yB, yC, yD, yE, e2])
    refine Par.S 5 9 [(13, 0), (14, 1), (15, 2), (16, 3)] (fun f X hX hR K hK => ?_) ?_
    · have e1 : f 1 = _ := hR.out 1 rfl
      have e3 : f 3 = _ := hR.out 3 rfl
      simp only [yA, yB, yC, yD, yE, e1, e3]
      refine ⟨?_⟩
      go_simp
      refine (arm1.out X hX).mono ?_
      rintro e w2 ⟨rfl, nq, rfl⟩
      rw [Hv.out]
      exact hK.out _ (.int .i64 v) _ (by simp only [yA, yB, yC, yD, yE, e1, e3]) (Ext.drewN _ _) trivial (fun _ _ => rfl)
    refine Par.S 6 8 [(13, 0), (14, 1), (15, 2), (16, 3), (17, 4)] (fun f X hX hR K hK => ?_) ?_
    · have e4 : f 4 = _ := hR.out 4 rfl
      simp only [yA, yB, yC, yD, yE, e4]
      refine ⟨?_⟩
      go_simp
      exact Par.k hK (s := by simp only [yA, yB, yC, yD, yE, e4])
    refine Par.S 7 7 [(13, 0), (14, 1), (15, 2), (16, 3), (17, 4), (18, 5)] (fun f X hX hR K hK => ?_) ?_
    · have e5 : f 5 = _ := hR.out 5 rfl
      simp only [yA, yB, yC, yD, yE, e5]
      refine ⟨?_⟩
      go_simp
      exact Par.k hK (s := by simp only [yA, yB, yC, yD, yE, e5])
    refine Par.S 8 6 [(13, 0), (14, 1), (15, 2), (16, 3), (17, 4), (18, 5), (19, 6), (22, 9), (23, 10)] (fun f X hX hR K hK => ?_) ?_
    · have e6 : f 6 = _ := hR.out 6 rfl
      simp only [yA, yB, yC, yD, yE, e6]
      refine ⟨Par.unwant (by kernel_rfl) ?_⟩
      exact hK.out _ (undef) _ (by simp only [yA, yB, yC, yD, yE, e6]) (Ext.refl _) trivial (fun _ _ => rfl)
    refine Par.S 9 5 [(13, 0), (14, 1), (15, 2), (16, 3), (17, 4), (18, 5), (19, 6), (20, 7), (22, 9), (23, 10)] (fun f X hX hR K hK => ?_) ?_
    · have e6 : f 6 = _ := hR.out 6 rfl
      have e7 : f 7 = _ := hR.out 7 rfl
      simp only [yA, yB, yC, yD, yE, e6, e7]
      refine ⟨Par.unwant (by kernel_rfl) ?_⟩
      exact hK.out _ (undef) _ (by simp only [yA, yB, yC, yD, yE, e6, e7]) (Ext.refl _) trivial (fun _ _ => rfl)
    refine Par.S 10 4 [(13, 0), (14, 1), (15, 2), (16, 3), (17, 4), (18, 5), (19, 6), (20, 7), (21, 8)] (fun f X hX hR K hK => ?_) ?_
    · have e6 : f 6 = _ := hR.out 6 rfl
      simp only [yA, yB, yC, yD, yE, e6]
      refine ⟨Par.unwant (by kernel_rfl) ?_⟩
      exact hK.out _ (undef) _ (by simp only [yA, yB, yC, yD, yE, e6]) (Ext.refl _) trivial (fun _ _ => rfl)
    refine Par.S 11 3 [(13, 0), (14, 1), (15, 2), (16, 3), (17, 4), (18, 5), (19, 6), (20, 7), (21, 8), (22, 9)] (fun f X hX hR K hK => ?_) ?_
    · have e6 : f 6 = _ := hR.out 6 rfl
      have e9 : f 9 = _ := hR.out 9 rfl
      simp only [yA, yB, yC, yD, yE, e6, e9]
      refine ⟨Par.unwant (by kernel_rfl) ?_⟩
      exact hK.out _ (undef) _ (by simp only [yA, yB, yC, yD, yE, e6, e9]) (Ext.refl _) trivial (fun _ _ => rfl)
    refine Par.S 12 2 [(13, 0), (14, 1), (15, 2), (16, 3), (17, 4), (18, 5), (19, 6), (20, 7), (21, 8), (22, 9), (23, 10)] (fun f X hX hR K hK => ?_) ?_
    · have e6 : f 6 = _ := hR.out 6 rfl
      have e8 : f 8 = _ := hR.out 8 rfl
      have e10 : f 10 = _ := hR.out 10 rfl
      simp only [yA, yB, yC, yD, yE, e6, e8, e10]
      refine ⟨Par.unwant (by kernel_rfl) ?_⟩
      exact hK.out _ (undef) _ (by simp only [yA, yB, yC, yD, yE, e6, e8, e10]) (Ext.refl _) trivial (fun _ _ => rfl)
    refine Par.S 13 1 [(13, 0), (14, 1), (15, 2), (16, 3), (17, 4), (18, 5), (19, 6), (20, 7), (21, 8), (22, 9), (23, 10), (24, 11)] (fun f X hX hR K hK => ?_) ?_
    · have e6 : f 6 = _ := hR.out 6 rfl
      have e11 : f 11 = _ := hR.out 11 rfl
      simp only [yA, yB, yC, yD, yE, e6, e11]
      refine ⟨Par.unwant (by kernel_rfl) ?_⟩
      exact hK.out _ (undef) _ (by simp only [yA, yB, yC, yD, yE, e6, e11]) (Ext.refl _) trivial (fun _ _ => rfl)
    refine Par.S 14 0 [(13, 0), (14, 1), (15, 2), (16, 3), (17, 4), (18, 5), (19, 6), (20, 7), (21, 8), (22, 9), (23, 10), (24, 11), (25, 12)] (fun f X hX hR K hK => ?_) ?_
    · have e6 : f 6 = _ := hR.out 6 rfl
      have e12 : f 12 = _ := hR.out 12 rfl
      simp only [yA, yB, yC, yD, yE, e6, e12]
      refine ⟨?_⟩
      go_simp
      exact Par.k hK (s := by simp only [yA, yB, yC, yD, yE, e6, e12])
    refine Par.AllOps.fin ⟨fun f X hX hR hal hap => ?_⟩
    have e0 : f 0 = _ := hR 0 (by decide)
    have e1 : f 1 = _ := hR 1 (by decide)
    have e2 : f 2 = _ := hR 2 (by decide)
    have e3 : f 3 = _ := hR 3 (by decide)
    have e4 : f 4 = _ := hR 4 (by decide)
    have e5 : f 5 = _ := hR 5 (by decide)
    have e6 : f 6 = _ := hR 6 (by decide)
    have e7 : f 7 = _ := hR 7 (by decide)
    have e8 : f 8 = _ := hR 8 (by decide)
    have e9 : f 9 = _ := hR 9 (by decide)
    have e10 : f 10 = _ := hR 10 (by decide)
    have e11 : f 11 = _ := hR 11 (by decide)
    have e12 : f 12 = _ := hR 12 (by decide)
    have e13 : f 13 = _ := hR 13 (by decide)
    simp only [yA, yB, yC, yD, yE, e0, e1, e2, e3, e4, e5, e6, e7, e8, e9, e10, e11, e12, e13]
    clear hR hal hap e0 e1 e2 e3 e4 e5 e6 e7 e8 e9 e10 e11 e12 e13
    refine Par.Chain.done ?_
    go_wp2
    go_ret
    exact ⟨by rw [show r = false by rw [← Hr.out]; simp [onB, HH.out]]; rfl, HE0.out.trans hX⟩
end Go.Proofs.Ytldhmjfjbalakaa
