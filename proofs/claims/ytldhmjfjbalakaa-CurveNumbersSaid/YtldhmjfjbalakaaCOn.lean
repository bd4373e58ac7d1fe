/- Whether a point is on a curve: curve's own reckoning. -/
import Derived.Test.YtldhmjfjbalakaaKAo
import Derived.Deep.QuietTactic
import Derived.BigQuiet
import Derived.Deep.DeepCutAuto
namespace Go.Proofs.Ytldhmjfjbalakaa
open Go.RowKit

def onB (M bb x y : Nat) : Bool := decide (x < M) && decide (y < M) && decide (y * y % M = ((x * x % M * x % M + M - 3 * x % M) % M + bb) % M)

set_option maxRecDepth 100000 in
set_option maxHeartbeats 8000000 in
theorem on_any {P0 : Nat → Prop} {k g size n inv M bb : Nat} {pl nl bl xl yl ml ol rl tl fl : List Nat} {Ap An Ab Ax Ay : Option Addr} {cp cn cb cx cy : Nat} (Pa Pb : Nat → Prop) (A A' : Option Addr) (c c' : Nat) (a b : List Nat) (inf : Bool) (w : World)
 (hk : Num w P0 k g size n inv M bb pl nl bl xl yl ml ol rl tl fl Ap An Ab Ax Ay cp cn cb cx cy) (hP0 : ∀ b, P0 b → b < w.heap.size) (h : RN w Pa A c a) (h' : RN w Pb A' c' b) (hPa : ∀ b, Pa b → b < w.heap.size) (hPb : ∀ b, Pb b → b < w.heap.size) (hM3 : 3 < M) (hbM : bb < M) :
 Calls Try.prog 43 #[.pointer (some ⟨k, 0, none⟩), .agg #[.bool inf, .slice A a.length c, .slice A' b.length c']] w fun e w' => e = .returned (.bool (inf || onB M bb (val 18446744073709551616 a) (val 18446744073709551616 b))) ∧ Below w.heap.size w w' := by
 cases inf
 case true =>
  go_enter Try.func43, Try.ntmps43
  go_wp2
  go_ret
  exact ⟨rfl, (Below.refl _ w).alloc (Nat.le_refl _) _⟩
 case false =>
  rw [Bool.false_or]
  have hkl := blk_lt hk.blk
  have hgl := hk.fr.ff.fld.lt
  obtain ⟨W0, hW0⟩ : ∃ W0, W0 = w.alloc (.cells #[.bool false, .slice A a.length c, .slice A' b.length c'] 27) := ⟨_, rfl⟩
  have hB0 : Ext w W0 := by rw [hW0]; exact Ext.alloc _ _
  have hz0 : W0.heap.size = w.heap.size + 1 := by rw [hW0]; simp
  obtain ⟨q, hq⟩ : ∃ q, w.heap.size = q := ⟨_, rfl⟩
  have hbx : W0.heap[q]? = some (.cells #[.bool false, .slice A a.length c, .slice A' b.length c'] 27 (0, 0)) := by rw [hW0, ← hq]; exact heap_alloc_new w _
  have b0 : W0.cell? ⟨q, 0, none⟩ = some (.bool false) := blk_cell hbx 0
  have b1 : W0.cell? ⟨q, 1, none⟩ = some (.slice A a.length c) := blk_cell hbx 1
  have b2 : W0.cell? ⟨q, 2, none⟩ = some (.slice A' b.length c') := blk_cell hbx 2
  have hn := Lib.hid (hk.ext hP0 hB0)
  have hP0' : ∀ b, P0 b → b < W0.heap.size := fun b hb => by have := hP0 b hb; omega
  have hPa' : ∀ b, Pa b → b < W0.heap.size := fun b hb => by have := hPa b hb; omega
  have hPb' : ∀ b, Pb b → b < W0.heap.size := fun b hb => by have := hPb b hb; omega
  have ha := h.below hB0 hPa
  have hb := h'.below hB0 hPb
  have Hqs := Lib.hid (show q ≤ W0.heap.size by omega)
  have k1 := hn.out.c_p
  have k6 := hn.out.c_f
  have hpv := Lib.hid hk.pv
  obtain ⟨x, hx⟩ : ∃ x, val 18446744073709551616 a = x := ⟨_, rfl⟩
  obtain ⟨y, hy⟩ : ∃ y, val 18446744073709551616 b = y := ⟨_, rfl⟩
  rw [hx, hy]
  obtain ⟨r, hr⟩ : ∃ r, onB M bb x y = r := ⟨_, rfl⟩
  rw [hr]
  have Hr := Lib.hid hr
  have Hx := Lib.hid hx
  have Hy := Lib.hid hy
  have HB0 := Lib.hid hB0
  have Hz0 := Lib.hid hz0
  clear hx hy hz0 hB0 hk hr
  go_enter Try.func43, Try.ntmps43
  go_upto_region 3 with fail
  rw [← hW0]
  have HW0 := Lib.hid hW0
  have Hq := Lib.hid hq
  clear hW0 hq
  by_cases hxM : x < M
  · by_cases hyM : y < M
    · have HxM := cmpV_lt hxM
      have HyM := cmpV_lt hyM
      have tx := Lib.hid HxM
      have ty := Lib.hid HyM
      clear HxM HyM
      refine Par.region_ext (by kernel_rfl) 18 [0, 1, 0, 4, 12, 28, 63, 127, 255, 511, 1023, 511, 2559, 6655, 14847, 32767, 65535, 131071] [] (fun j f X => match j with
       | 0 => f 0 = .pointer (some ⟨q, 1, none⟩)
       | 1 => f 1 = .slice A a.length c
       | 2 => f 2 = .pointer (some ⟨k, 0, none⟩)
       | 3 => f 3 = .pointer (some ⟨k, 0, none⟩)
       | 4 => f 4 = .pointer (some ⟨k, 1, none⟩)
       | 5 => f 5 = .slice Ap pl.length cp
       | 6 => f 6 = .int .i64 (-1)
       | 7 => f 7 = .bool false
       | 8 => f 8 = .bool false
       | 9 => f 9 = .pointer (some ⟨q, 2, none⟩)
       | 10 => f 10 = .slice A' b.length c'
       | 11 => f 11 = .pointer (some ⟨k, 0, none⟩)
       | 12 => f 12 = .pointer (some ⟨k, 0, none⟩)
       | 13 => f 13 = .pointer (some ⟨k, 1, none⟩)
       | 14 => f 14 = .slice Ap pl.length cp
       | 15 => f 15 = .int .i64 (-1)
       | 16 => f 16 = .bool false
       | 17 => f 17 = .bool false
       | _ => True) (by kernel_rfl) [(17, 0), (18, 1), (19, 2), (20, 3), (21, 4), (22, 5), (23, 6), (24, 7), (25, 8), (26, 9), (27, 10), (28, 11), (29, 12), (30, 13), (31, 14), (32, 15), (33, 16), (34, 17)] (by kernel_rfl) ?_
      refine Par.S 1 17 [(19, 2), (20, 3), (21, 4), (22, 5)] (fun f X hX hR K hK => ?_) ?_
      · simp only [yA, yB, yC, yD, yE]
        refine ⟨?_⟩
        go_simp
        exact Par.k hK (s := by simp only [yA, yB, yC, yD, yE])
      refine Par.S 2 16 [(17, 0), (19, 2), (20, 3), (21, 4), (22, 5)] (fun f X hX hR K hK => ?_) ?_
      · have e0 : f 0 = _ := hR.out 0 rfl
        have x0 := hX.cell b1
        simp only [yA, yB, yC, yD, yE, e0]
        refine ⟨?_⟩
        go_simp
        exact Par.k hK (s := by simp only [yA, yB, yC, yD, yE, e0])
      refine Par.S 3 15 [(17, 0), (18, 1)] (fun f X hX hR K hK => ?_) ?_
      · simp only [yA, yB, yC, yD, yE]
        refine ⟨?_⟩
        go_simp
        exact Par.k hK (s := by simp only [yA, yB, yC, yD, yE])
      refine Par.S 4 14 [(17, 0), (18, 1), (19, 2)] (fun f X hX hR K hK => ?_) ?_
      · have e2 : f 2 = _ := hR.out 2 rfl
        simp only [yA, yB, yC, yD, yE, e2]
        refine ⟨?_⟩
        go_simp
        exact Par.k hK (s := by simp only [yA, yB, yC, yD, yE, e2])
      refine Par.S 5 13 [(17, 0), (18, 1), (19, 2), (20, 3)] (fun f X hX hR K hK => ?_) ?_
      · have e3 : f 3 = _ := hR.out 3 rfl
        simp only [yA, yB, yC, yD, yE, e3]
        refine ⟨?_⟩
        go_simp
        exact Par.k hK (s := by simp only [yA, yB, yC, yD, yE, e3])
      refine Par.S 6 12 [(17, 0), (18, 1), (19, 2), (20, 3), (21, 4)] (fun f X hX hR K hK => ?_) ?_
      · have e4 : f 4 = _ := hR.out 4 rfl
        have x0 := hX.cell k1
        simp only [yA, yB, yC, yD, yE, e4]
        refine ⟨?_⟩
        go_simp
        exact Par.k hK (s := by simp only [yA, yB, yC, yD, yE, e4])
      refine Par.S 7 11 [(17, 0), (18, 1), (19, 2), (20, 3), (21, 4), (22, 5)] (fun f X hX hR K hK => ?_) ?_
      · have e1 : f 1 = _ := hR.out 1 rfl
        have e5 : f 5 = _ := hR.out 5 rfl
        simp only [yA, yB, yC, yD, yE, e1, e5]
        refine ⟨?_⟩
        go_simp
        refine (cmp_any Pa P0 A Ap c cp a pl X (ha.below hX hPa') (hn.out.p.below hX hP0')).mono ?_
        rintro e w2 ⟨rfl, nq, rfl⟩
        rw [Hx.out, hpv.out, tx.out]
        exact hK.out _ _ _ (by simp only [yA, yB, yC, yD, yE, e1, e5]) (Ext.drewN _ _) trivial (fun _ _ => rfl)
      refine Par.S 8 10 [(17, 0), (18, 1), (19, 2), (20, 3), (21, 4), (22, 5), (23, 6)] (fun f X hX hR K hK => ?_) ?_
      · have e6 : f 6 = _ := hR.out 6 rfl
        simp only [yA, yB, yC, yD, yE, e6]
        refine ⟨?_⟩
        go_simp
        exact Par.k hK (s := by simp only [yA, yB, yC, yD, yE, e6])
      refine Par.S 9 9 [(17, 0), (18, 1), (19, 2), (20, 3), (21, 4), (22, 5), (23, 6), (24, 7)] (fun f X hX hR K hK => ?_) ?_
      · have e7 : f 7 = _ := hR.out 7 rfl
        simp only [yA, yB, yC, yD, yE, e7]
        refine ⟨?_⟩
        go_simp
        exact Par.k hK (s := by simp only [yA, yB, yC, yD, yE, e7])
      refine Par.S 10 8 [(17, 0), (18, 1), (19, 2), (20, 3), (21, 4), (22, 5), (23, 6), (24, 7), (25, 8), (28, 11), (29, 12), (30, 13), (31, 14)] (fun f X hX hR K hK => ?_) ?_
      · have e8 : f 8 = _ := hR.out 8 rfl
        simp only [yA, yB, yC, yD, yE, e8]
        refine ⟨Par.want (by kernel_rfl) ?_⟩
        go_simp
        exact Par.k hK (s := by simp only [yA, yB, yC, yD, yE, e8])
      refine Par.S 11 7 [(17, 0), (18, 1), (19, 2), (20, 3), (21, 4), (22, 5), (23, 6), (24, 7), (25, 8), (26, 9), (28, 11), (29, 12), (30, 13), (31, 14)] (fun f X hX hR K hK => ?_) ?_
      · have e8 : f 8 = _ := hR.out 8 rfl
        have e9 : f 9 = _ := hR.out 9 rfl
        have x0 := hX.cell b2
        simp only [yA, yB, yC, yD, yE, e8, e9]
        refine ⟨Par.want (by kernel_rfl) ?_⟩
        go_simp
        exact Par.k hK (s := by simp only [yA, yB, yC, yD, yE, e8, e9])
      refine Par.S 12 6 [(17, 0), (18, 1), (19, 2), (20, 3), (21, 4), (22, 5), (23, 6), (24, 7), (25, 8), (26, 9), (27, 10)] (fun f X hX hR K hK => ?_) ?_
      · have e8 : f 8 = _ := hR.out 8 rfl
        simp only [yA, yB, yC, yD, yE, e8]
        refine ⟨Par.want (by kernel_rfl) ?_⟩
        go_simp
        exact Par.k hK (s := by simp only [yA, yB, yC, yD, yE, e8])
      refine Par.S 13 5 [(17, 0), (18, 1), (19, 2), (20, 3), (21, 4), (22, 5), (23, 6), (24, 7), (25, 8), (26, 9), (27, 10), (28, 11)] (fun f X hX hR K hK => ?_) ?_
      · have e8 : f 8 = _ := hR.out 8 rfl
        have e11 : f 11 = _ := hR.out 11 rfl
        simp only [yA, yB, yC, yD, yE, e8, e11]
        refine ⟨Par.want (by kernel_rfl) ?_⟩
        go_simp
        exact Par.k hK (s := by simp only [yA, yB, yC, yD, yE, e8, e11])
      refine Par.S 14 4 [(17, 0), (18, 1), (19, 2), (20, 3), (21, 4), (22, 5), (23, 6), (24, 7), (25, 8), (26, 9), (27, 10), (28, 11), (29, 12)] (fun f X hX hR K hK => ?_) ?_
      · have e8 : f 8 = _ := hR.out 8 rfl
        have e12 : f 12 = _ := hR.out 12 rfl
        simp only [yA, yB, yC, yD, yE, e8, e12]
        refine ⟨Par.want (by kernel_rfl) ?_⟩
        go_simp
        exact Par.k hK (s := by simp only [yA, yB, yC, yD, yE, e8, e12])
      refine Par.S 15 3 [(17, 0), (18, 1), (19, 2), (20, 3), (21, 4), (22, 5), (23, 6), (24, 7), (25, 8), (26, 9), (27, 10), (28, 11), (29, 12), (30, 13)] (fun f X hX hR K hK => ?_) ?_
      · have e8 : f 8 = _ := hR.out 8 rfl
        have e13 : f 13 = _ := hR.out 13 rfl
        have x0 := hX.cell k1
        simp only [yA, yB, yC, yD, yE, e8, e13]
        refine ⟨Par.want (by kernel_rfl) ?_⟩
        go_simp
        exact Par.k hK (s := by simp only [yA, yB, yC, yD, yE, e8, e13])
      refine Par.S 16 2 [(17, 0), (18, 1), (19, 2), (20, 3), (21, 4), (22, 5), (23, 6), (24, 7), (25, 8), (26, 9), (27, 10), (28, 11), (29, 12), (30, 13), (31, 14)] (fun f X hX hR K hK => ?_) ?_
      · have e8 : f 8 = _ := hR.out 8 rfl
        have e10 : f 10 = _ := hR.out 10 rfl
        have e14 : f 14 = _ := hR.out 14 rfl
        simp only [yA, yB, yC, yD, yE, e8, e10, e14]
        refine ⟨Par.want (by kernel_rfl) ?_⟩
        go_simp
        refine (cmp_any Pb P0 A' Ap c' cp b pl X (hb.below hX hPb') (hn.out.p.below hX hP0')).mono ?_
        rintro e w2 ⟨rfl, nq, rfl⟩
        rw [Hy.out, hpv.out, ty.out]
        exact hK.out _ _ _ (by simp only [yA, yB, yC, yD, yE, e8, e10, e14]) (Ext.drewN _ _) trivial (fun _ _ => rfl)
      refine Par.S 17 1 [(17, 0), (18, 1), (19, 2), (20, 3), (21, 4), (22, 5), (23, 6), (24, 7), (25, 8), (26, 9), (27, 10), (28, 11), (29, 12), (30, 13), (31, 14), (32, 15)] (fun f X hX hR K hK => ?_) ?_
      · have e8 : f 8 = _ := hR.out 8 rfl
        have e15 : f 15 = _ := hR.out 15 rfl
        simp only [yA, yB, yC, yD, yE, e8, e15]
        refine ⟨Par.want (by kernel_rfl) ?_⟩
        go_simp
        exact Par.k hK (s := by simp only [yA, yB, yC, yD, yE, e8, e15])
      refine Par.S 18 0 [(17, 0), (18, 1), (19, 2), (20, 3), (21, 4), (22, 5), (23, 6), (24, 7), (25, 8), (26, 9), (27, 10), (28, 11), (29, 12), (30, 13), (31, 14), (32, 15), (33, 16)] (fun f X hX hR K hK => ?_) ?_
      · have e8 : f 8 = _ := hR.out 8 rfl
        have e16 : f 16 = _ := hR.out 16 rfl
        simp only [yA, yB, yC, yD, yE, e8, e16]
        refine ⟨?_⟩
        go_simp
        exact Par.k hK (s := by simp only [yA, yB, yC, yD, yE, e8, e16])
      refine Par.AllOps.fin ⟨fun f X hX hR hal hap => ?_⟩
      have e0 : f 0 = _ := hR 0 (by decide)
      have e1 : f 1 = _ := hR 1 (by decide)
      have e2 : f 2 = _ := hR 2 (by decide)
      have e3 : f 3 = _ := hR 3 (by decide)
      have e4 : f 4 = _ := hR 4 (by decide)
      have e5 : f 5 = _ := hR 5 (by decide)
      have e6 : f 6 = _ := hR 6 (by decide)
      have e7 : f 7 = _ := hR 7 (by decide)
      have e8 : f 8 = _ := hR 8 (by decide)
      have e9 : f 9 = _ := hR 9 (by decide)
      have e10 : f 10 = _ := hR 10 (by decide)
      have e11 : f 11 = _ := hR 11 (by decide)
      have e12 : f 12 = _ := hR 12 (by decide)
      have e13 : f 13 = _ := hR 13 (by decide)
      have e14 : f 14 = _ := hR 14 (by decide)
      have e15 : f 15 = _ := hR 15 (by decide)
      have e16 : f 16 = _ := hR 16 (by decide)
      have e17 : f 17 = _ := hR 17 (by decide)
      simp only [yA, yB, yC, yD, yE, e0, e1, e2, e3, e4, e5, e6, e7, e8, e9, e10, e11, e12, e13, e14, e15, e16, e17]
      clear hR hal hap e0 e1 e2 e3 e4 e5 e6 e7 e8 e9 e10 e11 e12 e13 e14 e15 e16 e17
      refine Par.Chain.done ?_
      have hE : Ext W0 X := hX
      clear hX
      have k6' := hE.cell k6
      go_upto_region 6 with fail
      clear k6'
      rename World => X3
      have d1 := hE.cell b1
      have d2 := hE.cell b2
      refine Par.region_ext (by kernel_rfl) 12 [0, 0, 2, 6, 15, 0, 0, 64, 223, 511, 0, 0, 4095, 8191] [10, 11] (fun j f X => match j with
       | 0 => f 0 = .pointer (some ⟨g, 0, none⟩)
       | 1 => f 1 = .pointer (some ⟨q, 1, none⟩)
       | 2 => f 2 = .slice A a.length c
       | 3 => ∃ A1 c1, f 3 = .slice A1 (digs 18446744073709551616 x).length c1 ∧ OB X q A1 c1 (digs 18446744073709551616 x)
       | 4 => ∃ o, f 4 = EV o ∧ FE M n o x
       | 5 => f 5 = .pointer (some ⟨g, 0, none⟩)
       | 6 => f 6 = .pointer (some ⟨q, 2, none⟩)
       | 7 => f 7 = .slice A' b.length c'
       | 8 => ∃ A1 c1, f 8 = .slice A1 (digs 18446744073709551616 y).length c1 ∧ OB X q A1 c1 (digs 18446744073709551616 y)
       | 9 => ∃ o, f 9 = EV o ∧ FE M n o y
       | 10 => ∃ b, f 10 = .pointer (some ⟨b, 0, none⟩) ∧ X3.heap.size ≤ b ∧ X.heap[b]? = some (.cells #[.int .u64 0, .int .u64 0, .int .u64 0, .int .u64 0, .int .u64 0, .int .u64 0] 81 (0, 0))
       | 11 => ∃ b, f 11 = .pointer (some ⟨b, 0, none⟩) ∧ X3.heap.size ≤ b ∧ X.heap[b]? = some (.cells #[.int .u64 0, .int .u64 0, .int .u64 0, .int .u64 0, .int .u64 0, .int .u64 0] 81 (0, 0))
       | _ => True) (by kernel_rfl) [(39, 0), (40, 1), (41, 2), (42, 3), (43, 4), (44, 5), (45, 6), (46, 7), (47, 8), (48, 9), (6, 10), (7, 11)] (by kernel_rfl) ?_
      refine Par.S 1 11 [(40, 1), (41, 2), (42, 3), (44, 5), (45, 6), (46, 7), (6, 10), (7, 11)] (fun f X hX hR K hK => ?_) ?_
      · simp only [yA, yB, yC, yD, yE]
        refine ⟨?_⟩
        go_simp
        exact Par.k hK (s := by simp only [yA, yB, yC, yD, yE])
      refine Par.S 2 10 [(39, 0), (44, 5), (45, 6), (46, 7), (6, 10), (7, 11)] (fun f X hX hR K hK => ?_) ?_
      · simp only [yA, yB, yC, yD, yE]
        refine ⟨?_⟩
        go_simp
        exact Par.k hK (s := by simp only [yA, yB, yC, yD, yE])
      refine Par.S 3 9 [(39, 0), (40, 1), (44, 5), (45, 6), (46, 7), (6, 10), (7, 11)] (fun f X hX hR K hK => ?_) ?_
      · have e1 : f 1 = _ := hR.out 1 rfl
        have x0 := hX.cell d1
        simp only [yA, yB, yC, yD, yE, e1]
        refine ⟨?_⟩
        go_simp
        exact Par.k hK (s := by simp only [yA, yB, yC, yD, yE, e1])
      refine Par.S 4 8 [(39, 0), (40, 1), (41, 2), (44, 5), (45, 6), (46, 7), (6, 10), (7, 11)] (fun f X hX hR K hK => ?_) ?_
      · have e2 : f 2 = _ := hR.out 2 rfl
        simp only [yA, yB, yC, yD, yE, e2]
        refine ⟨?_⟩
        go_simp
        refine (norm_any Pa A c a X (ha.below (hE.trans hX) hPa')).mono ?_
        rw [Hx.out]
        rintro e w2 ⟨A1, c1, rfl, hO, hB⟩
        exact hK.out _ _ _ (by simp only [yA, yB, yC, yD, yE, e2]) hB trivial (fun Y hY => ⟨A1, c1, rfl, (hO.mono (Nat.le_trans Hqs.out (hE.trans hX).bsize)).below hY (Nat.le_refl _)⟩)
      refine Par.S 5 7 [(39, 0), (40, 1), (41, 2), (42, 3), (44, 5), (45, 6), (46, 7), (6, 10), (7, 11)] (fun f X hX hR K hK => ?_) ?_
      · have e0 : f 0 = _ := hR.out 0 rfl
        obtain ⟨A3, c3, (e3 : f 3 = _), o3⟩ := hR.out 3 rfl
        simp only [yA, yB, yC, yD, yE, e0, e3]
        refine ⟨?_⟩
        go_simp
        refine (zto_any _ A3 c3 _ X (hn.out.ext hP0' (hE.trans hX)).fr o3.rn (fun b hb => hb.2) (hn.out.six hxM) (by rw [val_digs (by omega)]; exact hxM)).mono ?_
        rintro e w2 ⟨o, rfl, ho, hB⟩
        rw [val_digs (by omega)] at ho
        exact hK.out _ (EV o) _ (by simp only [yA, yB, yC, yD, yE, e0, e3]) hB trivial (fun Y hY => ⟨o, rfl, ho⟩)
      refine Par.S 6 6 [(39, 0), (40, 1), (41, 2), (42, 3), (43, 4), (45, 6), (46, 7), (47, 8), (6, 10), (7, 11)] (fun f X hX hR K hK => ?_) ?_
      · simp only [yA, yB, yC, yD, yE]
        refine ⟨?_⟩
        go_simp
        exact Par.k hK (s := by simp only [yA, yB, yC, yD, yE])
      refine Par.S 7 5 [(39, 0), (40, 1), (41, 2), (42, 3), (43, 4), (44, 5), (6, 10), (7, 11)] (fun f X hX hR K hK => ?_) ?_
      · simp only [yA, yB, yC, yD, yE]
        refine ⟨?_⟩
        go_simp
        exact Par.k hK (s := by simp only [yA, yB, yC, yD, yE])
      refine Par.S 8 4 [(39, 0), (40, 1), (41, 2), (42, 3), (43, 4), (44, 5), (45, 6), (6, 10), (7, 11)] (fun f X hX hR K hK => ?_) ?_
      · have e6 : f 6 = _ := hR.out 6 rfl
        have x0 := hX.cell d2
        simp only [yA, yB, yC, yD, yE, e6]
        refine ⟨?_⟩
        go_simp
        exact Par.k hK (s := by simp only [yA, yB, yC, yD, yE, e6])
      refine Par.S 9 3 [(39, 0), (40, 1), (41, 2), (42, 3), (43, 4), (44, 5), (45, 6), (46, 7), (6, 10), (7, 11)] (fun f X hX hR K hK => ?_) ?_
      · have e7 : f 7 = _ := hR.out 7 rfl
        simp only [yA, yB, yC, yD, yE, e7]
        refine ⟨?_⟩
        go_simp
        refine (norm_any Pb A' c' b X (hb.below (hE.trans hX) hPb')).mono ?_
        rw [Hy.out]
        rintro e w2 ⟨A1, c1, rfl, hO, hB⟩
        exact hK.out _ _ _ (by simp only [yA, yB, yC, yD, yE, e7]) hB trivial (fun Y hY => ⟨A1, c1, rfl, (hO.mono (Nat.le_trans Hqs.out (hE.trans hX).bsize)).below hY (Nat.le_refl _)⟩)
      refine Par.S 10 2 [(39, 0), (40, 1), (41, 2), (42, 3), (43, 4), (44, 5), (45, 6), (46, 7), (47, 8), (6, 10), (7, 11)] (fun f X hX hR K hK => ?_) ?_
      · have e5 : f 5 = _ := hR.out 5 rfl
        obtain ⟨A8, c8, (e8 : f 8 = _), o8⟩ := hR.out 8 rfl
        simp only [yA, yB, yC, yD, yE, e5, e8]
        refine ⟨?_⟩
        go_simp
        refine (zto_any _ A8 c8 _ X (hn.out.ext hP0' (hE.trans hX)).fr o8.rn (fun b hb => hb.2) (hn.out.six hyM) (by rw [val_digs (by omega)]; exact hyM)).mono ?_
        rintro e w2 ⟨o, rfl, ho, hB⟩
        rw [val_digs (by omega)] at ho
        exact hK.out _ (EV o) _ (by simp only [yA, yB, yC, yD, yE, e5, e8]) hB trivial (fun Y hY => ⟨o, rfl, ho⟩)
      refine Par.S 11 1 [(39, 0), (40, 1), (41, 2), (42, 3), (43, 4), (44, 5), (45, 6), (46, 7), (47, 8), (48, 9), (7, 11)] (fun f X hX hR K hK => ?_) ?_
      · simp only [yA, yB, yC, yD, yE]
        refine ⟨?_⟩
        go_simp
        exact hK.out _ _ _ (by simp only [yA, yB, yC, yD, yE]) (Ext.alloc _ _) ⟨rfl, by simp⟩ (fun Y hY => ⟨_, rfl, hX.bsize, hY.at_ (heap_alloc_new _ _)⟩)
      refine Par.S 12 0 [(39, 0), (40, 1), (41, 2), (42, 3), (43, 4), (44, 5), (45, 6), (46, 7), (47, 8), (48, 9), (6, 10)] (fun f X hX hR K hK => ?_) ?_
      · simp only [yA, yB, yC, yD, yE]
        refine ⟨?_⟩
        go_simp
        exact hK.out _ _ _ (by simp only [yA, yB, yC, yD, yE]) (Ext.alloc _ _) ⟨rfl, by simp⟩ (fun Y hY => ⟨_, rfl, hX.bsize, hY.at_ (heap_alloc_new _ _)⟩)
      refine Par.AllOps.fin ⟨fun f X hX hR hal hap => ?_⟩
      have e0 : f 0 = _ := hR 0 (by decide)
      have e1 : f 1 = _ := hR 1 (by decide)
      have e2 : f 2 = _ := hR 2 (by decide)
      obtain ⟨A3, c3, (e3 : f 3 = _), o3⟩ := hR 3 (by decide)
      obtain ⟨o4, (e4 : f 4 = _), h4⟩ := hR 4 (by decide)
      have e5 : f 5 = _ := hR 5 (by decide)
      have e6 : f 6 = _ := hR 6 (by decide)
      have e7 : f 7 = _ := hR 7 (by decide)
      obtain ⟨A8, c8, (e8 : f 8 = _), o8⟩ := hR 8 (by decide)
      obtain ⟨o9, (e9 : f 9 = _), h9⟩ := hR 9 (by decide)
      obtain ⟨b10, (e10 : f 10 = _), l10, h10⟩ := hR 10 (by decide)
      obtain ⟨b11, (e11 : f 11 = _), l11, h11⟩ := hR 11 (by decide)
      have n11_10 : b11 ≠ b10 := fun e => hap 11 10 (by decide) (by decide) rfl rfl (by decide) (by rw [e11, e10, e])
      simp only [yA, yB, yC, yD, yE, e0, e1, e2, e3, e4, e5, e6, e7, e8, e9, e10, e11]
      clear hR hal hap e0 e1 e2 e3 e4 e5 e6 e7 e8 e9 e10 e11
      refine Par.Chain.next (fun K hK => ⟨Par.want (by kernel_rfl) (wp_storeE (.tmp 6) (.tmp 43) rfl rfl rfl rfl h10 rfl h4.elt.six (fun Y1 hl1 => hK.out _ _ ?_))⟩)
      refine Par.Chain.next (fun K hK => ⟨Par.want (by kernel_rfl) (wp_storeE (.tmp 7) (.tmp 48) rfl rfl rfl rfl (hl1.other n11_10 h11) rfl h9.elt.six (fun Y2 hl2 => hK.out _ _ ?_))⟩)
      refine Par.Chain.done ?_
      have v1 : VE Y2 M n b10 x := hl2.ve (Ne.symm n11_10) (hl1.mk' h4)
      have v2 : VE Y2 M n b11 y := hl2.mk' h9
      have hE7 : Ext W0 Y2 := hl2.ext (hl1.ext (hE.trans hX) (Nat.le_trans hE.bsize l10)) (Nat.le_trans hE.bsize l11)
      clear hl1 hl2 o3 h4 o8 h9 h10 h11 l10 l11 hX hE d1 d2
      have hE := hE7
      clear hE7
      go_upto_region 7 with fail
      refine Par.region_ext (by kernel_rfl) 20 [0, 0, 0, 0, 0, 0, 56, 0, 128, 384, 896, 2044, 0, 8190, 0, 16384, 49152, 114688, 262143, 0, 1048575] [19] (fun j f X => match j with
       | 0 => f 0 = .pointer (some ⟨g, 0, none⟩)
       | 1 => f 1 = .pointer (some ⟨g, 0, none⟩)
       | 2 => f 2 = .pointer (some ⟨g, 0, none⟩)
       | 3 => f 3 = .pointer (some ⟨g, 0, none⟩)
       | 4 => ∃ o, f 4 = EV o ∧ FE M n o x
       | 5 => ∃ o, f 5 = EV o ∧ FE M n o x
       | 6 => ∃ o, f 6 = EV o ∧ FE M n o (x * x)
       | 7 => f 7 = .pointer (some ⟨k, 0, none⟩)
       | 8 => f 8 = .pointer (some ⟨k, 0, none⟩)
       | 9 => f 9 = .pointer (some ⟨k, 7, none⟩)
       | 10 => f 10 = EV tl
       | 11 => ∃ o, f 11 = EV o ∧ FE M n o (x * x + M - 3)
       | 12 => ∃ o, f 12 = EV o ∧ FE M n o x
       | 13 => ∃ o, f 13 = EV o ∧ FE M n o ((x * x + M - 3) * x)
       | 14 => f 14 = .pointer (some ⟨k, 0, none⟩)
       | 15 => f 15 = .pointer (some ⟨k, 0, none⟩)
       | 16 => f 16 = .pointer (some ⟨k, 13, none⟩)
       | 17 => f 17 = EV fl
       | 18 => ∃ o, f 18 = EV o ∧ FE M n o ((x * x + M - 3) * x + bb)
       | 19 => ∃ b, f 19 = .pointer (some ⟨b, 0, none⟩) ∧ Y2.heap.size ≤ b ∧ X.heap[b]? = some (.cells #[.int .u64 0, .int .u64 0, .int .u64 0, .int .u64 0, .int .u64 0, .int .u64 0] 81 (0, 0))
       | _ => True) (by kernel_rfl) [(49, 0), (50, 1), (51, 2), (52, 3), (53, 4), (54, 5), (55, 6), (56, 7), (57, 8), (58, 9), (59, 10), (60, 11), (61, 12), (62, 13), (63, 14), (64, 15), (65, 16), (66, 17), (67, 18), (8, 19)] (by kernel_rfl) ?_
      refine Par.S 1 19 [(50, 1), (51, 2), (52, 3), (53, 4), (54, 5), (55, 6), (56, 7), (57, 8), (58, 9), (59, 10), (60, 11), (61, 12), (62, 13), (63, 14), (64, 15), (65, 16), (66, 17), (8, 19)] (fun f X hX hR K hK => ?_) ?_
      · simp only [yA, yB, yC, yD, yE]
        refine ⟨?_⟩
        go_simp
        exact Par.k hK (s := by simp only [yA, yB, yC, yD, yE])
      refine Par.S 2 18 [(49, 0), (51, 2), (52, 3), (53, 4), (54, 5), (55, 6), (56, 7), (57, 8), (58, 9), (59, 10), (60, 11), (61, 12), (63, 14), (64, 15), (65, 16), (66, 17), (8, 19)] (fun f X hX hR K hK => ?_) ?_
      · simp only [yA, yB, yC, yD, yE]
        refine ⟨?_⟩
        go_simp
        exact Par.k hK (s := by simp only [yA, yB, yC, yD, yE])
      refine Par.S 3 17 [(49, 0), (50, 1), (52, 3), (53, 4), (54, 5), (55, 6), (56, 7), (57, 8), (58, 9), (59, 10), (61, 12), (63, 14), (64, 15), (65, 16), (66, 17), (8, 19)] (fun f X hX hR K hK => ?_) ?_
      · simp only [yA, yB, yC, yD, yE]
        refine ⟨?_⟩
        go_simp
        exact Par.k hK (s := by simp only [yA, yB, yC, yD, yE])
      refine Par.S 4 16 [(49, 0), (50, 1), (51, 2), (53, 4), (54, 5), (56, 7), (57, 8), (58, 9), (59, 10), (61, 12), (63, 14), (64, 15), (65, 16), (66, 17), (8, 19)] (fun f X hX hR K hK => ?_) ?_
      · simp only [yA, yB, yC, yD, yE]
        refine ⟨?_⟩
        go_simp
        exact Par.k hK (s := by simp only [yA, yB, yC, yD, yE])
      refine Par.S 5 15 [(49, 0), (50, 1), (51, 2), (52, 3), (54, 5), (56, 7), (57, 8), (58, 9), (59, 10), (61, 12), (63, 14), (64, 15), (65, 16), (66, 17), (8, 19)] (fun f X hX hR K hK => ?_) ?_
      · obtain ⟨o, hbl, ho⟩ := v1.ext hX
        simp only [yA, yB, yC, yD, yE]
        refine ⟨Par.want (by kernel_rfl) (wp_loadE (.tmp 6) rfl rfl hbl.range ho.elt.six ?_)⟩
        exact hK.out _ (EV o) _ (by simp only [yA, yB, yC, yD, yE]) (Ext.refl _) trivial (fun Y hY => ⟨o, rfl, ho⟩)
      refine Par.S 6 14 [(49, 0), (50, 1), (51, 2), (52, 3), (53, 4), (56, 7), (57, 8), (58, 9), (59, 10), (61, 12), (63, 14), (64, 15), (65, 16), (66, 17), (8, 19)] (fun f X hX hR K hK => ?_) ?_
      · obtain ⟨o, hbl, ho⟩ := v1.ext hX
        simp only [yA, yB, yC, yD, yE]
        refine ⟨Par.want (by kernel_rfl) (wp_loadE (.tmp 6) rfl rfl hbl.range ho.elt.six ?_)⟩
        exact hK.out _ (EV o) _ (by simp only [yA, yB, yC, yD, yE]) (Ext.refl _) trivial (fun Y hY => ⟨o, rfl, ho⟩)
      refine Par.S 7 13 [(49, 0), (50, 1), (51, 2), (52, 3), (53, 4), (54, 5), (56, 7), (57, 8), (58, 9), (59, 10), (61, 12), (63, 14), (64, 15), (65, 16), (66, 17), (8, 19)] (fun f X hX hR K hK => ?_) ?_
      · have e3 : f 3 = _ := hR.out 3 rfl
        obtain ⟨o4, (e4 : f 4 = _), h4⟩ := hR.out 4 rfl
        obtain ⟨o5, (e5 : f 5 = _), h5⟩ := hR.out 5 rfl
        simp only [yA, yB, yC, yD, yE, e3, e4, e5]
        refine ⟨?_⟩
        go_simp
        refine (fmul_any X (hn.out.ext hP0' (hE.trans hX)).fr.ff h4 h5).mono ?_
        rintro e w2 ⟨o, rfl, ho, hB⟩
        exact hK.out _ (EV o) _ (by simp only [yA, yB, yC, yD, yE, e3, e4, e5]) hB trivial (fun Y hY => ⟨o, rfl, ho⟩)
      refine Par.S 8 12 [(49, 0), (50, 1), (51, 2), (52, 3), (53, 4), (54, 5), (55, 6), (61, 12), (63, 14), (64, 15), (65, 16), (66, 17), (8, 19)] (fun f X hX hR K hK => ?_) ?_
      · simp only [yA, yB, yC, yD, yE]
        refine ⟨?_⟩
        go_simp
        exact Par.k hK (s := by simp only [yA, yB, yC, yD, yE])
      refine Par.S 9 11 [(49, 0), (50, 1), (51, 2), (52, 3), (53, 4), (54, 5), (55, 6), (56, 7), (61, 12), (63, 14), (64, 15), (65, 16), (66, 17), (8, 19)] (fun f X hX hR K hK => ?_) ?_
      · have e7 : f 7 = _ := hR.out 7 rfl
        simp only [yA, yB, yC, yD, yE, e7]
        refine ⟨?_⟩
        go_simp
        exact Par.k hK (s := by simp only [yA, yB, yC, yD, yE, e7])
      refine Par.S 10 10 [(49, 0), (50, 1), (51, 2), (52, 3), (53, 4), (54, 5), (55, 6), (56, 7), (57, 8), (61, 12), (63, 14), (64, 15), (65, 16), (66, 17), (8, 19)] (fun f X hX hR K hK => ?_) ?_
      · have e8 : f 8 = _ := hR.out 8 rfl
        simp only [yA, yB, yC, yD, yE, e8]
        refine ⟨?_⟩
        go_simp
        exact Par.k hK (s := by simp only [yA, yB, yC, yD, yE, e8])
      refine Par.S 11 9 [(49, 0), (50, 1), (51, 2), (52, 3), (53, 4), (54, 5), (55, 6), (56, 7), (57, 8), (58, 9), (61, 12), (63, 14), (64, 15), (65, 16), (66, 17), (8, 19)] (fun f X hX hR K hK => ?_) ?_
      · have e9 : f 9 = _ := hR.out 9 rfl
        simp only [yA, yB, yC, yD, yE, e9]
        refine ⟨Par.want (by kernel_rfl) (wp_loadE (.tmp 58) rfl rfl (hn.out.ext hP0' (hE.trans hX)).r_three hn.out.three.elt.six ?_)⟩
        exact hK.out _ (EV tl) _ (by simp only [yA, yB, yC, yD, yE, e9]) (Ext.refl _) trivial (fun _ _ => rfl)
      refine Par.S 12 8 [(49, 0), (50, 1), (51, 2), (52, 3), (53, 4), (54, 5), (55, 6), (56, 7), (57, 8), (58, 9), (59, 10), (61, 12), (63, 14), (64, 15), (65, 16), (66, 17), (8, 19)] (fun f X hX hR K hK => ?_) ?_
      · have e2 : f 2 = _ := hR.out 2 rfl
        obtain ⟨o6, (e6 : f 6 = _), h6⟩ := hR.out 6 rfl
        have e10 : f 10 = _ := hR.out 10 rfl
        simp only [yA, yB, yC, yD, yE, e2, e6, e10]
        refine ⟨?_⟩
        go_simp
        refine (fsub_any X (hn.out.ext hP0' (hE.trans hX)).fr.ff h6 hn.out.three (by omega)).mono ?_
        rintro e w2 ⟨o, rfl, ho, hB⟩
        exact hK.out _ (EV o) _ (by simp only [yA, yB, yC, yD, yE, e2, e6, e10]) hB trivial (fun Y hY => ⟨o, rfl, ho⟩)
      refine Par.S 13 7 [(49, 0), (50, 1), (51, 2), (52, 3), (53, 4), (54, 5), (55, 6), (56, 7), (57, 8), (58, 9), (59, 10), (60, 11), (63, 14), (64, 15), (65, 16), (66, 17), (8, 19)] (fun f X hX hR K hK => ?_) ?_
      · obtain ⟨o, hbl, ho⟩ := v1.ext hX
        simp only [yA, yB, yC, yD, yE]
        refine ⟨Par.want (by kernel_rfl) (wp_loadE (.tmp 6) rfl rfl hbl.range ho.elt.six ?_)⟩
        exact hK.out _ (EV o) _ (by simp only [yA, yB, yC, yD, yE]) (Ext.refl _) trivial (fun Y hY => ⟨o, rfl, ho⟩)
      refine Par.S 14 6 [(49, 0), (50, 1), (51, 2), (52, 3), (53, 4), (54, 5), (55, 6), (56, 7), (57, 8), (58, 9), (59, 10), (60, 11), (61, 12), (63, 14), (64, 15), (65, 16), (66, 17), (8, 19)] (fun f X hX hR K hK => ?_) ?_
      · have e1 : f 1 = _ := hR.out 1 rfl
        obtain ⟨o11, (e11 : f 11 = _), h11⟩ := hR.out 11 rfl
        obtain ⟨o12, (e12 : f 12 = _), h12⟩ := hR.out 12 rfl
        simp only [yA, yB, yC, yD, yE, e1, e11, e12]
        refine ⟨?_⟩
        go_simp
        refine (fmul_any X (hn.out.ext hP0' (hE.trans hX)).fr.ff h11 h12).mono ?_
        rintro e w2 ⟨o, rfl, ho, hB⟩
        exact hK.out _ (EV o) _ (by simp only [yA, yB, yC, yD, yE, e1, e11, e12]) hB trivial (fun Y hY => ⟨o, rfl, ho⟩)
      refine Par.S 15 5 [(49, 0), (50, 1), (51, 2), (52, 3), (53, 4), (54, 5), (55, 6), (56, 7), (57, 8), (58, 9), (59, 10), (60, 11), (61, 12), (62, 13), (8, 19)] (fun f X hX hR K hK => ?_) ?_
      · simp only [yA, yB, yC, yD, yE]
        refine ⟨?_⟩
        go_simp
        exact Par.k hK (s := by simp only [yA, yB, yC, yD, yE])
      refine Par.S 16 4 [(49, 0), (50, 1), (51, 2), (52, 3), (53, 4), (54, 5), (55, 6), (56, 7), (57, 8), (58, 9), (59, 10), (60, 11), (61, 12), (62, 13), (63, 14), (8, 19)] (fun f X hX hR K hK => ?_) ?_
      · have e14 : f 14 = _ := hR.out 14 rfl
        simp only [yA, yB, yC, yD, yE, e14]
        refine ⟨?_⟩
        go_simp
        exact Par.k hK (s := by simp only [yA, yB, yC, yD, yE, e14])
      refine Par.S 17 3 [(49, 0), (50, 1), (51, 2), (52, 3), (53, 4), (54, 5), (55, 6), (56, 7), (57, 8), (58, 9), (59, 10), (60, 11), (61, 12), (62, 13), (63, 14), (64, 15), (8, 19)] (fun f X hX hR K hK => ?_) ?_
      · have e15 : f 15 = _ := hR.out 15 rfl
        simp only [yA, yB, yC, yD, yE, e15]
        refine ⟨?_⟩
        go_simp
        exact Par.k hK (s := by simp only [yA, yB, yC, yD, yE, e15])
      refine Par.S 18 2 [(49, 0), (50, 1), (51, 2), (52, 3), (53, 4), (54, 5), (55, 6), (56, 7), (57, 8), (58, 9), (59, 10), (60, 11), (61, 12), (62, 13), (63, 14), (64, 15), (65, 16), (8, 19)] (fun f X hX hR K hK => ?_) ?_
      · have e16 : f 16 = _ := hR.out 16 rfl
        simp only [yA, yB, yC, yD, yE, e16]
        refine ⟨Par.want (by kernel_rfl) (wp_loadE (.tmp 65) rfl rfl (hn.out.ext hP0' (hE.trans hX)).r_fb hn.out.fb.elt.six ?_)⟩
        exact hK.out _ (EV fl) _ (by simp only [yA, yB, yC, yD, yE, e16]) (Ext.refl _) trivial (fun _ _ => rfl)
      refine Par.S 19 1 [(49, 0), (50, 1), (51, 2), (52, 3), (53, 4), (54, 5), (55, 6), (56, 7), (57, 8), (58, 9), (59, 10), (60, 11), (61, 12), (62, 13), (63, 14), (64, 15), (65, 16), (66, 17), (8, 19)] (fun f X hX hR K hK => ?_) ?_
      · have e0 : f 0 = _ := hR.out 0 rfl
        obtain ⟨o13, (e13 : f 13 = _), h13⟩ := hR.out 13 rfl
        have e17 : f 17 = _ := hR.out 17 rfl
        simp only [yA, yB, yC, yD, yE, e0, e13, e17]
        refine ⟨?_⟩
        go_simp
        refine (fadd_any X (hn.out.ext hP0' (hE.trans hX)).fr.ff h13 hn.out.fb).mono ?_
        rintro e w2 ⟨o, rfl, ho, hB⟩
        exact hK.out _ (EV o) _ (by simp only [yA, yB, yC, yD, yE, e0, e13, e17]) hB trivial (fun Y hY => ⟨o, rfl, ho⟩)
      refine Par.S 20 0 [(49, 0), (50, 1), (51, 2), (52, 3), (53, 4), (54, 5), (55, 6), (56, 7), (57, 8), (58, 9), (59, 10), (60, 11), (61, 12), (62, 13), (63, 14), (64, 15), (65, 16), (66, 17), (67, 18)] (fun f X hX hR K hK => ?_) ?_
      · simp only [yA, yB, yC, yD, yE]
        refine ⟨?_⟩
        go_simp
        exact hK.out _ _ _ (by simp only [yA, yB, yC, yD, yE]) (Ext.alloc _ _) ⟨rfl, by simp⟩ (fun Y hY => ⟨_, rfl, hX.bsize, hY.at_ (heap_alloc_new _ _)⟩)
      refine Par.AllOps.fin ⟨fun f X hX hR hal hap => ?_⟩
      have e0 : f 0 = _ := hR 0 (by decide)
      have e1 : f 1 = _ := hR 1 (by decide)
      have e2 : f 2 = _ := hR 2 (by decide)
      have e3 : f 3 = _ := hR 3 (by decide)
      obtain ⟨o4, (e4 : f 4 = _), h4⟩ := hR 4 (by decide)
      obtain ⟨o5, (e5 : f 5 = _), h5⟩ := hR 5 (by decide)
      obtain ⟨o6, (e6 : f 6 = _), h6⟩ := hR 6 (by decide)
      have e7 : f 7 = _ := hR 7 (by decide)
      have e8 : f 8 = _ := hR 8 (by decide)
      have e9 : f 9 = _ := hR 9 (by decide)
      have e10 : f 10 = _ := hR 10 (by decide)
      obtain ⟨o11, (e11 : f 11 = _), h11⟩ := hR 11 (by decide)
      obtain ⟨o12, (e12 : f 12 = _), h12⟩ := hR 12 (by decide)
      obtain ⟨o13, (e13 : f 13 = _), h13⟩ := hR 13 (by decide)
      have e14 : f 14 = _ := hR 14 (by decide)
      have e15 : f 15 = _ := hR 15 (by decide)
      have e16 : f 16 = _ := hR 16 (by decide)
      have e17 : f 17 = _ := hR 17 (by decide)
      obtain ⟨o18, (e18 : f 18 = _), h18⟩ := hR 18 (by decide)
      obtain ⟨b19, (e19 : f 19 = _), l19, h19⟩ := hR 19 (by decide)
      simp only [yA, yB, yC, yD, yE, e0, e1, e2, e3, e4, e5, e6, e7, e8, e9, e10, e11, e12, e13, e14, e15, e16, e17, e18, e19]
      clear hR hal hap e0 e1 e2 e3 e4 e5 e6 e7 e8 e9 e10 e11 e12 e13 e14 e15 e16 e17 e18 e19
      refine Par.Chain.next (fun K hK => ⟨Par.want (by kernel_rfl) (wp_storeE (.tmp 8) (.tmp 67) rfl rfl rfl rfl h19 rfl h18.elt.six (fun Y3 hl1 => hK.out _ _ ?_))⟩)
      refine Par.Chain.done ?_
      have v3 : VE Y3 M n b19 ((x * x + M - 3) * x + bb) := hl1.mk' h18
      have nb : b11 ≠ b19 := by have := (let ⟨_, h, _⟩ := v2; h.lt : b11 < Y2.heap.size); omega
      have v4 : VE Y3 M n b11 y := hl1.ve nb (v2.ext hX)
      have hE8 : Ext W0 Y3 := hl1.ext (hE.trans hX) (Nat.le_trans hE.bsize l19)
      clear hl1 h4 h5 h6 h11 h12 h13 h18 h19 l19 hX hE v1 v2
      have hE := hE8
      clear hE8
      go_upto_region 8 with fail
      refine Par.region_ext (by kernel_rfl) 9 [0, 0, 0, 0, 14, 0, 63, 127, 255] [] (fun j f X => match j with
       | 0 => f 0 = .pointer (some ⟨g, 0, none⟩)
       | 1 => f 1 = .pointer (some ⟨g, 0, none⟩)
       | 2 => ∃ o, f 2 = EV o ∧ FE M n o y
       | 3 => ∃ o, f 3 = EV o ∧ FE M n o y
       | 4 => ∃ o, f 4 = EV o ∧ FE M n o (y * y)
       | 5 => ∃ o, f 5 = EV o ∧ FE M n o ((x * x + M - 3) * x + bb)
       | 6 => ∃ o, f 6 = EV o ∧ FE M n o (y * y + M - ((x * x + M - 3) * x + bb) % M)
       | 7 => f 7 = .bool r
       | 8 => f 8 = .bool r
       | _ => True) (by kernel_rfl) [(68, 0), (69, 1), (70, 2), (71, 3), (72, 4), (73, 5), (74, 6), (75, 7), (4, 8)] (by kernel_rfl) ?_
      refine Par.S 1 8 [(69, 1), (70, 2), (71, 3), (72, 4), (73, 5)] (fun f X hX hR K hK => ?_) ?_
      · simp only [yA, yB, yC, yD, yE]
        refine ⟨?_⟩
        go_simp
        exact Par.k hK (s := by simp only [yA, yB, yC, yD, yE])
      refine Par.S 2 7 [(68, 0), (70, 2), (71, 3), (73, 5)] (fun f X hX hR K hK => ?_) ?_
      · simp only [yA, yB, yC, yD, yE]
        refine ⟨?_⟩
        go_simp
        exact Par.k hK (s := by simp only [yA, yB, yC, yD, yE])
      refine Par.S 3 6 [(68, 0), (69, 1), (71, 3), (73, 5)] (fun f X hX hR K hK => ?_) ?_
      · obtain ⟨o, hbl, ho⟩ := v4.ext hX
        simp only [yA, yB, yC, yD, yE]
        refine ⟨Par.want (by kernel_rfl) (wp_loadE (.tmp 7) rfl rfl hbl.range ho.elt.six ?_)⟩
        exact hK.out _ (EV o) _ (by simp only [yA, yB, yC, yD, yE]) (Ext.refl _) trivial (fun Y hY => ⟨o, rfl, ho⟩)
      refine Par.S 4 5 [(68, 0), (69, 1), (70, 2), (73, 5)] (fun f X hX hR K hK => ?_) ?_
      · obtain ⟨o, hbl, ho⟩ := v4.ext hX
        simp only [yA, yB, yC, yD, yE]
        refine ⟨Par.want (by kernel_rfl) (wp_loadE (.tmp 7) rfl rfl hbl.range ho.elt.six ?_)⟩
        exact hK.out _ (EV o) _ (by simp only [yA, yB, yC, yD, yE]) (Ext.refl _) trivial (fun Y hY => ⟨o, rfl, ho⟩)
      refine Par.S 5 4 [(68, 0), (69, 1), (70, 2), (71, 3), (73, 5)] (fun f X hX hR K hK => ?_) ?_
      · have e1 : f 1 = _ := hR.out 1 rfl
        obtain ⟨o2, (e2 : f 2 = _), h2⟩ := hR.out 2 rfl
        obtain ⟨o3, (e3 : f 3 = _), h3⟩ := hR.out 3 rfl
        simp only [yA, yB, yC, yD, yE, e1, e2, e3]
        refine ⟨?_⟩
        go_simp
        refine (fmul_any X (hn.out.ext hP0' (hE.trans hX)).fr.ff h2 h3).mono ?_
        rintro e w2 ⟨o, rfl, ho, hB⟩
        exact hK.out _ (EV o) _ (by simp only [yA, yB, yC, yD, yE, e1, e2, e3]) hB trivial (fun Y hY => ⟨o, rfl, ho⟩)
      refine Par.S 6 3 [(68, 0), (69, 1), (70, 2), (71, 3), (72, 4)] (fun f X hX hR K hK => ?_) ?_
      · obtain ⟨o, hbl, ho⟩ := v3.ext hX
        simp only [yA, yB, yC, yD, yE]
        refine ⟨Par.want (by kernel_rfl) (wp_loadE (.tmp 8) rfl rfl hbl.range ho.elt.six ?_)⟩
        exact hK.out _ (EV o) _ (by simp only [yA, yB, yC, yD, yE]) (Ext.refl _) trivial (fun Y hY => ⟨o, rfl, ho⟩)
      refine Par.S 7 2 [(68, 0), (69, 1), (70, 2), (71, 3), (72, 4), (73, 5)] (fun f X hX hR K hK => ?_) ?_
      · have e0 : f 0 = _ := hR.out 0 rfl
        obtain ⟨o4, (e4 : f 4 = _), h4⟩ := hR.out 4 rfl
        obtain ⟨o5, (e5 : f 5 = _), h5⟩ := hR.out 5 rfl
        simp only [yA, yB, yC, yD, yE, e0, e4, e5]
        refine ⟨?_⟩
        go_simp
        refine (fsub_any X (hn.out.ext hP0' (hE.trans hX)).fr.ff h4 h5.mod (Nat.le_of_lt (Nat.mod_lt _ (by omega)))).mono ?_
        rintro e w2 ⟨o, rfl, ho, hB⟩
        exact hK.out _ (EV o) _ (by simp only [yA, yB, yC, yD, yE, e0, e4, e5]) hB trivial (fun Y hY => ⟨o, rfl, ho⟩)
      refine Par.S 8 1 [(68, 0), (69, 1), (70, 2), (71, 3), (72, 4), (73, 5), (74, 6)] (fun f X hX hR K hK => ?_) ?_
      · obtain ⟨o6, (e6 : f 6 = _), h6⟩ := hR.out 6 rfl
        simp only [yA, yB, yC, yD, yE, e6]
        refine ⟨?_⟩
        go_simp
        refine (zero_any o6 X h6.elt.six).mono ?_
        rintro e w2 ⟨rfl, hB⟩
        have hd : decide (o6 = [0, 0, 0, 0, 0, 0]) = r := by rw [← Hr.out, onB, decide_eq_true hxM, decide_eq_true hyM, Bool.true_and, Bool.true_and]; exact decide_eq_decide.2 ((h6.zero_iff (hn.out.ext hP0' (hE.trans hX)).fr.ff).trans (curve_eq hM3))
        rw [hd]
        exact hK.out _ _ _ (by simp only [yA, yB, yC, yD, yE, e6]) hB trivial (fun _ _ => rfl)
      refine Par.S 9 0 [(68, 0), (69, 1), (70, 2), (71, 3), (72, 4), (73, 5), (74, 6), (75, 7)] (fun f X hX hR K hK => ?_) ?_
      · have e7 : f 7 = _ := hR.out 7 rfl
        simp only [yA, yB, yC, yD, yE, e7]
        refine ⟨?_⟩
        go_simp
        exact Par.k hK (s := by simp only [yA, yB, yC, yD, yE, e7])
      refine Par.AllOps.fin ⟨fun f X hX hR hal hap => ?_⟩
      have e0 : f 0 = _ := hR 0 (by decide)
      have e1 : f 1 = _ := hR 1 (by decide)
      obtain ⟨o2, (e2 : f 2 = _), h2⟩ := hR 2 (by decide)
      obtain ⟨o3, (e3 : f 3 = _), h3⟩ := hR 3 (by decide)
      obtain ⟨o4, (e4 : f 4 = _), h4⟩ := hR 4 (by decide)
      obtain ⟨o5, (e5 : f 5 = _), h5⟩ := hR 5 (by decide)
      obtain ⟨o6, (e6 : f 6 = _), h6⟩ := hR 6 (by decide)
      have e7 : f 7 = _ := hR 7 (by decide)
      have e8 : f 8 = _ := hR 8 (by decide)
      simp only [yA, yB, yC, yD, yE, e0, e1, e2, e3, e4, e5, e6, e7, e8]
      clear hR hal hap e0 e1 e2 e3 e4 e5 e6 e7 e8
      refine Par.Chain.done ?_
      go_wp2
      go_ret
      exact ⟨rfl, HB0.out.trans (hE.trans hX)⟩
    · have tx := Lib.hid (cmpV_lt hxM)
      obtain ⟨v, hv⟩ : ∃ v, cmpV y M = v := ⟨_, rfl⟩
      have hv0 : 0 ≤ v := by rw [← hv]; rcases cmpV_cases y M with h | h | h <;> omega
      have Hv := Lib.hid hv
      have HH := Lib.hid hyM
      clear hv hyM
      refine Par.region_ext (by kernel_rfl) 18 [0, 1, 0, 4, 12, 28, 63, 127, 255, 511, 1023, 511, 2559, 6655, 14847, 32767, 65535, 131071] [] (fun j f X => match j with
       | 0 => f 0 = .pointer (some ⟨q, 1, none⟩)
       | 1 => f 1 = .slice A a.length c
       | 2 => f 2 = .pointer (some ⟨k, 0, none⟩)
       | 3 => f 3 = .pointer (some ⟨k, 0, none⟩)
       | 4 => f 4 = .pointer (some ⟨k, 1, none⟩)
       | 5 => f 5 = .slice Ap pl.length cp
       | 6 => f 6 = .int .i64 (-1)
       | 7 => f 7 = .bool false
       | 8 => f 8 = .bool false
       | 9 => f 9 = .pointer (some ⟨q, 2, none⟩)
       | 10 => f 10 = .slice A' b.length c'
       | 11 => f 11 = .pointer (some ⟨k, 0, none⟩)
       | 12 => f 12 = .pointer (some ⟨k, 0, none⟩)
       | 13 => f 13 = .pointer (some ⟨k, 1, none⟩)
       | 14 => f 14 = .slice Ap pl.length cp
       | 15 => f 15 = .int .i64 v
       | 16 => f 16 = .bool true
       | 17 => f 17 = .bool true
       | _ => True) (by kernel_rfl) [(17, 0), (18, 1), (19, 2), (20, 3), (21, 4), (22, 5), (23, 6), (24, 7), (25, 8), (26, 9), (27, 10), (28, 11), (29, 12), (30, 13), (31, 14), (32, 15), (33, 16), (34, 17)] (by kernel_rfl) ?_
      refine Par.S 1 17 [(19, 2), (20, 3), (21, 4), (22, 5)] (fun f X hX hR K hK => ?_) ?_
      · simp only [yA, yB, yC, yD, yE]
        refine ⟨?_⟩
        go_simp
        exact Par.k hK (s := by simp only [yA, yB, yC, yD, yE])
      refine Par.S 2 16 [(17, 0), (19, 2), (20, 3), (21, 4), (22, 5)] (fun f X hX hR K hK => ?_) ?_
      · have e0 : f 0 = _ := hR.out 0 rfl
        have x0 := hX.cell b1
        simp only [yA, yB, yC, yD, yE, e0]
        refine ⟨?_⟩
        go_simp
        exact Par.k hK (s := by simp only [yA, yB, yC, yD, yE, e0])
      refine Par.S 3 15 [(17, 0), (18, 1)] (fun f X hX hR K hK => ?_) ?_
      · simp only [yA, yB, yC, yD, yE]
        refine ⟨?_⟩
        go_simp
        exact Par.k hK (s := by simp only [yA, yB, yC, yD, yE])
      refine Par.S 4 14 [(17, 0), (18, 1), (19, 2)] (fun f X hX hR K hK => ?_) ?_
      · have e2 : f 2 = _ := hR.out 2 rfl
        simp only [yA, yB, yC, yD, yE, e2]
        refine ⟨?_⟩
        go_simp
        exact Par.k hK (s := by simp only [yA, yB, yC, yD, yE, e2])
      refine Par.S 5 13 [(17, 0), (18, 1), (19, 2), (20, 3)] (fun f X hX hR K hK => ?_) ?_
      · have e3 : f 3 = _ := hR.out 3 rfl
        simp only [yA, yB, yC, yD, yE, e3]
        refine ⟨?_⟩
        go_simp
        exact Par.k hK (s := by simp only [yA, yB, yC, yD, yE, e3])
      refine Par.S 6 12 [(17, 0), (18, 1), (19, 2), (20, 3), (21, 4)] (fun f X hX hR K hK => ?_) ?_
      · have e4 : f 4 = _ := hR.out 4 rfl
        have x0 := hX.cell k1
        simp only [yA, yB, yC, yD, yE, e4]
        refine ⟨?_⟩
        go_simp
        exact Par.k hK (s := by simp only [yA, yB, yC, yD, yE, e4])
      refine Par.S 7 11 [(17, 0), (18, 1), (19, 2), (20, 3), (21, 4), (22, 5)] (fun f X hX hR K hK => ?_) ?_
      · have e1 : f 1 = _ := hR.out 1 rfl
        have e5 : f 5 = _ := hR.out 5 rfl
        simp only [yA, yB, yC, yD, yE, e1, e5]
        refine ⟨?_⟩
        go_simp
        refine (cmp_any Pa P0 A Ap c cp a pl X (ha.below hX hPa') (hn.out.p.below hX hP0')).mono ?_
        rintro e w2 ⟨rfl, nq, rfl⟩
        rw [Hx.out, hpv.out, tx.out]
        exact hK.out _ _ _ (by simp only [yA, yB, yC, yD, yE, e1, e5]) (Ext.drewN _ _) trivial (fun _ _ => rfl)
      refine Par.S 8 10 [(17, 0), (18, 1), (19, 2), (20, 3), (21, 4), (22, 5), (23, 6)] (fun f X hX hR K hK => ?_) ?_
      · have e6 : f 6 = _ := hR.out 6 rfl
        simp only [yA, yB, yC, yD, yE, e6]
        refine ⟨?_⟩
        go_simp
        exact Par.k hK (s := by simp only [yA, yB, yC, yD, yE, e6])
      refine Par.S 9 9 [(17, 0), (18, 1), (19, 2), (20, 3), (21, 4), (22, 5), (23, 6), (24, 7)] (fun f X hX hR K hK => ?_) ?_
      · have e7 : f 7 = _ := hR.out 7 rfl
        simp only [yA, yB, yC, yD, yE, e7]
        refine ⟨?_⟩
        go_simp
        exact Par.k hK (s := by simp only [yA, yB, yC, yD, yE, e7])
      refine Par.S 10 8 [(17, 0), (18, 1), (19, 2), (20, 3), (21, 4), (22, 5), (23, 6), (24, 7), (25, 8), (28, 11), (29, 12), (30, 13), (31, 14)] (fun f X hX hR K hK => ?_) ?_
      · have e8 : f 8 = _ := hR.out 8 rfl
        simp only [yA, yB, yC, yD, yE, e8]
        refine ⟨Par.want (by kernel_rfl) ?_⟩
        go_simp
        exact Par.k hK (s := by simp only [yA, yB, yC, yD, yE, e8])
      refine Par.S 11 7 [(17, 0), (18, 1), (19, 2), (20, 3), (21, 4), (22, 5), (23, 6), (24, 7), (25, 8), (26, 9), (28, 11), (29, 12), (30, 13), (31, 14)] (fun f X hX hR K hK => ?_) ?_
      · have e8 : f 8 = _ := hR.out 8 rfl
        have e9 : f 9 = _ := hR.out 9 rfl
        have x0 := hX.cell b2
        simp only [yA, yB, yC, yD, yE, e8, e9]
        refine ⟨Par.want (by kernel_rfl) ?_⟩
        go_simp
        exact Par.k hK (s := by simp only [yA, yB, yC, yD, yE, e8, e9])
      refine Par.S 12 6 [(17, 0), (18, 1), (19, 2), (20, 3), (21, 4), (22, 5), (23, 6), (24, 7), (25, 8), (26, 9), (27, 10)] (fun f X hX hR K hK => ?_) ?_
      · have e8 : f 8 = _ := hR.out 8 rfl
        simp only [yA, yB, yC, yD, yE, e8]
        refine ⟨Par.want (by kernel_rfl) ?_⟩
        go_simp
        exact Par.k hK (s := by simp only [yA, yB, yC, yD, yE, e8])
      refine Par.S 13 5 [(17, 0), (18, 1), (19, 2), (20, 3), (21, 4), (22, 5), (23, 6), (24, 7), (25, 8), (26, 9), (27, 10), (28, 11)] (fun f X hX hR K hK => ?_) ?_
      · have e8 : f 8 = _ := hR.out 8 rfl
        have e11 : f 11 = _ := hR.out 11 rfl
        simp only [yA, yB, yC, yD, yE, e8, e11]
        refine ⟨Par.want (by kernel_rfl) ?_⟩
        go_simp
        exact Par.k hK (s := by simp only [yA, yB, yC, yD, yE, e8, e11])
      refine Par.S 14 4 [(17, 0), (18, 1), (19, 2), (20, 3), (21, 4), (22, 5), (23, 6), (24, 7), (25, 8), (26, 9), (27, 10), (28, 11), (29, 12)] (fun f X hX hR K hK => ?_) ?_
      · have e8 : f 8 = _ := hR.out 8 rfl
        have e12 : f 12 = _ := hR.out 12 rfl
        simp only [yA, yB, yC, yD, yE, e8, e12]
        refine ⟨Par.want (by kernel_rfl) ?_⟩
        go_simp
        exact Par.k hK (s := by simp only [yA, yB, yC, yD, yE, e8, e12])
      refine Par.S 15 3 [(17, 0), (18, 1), (19, 2), (20, 3), (21, 4), (22, 5), (23, 6), (24, 7), (25, 8), (26, 9), (27, 10), (28, 11), (29, 12), (30, 13)] (fun f X hX hR K hK => ?_) ?_
      · have e8 : f 8 = _ := hR.out 8 rfl
        have e13 : f 13 = _ := hR.out 13 rfl
        have x0 := hX.cell k1
        simp only [yA, yB, yC, yD, yE, e8, e13]
        refine ⟨Par.want (by kernel_rfl) ?_⟩
        go_simp
        exact Par.k hK (s := by simp only [yA, yB, yC, yD, yE, e8, e13])
      refine Par.S 16 2 [(17, 0), (18, 1), (19, 2), (20, 3), (21, 4), (22, 5), (23, 6), (24, 7), (25, 8), (26, 9), (27, 10), (28, 11), (29, 12), (30, 13), (31, 14)] (fun f X hX hR K hK => ?_) ?_
      · have e8 : f 8 = _ := hR.out 8 rfl
        have e10 : f 10 = _ := hR.out 10 rfl
        have e14 : f 14 = _ := hR.out 14 rfl
        simp only [yA, yB, yC, yD, yE, e8, e10, e14]
        refine ⟨Par.want (by kernel_rfl) ?_⟩
        go_simp
        refine (cmp_any Pb P0 A' Ap c' cp b pl X (hb.below hX hPb') (hn.out.p.below hX hP0')).mono ?_
        rintro e w2 ⟨rfl, nq, rfl⟩
        rw [Hy.out, hpv.out, Hv.out]
        exact hK.out _ _ _ (by simp only [yA, yB, yC, yD, yE, e8, e10, e14]) (Ext.drewN _ _) trivial (fun _ _ => rfl)
      refine Par.S 17 1 [(17, 0), (18, 1), (19, 2), (20, 3), (21, 4), (22, 5), (23, 6), (24, 7), (25, 8), (26, 9), (27, 10), (28, 11), (29, 12), (30, 13), (31, 14), (32, 15)] (fun f X hX hR K hK => ?_) ?_
      · have e8 : f 8 = _ := hR.out 8 rfl
        have e15 : f 15 = _ := hR.out 15 rfl
        simp only [yA, yB, yC, yD, yE, e8, e15]
        refine ⟨Par.want (by kernel_rfl) ?_⟩
        go_simp
        exact Par.k hK (s := by simp only [yA, yB, yC, yD, yE, e8, e15])
      refine Par.S 18 0 [(17, 0), (18, 1), (19, 2), (20, 3), (21, 4), (22, 5), (23, 6), (24, 7), (25, 8), (26, 9), (27, 10), (28, 11), (29, 12), (30, 13), (31, 14), (32, 15), (33, 16)] (fun f X hX hR K hK => ?_) ?_
      · have e8 : f 8 = _ := hR.out 8 rfl
        have e16 : f 16 = _ := hR.out 16 rfl
        simp only [yA, yB, yC, yD, yE, e8, e16]
        refine ⟨?_⟩
        go_simp
        exact Par.k hK (s := by simp only [yA, yB, yC, yD, yE, e8, e16])
      refine Par.AllOps.fin ⟨fun f X hX hR hal hap => ?_⟩
      have e0 : f 0 = _ := hR 0 (by decide)
      have e1 : f 1 = _ := hR 1 (by decide)
      have e2 : f 2 = _ := hR 2 (by decide)
      have e3 : f 3 = _ := hR 3 (by decide)
      have e4 : f 4 = _ := hR 4 (by decide)
      have e5 : f 5 = _ := hR 5 (by decide)
      have e6 : f 6 = _ := hR 6 (by decide)
      have e7 : f 7 = _ := hR 7 (by decide)
      have e8 : f 8 = _ := hR 8 (by decide)
      have e9 : f 9 = _ := hR 9 (by decide)
      have e10 : f 10 = _ := hR 10 (by decide)
      have e11 : f 11 = _ := hR 11 (by decide)
      have e12 : f 12 = _ := hR 12 (by decide)
      have e13 : f 13 = _ := hR 13 (by decide)
      have e14 : f 14 = _ := hR 14 (by decide)
      have e15 : f 15 = _ := hR 15 (by decide)
      have e16 : f 16 = _ := hR 16 (by decide)
      have e17 : f 17 = _ := hR 17 (by decide)
      simp only [yA, yB, yC, yD, yE, e0, e1, e2, e3, e4, e5, e6, e7, e8, e9, e10, e11, e12, e13, e14, e15, e16, e17]
      clear hR hal hap e0 e1 e2 e3 e4 e5 e6 e7 e8 e9 e10 e11 e12 e13 e14 e15 e16 e17
      refine Par.Chain.done ?_
      go_wp2
      go_ret
      exact ⟨by rw [show r = false by rw [← Hr.out]; simp [onB, HH.out]]; rfl, HB0.out.trans hX⟩
  · obtain ⟨v, hv⟩ : ∃ v, cmpV x M = v := ⟨_, rfl⟩
    have hv0 : 0 ≤ v := by rw [← hv]; rcases cmpV_cases x M with h | h | h <;> omega
    have Hv := Lib.hid hv
    have HH := Lib.hid hxM
    clear hv hxM
    refine Par.region_ext (by kernel_rfl) 18 [0, 1, 0, 4, 12, 28, 63, 127, 255, 511, 1023, 511, 2559, 6655, 14847, 32767, 65535, 131071] [] (fun j f X => match j with
     | 0 => f 0 = .pointer (some ⟨q, 1, none⟩)
     | 1 => f 1 = .slice A a.length c
     | 2 => f 2 = .pointer (some ⟨k, 0, none⟩)
     | 3 => f 3 = .pointer (some ⟨k, 0, none⟩)
     | 4 => f 4 = .pointer (some ⟨k, 1, none⟩)
     | 5 => f 5 = .slice Ap pl.length cp
     | 6 => f 6 = .int .i64 v
     | 7 => f 7 = .bool true
     | 8 => f 8 = .bool true
     | 9 => f 9 = undef
     | 10 => f 10 = undef
     | 11 => f 11 = undef
     | 12 => f 12 = undef
     | 13 => f 13 = undef
     | 14 => f 14 = undef
     | 15 => f 15 = undef
     | 16 => f 16 = undef
     | 17 => f 17 = .bool true
     | _ => True) (by kernel_rfl) [(17, 0), (18, 1), (19, 2), (20, 3), (21, 4), (22, 5), (23, 6), (24, 7), (25, 8), (26, 9), (27, 10), (28, 11), (29, 12), (30, 13), (31, 14), (32, 15), (33, 16), (34, 17)] (by kernel_rfl) ?_
    refine Par.S 1 17 [(19, 2), (20, 3), (21, 4), (22, 5)] (fun f X hX hR K hK => ?_) ?_
    · simp only [yA, yB, yC, yD, yE]
      refine ⟨?_⟩
      go_simp
      exact Par.k hK (s := by simp only [yA, yB, yC, yD, yE])
    refine Par.S 2 16 [(17, 0), (19, 2), (20, 3), (21, 4), (22, 5)] (fun f X hX hR K hK => ?_) ?_
    · have e0 : f 0 = _ := hR.out 0 rfl
      have x0 := hX.cell b1
      simp only [yA, yB, yC, yD, yE, e0]
      refine ⟨?_⟩
      go_simp
      exact Par.k hK (s := by simp only [yA, yB, yC, yD, yE, e0])
    refine Par.S 3 15 [(17, 0), (18, 1)] (fun f X hX hR K hK => ?_) ?_
    · simp only [yA, yB, yC, yD, yE]
      refine ⟨?_⟩
      go_simp
      exact Par.k hK (s := by simp only [yA, yB, yC, yD, yE])
    refine Par.S 4 14 [(17, 0), (18, 1), (19, 2)] (fun f X hX hR K hK => ?_) ?_
    · have e2 : f 2 = _ := hR.out 2 rfl
      simp only [yA, yB, yC, yD, yE, e2]
      refine ⟨?_⟩
      go_simp
      exact Par.k hK (s := by simp only [yA, yB, yC, yD, yE, e2])
    refine Par.S 5 13 [(17, 0), (18, 1), (19, 2), (20, 3)] (fun f X hX hR K hK => ?_) ?_
    · have e3 : f 3 = _ := hR.out 3 rfl
      simp only [yA, yB, yC, yD, yE, e3]
      refine ⟨?_⟩
      go_simp
      exact Par.k hK (s := by simp only [yA, yB, yC, yD, yE, e3])
    refine Par.S 6 12 [(17, 0), (18, 1), (19, 2), (20, 3), (21, 4)] (fun f X hX hR K hK => ?_) ?_
    · have e4 : f 4 = _ := hR.out 4 rfl
      have x0 := hX.cell k1
      simp only [yA, yB, yC, yD, yE, e4]
      refine ⟨?_⟩
      go_simp
      exact Par.k hK (s := by simp only [yA, yB, yC, yD, yE, e4])
    refine Par.S 7 11 [(17, 0), (18, 1), (19, 2), (20, 3), (21, 4), (22, 5)] (fun f X hX hR K hK => ?_) ?_
    · have e1 : f 1 = _ := hR.out 1 rfl
      have e5 : f 5 = _ := hR.out 5 rfl
      simp only [yA, yB, yC, yD, yE, e1, e5]
      refine ⟨?_⟩
      go_simp
      refine (cmp_any Pa P0 A Ap c cp a pl X (ha.below hX hPa') (hn.out.p.below hX hP0')).mono ?_
      rintro e w2 ⟨rfl, nq, rfl⟩
      rw [Hx.out, hpv.out, Hv.out]
      exact hK.out _ _ _ (by simp only [yA, yB, yC, yD, yE, e1, e5]) (Ext.drewN _ _) trivial (fun _ _ => rfl)
    refine Par.S 8 10 [(17, 0), (18, 1), (19, 2), (20, 3), (21, 4), (22, 5), (23, 6)] (fun f X hX hR K hK => ?_) ?_
    · have e6 : f 6 = _ := hR.out 6 rfl
      simp only [yA, yB, yC, yD, yE, e6]
      refine ⟨?_⟩
      go_simp
      exact Par.k hK (s := by simp only [yA, yB, yC, yD, yE, e6])
    refine Par.S 9 9 [(17, 0), (18, 1), (19, 2), (20, 3), (21, 4), (22, 5), (23, 6), (24, 7)] (fun f X hX hR K hK => ?_) ?_
    · have e7 : f 7 = _ := hR.out 7 rfl
      simp only [yA, yB, yC, yD, yE, e7]
      refine ⟨?_⟩
      go_simp
      exact Par.k hK (s := by simp only [yA, yB, yC, yD, yE, e7])
    refine Par.S 10 8 [(17, 0), (18, 1), (19, 2), (20, 3), (21, 4), (22, 5), (23, 6), (24, 7), (25, 8), (28, 11), (29, 12), (30, 13), (31, 14)] (fun f X hX hR K hK => ?_) ?_
    · have e8 : f 8 = _ := hR.out 8 rfl
      simp only [yA, yB, yC, yD, yE, e8]
      refine ⟨Par.unwant (by kernel_rfl) ?_⟩
      exact hK.out _ (undef) _ (by simp only [yA, yB, yC, yD, yE, e8]) (Ext.refl _) trivial (fun _ _ => rfl)
    refine Par.S 11 7 [(17, 0), (18, 1), (19, 2), (20, 3), (21, 4), (22, 5), (23, 6), (24, 7), (25, 8), (26, 9), (28, 11), (29, 12), (30, 13), (31, 14)] (fun f X hX hR K hK => ?_) ?_
    · have e8 : f 8 = _ := hR.out 8 rfl
      have e9 : f 9 = _ := hR.out 9 rfl
      simp only [yA, yB, yC, yD, yE, e8, e9]
      refine ⟨Par.unwant (by kernel_rfl) ?_⟩
      exact hK.out _ (undef) _ (by simp only [yA, yB, yC, yD, yE, e8, e9]) (Ext.refl _) trivial (fun _ _ => rfl)
    refine Par.S 12 6 [(17, 0), (18, 1), (19, 2), (20, 3), (21, 4), (22, 5), (23, 6), (24, 7), (25, 8), (26, 9), (27, 10)] (fun f X hX hR K hK => ?_) ?_
    · have e8 : f 8 = _ := hR.out 8 rfl
      simp only [yA, yB, yC, yD, yE, e8]
      refine ⟨Par.unwant (by kernel_rfl) ?_⟩
      exact hK.out _ (undef) _ (by simp only [yA, yB, yC, yD, yE, e8]) (Ext.refl _) trivial (fun _ _ => rfl)
    refine Par.S 13 5 [(17, 0), (18, 1), (19, 2), (20, 3), (21, 4), (22, 5), (23, 6), (24, 7), (25, 8), (26, 9), (27, 10), (28, 11)] (fun f X hX hR K hK => ?_) ?_
    · have e8 : f 8 = _ := hR.out 8 rfl
      have e11 : f 11 = _ := hR.out 11 rfl
      simp only [yA, yB, yC, yD, yE, e8, e11]
      refine ⟨Par.unwant (by kernel_rfl) ?_⟩
      exact hK.out _ (undef) _ (by simp only [yA, yB, yC, yD, yE, e8, e11]) (Ext.refl _) trivial (fun _ _ => rfl)
    refine Par.S 14 4 [(17, 0), (18, 1), (19, 2), (20, 3), (21, 4), (22, 5), (23, 6), (24, 7), (25, 8), (26, 9), (27, 10), (28, 11), (29, 12)] (fun f X hX hR K hK => ?_) ?_
    · have e8 : f 8 = _ := hR.out 8 rfl
      have e12 : f 12 = _ := hR.out 12 rfl
      simp only [yA, yB, yC, yD, yE, e8, e12]
      refine ⟨Par.unwant (by kernel_rfl) ?_⟩
      exact hK.out _ (undef) _ (by simp only [yA, yB, yC, yD, yE, e8, e12]) (Ext.refl _) trivial (fun _ _ => rfl)
    refine Par.S 15 3 [(17, 0), (18, 1), (19, 2), (20, 3), (21, 4), (22, 5), (23, 6), (24, 7), (25, 8), (26, 9), (27, 10), (28, 11), (29, 12), (30, 13)] (fun f X hX hR K hK => ?_) ?_
    · have e8 : f 8 = _ := hR.out 8 rfl
      have e13 : f 13 = _ := hR.out 13 rfl
      simp only [yA, yB, yC, yD, yE, e8, e13]
      refine ⟨Par.unwant (by kernel_rfl) ?_⟩
      exact hK.out _ (undef) _ (by simp only [yA, yB, yC, yD, yE, e8, e13]) (Ext.refl _) trivial (fun _ _ => rfl)
    refine Par.S 16 2 [(17, 0), (18, 1), (19, 2), (20, 3), (21, 4), (22, 5), (23, 6), (24, 7), (25, 8), (26, 9), (27, 10), (28, 11), (29, 12), (30, 13), (31, 14)] (fun f X hX hR K hK => ?_) ?_
    · have e8 : f 8 = _ := hR.out 8 rfl
      have e10 : f 10 = _ := hR.out 10 rfl
      have e14 : f 14 = _ := hR.out 14 rfl
      simp only [yA, yB, yC, yD, yE, e8, e10, e14]
      refine ⟨Par.unwant (by kernel_rfl) ?_⟩
      exact hK.out _ (undef) _ (by simp only [yA, yB, yC, yD, yE, e8, e10, e14]) (Ext.refl _) trivial (fun _ _ => rfl)
    refine Par.S 17 1 [(17, 0), (18, 1), (19, 2), (20, 3), (21, 4), (22, 5), (23, 6), (24, 7), (25, 8), (26, 9), (27, 10), (28, 11), (29, 12), (30, 13), (31, 14), (32, 15)] (fun f X hX hR K hK => ?_) ?_
    · have e8 : f 8 = _ := hR.out 8 rfl
      have e15 : f 15 = _ := hR.out 15 rfl
      simp only [yA, yB, yC, yD, yE, e8, e15]
      refine ⟨Par.unwant (by kernel_rfl) ?_⟩
      exact hK.out _ (undef) _ (by simp only [yA, yB, yC, yD, yE, e8, e15]) (Ext.refl _) trivial (fun _ _ => rfl)
    refine Par.S 18 0 [(17, 0), (18, 1), (19, 2), (20, 3), (21, 4), (22, 5), (23, 6), (24, 7), (25, 8), (26, 9), (27, 10), (28, 11), (29, 12), (30, 13), (31, 14), (32, 15), (33, 16)] (fun f X hX hR K hK => ?_) ?_
    · have e8 : f 8 = _ := hR.out 8 rfl
      have e16 : f 16 = _ := hR.out 16 rfl
      simp only [yA, yB, yC, yD, yE, e8, e16]
      refine ⟨?_⟩
      go_simp
      exact Par.k hK (s := by simp only [yA, yB, yC, yD, yE, e8, e16])
    refine Par.AllOps.fin ⟨fun f X hX hR hal hap => ?_⟩
    have e0 : f 0 = _ := hR 0 (by decide)
    have e1 : f 1 = _ := hR 1 (by decide)
    have e2 : f 2 = _ := hR 2 (by decide)
    have e3 : f 3 = _ := hR 3 (by decide)
    have e4 : f 4 = _ := hR 4 (by decide)
    have e5 : f 5 = _ := hR 5 (by decide)
    have e6 : f 6 = _ := hR 6 (by decide)
    have e7 : f 7 = _ := hR 7 (by decide)
    have e8 : f 8 = _ := hR 8 (by decide)
    have e9 : f 9 = _ := hR 9 (by decide)
    have e10 : f 10 = _ := hR 10 (by decide)
    have e11 : f 11 = _ := hR 11 (by decide)
    have e12 : f 12 = _ := hR 12 (by decide)
    have e13 : f 13 = _ := hR 13 (by decide)
    have e14 : f 14 = _ := hR 14 (by decide)
    have e15 : f 15 = _ := hR 15 (by decide)
    have e16 : f 16 = _ := hR 16 (by decide)
    have e17 : f 17 = _ := hR 17 (by decide)
    simp only [yA, yB, yC, yD, yE, e0, e1, e2, e3, e4, e5, e6, e7, e8, e9, e10, e11, e12, e13, e14, e15, e16, e17]
    clear hR hal hap e0 e1 e2 e3 e4 e5 e6 e7 e8 e9 e10 e11 e12 e13 e14 e15 e16 e17
    refine Par.Chain.done ?_
    go_wp2
    go_ret
    exact ⟨by rw [show r = false by rw [← Hr.out]; simp [onB, HH.out]]; rfl, HB0.out.trans hX⟩
end Go.Proofs.Ytldhmjfjbalakaa
