/- Whether a point is on a curve: curve's own reckoning. Arguments opened: limbs and bytes that came in, as the walks want them. Plain arithmetic of numbers that are read from bytes: nothing of the program. What limb.FromBytes, the reference's FromBytes, Bits and Bytes compute. Curves and points in memory; curve's of, none and on, in these words. zfield: One and From. Points by three elements, in memory. -/
import Derived.Test.YtldhmjfjbalakaaPS06
import Derived.Deep.QuietTactic
import Derived.BigQuiet
import Derived.Deep.DeepCutAuto
import Derived.ProofKit
import Derived.OpenShut
import Derived.ShutString
import Derived.ChangeOld
import Derived.ChangeSame
import Derived.Deep.Slices
import Derived.SizedLaws
import Derived.Lib.SmallJoins
import Derived.RegionTactic
import Derived.ChangeAlike
import Derived.Laws.ResultCell
import Derived.Sort.AtCall
namespace Go.Proofs.Ytldhmjfjbalakaa
open Go.RowKit

def onB (M bb x y : Nat) : Bool := decide (x < M) && decide (y < M) && decide (y * y % M = ((x * x % M * x % M + M - 3 * x % M) % M + bb) % M)

set_option maxRecDepth 100000 in
set_option maxHeartbeats 8000000 in
theorem on_any {P0 : Nat → Prop} {k g size n inv M bb : Nat} {pl nl bl xl yl ml ol rl tl fl : List Nat} {Ap An Ab Ax Ay : Option Addr} {cp cn cb cx cy : Nat} (Pa Pb : Nat → Prop) (A A' : Option Addr) (c c' : Nat) (a b : List Nat) (inf : Bool) (w : World)
 (hk : Num w P0 k g size n inv M bb pl nl bl xl yl ml ol rl tl fl Ap An Ab Ax Ay cp cn cb cx cy) (hP0 : ∀ b, P0 b → b < w.heap.size) (h : RN w Pa A c a) (h' : RN w Pb A' c' b) (hPa : ∀ b, Pa b → b < w.heap.size) (hPb : ∀ b, Pb b → b < w.heap.size) (hM3 : 3 < M) (_hbM : bb < M) :
 Calls Try.prog 43 #[.pointer (some ⟨k, 0, none⟩), .agg #[.bool inf, .slice A a.length c, .slice A' b.length c']] w fun e w' => e = .returned (.bool (inf || onB M bb (val 18446744073709551616 a) (val 18446744073709551616 b))) ∧ Below w.heap.size w w' := by
 cases inf
 case true =>
  go_enter Try.func43, Try.ntmps43
  go_wp2
  go_ret
  exact ⟨rfl, (Below.refl _ w).alloc (Nat.le_refl _) _⟩
 case false =>
  rw [Bool.false_or]
  have hkl := blk_lt hk.blk
  have hgl := hk.fr.ff.fld.lt
  obtain ⟨W0, hW0⟩ : ∃ W0, W0 = w.alloc (.cells #[.bool false, .slice A a.length c, .slice A' b.length c'] 27) := ⟨_, rfl⟩
  have hB0 : Ext w W0 := by rw [hW0]; exact Ext.alloc _ _
  have hz0 : W0.heap.size = w.heap.size + 1 := by rw [hW0]; simp
  obtain ⟨q, hq⟩ : ∃ q, w.heap.size = q := ⟨_, rfl⟩
  have hbx : W0.heap[q]? = some (.cells #[.bool false, .slice A a.length c, .slice A' b.length c'] 27 (0, 0)) := by rw [hW0, ← hq]; exact heap_alloc_new w _
  have b0 : W0.cell? ⟨q, 0, none⟩ = some (.bool false) := blk_cell hbx 0
  have b1 : W0.cell? ⟨q, 1, none⟩ = some (.slice A a.length c) := blk_cell hbx 1
  have b2 : W0.cell? ⟨q, 2, none⟩ = some (.slice A' b.length c') := blk_cell hbx 2
  have hn := Lib.hid (hk.ext hP0 hB0)
  have hP0' : ∀ b, P0 b → b < W0.heap.size := fun b hb => by have := hP0 b hb; omega
  have hPa' : ∀ b, Pa b → b < W0.heap.size := fun b hb => by have := hPa b hb; omega
  have hPb' : ∀ b, Pb b → b < W0.heap.size := fun b hb => by have := hPb b hb; omega
  have ha := h.below hB0 hPa
  have hb := h'.below hB0 hPb
  have Hqs := Lib.hid (show q ≤ W0.heap.size by omega)
  have k1 := hn.out.c_p
  have k6 := hn.out.c_f
  have hpv := Lib.hid hk.pv
  obtain ⟨x, hx⟩ : ∃ x, val 18446744073709551616 a = x := ⟨_, rfl⟩
  obtain ⟨y, hy⟩ : ∃ y, val 18446744073709551616 b = y := ⟨_, rfl⟩
  rw [hx, hy]
  obtain ⟨r, hr⟩ : ∃ r, onB M bb x y = r := ⟨_, rfl⟩
  rw [hr]
  have Hr := Lib.hid hr
  have Hx := Lib.hid hx
  have Hy := Lib.hid hy
  have HB0 := Lib.hid hB0
  have Hz0 := Lib.hid hz0
  clear hx hy hz0 hB0 hk hr
  go_enter Try.func43, Try.ntmps43
  go_upto_region 3 with fail
  rw [← hW0]
  have HW0 := Lib.hid hW0
  have Hq := Lib.hid hq
  clear hW0 hq
  by_cases hxM : x < M
  · by_cases hyM : y < M
    · have HxM := cmpV_lt hxM
      have HyM := cmpV_lt hyM
      have tx := Lib.hid HxM
      have ty := Lib.hid HyM
      clear HxM HyM
      refine Par.region_ext (by kernel_rfl) 18 [0, 1, 0, 4, 12, 28, 63, 127, 255, 511, 1023, 511, 2559, 6655, 14847, 32767, 65535, 131071] [] (fun j f X => match j with
       | 0 => f 0 = .pointer (some ⟨q, 1, none⟩)
       | 1 => f 1 = .slice A a.length c
       | 2 => f 2 = .pointer (some ⟨k, 0, none⟩)
       | 3 => f 3 = .pointer (some ⟨k, 0, none⟩)
       | 4 => f 4 = .pointer (some ⟨k, 1, none⟩)
       | 5 => f 5 = .slice Ap pl.length cp
       | 6 => f 6 = .int .i64 (-1)
       | 7 => f 7 = .bool false
       | 8 => f 8 = .bool false
       | 9 => f 9 = .pointer (some ⟨q, 2, none⟩)
       | 10 => f 10 = .slice A' b.length c'
       | 11 => f 11 = .pointer (some ⟨k, 0, none⟩)
       | 12 => f 12 = .pointer (some ⟨k, 0, none⟩)
       | 13 => f 13 = .pointer (some ⟨k, 1, none⟩)
       | 14 => f 14 = .slice Ap pl.length cp
       | 15 => f 15 = .int .i64 (-1)
       | 16 => f 16 = .bool false
       | 17 => f 17 = .bool false
       | _ => True) (by kernel_rfl) [(17, 0), (18, 1), (19, 2), (20, 3), (21, 4), (22, 5), (23, 6), (24, 7), (25, 8), (26, 9), (27, 10), (28, 11), (29, 12), (30, 13), (31, 14), (32, 15), (33, 16), (34, 17)] (by kernel_rfl) ?_
      refine Par.v0 1 17 ?_
      refine Par.ld1 2 16 0 b1 ?_
      refine Par.v0 3 15 ?_
      refine Par.v1 4 14 2 ?_
      refine Par.v1 5 13 3 ?_
      refine Par.ld1 6 12 4 k1 ?_
      refine Par.S 7 11 [(17, 0), (18, 1), (19, 2), (20, 3), (21, 4), (22, 5)] (fun f X hX hR K hK => ?_) ?_
      · have e1 : f 1 = _ := hR.out 1 rfl
        have e5 : f 5 = _ := hR.out 5 rfl
        simp only [yA, yB, yC, yD, yE, e1, e5]
        refine ⟨?_⟩
        go_simp
        refine (cmp_any Pa P0 A Ap c cp a pl X (ha.below hX hPa') (hn.out.p.below hX hP0')).mono ?_
        rintro e w2 ⟨rfl, nq, rfl⟩
        rw [Hx.out, hpv.out, tx.out]
        exact hK.out _ _ _ (by simp only [yA, yB, yC, yD, yE, e1, e5]) (Ext.drewN _ _) trivial (fun _ _ => rfl)
      refine Par.S 8 10 [(17, 0), (18, 1), (19, 2), (20, 3), (21, 4), (22, 5), (23, 6)] (fun f X hX hR K hK => ?_) ?_
      · have e6 : f 6 = _ := hR.out 6 rfl
        simp only [yA, yB, yC, yD, yE, e6]
        refine ⟨?_⟩
        go_simp
        exact Par.k hK (s := by simp only [yA, yB, yC, yD, yE, e6])
      refine Par.v1 9 9 7 ?_
      refine Par.v1 10 8 8 ?_
      refine Par.S 11 7 [(17, 0), (18, 1), (19, 2), (20, 3), (21, 4), (22, 5), (23, 6), (24, 7), (25, 8), (26, 9), (28, 11), (29, 12), (30, 13), (31, 14)] (fun f X hX hR K hK => ?_) ?_
      · have e8 : f 8 = _ := hR.out 8 rfl
        have e9 : f 9 = _ := hR.out 9 rfl
        have x0 := hX.cell b2
        simp only [yA, yB, yC, yD, yE, e8, e9]
        refine ⟨Par.want (by kernel_rfl) ?_⟩
        go_simp
        exact Par.k hK (s := by simp only [yA, yB, yC, yD, yE, e8, e9])
      refine Par.v1 12 6 8 ?_
      refine Par.v2 13 5 8 11 ?_
      refine Par.v2 14 4 8 12 ?_
      refine Par.S 15 3 [(17, 0), (18, 1), (19, 2), (20, 3), (21, 4), (22, 5), (23, 6), (24, 7), (25, 8), (26, 9), (27, 10), (28, 11), (29, 12), (30, 13)] (fun f X hX hR K hK => ?_) ?_
      · have e8 : f 8 = _ := hR.out 8 rfl
        have e13 : f 13 = _ := hR.out 13 rfl
        have x0 := hX.cell k1
        simp only [yA, yB, yC, yD, yE, e8, e13]
        refine ⟨Par.want (by kernel_rfl) ?_⟩
        go_simp
        exact Par.k hK (s := by simp only [yA, yB, yC, yD, yE, e8, e13])
      refine Par.S 16 2 [(17, 0), (18, 1), (19, 2), (20, 3), (21, 4), (22, 5), (23, 6), (24, 7), (25, 8), (26, 9), (27, 10), (28, 11), (29, 12), (30, 13), (31, 14)] (fun f X hX hR K hK => ?_) ?_
      · have e8 : f 8 = _ := hR.out 8 rfl
        have e10 : f 10 = _ := hR.out 10 rfl
        have e14 : f 14 = _ := hR.out 14 rfl
        simp only [yA, yB, yC, yD, yE, e8, e10, e14]
        refine ⟨Par.want (by kernel_rfl) ?_⟩
        go_simp
        refine (cmp_any Pb P0 A' Ap c' cp b pl X (hb.below hX hPb') (hn.out.p.below hX hP0')).mono ?_
        rintro e w2 ⟨rfl, nq, rfl⟩
        rw [Hy.out, hpv.out, ty.out]
        exact hK.out _ _ _ (by simp only [yA, yB, yC, yD, yE, e8, e10, e14]) (Ext.drewN _ _) trivial (fun _ _ => rfl)
      refine Par.S 17 1 [(17, 0), (18, 1), (19, 2), (20, 3), (21, 4), (22, 5), (23, 6), (24, 7), (25, 8), (26, 9), (27, 10), (28, 11), (29, 12), (30, 13), (31, 14), (32, 15)] (fun f X hX hR K hK => ?_) ?_
      · have e8 : f 8 = _ := hR.out 8 rfl
        have e15 : f 15 = _ := hR.out 15 rfl
        simp only [yA, yB, yC, yD, yE, e8, e15]
        refine ⟨Par.want (by kernel_rfl) ?_⟩
        go_simp
        exact Par.k hK (s := by simp only [yA, yB, yC, yD, yE, e8, e15])
      refine Par.v2 18 0 8 16 ?_
      refine Par.AllOps.fin ⟨fun f X hX hR hal hap => ?_⟩
      have e17 : f 17 = _ := hR 17 (by decide)
      simp only [yA, yB, yD, yE, e17]
      clear hR hal hap e17
      refine Par.Chain.done ?_
      have hE : Ext W0 X := hX
      clear hX
      have k6' := hE.cell k6
      go_upto_region 6 with fail
      clear k6'
      rename World => X3
      have d1 := hE.cell b1
      have d2 := hE.cell b2
      refine Par.region_ext (by kernel_rfl) 12 [0, 0, 2, 6, 15, 0, 0, 64, 223, 511, 0, 0, 4095, 8191] [10, 11] (fun j f X => match j with
       | 0 => f 0 = .pointer (some ⟨g, 0, none⟩)
       | 1 => f 1 = .pointer (some ⟨q, 1, none⟩)
       | 2 => f 2 = .slice A a.length c
       | 3 => ∃ A1 c1, f 3 = .slice A1 (digs 18446744073709551616 x).length c1 ∧ OB X q A1 c1 (digs 18446744073709551616 x)
       | 4 => ∃ o, f 4 = EV o ∧ FE M n o x
       | 5 => f 5 = .pointer (some ⟨g, 0, none⟩)
       | 6 => f 6 = .pointer (some ⟨q, 2, none⟩)
       | 7 => f 7 = .slice A' b.length c'
       | 8 => ∃ A1 c1, f 8 = .slice A1 (digs 18446744073709551616 y).length c1 ∧ OB X q A1 c1 (digs 18446744073709551616 y)
       | 9 => ∃ o, f 9 = EV o ∧ FE M n o y
       | 10 => ∃ b, f 10 = .pointer (some ⟨b, 0, none⟩) ∧ X3.heap.size ≤ b ∧ X.heap[b]? = some (.cells #[.int .u64 0, .int .u64 0, .int .u64 0, .int .u64 0, .int .u64 0, .int .u64 0] 81 (0, 0))
       | 11 => ∃ b, f 11 = .pointer (some ⟨b, 0, none⟩) ∧ X3.heap.size ≤ b ∧ X.heap[b]? = some (.cells #[.int .u64 0, .int .u64 0, .int .u64 0, .int .u64 0, .int .u64 0, .int .u64 0] 81 (0, 0))
       | _ => True) (by kernel_rfl) [(39, 0), (40, 1), (41, 2), (42, 3), (43, 4), (44, 5), (45, 6), (46, 7), (47, 8), (48, 9), (6, 10), (7, 11)] (by kernel_rfl) ?_
      refine Par.v0 1 11 ?_
      refine Par.v0 2 10 ?_
      refine Par.ld1 3 9 1 d1 ?_
      refine Par.S 4 8 [(39, 0), (40, 1), (41, 2), (44, 5), (45, 6), (46, 7), (6, 10), (7, 11)] (fun f X hX hR K hK => ?_) ?_
      · have e2 : f 2 = _ := hR.out 2 rfl
        simp only [yA, yB, yC, yD, yE, e2]
        refine ⟨?_⟩
        go_simp
        refine (norm_any Pa A c a X (ha.below (hE.trans hX) hPa')).mono ?_
        rw [Hx.out]
        rintro e w2 ⟨A1, c1, rfl, hO, hB⟩
        exact hK.out _ _ _ (by simp only [yA, yB, yC, yD, yE, e2]) hB trivial (fun Y hY => ⟨A1, c1, rfl, (hO.mono (Nat.le_trans Hqs.out (hE.trans hX).bsize)).below hY (Nat.le_refl _)⟩)
      refine Par.S 5 7 [(39, 0), (40, 1), (41, 2), (42, 3), (44, 5), (45, 6), (46, 7), (6, 10), (7, 11)] (fun f X hX hR K hK => ?_) ?_
      · have e0 : f 0 = _ := hR.out 0 rfl
        obtain ⟨A3, c3, (e3 : f 3 = _), o3⟩ := hR.out 3 rfl
        simp only [yA, yB, yC, yD, yE, e0, e3]
        refine ⟨?_⟩
        go_simp
        refine (zto_any _ A3 c3 _ X (hn.out.ext hP0' (hE.trans hX)).fr o3.rn (fun b hb => hb.2) (hn.out.six hxM) (by rw [val_digs (by omega)]; exact hxM)).mono ?_
        rintro e w2 ⟨o, rfl, ho, hB⟩
        rw [val_digs (by omega)] at ho
        exact hK.out _ (EV o) _ (by simp only [yA, yB, yC, yD, yE, e0, e3]) hB trivial (fun Y hY => ⟨o, rfl, ho⟩)
      refine Par.v0 6 6 ?_
      refine Par.v0 7 5 ?_
      refine Par.ld1 8 4 6 d2 ?_
      refine Par.S 9 3 [(39, 0), (40, 1), (41, 2), (42, 3), (43, 4), (44, 5), (45, 6), (46, 7), (6, 10), (7, 11)] (fun f X hX hR K hK => ?_) ?_
      · have e7 : f 7 = _ := hR.out 7 rfl
        simp only [yA, yB, yC, yD, yE, e7]
        refine ⟨?_⟩
        go_simp
        refine (norm_any Pb A' c' b X (hb.below (hE.trans hX) hPb')).mono ?_
        rw [Hy.out]
        rintro e w2 ⟨A1, c1, rfl, hO, hB⟩
        exact hK.out _ _ _ (by simp only [yA, yB, yC, yD, yE, e7]) hB trivial (fun Y hY => ⟨A1, c1, rfl, (hO.mono (Nat.le_trans Hqs.out (hE.trans hX).bsize)).below hY (Nat.le_refl _)⟩)
      refine Par.S 10 2 [(39, 0), (40, 1), (41, 2), (42, 3), (43, 4), (44, 5), (45, 6), (46, 7), (47, 8), (6, 10), (7, 11)] (fun f X hX hR K hK => ?_) ?_
      · have e5 : f 5 = _ := hR.out 5 rfl
        obtain ⟨A8, c8, (e8 : f 8 = _), o8⟩ := hR.out 8 rfl
        simp only [yA, yB, yC, yD, yE, e5, e8]
        refine ⟨?_⟩
        go_simp
        refine (zto_any _ A8 c8 _ X (hn.out.ext hP0' (hE.trans hX)).fr o8.rn (fun b hb => hb.2) (hn.out.six hyM) (by rw [val_digs (by omega)]; exact hyM)).mono ?_
        rintro e w2 ⟨o, rfl, ho, hB⟩
        rw [val_digs (by omega)] at ho
        exact hK.out _ (EV o) _ (by simp only [yA, yB, yC, yD, yE, e5, e8]) hB trivial (fun Y hY => ⟨o, rfl, ho⟩)
      refine Par.al 11 1 ?_
      refine Par.al 12 0 ?_
      refine Par.AllOps.fin ⟨fun f X hX hR hal hap => ?_⟩
      obtain ⟨A3, c3, (e3 : f 3 = _), o3⟩ := hR 3 (by decide)
      obtain ⟨o4, (e4 : f 4 = _), h4⟩ := hR 4 (by decide)
      obtain ⟨A8, c8, (e8 : f 8 = _), o8⟩ := hR 8 (by decide)
      obtain ⟨o9, (e9 : f 9 = _), h9⟩ := hR 9 (by decide)
      obtain ⟨b10, (e10 : f 10 = _), l10, h10⟩ := hR 10 (by decide)
      obtain ⟨b11, (e11 : f 11 = _), l11, h11⟩ := hR 11 (by decide)
      have n11_10 : b11 ≠ b10 := fun e => hap 11 10 (by decide) (by decide) rfl rfl (by decide) (by rw [e11, e10, e])
      simp only [yA, yB, yD, yE, e3, e4, e8, e9, e10, e11]
      clear hR hal hap e3 e4 e8 e9 e10 e11
      refine Par.Chain.next (fun K hK => ⟨Par.want (by kernel_rfl) (wp_storeE (.tmp 6) (.tmp 43) rfl rfl rfl rfl h10 rfl h4.elt.six (fun Y1 hl1 => hK.out _ _ ?_))⟩)
      refine Par.Chain.next (fun K hK => ⟨Par.want (by kernel_rfl) (wp_storeE (.tmp 7) (.tmp 48) rfl rfl rfl rfl (hl1.other n11_10 h11) rfl h9.elt.six (fun Y2 hl2 => hK.out _ _ ?_))⟩)
      refine Par.Chain.done ?_
      have v1 : VE Y2 M n b10 x := hl2.ve (Ne.symm n11_10) (hl1.mk' h4)
      have v2 : VE Y2 M n b11 y := hl2.mk' h9
      have hE7 : Ext W0 Y2 := hl2.ext (hl1.ext (hE.trans hX) (Nat.le_trans hE.bsize l10)) (Nat.le_trans hE.bsize l11)
      clear hl1 hl2 o3 h4 o8 h9 h10 h11 l10 l11 hX hE d1 d2
      have hE := hE7
      clear hE7
      go_upto_region 7 with fail
      refine Par.region_ext (by kernel_rfl) 20 [0, 0, 0, 0, 0, 0, 56, 0, 128, 384, 896, 2044, 0, 8190, 0, 16384, 49152, 114688, 262143, 0, 1048575] [19] (fun j f X => match j with
       | 0 => f 0 = .pointer (some ⟨g, 0, none⟩)
       | 1 => f 1 = .pointer (some ⟨g, 0, none⟩)
       | 2 => f 2 = .pointer (some ⟨g, 0, none⟩)
       | 3 => f 3 = .pointer (some ⟨g, 0, none⟩)
       | 4 => ∃ o, f 4 = EV o ∧ FE M n o x
       | 5 => ∃ o, f 5 = EV o ∧ FE M n o x
       | 6 => ∃ o, f 6 = EV o ∧ FE M n o (x * x)
       | 7 => f 7 = .pointer (some ⟨k, 0, none⟩)
       | 8 => f 8 = .pointer (some ⟨k, 0, none⟩)
       | 9 => f 9 = .pointer (some ⟨k, 7, none⟩)
       | 10 => f 10 = EV tl
       | 11 => ∃ o, f 11 = EV o ∧ FE M n o (x * x + M - 3)
       | 12 => ∃ o, f 12 = EV o ∧ FE M n o x
       | 13 => ∃ o, f 13 = EV o ∧ FE M n o ((x * x + M - 3) * x)
       | 14 => f 14 = .pointer (some ⟨k, 0, none⟩)
       | 15 => f 15 = .pointer (some ⟨k, 0, none⟩)
       | 16 => f 16 = .pointer (some ⟨k, 13, none⟩)
       | 17 => f 17 = EV fl
       | 18 => ∃ o, f 18 = EV o ∧ FE M n o ((x * x + M - 3) * x + bb)
       | 19 => ∃ b, f 19 = .pointer (some ⟨b, 0, none⟩) ∧ Y2.heap.size ≤ b ∧ X.heap[b]? = some (.cells #[.int .u64 0, .int .u64 0, .int .u64 0, .int .u64 0, .int .u64 0, .int .u64 0] 81 (0, 0))
       | _ => True) (by kernel_rfl) [(49, 0), (50, 1), (51, 2), (52, 3), (53, 4), (54, 5), (55, 6), (56, 7), (57, 8), (58, 9), (59, 10), (60, 11), (61, 12), (62, 13), (63, 14), (64, 15), (65, 16), (66, 17), (67, 18), (8, 19)] (by kernel_rfl) ?_
      refine Par.v0 1 19 ?_
      refine Par.v0 2 18 ?_
      refine Par.v0 3 17 ?_
      refine Par.v0 4 16 ?_
      refine Par.S 5 15 [(49, 0), (50, 1), (51, 2), (52, 3), (54, 5), (56, 7), (57, 8), (58, 9), (59, 10), (61, 12), (63, 14), (64, 15), (65, 16), (66, 17), (8, 19)] (fun f X hX hR K hK => ?_) ?_
      · obtain ⟨o, hbl, ho⟩ := v1.ext hX
        simp only [yA, yB, yC, yD, yE]
        refine ⟨Par.want (by kernel_rfl) (wp_loadE (.tmp 6) rfl rfl hbl.range ho.elt.six ?_)⟩
        exact hK.out _ (EV o) _ (by simp only [yA, yB, yC, yD, yE]) (Ext.refl _) trivial (fun Y hY => ⟨o, rfl, ho⟩)
      refine Par.S 6 14 [(49, 0), (50, 1), (51, 2), (52, 3), (53, 4), (56, 7), (57, 8), (58, 9), (59, 10), (61, 12), (63, 14), (64, 15), (65, 16), (66, 17), (8, 19)] (fun f X hX hR K hK => ?_) ?_
      · obtain ⟨o, hbl, ho⟩ := v1.ext hX
        simp only [yA, yB, yC, yD, yE]
        refine ⟨Par.want (by kernel_rfl) (wp_loadE (.tmp 6) rfl rfl hbl.range ho.elt.six ?_)⟩
        exact hK.out _ (EV o) _ (by simp only [yA, yB, yC, yD, yE]) (Ext.refl _) trivial (fun Y hY => ⟨o, rfl, ho⟩)
      refine Par.S 7 13 [(49, 0), (50, 1), (51, 2), (52, 3), (53, 4), (54, 5), (56, 7), (57, 8), (58, 9), (59, 10), (61, 12), (63, 14), (64, 15), (65, 16), (66, 17), (8, 19)] (fun f X hX hR K hK => ?_) ?_
      · have e3 : f 3 = _ := hR.out 3 rfl
        obtain ⟨o4, (e4 : f 4 = _), h4⟩ := hR.out 4 rfl
        obtain ⟨o5, (e5 : f 5 = _), h5⟩ := hR.out 5 rfl
        simp only [yA, yB, yC, yD, yE, e3, e4, e5]
        refine ⟨?_⟩
        go_simp
        refine (fmul_any X (hn.out.ext hP0' (hE.trans hX)).fr.ff h4 h5).mono ?_
        rintro e w2 ⟨o, rfl, ho, hB⟩
        exact hK.out _ (EV o) _ (by simp only [yA, yB, yC, yD, yE, e3, e4, e5]) hB trivial (fun Y hY => ⟨o, rfl, ho⟩)
      refine Par.v0 8 12 ?_
      refine Par.v1 9 11 7 ?_
      refine Par.v1 10 10 8 ?_
      refine Par.S 11 9 [(49, 0), (50, 1), (51, 2), (52, 3), (53, 4), (54, 5), (55, 6), (56, 7), (57, 8), (58, 9), (61, 12), (63, 14), (64, 15), (65, 16), (66, 17), (8, 19)] (fun f X hX hR K hK => ?_) ?_
      · have e9 : f 9 = _ := hR.out 9 rfl
        simp only [yA, yB, yC, yD, yE, e9]
        refine ⟨Par.want (by kernel_rfl) (wp_loadE (.tmp 58) rfl rfl (hn.out.ext hP0' (hE.trans hX)).r_three hn.out.three.elt.six ?_)⟩
        exact hK.out _ (EV tl) _ (by simp only [yA, yB, yC, yD, yE, e9]) (Ext.refl _) trivial (fun _ _ => rfl)
      refine Par.S 12 8 [(49, 0), (50, 1), (51, 2), (52, 3), (53, 4), (54, 5), (55, 6), (56, 7), (57, 8), (58, 9), (59, 10), (61, 12), (63, 14), (64, 15), (65, 16), (66, 17), (8, 19)] (fun f X hX hR K hK => ?_) ?_
      · have e2 : f 2 = _ := hR.out 2 rfl
        obtain ⟨o6, (e6 : f 6 = _), h6⟩ := hR.out 6 rfl
        have e10 : f 10 = _ := hR.out 10 rfl
        simp only [yA, yB, yC, yD, yE, e2, e6, e10]
        refine ⟨?_⟩
        go_simp
        refine (fsub_any X (hn.out.ext hP0' (hE.trans hX)).fr.ff h6 hn.out.three (by omega)).mono ?_
        rintro e w2 ⟨o, rfl, ho, hB⟩
        exact hK.out _ (EV o) _ (by simp only [yA, yB, yC, yD, yE, e2, e6, e10]) hB trivial (fun Y hY => ⟨o, rfl, ho⟩)
      refine Par.S 13 7 [(49, 0), (50, 1), (51, 2), (52, 3), (53, 4), (54, 5), (55, 6), (56, 7), (57, 8), (58, 9), (59, 10), (60, 11), (63, 14), (64, 15), (65, 16), (66, 17), (8, 19)] (fun f X hX hR K hK => ?_) ?_
      · obtain ⟨o, hbl, ho⟩ := v1.ext hX
        simp only [yA, yB, yC, yD, yE]
        refine ⟨Par.want (by kernel_rfl) (wp_loadE (.tmp 6) rfl rfl hbl.range ho.elt.six ?_)⟩
        exact hK.out _ (EV o) _ (by simp only [yA, yB, yC, yD, yE]) (Ext.refl _) trivial (fun Y hY => ⟨o, rfl, ho⟩)
      refine Par.S 14 6 [(49, 0), (50, 1), (51, 2), (52, 3), (53, 4), (54, 5), (55, 6), (56, 7), (57, 8), (58, 9), (59, 10), (60, 11), (61, 12), (63, 14), (64, 15), (65, 16), (66, 17), (8, 19)] (fun f X hX hR K hK => ?_) ?_
      · have e1 : f 1 = _ := hR.out 1 rfl
        obtain ⟨o11, (e11 : f 11 = _), h11⟩ := hR.out 11 rfl
        obtain ⟨o12, (e12 : f 12 = _), h12⟩ := hR.out 12 rfl
        simp only [yA, yB, yC, yD, yE, e1, e11, e12]
        refine ⟨?_⟩
        go_simp
        refine (fmul_any X (hn.out.ext hP0' (hE.trans hX)).fr.ff h11 h12).mono ?_
        rintro e w2 ⟨o, rfl, ho, hB⟩
        exact hK.out _ (EV o) _ (by simp only [yA, yB, yC, yD, yE, e1, e11, e12]) hB trivial (fun Y hY => ⟨o, rfl, ho⟩)
      refine Par.v0 15 5 ?_
      refine Par.v1 16 4 14 ?_
      refine Par.v1 17 3 15 ?_
      refine Par.S 18 2 [(49, 0), (50, 1), (51, 2), (52, 3), (53, 4), (54, 5), (55, 6), (56, 7), (57, 8), (58, 9), (59, 10), (60, 11), (61, 12), (62, 13), (63, 14), (64, 15), (65, 16), (8, 19)] (fun f X hX hR K hK => ?_) ?_
      · have e16 : f 16 = _ := hR.out 16 rfl
        simp only [yA, yB, yC, yD, yE, e16]
        refine ⟨Par.want (by kernel_rfl) (wp_loadE (.tmp 65) rfl rfl (hn.out.ext hP0' (hE.trans hX)).r_fb hn.out.fb.elt.six ?_)⟩
        exact hK.out _ (EV fl) _ (by simp only [yA, yB, yC, yD, yE, e16]) (Ext.refl _) trivial (fun _ _ => rfl)
      refine Par.S 19 1 [(49, 0), (50, 1), (51, 2), (52, 3), (53, 4), (54, 5), (55, 6), (56, 7), (57, 8), (58, 9), (59, 10), (60, 11), (61, 12), (62, 13), (63, 14), (64, 15), (65, 16), (66, 17), (8, 19)] (fun f X hX hR K hK => ?_) ?_
      · have e0 : f 0 = _ := hR.out 0 rfl
        obtain ⟨o13, (e13 : f 13 = _), h13⟩ := hR.out 13 rfl
        have e17 : f 17 = _ := hR.out 17 rfl
        simp only [yA, yB, yC, yD, yE, e0, e13, e17]
        refine ⟨?_⟩
        go_simp
        refine (fadd_any X (hn.out.ext hP0' (hE.trans hX)).fr.ff h13 hn.out.fb).mono ?_
        rintro e w2 ⟨o, rfl, ho, hB⟩
        exact hK.out _ (EV o) _ (by simp only [yA, yB, yC, yD, yE, e0, e13, e17]) hB trivial (fun Y hY => ⟨o, rfl, ho⟩)
      refine Par.al 20 0 ?_
      refine Par.AllOps.fin ⟨fun f X hX hR hal hap => ?_⟩
      obtain ⟨o4, (e4 : f 4 = _), h4⟩ := hR 4 (by decide)
      obtain ⟨o5, (e5 : f 5 = _), h5⟩ := hR 5 (by decide)
      obtain ⟨o6, (e6 : f 6 = _), h6⟩ := hR 6 (by decide)
      obtain ⟨o11, (e11 : f 11 = _), h11⟩ := hR 11 (by decide)
      obtain ⟨o12, (e12 : f 12 = _), h12⟩ := hR 12 (by decide)
      obtain ⟨o13, (e13 : f 13 = _), h13⟩ := hR 13 (by decide)
      obtain ⟨o18, (e18 : f 18 = _), h18⟩ := hR 18 (by decide)
      obtain ⟨b19, (e19 : f 19 = _), l19, h19⟩ := hR 19 (by decide)
      simp only [yA, yB, yD, yE, e4, e5, e6, e11, e12, e13, e18, e19]
      clear hR hal hap e4 e5 e6 e11 e12 e13 e18 e19
      refine Par.Chain.next (fun K hK => ⟨Par.want (by kernel_rfl) (wp_storeE (.tmp 8) (.tmp 67) rfl rfl rfl rfl h19 rfl h18.elt.six (fun Y3 hl1 => hK.out _ _ ?_))⟩)
      refine Par.Chain.done ?_
      have v3 : VE Y3 M n b19 ((x * x + M - 3) * x + bb) := hl1.mk' h18
      have nb : b11 ≠ b19 := by have := (let ⟨_, h, _⟩ := v2; h.lt : b11 < Y2.heap.size); omega
      have v4 : VE Y3 M n b11 y := hl1.ve nb (v2.ext hX)
      have hE8 : Ext W0 Y3 := hl1.ext (hE.trans hX) (Nat.le_trans hE.bsize l19)
      clear hl1 h4 h5 h6 h11 h12 h13 h18 h19 l19 hX hE v1 v2
      have hE := hE8
      clear hE8
      go_upto_region 8 with fail
      refine Par.region_ext (by kernel_rfl) 9 [0, 0, 0, 0, 14, 0, 63, 127, 255] [] (fun j f X => match j with
       | 0 => f 0 = .pointer (some ⟨g, 0, none⟩)
       | 1 => f 1 = .pointer (some ⟨g, 0, none⟩)
       | 2 => ∃ o, f 2 = EV o ∧ FE M n o y
       | 3 => ∃ o, f 3 = EV o ∧ FE M n o y
       | 4 => ∃ o, f 4 = EV o ∧ FE M n o (y * y)
       | 5 => ∃ o, f 5 = EV o ∧ FE M n o ((x * x + M - 3) * x + bb)
       | 6 => ∃ o, f 6 = EV o ∧ FE M n o (y * y + M - ((x * x + M - 3) * x + bb) % M)
       | 7 => f 7 = .bool r
       | 8 => f 8 = .bool r
       | _ => True) (by kernel_rfl) [(68, 0), (69, 1), (70, 2), (71, 3), (72, 4), (73, 5), (74, 6), (75, 7), (4, 8)] (by kernel_rfl) ?_
      refine Par.v0 1 8 ?_
      refine Par.v0 2 7 ?_
      refine Par.S 3 6 [(68, 0), (69, 1), (71, 3), (73, 5)] (fun f X hX hR K hK => ?_) ?_
      · obtain ⟨o, hbl, ho⟩ := v4.ext hX
        simp only [yA, yB, yC, yD, yE]
        refine ⟨Par.want (by kernel_rfl) (wp_loadE (.tmp 7) rfl rfl hbl.range ho.elt.six ?_)⟩
        exact hK.out _ (EV o) _ (by simp only [yA, yB, yC, yD, yE]) (Ext.refl _) trivial (fun Y hY => ⟨o, rfl, ho⟩)
      refine Par.S 4 5 [(68, 0), (69, 1), (70, 2), (73, 5)] (fun f X hX hR K hK => ?_) ?_
      · obtain ⟨o, hbl, ho⟩ := v4.ext hX
        simp only [yA, yB, yC, yD, yE]
        refine ⟨Par.want (by kernel_rfl) (wp_loadE (.tmp 7) rfl rfl hbl.range ho.elt.six ?_)⟩
        exact hK.out _ (EV o) _ (by simp only [yA, yB, yC, yD, yE]) (Ext.refl _) trivial (fun Y hY => ⟨o, rfl, ho⟩)
      refine Par.S 5 4 [(68, 0), (69, 1), (70, 2), (71, 3), (73, 5)] (fun f X hX hR K hK => ?_) ?_
      · have e1 : f 1 = _ := hR.out 1 rfl
        obtain ⟨o2, (e2 : f 2 = _), h2⟩ := hR.out 2 rfl
        obtain ⟨o3, (e3 : f 3 = _), h3⟩ := hR.out 3 rfl
        simp only [yA, yB, yC, yD, yE, e1, e2, e3]
        refine ⟨?_⟩
        go_simp
        refine (fmul_any X (hn.out.ext hP0' (hE.trans hX)).fr.ff h2 h3).mono ?_
        rintro e w2 ⟨o, rfl, ho, hB⟩
        exact hK.out _ (EV o) _ (by simp only [yA, yB, yC, yD, yE, e1, e2, e3]) hB trivial (fun Y hY => ⟨o, rfl, ho⟩)
      refine Par.S 6 3 [(68, 0), (69, 1), (70, 2), (71, 3), (72, 4)] (fun f X hX hR K hK => ?_) ?_
      · obtain ⟨o, hbl, ho⟩ := v3.ext hX
        simp only [yA, yB, yC, yD, yE]
        refine ⟨Par.want (by kernel_rfl) (wp_loadE (.tmp 8) rfl rfl hbl.range ho.elt.six ?_)⟩
        exact hK.out _ (EV o) _ (by simp only [yA, yB, yC, yD, yE]) (Ext.refl _) trivial (fun Y hY => ⟨o, rfl, ho⟩)
      refine Par.S 7 2 [(68, 0), (69, 1), (70, 2), (71, 3), (72, 4), (73, 5)] (fun f X hX hR K hK => ?_) ?_
      · have e0 : f 0 = _ := hR.out 0 rfl
        obtain ⟨o4, (e4 : f 4 = _), h4⟩ := hR.out 4 rfl
        obtain ⟨o5, (e5 : f 5 = _), h5⟩ := hR.out 5 rfl
        simp only [yA, yB, yC, yD, yE, e0, e4, e5]
        refine ⟨?_⟩
        go_simp
        refine (fsub_any X (hn.out.ext hP0' (hE.trans hX)).fr.ff h4 h5.mod (Nat.le_of_lt (Nat.mod_lt _ (by omega)))).mono ?_
        rintro e w2 ⟨o, rfl, ho, hB⟩
        exact hK.out _ (EV o) _ (by simp only [yA, yB, yC, yD, yE, e0, e4, e5]) hB trivial (fun Y hY => ⟨o, rfl, ho⟩)
      refine Par.S 8 1 [(68, 0), (69, 1), (70, 2), (71, 3), (72, 4), (73, 5), (74, 6)] (fun f X hX hR K hK => ?_) ?_
      · obtain ⟨o6, (e6 : f 6 = _), h6⟩ := hR.out 6 rfl
        simp only [yA, yB, yC, yD, yE, e6]
        refine ⟨?_⟩
        go_simp
        refine (zero_any o6 X h6.elt.six).mono ?_
        rintro e w2 ⟨rfl, hB⟩
        have hd : decide (o6 = [0, 0, 0, 0, 0, 0]) = r := by rw [← Hr.out, onB, decide_eq_true hxM, decide_eq_true hyM, Bool.true_and, Bool.true_and]; exact decide_eq_decide.2 ((h6.zero_iff (hn.out.ext hP0' (hE.trans hX)).fr.ff).trans (curve_eq hM3))
        rw [hd]
        exact hK.out _ _ _ (by simp only [yA, yB, yC, yD, yE, e6]) hB trivial (fun _ _ => rfl)
      refine Par.v1 9 0 7 ?_
      refine Par.AllOps.fin ⟨fun f X hX hR hal hap => ?_⟩
      obtain ⟨o2, (e2 : f 2 = _), h2⟩ := hR 2 (by decide)
      obtain ⟨o3, (e3 : f 3 = _), h3⟩ := hR 3 (by decide)
      obtain ⟨o4, (e4 : f 4 = _), h4⟩ := hR 4 (by decide)
      obtain ⟨o5, (e5 : f 5 = _), h5⟩ := hR 5 (by decide)
      obtain ⟨o6, (e6 : f 6 = _), h6⟩ := hR 6 (by decide)
      have e8 : f 8 = _ := hR 8 (by decide)
      simp only [yA, yB, yD, yE, e2, e3, e4, e5, e6, e8]
      clear hR hal hap e2 e3 e4 e5 e6 e8
      refine Par.Chain.done ?_
      go_wp2
      go_ret
      exact ⟨rfl, HB0.out.trans (hE.trans hX)⟩
    · have tx := Lib.hid (cmpV_lt hxM)
      obtain ⟨v, hv⟩ : ∃ v, cmpV y M = v := ⟨_, rfl⟩
      have hv0 : 0 ≤ v := by rw [← hv]; rcases cmpV_cases y M with h | h | h <;> omega
      have Hv := Lib.hid hv
      have HH := Lib.hid hyM
      clear hv hyM
      refine Par.region_ext (by kernel_rfl) 18 [0, 1, 0, 4, 12, 28, 63, 127, 255, 511, 1023, 511, 2559, 6655, 14847, 32767, 65535, 131071] [] (fun j f X => match j with
       | 0 => f 0 = .pointer (some ⟨q, 1, none⟩)
       | 1 => f 1 = .slice A a.length c
       | 2 => f 2 = .pointer (some ⟨k, 0, none⟩)
       | 3 => f 3 = .pointer (some ⟨k, 0, none⟩)
       | 4 => f 4 = .pointer (some ⟨k, 1, none⟩)
       | 5 => f 5 = .slice Ap pl.length cp
       | 6 => f 6 = .int .i64 (-1)
       | 7 => f 7 = .bool false
       | 8 => f 8 = .bool false
       | 9 => f 9 = .pointer (some ⟨q, 2, none⟩)
       | 10 => f 10 = .slice A' b.length c'
       | 11 => f 11 = .pointer (some ⟨k, 0, none⟩)
       | 12 => f 12 = .pointer (some ⟨k, 0, none⟩)
       | 13 => f 13 = .pointer (some ⟨k, 1, none⟩)
       | 14 => f 14 = .slice Ap pl.length cp
       | 15 => f 15 = .int .i64 v
       | 16 => f 16 = .bool true
       | 17 => f 17 = .bool true
       | _ => True) (by kernel_rfl) [(17, 0), (18, 1), (19, 2), (20, 3), (21, 4), (22, 5), (23, 6), (24, 7), (25, 8), (26, 9), (27, 10), (28, 11), (29, 12), (30, 13), (31, 14), (32, 15), (33, 16), (34, 17)] (by kernel_rfl) ?_
      refine Par.v0 1 17 ?_
      refine Par.ld1 2 16 0 b1 ?_
      refine Par.v0 3 15 ?_
      refine Par.v1 4 14 2 ?_
      refine Par.v1 5 13 3 ?_
      refine Par.ld1 6 12 4 k1 ?_
      refine Par.S 7 11 [(17, 0), (18, 1), (19, 2), (20, 3), (21, 4), (22, 5)] (fun f X hX hR K hK => ?_) ?_
      · have e1 : f 1 = _ := hR.out 1 rfl
        have e5 : f 5 = _ := hR.out 5 rfl
        simp only [yA, yB, yC, yD, yE, e1, e5]
        refine ⟨?_⟩
        go_simp
        refine (cmp_any Pa P0 A Ap c cp a pl X (ha.below hX hPa') (hn.out.p.below hX hP0')).mono ?_
        rintro e w2 ⟨rfl, nq, rfl⟩
        rw [Hx.out, hpv.out, tx.out]
        exact hK.out _ _ _ (by simp only [yA, yB, yC, yD, yE, e1, e5]) (Ext.drewN _ _) trivial (fun _ _ => rfl)
      refine Par.S 8 10 [(17, 0), (18, 1), (19, 2), (20, 3), (21, 4), (22, 5), (23, 6)] (fun f X hX hR K hK => ?_) ?_
      · have e6 : f 6 = _ := hR.out 6 rfl
        simp only [yA, yB, yC, yD, yE, e6]
        refine ⟨?_⟩
        go_simp
        exact Par.k hK (s := by simp only [yA, yB, yC, yD, yE, e6])
      refine Par.v1 9 9 7 ?_
      refine Par.v1 10 8 8 ?_
      refine Par.S 11 7 [(17, 0), (18, 1), (19, 2), (20, 3), (21, 4), (22, 5), (23, 6), (24, 7), (25, 8), (26, 9), (28, 11), (29, 12), (30, 13), (31, 14)] (fun f X hX hR K hK => ?_) ?_
      · have e8 : f 8 = _ := hR.out 8 rfl
        have e9 : f 9 = _ := hR.out 9 rfl
        have x0 := hX.cell b2
        simp only [yA, yB, yC, yD, yE, e8, e9]
        refine ⟨Par.want (by kernel_rfl) ?_⟩
        go_simp
        exact Par.k hK (s := by simp only [yA, yB, yC, yD, yE, e8, e9])
      refine Par.v1 12 6 8 ?_
      refine Par.v2 13 5 8 11 ?_
      refine Par.v2 14 4 8 12 ?_
      refine Par.S 15 3 [(17, 0), (18, 1), (19, 2), (20, 3), (21, 4), (22, 5), (23, 6), (24, 7), (25, 8), (26, 9), (27, 10), (28, 11), (29, 12), (30, 13)] (fun f X hX hR K hK => ?_) ?_
      · have e8 : f 8 = _ := hR.out 8 rfl
        have e13 : f 13 = _ := hR.out 13 rfl
        have x0 := hX.cell k1
        simp only [yA, yB, yC, yD, yE, e8, e13]
        refine ⟨Par.want (by kernel_rfl) ?_⟩
        go_simp
        exact Par.k hK (s := by simp only [yA, yB, yC, yD, yE, e8, e13])
      refine Par.S 16 2 [(17, 0), (18, 1), (19, 2), (20, 3), (21, 4), (22, 5), (23, 6), (24, 7), (25, 8), (26, 9), (27, 10), (28, 11), (29, 12), (30, 13), (31, 14)] (fun f X hX hR K hK => ?_) ?_
      · have e8 : f 8 = _ := hR.out 8 rfl
        have e10 : f 10 = _ := hR.out 10 rfl
        have e14 : f 14 = _ := hR.out 14 rfl
        simp only [yA, yB, yC, yD, yE, e8, e10, e14]
        refine ⟨Par.want (by kernel_rfl) ?_⟩
        go_simp
        refine (cmp_any Pb P0 A' Ap c' cp b pl X (hb.below hX hPb') (hn.out.p.below hX hP0')).mono ?_
        rintro e w2 ⟨rfl, nq, rfl⟩
        rw [Hy.out, hpv.out, Hv.out]
        exact hK.out _ _ _ (by simp only [yA, yB, yC, yD, yE, e8, e10, e14]) (Ext.drewN _ _) trivial (fun _ _ => rfl)
      refine Par.S 17 1 [(17, 0), (18, 1), (19, 2), (20, 3), (21, 4), (22, 5), (23, 6), (24, 7), (25, 8), (26, 9), (27, 10), (28, 11), (29, 12), (30, 13), (31, 14), (32, 15)] (fun f X hX hR K hK => ?_) ?_
      · have e8 : f 8 = _ := hR.out 8 rfl
        have e15 : f 15 = _ := hR.out 15 rfl
        simp only [yA, yB, yC, yD, yE, e8, e15]
        refine ⟨Par.want (by kernel_rfl) ?_⟩
        go_simp
        exact Par.k hK (s := by simp only [yA, yB, yC, yD, yE, e8, e15])
      refine Par.v2 18 0 8 16 ?_
      refine Par.AllOps.fin ⟨fun f X hX hR hal hap => ?_⟩
      have e17 : f 17 = _ := hR 17 (by decide)
      simp only [yA, yB, yD, yE, e17]
      clear hR hal hap e17
      refine Par.Chain.done ?_
      go_wp2
      go_ret
      exact ⟨by rw [show r = false by rw [← Hr.out]; simp [onB, HH.out]]; rfl, HB0.out.trans hX⟩
  · obtain ⟨v, hv⟩ : ∃ v, cmpV x M = v := ⟨_, rfl⟩
    have hv0 : 0 ≤ v := by rw [← hv]; rcases cmpV_cases x M with h | h | h <;> omega
    have Hv := Lib.hid hv
    have HH := Lib.hid hxM
    clear hv hxM
    refine Par.region_ext (by kernel_rfl) 18 [0, 1, 0, 4, 12, 28, 63, 127, 255, 511, 1023, 511, 2559, 6655, 14847, 32767, 65535, 131071] [] (fun j f X => match j with
     | 0 => f 0 = .pointer (some ⟨q, 1, none⟩)
     | 1 => f 1 = .slice A a.length c
     | 2 => f 2 = .pointer (some ⟨k, 0, none⟩)
     | 3 => f 3 = .pointer (some ⟨k, 0, none⟩)
     | 4 => f 4 = .pointer (some ⟨k, 1, none⟩)
     | 5 => f 5 = .slice Ap pl.length cp
     | 6 => f 6 = .int .i64 v
     | 7 => f 7 = .bool true
     | 8 => f 8 = .bool true
     | 9 => f 9 = undef
     | 10 => f 10 = undef
     | 11 => f 11 = undef
     | 12 => f 12 = undef
     | 13 => f 13 = undef
     | 14 => f 14 = undef
     | 15 => f 15 = undef
     | 16 => f 16 = undef
     | 17 => f 17 = .bool true
     | _ => True) (by kernel_rfl) [(17, 0), (18, 1), (19, 2), (20, 3), (21, 4), (22, 5), (23, 6), (24, 7), (25, 8), (26, 9), (27, 10), (28, 11), (29, 12), (30, 13), (31, 14), (32, 15), (33, 16), (34, 17)] (by kernel_rfl) ?_
    refine Par.v0 1 17 ?_
    refine Par.ld1 2 16 0 b1 ?_
    refine Par.v0 3 15 ?_
    refine Par.v1 4 14 2 ?_
    refine Par.v1 5 13 3 ?_
    refine Par.ld1 6 12 4 k1 ?_
    refine Par.S 7 11 [(17, 0), (18, 1), (19, 2), (20, 3), (21, 4), (22, 5)] (fun f X hX hR K hK => ?_) ?_
    · have e1 : f 1 = _ := hR.out 1 rfl
      have e5 : f 5 = _ := hR.out 5 rfl
      simp only [yA, yB, yC, yD, yE, e1, e5]
      refine ⟨?_⟩
      go_simp
      refine (cmp_any Pa P0 A Ap c cp a pl X (ha.below hX hPa') (hn.out.p.below hX hP0')).mono ?_
      rintro e w2 ⟨rfl, nq, rfl⟩
      rw [Hx.out, hpv.out, Hv.out]
      exact hK.out _ _ _ (by simp only [yA, yB, yC, yD, yE, e1, e5]) (Ext.drewN _ _) trivial (fun _ _ => rfl)
    refine Par.S 8 10 [(17, 0), (18, 1), (19, 2), (20, 3), (21, 4), (22, 5), (23, 6)] (fun f X hX hR K hK => ?_) ?_
    · have e6 : f 6 = _ := hR.out 6 rfl
      simp only [yA, yB, yC, yD, yE, e6]
      refine ⟨?_⟩
      go_simp
      exact Par.k hK (s := by simp only [yA, yB, yC, yD, yE, e6])
    refine Par.v1 9 9 7 ?_
    refine Par.sk 10 8 8 ?_
    refine Par.sk 11 7 8 ?_
    refine Par.sk 12 6 8 ?_
    refine Par.sk 13 5 8 ?_
    refine Par.sk 14 4 8 ?_
    refine Par.sk 15 3 8 ?_
    refine Par.sk 16 2 8 ?_
    refine Par.sk 17 1 8 ?_
    refine Par.v2 18 0 8 16 ?_
    refine Par.AllOps.fin ⟨fun f X hX hR hal hap => ?_⟩
    have e17 : f 17 = _ := hR 17 (by decide)
    simp only [yA, yB, yD, yE, e17]
    clear hR hal hap e17
    refine Par.Chain.done ?_
    go_wp2
    go_ret
    exact ⟨by rw [show r = false by rw [← Hr.out]; simp [onB, HH.out]]; rfl, HB0.out.trans hX⟩
end Go.Proofs.Ytldhmjfjbalakaa

namespace Go.Proofs.Ytldhmjfjbalakaa
open Go.ChangeShapes Go.WideShapes Go.ChangeAt Go.RowKit Go.Deep Go.Joins

section
variable {H : Type} {enc : TypeId × Value → H} {w : World}
theorem cells64 : Try.prog.cellsOf 72 = 1 := by kernel_rfl
theorem bytes64 : Try.prog.bytesOf 72 = 8 := by kernel_rfl

/-- All weights of a datum are within the reach. -/
def Fits (t : TypeId) (d : DataW H) : Prop := ∀ k ∈ DataW.weights Try.prog t d, k ≤ reachBytes

theorem open_nats {fuel : Nat} {v : Value} {x : DataW H × List MemPlace} (h : DataW.trod enc Try.prog w 0 (fun _ => true) true fuel 23 [v] = some x) (hw : Fits 23 x.1) :
    ∃ A c l, v = .slice A l.length c ∧ RL w (fun b => b < w.heap.size) A c l := by
  rcases open_ints Try.underlying23 Try.underlying72 cells64 h with ⟨hcs, _⟩ | ⟨a, len, cap, zs, hcs, _, hl, hm, hz, hx, hcell, hwz⟩
  · simp at hcs
    exact ⟨none, 0, [], by simpa using hcs, RS.nil_ _ _ _, by simp, by simp⟩
  · simp at hcs hz
    have hb : zs.length * 8 ≤ reachBytes := by
      subst hx
      have := hw (((lits (H := H) .u64 (zs.take len)).length + (lits (H := H) .u64 (zs.drop len)).length) * 8) (by simp [DataW.weights, Try.underlying23, bytes64])
      simp [lits] at this
      omega
    unfold reachBytes at hb
    have hwf : ∀ i (hi : i < zs.length), 0 ≤ zs[i] ∧ zs[i] < 18446744073709551616 := fun i hi => by
      have := bounds_u64 (hwz _ (List.getElem_mem hi))
      omega
    refine ⟨some a, cap, (zs.take len).map Int.toNat, ?_, ⟨by simp; omega, hm, by simp [nts], fun hn => ⟨a, rfl, ?_, fun j u hu => ?_⟩⟩, ?_, by simp; omega⟩
    · rw [hcs]; simp; omega
    · have h0 := hcell 0 (by simp at hn; omega)
      have := World.block_lt_of_cell? w _ h0
      rwa [block_of_add] at this
    · have hj : j < len := by
        have := (List.getElem?_eq_some_iff.1 hu).1
        simp [nts] at this
        omega
      have hjz : j < zs.length := by omega
      rw [hcell j hjz]
      have := hwf j hjz
      simp [nts, hj, List.getElem?_eq_getElem hjz] at hu
      rw [← hu]
      simp [List.getD, List.getElem?_eq_getElem hjz]
      omega
    · intro b hb
      obtain ⟨z, hz, rfl⟩ := List.mem_map.1 hb
      obtain ⟨i, hi, rfl⟩ := List.getElem_of_mem (List.mem_of_mem_take hz)
      have := hwf i hi
      omega
end
end Go.Proofs.Ytldhmjfjbalakaa

namespace Go.Proofs.Ytldhmjfjbalakaa

/-- The number of bytes, the highest first. -/
def numOf (bs : List Nat) : Nat := val 256 bs.reverse
theorem numOf_snoc (bs : List Nat) (c : Nat) : numOf (bs ++ [c]) = c + 256 * numOf bs := by
  simp [numOf]
theorem pow256 (k : Nat) : 256 ^ k = 2 ^ (8 * k) := by rw [Nat.pow_mul]
/-- One byte more: it goes where noughts are. -/
theorem from_step {m j q k c : Nat} {o : List Nat} {V : Nat} (ho : ∀ x ∈ o, x < 2 ^ m) (hq : q < o.length) (hk : m * q + j = 8 * k) (hj : j + 8 ≤ m) (hc : c < 256) (hv : val (2 ^ m) o = 256 ^ (k + 1) * V) :
    c * 2 ^ j < 2 ^ m ∧ dg o q + c * 2 ^ j < 2 ^ m ∧ (dg o q ||| c * 2 ^ j) = dg o q + c * 2 ^ j ∧ val (2 ^ m) (o.set q (dg o q + c * 2 ^ j)) = 256 ^ k * (c + 256 * V) := by
  obtain ⟨r, hr⟩ := val_shift o ho q 0 (by omega)
  have hlt : dg o q < 2 ^ m := getD_lt (Nat.pow_pos (by omega)) ho q
  rw [Nat.add_zero, Nat.pow_zero, Nat.div_one, Nat.sub_zero, hv, pow256, show 8 * (k + 1) = m * q + (j + 8) by omega, Nat.pow_add, Nat.mul_assoc, Nat.mul_div_cancel_left _ (Nat.pow_pos (by omega))] at hr
  have hcj : c * 2 ^ j < 2 ^ (j + 8) := by
    rw [Nat.pow_add, Nat.mul_comm]
    exact Nat.mul_lt_mul_of_pos_left hc (Nat.pow_pos (by omega))
  have em : 2 ^ m = 2 ^ (j + 8) * 2 ^ (m - (j + 8)) := by rw [← Nat.pow_add, show j + 8 + (m - (j + 8)) = m by omega]
  obtain ⟨t, ht⟩ : ∃ t, dg o q = t * 2 ^ (j + 8) := by
    refine ⟨V - 2 ^ (m - (j + 8)) * r, ?_⟩
    rw [em, Nat.mul_assoc] at hr
    rw [Nat.mul_comm, Nat.mul_sub, hr]
    omega
  have htlt : t < 2 ^ (m - (j + 8)) := by
    rw [ht, em, Nat.mul_comm] at hlt
    exact Nat.lt_of_mul_lt_mul_left hlt
  have hsum : dg o q + c * 2 ^ j < 2 ^ m := by
    have h1 : (t + 1) * 2 ^ (j + 8) ≤ 2 ^ (m - (j + 8)) * 2 ^ (j + 8) := Nat.mul_le_mul_right _ htlt
    rw [Nat.mul_comm (2 ^ (m - (j + 8))), ← em, Nat.add_mul, ← ht] at h1
    omega
  refine ⟨by omega, hsum, ?_, ?_⟩
  · rw [ht, Nat.mul_comm t, Nat.two_pow_add_eq_or_of_lt hcj]
  · have h2 := val_set' (2 ^ m) hq (dg o q + c * 2 ^ j)
    have h3 : (2 ^ m) ^ q * (c * 2 ^ j) = 256 ^ k * c := by
      rw [pow256, ← hk, Nat.pow_add, Nat.pow_mul, Nat.mul_assoc, Nat.mul_comm c]
    rw [Nat.mul_add, h3, hv] at h2
    rw [Nat.mul_add, ← Nat.mul_assoc, ← Nat.pow_succ]
    generalize 256 ^ (k + 1) * V = E at *
    generalize 256 ^ k * c = F at *
    generalize (2 ^ m) ^ q * dg o q = G at *
    generalize val (2 ^ m) (o.set q (dg o q + c * 2 ^ j)) = H at *
    clear hr hlt hcj em ht htlt hsum hv h3
    omega
end Go.Proofs.Ytldhmjfjbalakaa

namespace Go.Proofs.Ytldhmjfjbalakaa
open Go.RowKit

theorem RB.cells {w : World} {P : Nat → Prop} {ad : Addr} {c : Nat} {bs : List Nat} (h : RB w P (some ad) c bs) : ∀ i, i < bs.length → w.cell? (ad.add i) = some (.int .u8 (dg bs i : Int)) := by
  intro i hi
  obtain ⟨ad', e, _, hc, _⟩ := h.at_ hi
  cases e
  rw [dg, getD_eq' hi]
  exact hc
theorem RB.dg {w : World} {P : Nat → Prop} {A : Option Addr} {c : Nat} {bs : List Nat} (h : RB w P A c bs) {i : Nat} (hi : i < bs.length) : ∃ ad, A = some ad ∧ w.cell? (ad.add i) = some (.int .u8 (Go.Proofs.Ytldhmjfjbalakaa.dg bs i : Int)) ∧ Go.Proofs.Ytldhmjfjbalakaa.dg bs i < 256 := by
  obtain ⟨ad, rfl, _, hc, hb⟩ := h.at_ hi
  refine ⟨ad, rfl, h.cells i hi, ?_⟩
  rw [Go.Proofs.Ytldhmjfjbalakaa.dg, getD_eq' hi]
  omega

set_option maxRecDepth 100000 in
set_option maxHeartbeats 2000000 in
theorem fromBytes_any (P : Nat → Prop) (A : Option Addr) (c : Nat) (bs : List Nat) (w : World) (h : RB w P A c bs) (hP : ∀ b, P b → b < w.heap.size) (hl : bs.length ≤ 100000) :
    Calls Try.prog 62 #[.slice A bs.length c] w fun e w' => ∃ A1 c1, e = .returned (.slice A1 (digs 18446744073709551616 (numOf bs)).length c1) ∧
      OB w' w.heap.size A1 c1 (digs 18446744073709551616 (numOf bs)) ∧ Below w.heap.size w w' := by
  obtain ⟨h1, h2, h3⟩ := h.cap
  obtain ⟨n, hn⟩ : ∃ n, bs.length = n := ⟨_, rfl⟩
  rw [hn] at h1 h3 hl ⊢
  obtain ⟨N, hN, hN1, hN2⟩ : ∃ N : Nat, ((n : Int) + 7) / 8 = (N : Int) ∧ N ≤ 100000 ∧ n ≤ 8 * N := ⟨(n + 7) / 8, by omega, by omega, by omega⟩
  have hmk := run_make_row' (P := Try.prog) 23 72 (.int .u64 0) 8 Try.underlying23 info64 rfl .i64 .i64 N (by omega) (by omega)
  have Hn := Lib.hid hn
  clear hn
  go_enter Try.func62, Try.ntmps62
  go_wp2
  go_loopw [14] (fun iv wr => ∃ (i : Nat) (o : List Nat), iv = .int .i64 (i : Int) ∧ i ≤ n ∧ Hid (o.length = N) ∧ Lim o ∧ val 18446744073709551616 o = 256 ^ (n - i) * numOf (bs.take i) ∧ Blk wr w.heap.size o ∧ Below w.heap.size w wr) (fun iv _ => n - (intOf iv).toNat)
  case atStart => exact ⟨0, List.replicate N 0, rfl, by omega, Lib.hid (by simp), ⟨by simp, by simp; omega⟩, by rw [val_replicate]; simp [numOf], Blk.made w _, (Below.refl _ w).alloc (Nat.le_refl _) _⟩
  case round =>
    obtain ⟨i, o, rfl, hi, Ho, hLo, hv, hblk, hB⟩ := hrel
    by_cases hlt : i < n
    · obtain ⟨ad, rfl, q1, hc⟩ := (h.below hB hP).dg (i := i) (by rw [Hn.out]; exact hlt)
      obtain ⟨k, q, r, hk, hr, hkq⟩ : ∃ k q r, k = n - 1 - i ∧ r < 8 ∧ k = 8 * q + r := ⟨n - 1 - i, (n - 1 - i) / 8, (n - 1 - i) % 8, rfl, by omega, by omega⟩
      have hqo : q < o.length := by have := Ho.out; omega
      obtain ⟨s1, s2, s3, s4⟩ := from_step (m := 64) (j := r * 8) (q := q) (k := k) hLo.1 hqo (by omega) (by omega) hc (by rw [show n - i = k + 1 by omega] at hv; exact hv)
      rw [← numOf_snoc, ← take_succ_dg (by rw [Hn.out]; exact hlt), show k = n - (i + 1) by omega] at s4
      obtain ⟨z, hz⟩ : ∃ z, dg bs i * 2 ^ (r * 8) = z := ⟨_, rfl⟩
      rw [hz] at s1 s2 s3 s4
      obtain ⟨y, hy⟩ : ∃ y, dg o q + z = y := ⟨_, rfl⟩
      rw [hy] at s2 s3 s4
      have e1 : (n : Int) - 1 - (i : Int) = (k : Int) := by omega
      have e2 : (k : Int) / 8 = (q : Int) := by omega
      have e3 : (k : Int) % 8 = (r : Int) := by omega
      have e4 : IntKind.u64.wrap ((dg bs i : Int) * 2 ^ (r * 8)) = (z : Int) := by
        rw [show (dg bs i : Int) * 2 ^ (r * 8) = (z : Int) by rw [← hz]; simp]
        exact IntWalk.u64_in _ (by omega)
      have e5 : bits .or .u64 (dg o q : Int) (z : Int) = (y : Int) := by
        rw [bits_or_u64_nat _ _ (hLo.dgLt q) s1, s3]
      have q3 := hblk.cell hqo
      have q4 := hblk.free q
      have hblk' := hblk.set q y
      have hLo' := hLo.set q y s2
      have hB' := hB.setCell (p := ⟨w.heap.size, q, none⟩) (Nat.le_refl _) (.int .u64 (y : Int))
      have Ho' : Hid ((o.set q y).length = N) := Lib.hid (by rw [List.length_set]; exact Ho.out)
      have k1 : (q : Int) < (N : Int) := by have := Ho.out; omega
      have k2 : (r : Int) < 8 := by omega
      have k3 : (dg bs i : Int) < 256 := by omega
      have S4 := Lib.hid s4
      clear s4 s3 s2 s1 hz hy hk hkq hqo hblk hLo hB hv hc
      go_wp2_with fail
      go_region
      go_wp2
      go_roundw
      case rel => exact ⟨i + 1, o.set q y, by go_num, by omega, Ho', hLo', S4.out, hblk', below_drewN hB' 1⟩
      case measure => simp [intOf]; omega
    · obtain rfl : i = n := by omega
      rw [Nat.sub_self, Nat.pow_zero, Nat.one_mul, List.take_of_length_le (by rw [Hn.out]; omega)] at hv
      have hOB : OB wr w.heap.size (some ⟨w.heap.size, 0, none⟩) N o := OB.of_blk hblk (Nat.le_refl _) hLo (by have := Ho.out; omega) (by unfold maxLen; omega)
      have ht := trim_any _ _ _ _ _ hOB.rn
      have hOB' := hOB.trim
      rw [hv, Ho.out] at ht
      rw [hv] at hOB'
      have Ht := Lib.hid ht
      clear hblk hLo ht hv hOB
      go_wp2_with fail
      refine Ht.out.mono ?_
      rintro e w1 ⟨rfl, rfl⟩
      go_wp2
      go_ret
      exact ⟨_, _, rfl, hOB', hB⟩

end Go.Proofs.Ytldhmjfjbalakaa

namespace Go.Proofs.Ytldhmjfjbalakaa
open Go.RowKit

/-- A curve's numbers. -/
structure Crv where
  size : Nat
  n : Nat
  M : Nat
  bb : Nat
  pl : List Nat
  nl : List Nat
  bl : List Nat
  xl : List Nat
  yl : List Nat
def c256 : Crv := ⟨32, 4, val 18446744073709551616 p256p, val 18446744073709551616 p256b, p256p, p256n, p256b, p256x, p256y⟩
def c384 : Crv := ⟨48, 6, val 18446744073709551616 p384p, val 18446744073709551616 p384b, p384p, p384n, p384b, p384x, p384y⟩
def IsC (c : Int) (C : Crv) : Prop := (c = 1 ∧ C = c256) ∨ (c = 2 ∧ C = c384)
structure Crv.Fine (C : Crv) : Prop where
  three : 3 < C.M
  bb : C.bb < C.M
  room : C.M < 256 ^ C.size
  small : C.size ≤ 48
  pos : 32 ≤ C.size
  pv : val 18446744073709551616 C.pl = C.M
theorem IsC.fine {c : Int} {C : Crv} (h : IsC c C) : C.Fine := by
  rcases h with ⟨_, rfl⟩ | ⟨_, rfl⟩
  · exact ⟨by decide +kernel, by decide +kernel, by decide +kernel, by decide, by decide, rfl⟩
  · exact ⟨by decide +kernel, by decide +kernel, by decide +kernel, by decide, by decide, rfl⟩
/-- The record k is that curve's. -/
def OfC (C : Crv) (w : World) (k : Nat) : Prop := ∃ (P0 : Nat → Prop) (g inv : Nat) (ml ol rl tl fl : List Nat) (Ap An Ab Ax Ay : Option Addr) (cp cn cb cx cy : Nat), Num w P0 k g C.size C.n inv C.M C.bb C.pl C.nl C.bl C.xl C.yl ml ol rl tl fl Ap An Ab Ax Ay cp cn cb cx cy ∧ ∀ b, P0 b → b < w.heap.size
theorem OfC.ext {C : Crv} {w X : World} {k : Nat} (h : OfC C w k) (hE : Ext w X) : OfC C X k := by
  obtain ⟨P0, g, inv, ml, ol, rl, tl, fl, Ap, An, Ab, Ax, Ay, cp, cn, cb, cx, cy, hn, hP⟩ := h
  exact ⟨P0, g, inv, ml, ol, rl, tl, fl, Ap, An, Ab, Ax, Ay, cp, cn, cb, cx, cy, hn.ext hP hE, fun b hb => Nat.lt_of_lt_of_le (hP b hb) hE.bsize⟩
theorem OfC.size {C : Crv} {w : World} {k : Nat} (h : OfC C w k) : w.cell? ⟨k, 0, none⟩ = some (.int .i64 (C.size : Int)) := by
  obtain ⟨P0, g, inv, ml, ol, rl, tl, fl, Ap, An, Ab, Ax, Ay, cp, cn, cb, cx, cy, hn, hP⟩ := h
  exact hn.c_size
theorem of_c {c : Int} {C : Crv} (h : IsC c C) (w : World) : Calls Try.prog 42 #[.int .i64 c] w fun e w' => ∃ k, e = .returned (.pointer (some ⟨k, 0, none⟩)) ∧ OfC C w' k ∧ Ext w w' := by
  rcases h with ⟨rfl, rfl⟩ | ⟨rfl, rfl⟩
  · refine (of_p256 w).mono ?_
    rintro e w' ⟨k, g, inv, ml, ol, rl, tl, fl, rfl, _, hn, hB⟩
    exact ⟨k, rfl, ⟨_, g, inv, ml, ol, rl, tl, fl, _, _, _, _, _, _, _, _, _, _, hn, fun b hb => hb.2⟩, hB⟩
  · refine (of_p384 w).mono ?_
    rintro e w' ⟨k, g, inv, ml, ol, rl, tl, fl, rfl, _, hn, hB⟩
    exact ⟨k, rfl, ⟨_, g, inv, ml, ol, rl, tl, fl, _, _, _, _, _, _, _, _, _, _, hn, fun b hb => hb.2⟩, hB⟩
theorem on_c {C : Crv} {w : World} {k : Nat} (h : OfC C w k) (hC : C.Fine) (Pa Pb : Nat → Prop) (A A' : Option Addr) (c c' : Nat) (a b : List Nat) (inf : Bool) (ha : RN w Pa A c a) (hb : RN w Pb A' c' b) (hPa : ∀ b, Pa b → b < w.heap.size) (hPb : ∀ b, Pb b → b < w.heap.size) :
    Calls Try.prog 43 #[.pointer (some ⟨k, 0, none⟩), .agg #[.bool inf, .slice A a.length c, .slice A' b.length c']] w fun e w' => e = .returned (.bool (inf || onB C.M C.bb (val 18446744073709551616 a) (val 18446744073709551616 b))) ∧ Ext w w' := by
  obtain ⟨P0, g, inv, ml, ol, rl, tl, fl, Ap, An, Ab, Ax, Ay, cp, cn, cb, cx, cy, hn, hP⟩ := h
  exact on_any Pa Pb A A' c c' a b inf w hn hP ha hb hPa hPb hC.three hC.bb
abbrev infV : Value := .agg #[.bool true, .slice none 0 0, .slice none 0 0]
theorem infoP : (Try.prog.info? 27).map (·.size) = some 3 := by kernel_rfl
/-- A function's end: a point in a cell, and a value. -/
theorem end_pt {fn : Func} {R : Ending → World → Prop} {a : Act} {W : World} {p u : Tmp} {g : Nat} {ty : TypeId} {fr : Nat × Nat} {x0 x1 x2 v : Value} (hr : fn.results = #[.cell p 27, .tmp u]) (hp : a.tmps.getD p undef = .pointer (some ⟨g, 0, none⟩)) (hu : a.tmps.getD u undef = v) (hd : a.defers = [])
    (hg : W.heap[g]? = some (.cells #[x0, x1, x2] ty fr)) (hR : R (.returned (.tuple #[.agg #[x0, x1, x2], v])) W) : bodyPost Try.prog fn R .ret a W := by
  refine bodyPost_ret (v := .tuple #[.agg #[x0, x1, x2], v]) ?_ hd hR
  rw [results_cell_tmp hr, hp]
  have h1 : (asAddr (.pointer (some ⟨g, 0, none⟩)) : Sem Addr).run Try.prog W = .ok ⟨g, 0, none⟩ W := rfl
  rw [h1, Result.andThen_ok, run_loadVar_row W g ty 27 #[x0, x1, x2] fr _ hg Try.underlying27 rfl infoP, Result.andThen_ok, hu]
theorem end_p {fn : Func} {R : Ending → World → Prop} {a : Act} {W : World} {p : Tmp} {g : Nat} {ty : TypeId} {fr : Nat × Nat} {x0 x1 x2 : Value} (hr : fn.results = #[.cell p 27]) (hp : a.tmps.getD p undef = .pointer (some ⟨g, 0, none⟩)) (hd : a.defers = [])
    (hg : W.heap[g]? = some (.cells #[x0, x1, x2] ty fr)) (hR : R (.returned (.agg #[x0, x1, x2])) W) : bodyPost Try.prog fn R .ret a W :=
  bodyPost_ret (results_cell_row hr a.tmps W g _ _ _ _ hp hg Try.underlying27 rfl infoP) hd hR
theorem pt_facts {W : World} {g : Nat} {ty : TypeId} {x0 x1 x2 : Value} (h : W.heap[g]? = some (.cells #[x0, x1, x2] ty (0, 0))) :
    W.cell? ⟨g, 0, none⟩ = some x0 ∧ W.cell? ⟨g, 1, none⟩ = some x1 ∧ W.cell? ⟨g, 2, none⟩ = some x2 ∧ W.frozen? ⟨g, 0, none⟩ = false ∧ W.frozen? ⟨g, 1, none⟩ = false ∧ W.frozen? ⟨g, 2, none⟩ = false :=
  ⟨blk_cell h 0, blk_cell h 1, blk_cell h 2, blk_free h 0, blk_free h 1, blk_free h 2⟩
theorem pt_one (b : Bool) (A A' : Option Addr) (n n' c c' : Nat) : (#[Value.bool b, .slice A n c, .slice A' n' c'] : Array Value).all (·.oneCell') = true := by simp [Value.oneCell']
/-- A point's cells are laid. -/
theorem pt_set {W : World} {g : Nat} {ty : TypeId} {x0 x1 x2 : Value} (h : W.heap[g]? = some (.cells #[x0, x1, x2] ty (0, 0))) (y0 y1 y2 : Value) : (((W.setCell ⟨g, 0, none⟩ y0).setCell ⟨g, 1, none⟩ y1).setCell ⟨g, 2, none⟩ y2).heap[g]? = some (.cells #[y0, y1, y2] ty (0, 0)) :=
  blk_set (blk_set (blk_set h 0 y0) 1 y1) 2 y2
theorem pt_just (W : World) (g : Nat) (y0 y1 y2 : Value) : Just g W (((W.setCell ⟨g, 0, none⟩ y0).setCell ⟨g, 1, none⟩ y1).setCell ⟨g, 2, none⟩ y2) := (((Just.refl g W).set 0 y0).set 1 y1).set 2 y2
theorem pt_ext {w W : World} {g : Nat} (hE : Ext w W) (hg : w.heap.size ≤ g) (y0 y1 y2 : Value) : Ext w (((W.setCell ⟨g, 0, none⟩ y0).setCell ⟨g, 1, none⟩ y1).setCell ⟨g, 2, none⟩ y2) :=
  ((Below.setCell hE (p := ⟨g, 0, none⟩) hg y0).setCell (p := ⟨g, 1, none⟩) hg y1).setCell (p := ⟨g, 2, none⟩) hg y2
set_option maxRecDepth 100000 in
theorem none_any (w : World) : Calls Try.prog 45 #[] w fun e w' => e = .returned infV ∧ Ext w w' := by
  go_enter Try.func45, Try.ntmps45
  go_wp2
  exact end_p rfl rfl rfl (heap_alloc_new w _) ⟨rfl, Ext.alloc _ _⟩
/-- Limbs stand where a block of another type gets something. -/
theorem OB.just {X Y : World} {base b : Nat} {A : Option Addr} {c : Nat} {l : List Nat} (h : OB X base A c l) (hj : Just b X Y) {cs : Array Value} {t : TypeId} (hb : X.heap[b]? = some (.cells cs t (0, 0))) (ht : t ≠ 72) : OB Y base A c l := by
  obtain ⟨h1, h2, h3, h4⟩ := h
  refine ⟨h1, h2, h3, fun hl => ?_⟩
  obtain ⟨g, cur, e, hg, hgc, hr⟩ := h4 hl
  refine ⟨g, cur, e, hg, hj.at_ (fun e => ?_) hgc, hr⟩
  subst e
  rw [hb] at hgc
  injection hgc with hgc
  injection hgc with _ hgc _
  exact ht hgc
theorem RB.mid {w : World} {P : Nat → Prop} {A : Option Addr} {c : Nat} {bs : List Nat} (h : RB w P A c bs) {k m c' : Nat} (hkm : k ≤ m) (hm : m ≤ bs.length) (hc : m - k ≤ c') (hc' : c' ≤ maxLen) {A' : Option Addr} (hA : k < m → A' = A.map (·.add k)) : RB w P A' c' ((bs.drop k).take (m - k)) := by
  have h1 := h.1.sub hkm hm hc hc' (A' := A') (by simpa using hA)
  have e : ((bys bs).drop (k * 1)).take ((m - k) * 1) = bys ((bs.drop k).take (m - k)) := by simp [bys, List.map_take, List.map_drop]
  rw [e] at h1
  have hl : ((bs.drop k).take (m - k)).length = m - k := by rw [List.length_take, List.length_drop]; omega
  refine ⟨by rw [hl]; exact h1, fun b hb => h.2.1 b (List.mem_of_mem_drop (List.mem_of_mem_take hb)), by rw [hl]; have := h.2.2; omega⟩
end Go.Proofs.Ytldhmjfjbalakaa

namespace Go.Proofs.Ytldhmjfjbalakaa
open Go.RowKit

theorem end_e {fn : Func} {R : Ending → World → Prop} {a : Act} {W : World} {p : Tmp} {g : Nat} {l : List Nat} (hr : fn.results = #[.cell p 81]) (hp : a.tmps.getD p undef = .pointer (some ⟨g, 0, none⟩)) (hd : a.defers = [])
 (hg : BlkE W g l) (h6 : l.length = 6) (hR : R (.returned (EV l)) W) : bodyPost Try.prog fn R .ret a W :=
 bodyPost_ret (results_cell_row hr a.tmps W g _ _ _ _ hp hg Try.underlying81 rfl (by rw [List.size_toArray, nts_length, h6]; exact infoE)) hd hR
theorem zero6 : ([.int .u64 0, .int .u64 0, .int .u64 0, .int .u64 0, .int .u64 0, .int .u64 0] : List Value).length = 6 := rfl
theorem FR.r_one {w : World} {g n inv M : Nat} {ml ol rl : List Nat} (h : FR w g n inv M ml ol rl) : w.rangeAt g 8 (nts ol) := fun j v hv => by
 rw [blk_cell h.ff.fld.blk]
 obtain ⟨a, b, c, d, e, f, rfl⟩ := six h.ff.fld.m6
 obtain ⟨a, b, c, d, e, f, rfl⟩ := six h.ff.fld.o6
 match j, hv with
 | 0, hv | 1, hv | 2, hv | 3, hv | 4, hv | 5, hv => exact hv
 | j + 6, hv => simp [nts] at hv
theorem FR.fone {w : World} {g n inv M : Nat} {ml ol rl : List Nat} (h : FR w g n inv M ml ol rl) : FE M n ol 1 := ⟨h.oelt, by rw [h.oval, Nat.one_mul]⟩
theorem FR.ext {w X : World} {g n inv M : Nat} {ml ol rl : List Nat} (h : FR w g n inv M ml ol rl) (hE : Ext w X) : FR X g n inv M ml ol rl := h.below hE h.ff.fld.lt
set_option maxRecDepth 100000 in
set_option maxHeartbeats 2000000 in
theorem one_any {g n inv M : Nat} {ml ol rl : List Nat} (w : World) (hF : FR w g n inv M ml ol rl) : Calls Try.prog 79 #[.pointer (some ⟨g, 0, none⟩)] w fun e w' => e = .returned (EV ol) ∧ Ext w w' := by
 have hF' := Lib.hid hF
 have hz := heap_alloc_new w (.cells #[.int .u64 0, .int .u64 0, .int .u64 0, .int .u64 0, .int .u64 0, .int .u64 0] 81)
 go_enter Try.func79, Try.ntmps79
 go_upto_region 1 with fail
 refine Par.region_txt 4 [0, 1, 3, 7, 15] [] (fun j f X => match j with
  | 0 => f 0 = .pointer (some ⟨g, 0, none⟩)
  | 1 => f 1 = .pointer (some ⟨g, 0, none⟩)
  | 2 => f 2 = .pointer (some ⟨g, 8, none⟩)
  | 3 => f 3 = EV ol
  | _ => True) (by kernel_rfl) [(3, 0), (4, 1), (5, 2), (6, 3)] (by kernel_rfl) ?_
 refine Par.v0 1 3 ?_
 refine Par.v1 2 2 0 ?_
 refine Par.v1 3 1 1 ?_
 refine Par.S 4 0 [(3, 0), (4, 1), (5, 2)] (fun f X hX hR K hK => ?_) ?_
 · have e2 : f 2 = _ := hR.out 2 rfl
   simp only [yA, yB, yC, yD, yE, e2]
   refine ⟨Par.want (by kernel_rfl) (wp_loadE (.tmp 5) rfl rfl (hF'.out.ext ((Ext.alloc _ _).trans hX)).r_one hF'.out.oelt.six ?_)⟩
   exact hK.out _ (EV ol) _ (by simp only [yA, yB, yC, yD, yE, e2]) (Ext.refl _) trivial (fun _ _ => rfl)
 refine Par.AllOps.fin ⟨fun f X hX hR hal hap => ?_⟩
 have e3 : f 3 = _ := hR 3 (by decide)
 simp only [yA, yB, yD, yE, e3]
 clear hR hal hap e3
 refine Par.Chain.next (fun K hK => ⟨Par.want (by kernel_rfl) (wp_storeE (.tmp 2) (.tmp 6) rfl rfl rfl rfl (hX.at_ hz) zero6 hF'.out.oelt.six (fun Y1 hl1 => hK.out _ _ ?_))⟩)
 refine Par.Chain.done ?_
 go_wp2
 exact end_e rfl rfl rfl hl1.blk hF'.out.oelt.six ⟨rfl, hl1.ext ((Ext.alloc _ _).trans hX) (Nat.le_refl _)⟩
theorem BlkE.rn {w : World} {b : Nat} {l : List Nat} (h : BlkE w b l) (h6 : l.length = 6) (hl : ∀ x ∈ l, x < 18446744073709551616) : RN w (fun b => b < w.heap.size) (some ⟨b, 0, none⟩) 6 l := by
 refine ⟨⟨by omega, by unfold maxLen; omega, by rw [nts_length]; omega, fun _ => ⟨_, rfl, h.lt, fun j v hv => ?_⟩⟩, hl, by omega⟩
 rw [add_blk, blk_cell h j]
 simpa using hv
set_option maxRecDepth 100000 in
set_option maxHeartbeats 2000000 in
theorem from_f {g n inv M : Nat} {ml ol rl a : List Nat} {x : Nat} (w : World) (hF : FR w g n inv M ml ol rl) (ha : FE M n a x) : Calls Try.prog 84 #[.pointer (some ⟨g, 0, none⟩), EV a] w fun e w' => ∃ A1 c1, e = .returned (.slice A1 (digs 18446744073709551616 (x % M)).length c1) ∧ OB w' w.heap.size A1 c1 (digs 18446744073709551616 (x % M)) ∧ Ext w w' := by
 have hF' := Lib.hid hF
 have ha' := Lib.hid ha
 have h1M := hF.ff.big
 have he1 : Elt M [1, 0, 0, 0, 0, 0] := ⟨rfl, by decide, by simpa using h1M⟩
 obtain ⟨q, hq⟩ : ∃ q, w.heap.size = q := ⟨_, rfl⟩
 have hbx : (w.alloc (.cells (nts a).toArray 81)).heap[w.heap.size]? = some (.cells (nts a).toArray 81 (0, 0)) := heap_alloc_new w _
 obtain ⟨y, hy⟩ : ∃ y, x % M = y := ⟨_, rfl⟩
 have hmul := Lib.hid (fun X (hX : Ext w X) => (zmul_any a [1, 0, 0, 0, 0, 0] X (hF.ext hX).ff ha.elt he1).mono (R' := fun e w' => ∃ o, e = .returned (EV o) ∧ o.length = 6 ∧ (∀ x ∈ o, x < 18446744073709551616) ∧ val 18446744073709551616 o = y ∧ Ext X w') (by
  rintro e w' ⟨o, rfl, ho, hv, hB⟩
  refine ⟨o, rfl, ho.six, ho.lim, ?_, hB⟩
  have hv1 : val 18446744073709551616 [1, 0, 0, 0, 0, 0] = 1 := by simp
  rw [hv1, Nat.mul_one, ha.form, Nat.mod_mod] at hv
  have := cancelR hF.ff.invV hv
  rw [Nat.mod_eq_of_lt ho.lt] at this
  rw [this, hy]))
 rw [hy]
 have h6 := ha.elt.six
 have e1 : EV [1, 0, 0, 0, 0, 0] = .agg #[.int .u64 1, .int .u64 0, .int .u64 0, .int .u64 0, .int .u64 0, .int .u64 0] := rfl
 rw [e1] at hmul
 have hev : EV a = .agg (nts a).toArray := rfl
 obtain ⟨W0, hW0⟩ : ∃ W0, W0 = w.alloc (.cells (nts a).toArray 81) := ⟨_, rfl⟩
 rw [← hW0, hq] at hbx
 have hE0 : Ext w W0 := by rw [hW0]; exact Ext.alloc _ _
 have HE0 := Lib.hid hE0
 have Hq := Lib.hid hq
 have Hz := Lib.hid (show W0.heap.size = w.heap.size + 1 by rw [hW0]; simp)
 have H6 := Lib.hid h6
 have HW0 := Lib.hid hW0
 clear hF ha h1M he1 hy e1 hE0 hW0 h6
 rw [hev]
 clear hev
 go_enter Try.func84, Try.ntmps84
 go_upto_region 1 with fail
 rw [← HW0.out]
 refine Par.region_txt 5 [0, 0, 0, 7, 0, 31] [4] (fun j f X => match j with
  | 0 => f 0 = .pointer (some ⟨g, 0, none⟩)
  | 1 => f 1 = EV a
  | 2 => f 2 = .agg #[.int .u64 1, .int .u64 0, .int .u64 0, .int .u64 0, .int .u64 0, .int .u64 0]
  | 3 => ∃ o, f 3 = EV o ∧ o.length = 6 ∧ (∀ x ∈ o, x < 18446744073709551616) ∧ val 18446744073709551616 o = y
  | 4 => ∃ b, f 4 = .pointer (some ⟨b, 0, none⟩) ∧ W0.heap.size ≤ b ∧ X.heap[b]? = some (.cells #[.int .u64 0, .int .u64 0, .int .u64 0, .int .u64 0, .int .u64 0, .int .u64 0] 81 (0, 0))
  | _ => True) (by kernel_rfl) [(6, 0), (7, 1), (8, 2), (9, 3), (5, 4)] (by kernel_rfl) ?_
 refine Par.v0 1 4 ?_
 refine Par.S 2 3 [(6, 0), (8, 2), (5, 4)] (fun f X hX hR K hK => ?_) ?_
 · simp only [yA, yB, yC, yD, yE]
   refine ⟨Par.want (by kernel_rfl) (wp_loadE (.tmp 3) rfl rfl (BlkE.range (hX.at_ hbx)) H6.out ?_)⟩
   exact hK.out _ (EV a) _ (by simp only [yA, yB, yC, yD, yE]) (Ext.refl _) trivial (fun _ _ => rfl)
 refine Par.v0 3 2 ?_
 refine Par.S 4 1 [(6, 0), (7, 1), (8, 2), (5, 4)] (fun f X hX hR K hK => ?_) ?_
 · have e0 : f 0 = _ := hR.out 0 rfl
   have e1 : f 1 = _ := hR.out 1 rfl
   have e2 : f 2 = _ := hR.out 2 rfl
   simp only [yA, yB, yC, yD, yE, e0, e1, e2]
   refine ⟨?_⟩
   go_simp
   refine (hmul.out X (HE0.out.trans hX)).mono ?_
   rintro e w2 ⟨o, rfl, h6, hb, hv, hB⟩
   exact hK.out _ (EV o) _ (by simp only [yA, yB, yC, yD, yE, e0, e1, e2]) hB trivial (fun Y hY => ⟨o, rfl, h6, hb, hv⟩)
 refine Par.al 5 0 ?_
 refine Par.AllOps.fin ⟨fun f X hX hR hal hap => ?_⟩
 obtain ⟨o3, (e3 : f 3 = _), l3, b3, v3⟩ := hR 3 (by decide)
 obtain ⟨b4, (e4 : f 4 = _), l4, h4⟩ := hR 4 (by decide)
 simp only [yA, yB, yD, yE, e3, e4]
 clear hR hal hap e3 e4
 refine Par.Chain.next (fun K hK => ⟨Par.want (by kernel_rfl) (wp_storeE (.tmp 5) (.tmp 9) rfl rfl rfl rfl h4 zero6 l3 (fun Y1 hl1 => hK.out _ _ ?_))⟩)
 refine Par.Chain.done ?_
 have hE1 : Ext w Y1 := hl1.ext (HE0.out.trans hX) (by have := Hz.out; omega)
 have hno := norm_any _ (some ⟨b4, 0, none⟩) 6 o3 Y1 (hl1.blk.rn l3 b3)
 rw [v3, l3] at hno
 have Hno := Lib.hid hno
 have HE1 := Lib.hid hE1
 clear hno hl1 b3 v3 h4 l4 hX l3 hE1
 go_wp2_with (go_at_call 68; refine Hno.out.mono ?_; rintro e w2 ⟨A1, c1, rfl, hO, hB⟩)
 go_ret
 exact ⟨A1, c1, rfl, hO.mono (by have := HE1.out.bsize; have := Hq.out; omega), HE1.out.trans hB⟩
end Go.Proofs.Ytldhmjfjbalakaa

namespace Go.Proofs.Ytldhmjfjbalakaa
open Go.RowKit

def JV (x y z : List Nat) : Value := .agg (nts (x ++ y ++ z)).toArray
def BlkJ (X : World) (b : Nat) (x y z : List Nat) : Prop := X.heap[b]? = some (.cells (nts (x ++ y ++ z)).toArray 83 (0, 0))
theorem infoJ : (Try.prog.info? 83).map (·.size) = some 18 := by kernel_rfl
theorem nts_append (a b : List Nat) : nts (a ++ b) = nts a ++ nts b := by simp [nts]
section
variable {X : World} {b : Nat} {x y z : List Nat}
theorem BlkJ.range (h : BlkJ X b x y z) (pre l post : List Nat) (e : x ++ y ++ z = pre ++ l ++ post) : X.rangeAt b pre.length (nts l) := fun j v hv => by
  rw [blk_cell h, e, List.getElem?_toArray, nts_append, nts_append, List.append_assoc, List.getElem?_append_right (by rw [nts_length]; omega), nts_length, Nat.add_sub_cancel_left, List.getElem?_append_left, hv]
  exact (List.getElem?_eq_some_iff.1 hv).1
theorem BlkJ.rx (h : BlkJ X b x y z) : X.rangeAt b 0 (nts x) := by have := h.range [] x (y ++ z) (by simp); simpa using this
theorem BlkJ.ry (h : BlkJ X b x y z) (hx : x.length = 6) : X.rangeAt b 6 (nts y) := by have := h.range x y z rfl; rwa [hx] at this
theorem BlkJ.rz (h : BlkJ X b x y z) (hx : x.length = 6) (hy : y.length = 6) : X.rangeAt b 12 (nts z) := by have := h.range (x ++ y) z [] (by simp); rwa [List.length_append, hx, hy] at this
end
/-- Three elements are laid into one value. -/
theorem builtJ {x y z : List Nat} (hx : x.length = 6) (hy : y.length = 6) (hz : z.length = 6) : Try.prog.built 83 [(0, EV x), (1, EV y), (2, EV z)] = some (nts (x ++ y ++ z)).toArray := by
  obtain ⟨x0, x1, x2, x3, x4, x5, rfl⟩ := six hx
  obtain ⟨y0, y1, y2, y3, y4, y5, rfl⟩ := six hy
  obtain ⟨z0, z1, z2, z3, z4, z5, rfl⟩ := six hz
  kernel_rfl
theorem wp_buildJ {op : Oper} {a : Act} {X : World} {K : Act → World → Prop} {Q : Exit → Act → World → Prop} (p q r : Operand) (ho : op.op = .build 83 #[(0, p), (1, q), (2, r)]) {x y z : List Nat} (hp : a.eval p = EV x) (hq : a.eval q = EV y) (hr : a.eval r = EV z)
    (hx : x.length = 6) (hy : y.length = 6) (hz : z.length = 6) (hK : K (a.put op.dst (JV x y z)) X) : op.wp Try.prog a X K Q := by
  have hb : (#[(0, p), (1, q), (2, r)].map fun (i, x) => (i, a.eval x)).toList = [(0, EV x), (1, EV y), (2, EV z)] := by simp [hp, hq, hr]
  refine wp_build 83 #[(0, p), (1, q), (2, r)] ho (by rw [hb, builtJ hx hy hz]; rfl) ?_
  rw [hb, builtJ hx hy hz]
  exact hK
theorem all_one (l : List Nat) : (nts l).toArray.all (·.oneCell') = true := all_oneCell_toArray (oneCell_nts l)
theorem end_j {fn : Func} {R : Ending → World → Prop} {a : Act} {W : World} {p : Tmp} {g : Nat} {x y z : List Nat} (hr : fn.results = #[.cell p 83]) (hp : a.tmps.getD p undef = .pointer (some ⟨g, 0, none⟩)) (hd : a.defers = [])
    (hg : BlkJ W g x y z) (hx : x.length = 6) (hy : y.length = 6) (hz : z.length = 6) (hR : R (.returned (JV x y z)) W) : bodyPost Try.prog fn R .ret a W :=
  bodyPost_ret (results_cell_row hr a.tmps W g _ _ _ _ hp hg Try.underlying83 rfl (by rw [List.size_toArray, nts_length, List.length_append, List.length_append, hx, hy, hz]; exact infoJ)) hd hR
theorem wp_storeJ {op : Oper} {a : Act} {X : World} {K : Act → World → Prop} {Q : Exit → Act → World → Prop} (p q : Operand) (ho : op.op = .store 83 p q) (hd : op.dst = none) {b : Nat} {x y z : List Nat} {cs : Array Value}
    (hp : a.eval p = .pointer (some ⟨b, 0, none⟩)) (hq : a.eval q = JV x y z) (hg : X.heap[b]? = some (.cells cs 83 (0, 0))) (hc : cs.size = 18) (hx : x.length = 6) (hy : y.length = 6) (hz : z.length = 6)
    (hK : ∀ Y, BlkJ Y b x y z → Just b X Y → Y.heap.size = X.heap.size → K a Y) : op.wp Try.prog a X K Q := by
  have hs : (nts (x ++ y ++ z)).toArray.size = 18 := by rw [List.size_toArray, nts_length, List.length_append, List.length_append, hx, hy, hz]
  exact wp_storeV 83 p q ho hd hp hq hg (by rw [hs]; exact infoJ) (by rw [hs, hc]) (all_one _) hK
def mm (M a b : Nat) : Nat := a * b % M
def am (M a b : Nat) : Nat := (a + b) % M
def sm (M a b : Nat) : Nat := (a + M - b % M) % M
theorem fm_any {g n inv M : Nat} {ml ol rl a b : List Nat} {x y : Nat} (w : World) (hF : FF w g n inv M ml ol rl) (ha : FE M n a x) (hb : FE M n b y) :
    Calls Try.prog 74 #[.pointer (some ⟨g, 0, none⟩), EV a, EV b] w fun e w' => ∃ o, e = .returned (EV o) ∧ FE M n o (mm M x y) ∧ Ext w w' :=
  (fmul_any w hF ha hb).mono fun _ _ ⟨o, h1, h2, h3⟩ => ⟨o, h1, h2.mod, h3⟩
theorem fa_any {g n inv M : Nat} {ml ol rl a b : List Nat} {x y : Nat} (w : World) (hF : FF w g n inv M ml ol rl) (ha : FE M n a x) (hb : FE M n b y) :
    Calls Try.prog 73 #[.pointer (some ⟨g, 0, none⟩), EV a, EV b] w fun e w' => ∃ o, e = .returned (EV o) ∧ FE M n o (am M x y) ∧ Ext w w' :=
  (fadd_any w hF ha hb).mono fun _ _ ⟨o, h1, h2, h3⟩ => ⟨o, h1, h2.mod, h3⟩
theorem fs_any {g n inv M : Nat} {ml ol rl a b : List Nat} {x y : Nat} (w : World) (hF : FF w g n inv M ml ol rl) (ha : FE M n a x) (hb : FE M n b y) :
    Calls Try.prog 75 #[.pointer (some ⟨g, 0, none⟩), EV a, EV b] w fun e w' => ∃ o, e = .returned (EV o) ∧ FE M n o (sm M x y) ∧ Ext w w' :=
  (fsub_any w hF ha hb.mod (Nat.le_of_lt (Nat.mod_lt _ (by have := hF.big; omega)))).mono fun _ _ ⟨o, h1, h2, h3⟩ => ⟨o, h1, h2.mod, h3⟩
theorem two_at2 (w : World) (o1 o2 : Obj) : ((w.alloc o1).alloc o2).heap[w.heap.size]? = some o1 ∧ ((w.alloc o1).alloc o2).heap[w.heap.size + 1]? = some o2 ∧ ((w.alloc o1).alloc o2).heap.size = w.heap.size + 2 :=
  ⟨(Ext.alloc _ _).at_ (heap_alloc_new w _), by have := heap_alloc_new (w.alloc o1) o2; rwa [World.size_alloc] at this, by simp⟩
/-- The three lists are a point's elements: numbers x, y, z. -/
structure FJ (M n : Nat) (lx ly lz : List Nat) (x y z : Nat) : Prop where
  x : FE M n lx x
  y : FE M n ly y
  z : FE M n lz z
end Go.Proofs.Ytldhmjfjbalakaa
