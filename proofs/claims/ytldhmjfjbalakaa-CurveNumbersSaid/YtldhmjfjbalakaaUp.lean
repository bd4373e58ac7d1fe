/- curve: a point by three elements. -/
import Derived.Test.YtldhmjfjbalakaaKAq
import Derived.Deep.DeepCutAuto
namespace Go.Proofs.Ytldhmjfjbalakaa
open Go.RowKit

theorem FE.zero {M n : Nat} (h : 0 < M) : FE M n [0, 0, 0, 0, 0, 0] 0 := ⟨⟨rfl, by intro x hx; simp at hx; omega, by simp [val]; omega⟩, by simp [val]⟩
set_option maxRecDepth 100000 in
set_option maxHeartbeats 8000000 in
theorem up_any {P0 : Nat → Prop} {k g size n inv M bb : Nat} {pl nl bl xl yl ml ol rl tl fl : List Nat} {Ap An Ab Ax Ay : Option Addr} {cp cn cb cx cy : Nat} (Pa Pb : Nat → Prop) (A A' : Option Addr) (c c' : Nat) (a b : List Nat) (inf : Bool) (w : World)
 (hk : Num w P0 k g size n inv M bb pl nl bl xl yl ml ol rl tl fl Ap An Ab Ax Ay cp cn cb cx cy) (hP0 : ∀ b, P0 b → b < w.heap.size) (h : RN w Pa A c a) (h' : RN w Pb A' c' b) (hPa : ∀ b, Pa b → b < w.heap.size) (hPb : ∀ b, Pb b → b < w.heap.size)
 (hxM : inf = false → val 18446744073709551616 a < M) (hyM : inf = false → val 18446744073709551616 b < M) :
 Calls Try.prog 46 #[.pointer (some ⟨k, 0, none⟩), .agg #[.bool inf, .slice A a.length c, .slice A' b.length c']] w fun e w' => ∃ ox oy oz, e = .returned (JV ox oy oz) ∧ FJ M n ox oy oz (if inf then 1 else val 18446744073709551616 a) (if inf then 1 else val 18446744073709551616 b) (if inf then 0 else 1) ∧ Ext w w' := by
 obtain ⟨W0, hW0⟩ : ∃ W0, W0 = (w.alloc (.cells #[.bool inf, .slice A a.length c, .slice A' b.length c'] 27)).alloc (.cells #[.int .u64 0, .int .u64 0, .int .u64 0, .int .u64 0, .int .u64 0, .int .u64 0, .int .u64 0, .int .u64 0, .int .u64 0, .int .u64 0, .int .u64 0, .int .u64 0, .int .u64 0, .int .u64 0, .int .u64 0, .int .u64 0, .int .u64 0, .int .u64 0] 83) := ⟨_, rfl⟩
 obtain ⟨q, hq⟩ : ∃ q, w.heap.size = q := ⟨_, rfl⟩
 have hE0 : Ext w W0 := by rw [hW0]; exact (Ext.alloc _ _).trans (Ext.alloc _ _)
 obtain ⟨hbx, hrb, hz0⟩ := two_at2 w (.cells #[.bool inf, .slice A a.length c, .slice A' b.length c'] 27) (.cells #[.int .u64 0, .int .u64 0, .int .u64 0, .int .u64 0, .int .u64 0, .int .u64 0, .int .u64 0, .int .u64 0, .int .u64 0, .int .u64 0, .int .u64 0, .int .u64 0, .int .u64 0, .int .u64 0, .int .u64 0, .int .u64 0, .int .u64 0, .int .u64 0] 83)
 rw [← hW0, hq] at hbx hrb hz0
 have b0 : W0.cell? ⟨q, 0, none⟩ = some (.bool inf) := blk_cell hbx 0
 have b1 : W0.cell? ⟨q, 1, none⟩ = some (.slice A a.length c) := blk_cell hbx 1
 have b2 : W0.cell? ⟨q, 2, none⟩ = some (.slice A' b.length c') := blk_cell hbx 2
 have hn := Lib.hid (hk.ext hP0 hE0)
 have hP0' : ∀ b, P0 b → b < W0.heap.size := fun b hb => Nat.lt_of_lt_of_le (hP0 b hb) hE0.bsize
 have hPa' : ∀ b, Pa b → b < W0.heap.size := fun b hb => Nat.lt_of_lt_of_le (hPa b hb) hE0.bsize
 have hPb' : ∀ b, Pb b → b < W0.heap.size := fun b hb => Nat.lt_of_lt_of_le (hPb b hb) hE0.bsize
 have ha := h.below hE0 hPa
 have hb := h'.below hE0 hPb
 have k6 := hn.out.c_f
 have HE0 := Lib.hid hE0
 have Hz0 := Lib.hid hz0
 have hM1 := hk.fr.ff.big
 obtain ⟨x, hx⟩ : ∃ x, val 18446744073709551616 a = x := ⟨_, rfl⟩
 obtain ⟨y, hy⟩ : ∃ y, val 18446744073709551616 b = y := ⟨_, rfl⟩
 rw [hx] at hxM
 rw [hy] at hyM
 rw [hx, hy]
 have Hx := Lib.hid hx
 have Hy := Lib.hid hy
 clear hE0 hz0 hk hP0 hx hy h h' hPa hPb
 cases inf
 case true =>
  clear b1 b2 ha hb Hx Hy hxM hyM hPa' hPb'
  simp only [if_true]
  go_enter Try.func46, Try.ntmps46
  go_upto_region 1 with fail
  rw [← hW0]
  have Hq := Lib.hid hq
  have HW0 := Lib.hid hW0
  have hE := Ext.refl W0
  clear hq hW0
  go_upto_region 3 with fail
  clear k6 b0
  refine Par.region_txt 6 [0, 1, 0, 7, 0, 31, 63] [] (fun j f X => match j with
   | 0 => f 0 = .pointer (some ⟨g, 0, none⟩)
   | 1 => f 1 = EV ol
   | 2 => f 2 = .pointer (some ⟨g, 0, none⟩)
   | 3 => f 3 = EV ol
   | 4 => f 4 = .agg #[.int .u64 0, .int .u64 0, .int .u64 0, .int .u64 0, .int .u64 0, .int .u64 0]
   | 5 => f 5 = JV ol ol [0, 0, 0, 0, 0, 0]
   | _ => True) (by kernel_rfl) [(12, 0), (13, 1), (14, 2), (15, 3), (16, 4), (17, 5)] (by kernel_rfl) ?_
  refine Par.S 1 5 [(14, 2), (16, 4)] (fun f X hX hR K hK => ?_) ?_
  · simp only [yA, yB, yC, yD, yE]
    refine ⟨?_⟩
    go_simp
    exact Par.k hK (s := by simp only [yA, yB, yC, yD, yE])
  refine Par.S 2 4 [(12, 0), (14, 2), (16, 4)] (fun f X hX hR K hK => ?_) ?_
  · have e0 : f 0 = _ := hR.out 0 rfl
    simp only [yA, yB, yC, yD, yE, e0]
    refine ⟨?_⟩
    go_simp
    refine (one_any X (hn.out.ext hP0' (hE.trans hX)).fr).mono ?_
    rintro e w2 ⟨rfl, hB⟩
    exact hK.out _ (EV ol) _ (by simp only [yA, yB, yC, yD, yE, e0]) hB trivial (fun _ _ => rfl)
  refine Par.S 3 3 [(12, 0), (13, 1), (16, 4)] (fun f X hX hR K hK => ?_) ?_
  · simp only [yA, yB, yC, yD, yE]
    refine ⟨?_⟩
    go_simp
    exact Par.k hK (s := by simp only [yA, yB, yC, yD, yE])
  refine Par.S 4 2 [(12, 0), (13, 1), (14, 2), (16, 4)] (fun f X hX hR K hK => ?_) ?_
  · have e2 : f 2 = _ := hR.out 2 rfl
    simp only [yA, yB, yC, yD, yE, e2]
    refine ⟨?_⟩
    go_simp
    refine (one_any X (hn.out.ext hP0' (hE.trans hX)).fr).mono ?_
    rintro e w2 ⟨rfl, hB⟩
    exact hK.out _ (EV ol) _ (by simp only [yA, yB, yC, yD, yE, e2]) hB trivial (fun _ _ => rfl)
  refine Par.S 5 1 [(12, 0), (13, 1), (14, 2), (15, 3)] (fun f X hX hR K hK => ?_) ?_
  · simp only [yA, yB, yC, yD, yE]
    refine ⟨?_⟩
    go_simp
    exact Par.k hK (s := by simp only [yA, yB, yC, yD, yE])
  refine Par.S 6 0 [(12, 0), (13, 1), (14, 2), (15, 3), (16, 4)] (fun f X hX hR K hK => ?_) ?_
  · have e1 : f 1 = _ := hR.out 1 rfl
    have e3 : f 3 = _ := hR.out 3 rfl
    have e4 : f 4 = _ := hR.out 4 rfl
    simp only [yA, yB, yC, yD, yE, e1, e3, e4]
    refine ⟨Par.want (by kernel_rfl) (wp_buildJ (x := ol) (y := ol) (z := [0, 0, 0, 0, 0, 0]) (.tmp 13) (.tmp 15) (.tmp 16) rfl rfl rfl rfl hn.out.fr.fone.elt.six hn.out.fr.fone.elt.six rfl ?_)⟩
    exact hK.out _ (JV ol ol [0, 0, 0, 0, 0, 0]) _ (by simp only [yA, yB, yC, yD, yE, e1, e3, e4]) (Ext.refl _) trivial (fun _ _ => rfl)
  refine Par.AllOps.fin ⟨fun f X hX hR hal hap => ?_⟩
  have e0 : f 0 = _ := hR 0 (by decide)
  have e1 : f 1 = _ := hR 1 (by decide)
  have e2 : f 2 = _ := hR 2 (by decide)
  have e3 : f 3 = _ := hR 3 (by decide)
  have e4 : f 4 = _ := hR 4 (by decide)
  have e5 : f 5 = _ := hR 5 (by decide)
  simp only [yA, yB, yC, yD, yE, e0, e1, e2, e3, e4, e5]
  clear hR hal hap e0 e1 e2 e3 e4 e5
  refine Par.Chain.next (fun K hK => ⟨Par.want (by kernel_rfl) (wp_storeJ (x := ol) (y := ol) (z := [0, 0, 0, 0, 0, 0]) (.tmp 4) (.tmp 17) rfl rfl rfl rfl (hX.at_ hrb) rfl hn.out.fr.fone.elt.six hn.out.fr.fone.elt.six rfl (fun Y hY1 hY2 hY3 => hK.out _ _ ?_))⟩)
  refine Par.Chain.done ?_
  go_wp2
  exact end_j rfl rfl rfl hY1 hn.out.fr.fone.elt.six hn.out.fr.fone.elt.six rfl ⟨_, _, _, rfl, ⟨hn.out.fr.fone, hn.out.fr.fone, FE.zero (by omega)⟩, hY2.ext (HE0.out.trans (hE.trans hX)) (by have := Hq.out; omega)⟩
 case false =>
  have hxM := hxM rfl
  have hyM := hyM rfl
  simp only [Bool.false_eq_true, if_false]
  go_enter Try.func46, Try.ntmps46
  go_upto_region 1 with fail
  rw [← hW0]
  have Hq := Lib.hid hq
  have HW0 := Lib.hid hW0
  have Hqs := Lib.hid (show q ≤ W0.heap.size by have := Hz0.out; omega)
  have hE := Ext.refl W0
  clear hq hW0
  go_upto_region 4 with fail
  clear k6 b0
  refine Par.region_ext (by kernel_rfl) 13 [0, 0, 2, 6, 15, 0, 0, 64, 223, 511, 0, 2047, 4095, 8191] [] (fun j f X => match j with
   | 0 => f 0 = .pointer (some ⟨g, 0, none⟩)
   | 1 => f 1 = .pointer (some ⟨q, 1, none⟩)
   | 2 => f 2 = .slice A a.length c
   | 3 => ∃ A1 c1, f 3 = .slice A1 (digs 18446744073709551616 x).length c1 ∧ OB X q A1 c1 (digs 18446744073709551616 x)
   | 4 => ∃ o, f 4 = EV o ∧ FE M n o x
   | 5 => f 5 = .pointer (some ⟨g, 0, none⟩)
   | 6 => f 6 = .pointer (some ⟨q, 2, none⟩)
   | 7 => f 7 = .slice A' b.length c'
   | 8 => ∃ A1 c1, f 8 = .slice A1 (digs 18446744073709551616 y).length c1 ∧ OB X q A1 c1 (digs 18446744073709551616 y)
   | 9 => ∃ o, f 9 = EV o ∧ FE M n o y
   | 10 => f 10 = .pointer (some ⟨g, 0, none⟩)
   | 11 => f 11 = EV ol
   | 12 => ∃ o o', f 12 = JV o o' ol ∧ FE M n o x ∧ FE M n o' y
   | _ => True) (by kernel_rfl) [(18, 0), (19, 1), (20, 2), (21, 3), (22, 4), (23, 5), (24, 6), (25, 7), (26, 8), (27, 9), (28, 10), (29, 11), (30, 12)] (by kernel_rfl) ?_
  refine Par.S 1 12 [(19, 1), (20, 2), (21, 3), (23, 5), (24, 6), (25, 7), (28, 10)] (fun f X hX hR K hK => ?_) ?_
  · simp only [yA, yB, yC, yD, yE]
    refine ⟨?_⟩
    go_simp
    exact Par.k hK (s := by simp only [yA, yB, yC, yD, yE])
  refine Par.S 2 11 [(18, 0), (23, 5), (24, 6), (25, 7), (28, 10)] (fun f X hX hR K hK => ?_) ?_
  · simp only [yA, yB, yC, yD, yE]
    refine ⟨?_⟩
    go_simp
    exact Par.k hK (s := by simp only [yA, yB, yC, yD, yE])
  refine Par.S 3 10 [(18, 0), (19, 1), (23, 5), (24, 6), (25, 7), (28, 10)] (fun f X hX hR K hK => ?_) ?_
  · have e1 : f 1 = _ := hR.out 1 rfl
    have x0 := hX.cell b1
    simp only [yA, yB, yC, yD, yE, e1]
    refine ⟨?_⟩
    go_simp
    exact Par.k hK (s := by simp only [yA, yB, yC, yD, yE, e1])
  refine Par.S 4 9 [(18, 0), (19, 1), (20, 2), (23, 5), (24, 6), (25, 7), (28, 10)] (fun f X hX hR K hK => ?_) ?_
  · have e2 : f 2 = _ := hR.out 2 rfl
    simp only [yA, yB, yC, yD, yE, e2]
    refine ⟨?_⟩
    go_simp
    refine (norm_any Pa A c a X (ha.below (hE.trans hX) hPa')).mono ?_
    rw [Hx.out]
    rintro e w2 ⟨A1, c1, rfl, hO, hB⟩
    exact hK.out _ _ _ (by simp only [yA, yB, yC, yD, yE, e2]) hB trivial (fun Y hY => ⟨A1, c1, rfl, (hO.mono (Nat.le_trans Hqs.out (hE.trans hX).bsize)).below hY (Nat.le_refl _)⟩)
  refine Par.S 5 8 [(18, 0), (19, 1), (20, 2), (21, 3), (23, 5), (24, 6), (25, 7), (28, 10)] (fun f X hX hR K hK => ?_) ?_
  · have e0 : f 0 = _ := hR.out 0 rfl
    obtain ⟨A3, c3, (e3 : f 3 = _), o3⟩ := hR.out 3 rfl
    simp only [yA, yB, yC, yD, yE, e0, e3]
    refine ⟨?_⟩
    go_simp
    refine (zto_any _ A3 c3 _ X (hn.out.ext hP0' (hE.trans hX)).fr o3.rn (fun b hb => hb.2) (hn.out.six hxM) (by rw [val_digs (by omega)]; exact hxM)).mono ?_
    rintro e w2 ⟨o, rfl, ho, hB⟩
    rw [val_digs (by omega)] at ho
    exact hK.out _ (EV o) _ (by simp only [yA, yB, yC, yD, yE, e0, e3]) hB trivial (fun Y hY => ⟨o, rfl, ho⟩)
  refine Par.S 6 7 [(18, 0), (19, 1), (20, 2), (21, 3), (22, 4), (24, 6), (25, 7), (26, 8), (28, 10)] (fun f X hX hR K hK => ?_) ?_
  · simp only [yA, yB, yC, yD, yE]
    refine ⟨?_⟩
    go_simp
    exact Par.k hK (s := by simp only [yA, yB, yC, yD, yE])
  refine Par.S 7 6 [(18, 0), (19, 1), (20, 2), (21, 3), (22, 4), (23, 5), (28, 10)] (fun f X hX hR K hK => ?_) ?_
  · simp only [yA, yB, yC, yD, yE]
    refine ⟨?_⟩
    go_simp
    exact Par.k hK (s := by simp only [yA, yB, yC, yD, yE])
  refine Par.S 8 5 [(18, 0), (19, 1), (20, 2), (21, 3), (22, 4), (23, 5), (24, 6), (28, 10)] (fun f X hX hR K hK => ?_) ?_
  · have e6 : f 6 = _ := hR.out 6 rfl
    have x0 := hX.cell b2
    simp only [yA, yB, yC, yD, yE, e6]
    refine ⟨?_⟩
    go_simp
    exact Par.k hK (s := by simp only [yA, yB, yC, yD, yE, e6])
  refine Par.S 9 4 [(18, 0), (19, 1), (20, 2), (21, 3), (22, 4), (23, 5), (24, 6), (25, 7), (28, 10)] (fun f X hX hR K hK => ?_) ?_
  · have e7 : f 7 = _ := hR.out 7 rfl
    simp only [yA, yB, yC, yD, yE, e7]
    refine ⟨?_⟩
    go_simp
    refine (norm_any Pb A' c' b X (hb.below (hE.trans hX) hPb')).mono ?_
    rw [Hy.out]
    rintro e w2 ⟨A1, c1, rfl, hO, hB⟩
    exact hK.out _ _ _ (by simp only [yA, yB, yC, yD, yE, e7]) hB trivial (fun Y hY => ⟨A1, c1, rfl, (hO.mono (Nat.le_trans Hqs.out (hE.trans hX).bsize)).below hY (Nat.le_refl _)⟩)
  refine Par.S 10 3 [(18, 0), (19, 1), (20, 2), (21, 3), (22, 4), (23, 5), (24, 6), (25, 7), (26, 8), (28, 10)] (fun f X hX hR K hK => ?_) ?_
  · have e5 : f 5 = _ := hR.out 5 rfl
    obtain ⟨A8, c8, (e8 : f 8 = _), o8⟩ := hR.out 8 rfl
    simp only [yA, yB, yC, yD, yE, e5, e8]
    refine ⟨?_⟩
    go_simp
    refine (zto_any _ A8 c8 _ X (hn.out.ext hP0' (hE.trans hX)).fr o8.rn (fun b hb => hb.2) (hn.out.six hyM) (by rw [val_digs (by omega)]; exact hyM)).mono ?_
    rintro e w2 ⟨o, rfl, ho, hB⟩
    rw [val_digs (by omega)] at ho
    exact hK.out _ (EV o) _ (by simp only [yA, yB, yC, yD, yE, e5, e8]) hB trivial (fun Y hY => ⟨o, rfl, ho⟩)
  refine Par.S 11 2 [(18, 0), (19, 1), (20, 2), (21, 3), (22, 4), (23, 5), (24, 6), (25, 7), (26, 8), (27, 9)] (fun f X hX hR K hK => ?_) ?_
  · simp only [yA, yB, yC, yD, yE]
    refine ⟨?_⟩
    go_simp
    exact Par.k hK (s := by simp only [yA, yB, yC, yD, yE])
  refine Par.S 12 1 [(18, 0), (19, 1), (20, 2), (21, 3), (22, 4), (23, 5), (24, 6), (25, 7), (26, 8), (27, 9), (28, 10)] (fun f X hX hR K hK => ?_) ?_
  · have e10 : f 10 = _ := hR.out 10 rfl
    simp only [yA, yB, yC, yD, yE, e10]
    refine ⟨?_⟩
    go_simp
    refine (one_any X (hn.out.ext hP0' (hE.trans hX)).fr).mono ?_
    rintro e w2 ⟨rfl, hB⟩
    exact hK.out _ (EV ol) _ (by simp only [yA, yB, yC, yD, yE, e10]) hB trivial (fun _ _ => rfl)
  refine Par.S 13 0 [(18, 0), (19, 1), (20, 2), (21, 3), (22, 4), (23, 5), (24, 6), (25, 7), (26, 8), (27, 9), (28, 10), (29, 11)] (fun f X hX hR K hK => ?_) ?_
  · obtain ⟨o4, (e4 : f 4 = _), h4⟩ := hR.out 4 rfl
    obtain ⟨o9, (e9 : f 9 = _), h9⟩ := hR.out 9 rfl
    have e11 : f 11 = _ := hR.out 11 rfl
    simp only [yA, yB, yC, yD, yE, e4, e9, e11]
    refine ⟨Par.want (by kernel_rfl) (wp_buildJ (x := o4) (y := o9) (z := ol) (.tmp 22) (.tmp 27) (.tmp 29) rfl rfl rfl rfl h4.elt.six h9.elt.six hn.out.fr.fone.elt.six ?_)⟩
    exact hK.out _ (JV o4 o9 ol) _ (by simp only [yA, yB, yC, yD, yE, e4, e9, e11]) (Ext.refl _) trivial (fun _ _ => ⟨o4, o9, rfl, h4, h9⟩)
  refine Par.AllOps.fin ⟨fun f X hX hR hal hap => ?_⟩
  have e0 : f 0 = _ := hR 0 (by decide)
  have e1 : f 1 = _ := hR 1 (by decide)
  have e2 : f 2 = _ := hR 2 (by decide)
  obtain ⟨A3, c3, (e3 : f 3 = _), o3⟩ := hR 3 (by decide)
  obtain ⟨o4, (e4 : f 4 = _), h4⟩ := hR 4 (by decide)
  have e5 : f 5 = _ := hR 5 (by decide)
  have e6 : f 6 = _ := hR 6 (by decide)
  have e7 : f 7 = _ := hR 7 (by decide)
  obtain ⟨A8, c8, (e8 : f 8 = _), o8⟩ := hR 8 (by decide)
  obtain ⟨o9, (e9 : f 9 = _), h9⟩ := hR 9 (by decide)
  have e10 : f 10 = _ := hR 10 (by decide)
  have e11 : f 11 = _ := hR 11 (by decide)
  obtain ⟨ox, oy, (e12 : f 12 = _), fx, fy⟩ := hR 12 (by decide)
  simp only [yA, yB, yC, yD, yE, e0, e1, e2, e3, e4, e5, e6, e7, e8, e9, e10, e11, e12]
  clear hR hal hap e0 e1 e2 e3 e4 e5 e6 e7 e8 e9 e10 e11 e12
  refine Par.Chain.next (fun K hK => ⟨Par.want (by kernel_rfl) (wp_storeJ (x := ox) (y := oy) (z := ol) (.tmp 4) (.tmp 30) rfl rfl rfl rfl (hX.at_ hrb) rfl fx.elt.six fy.elt.six hn.out.fr.fone.elt.six (fun Y hY1 hY2 hY3 => hK.out _ _ ?_))⟩)
  refine Par.Chain.done ?_
  go_wp2
  exact end_j rfl rfl rfl hY1 fx.elt.six fy.elt.six hn.out.fr.fone.elt.six ⟨_, _, _, rfl, ⟨fx, fy, hn.out.fr.fone⟩, hY2.ext (HE0.out.trans (hE.trans hX)) (by have := Hq.out; omega)⟩
end Go.Proofs.Ytldhmjfjbalakaa
