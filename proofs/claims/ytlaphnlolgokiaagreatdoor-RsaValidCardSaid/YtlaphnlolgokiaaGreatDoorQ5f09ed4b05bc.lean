/- RsaValid: for every key the law answers true and leaves its argument as it was, over the program's own table of constants. The card is tied. An RSA key is cut and taken from (LRtK without the comparison). RsaValid: the law's walk. An RSA key by value, opened. The table of hashes.k as the row lists it. -/
import Derived.Test.YtlaphnlolgokiaaGreatDoorQea84a75f385f
import Derived.Deep.Fields
import Derived.Test.YtlaphnlolgokiaaGreatDoorRows
import Derived.ProofKit
import Derived.LaidMore
import Derived.OpenShut
import Derived.MakeChecks
import Derived.Test.YtlaphnlolgokiaaGreatDoorCards
import Derived.Test.YtlaphnlolgokiaaGreatDoorTie
import Derived.Stop.Joined
import Derived.SevenTiedAt
namespace Go.Proofs.YtlaphnlolgokiaaGreatDoor.Der
open Go.RowKit Go.Shelf

attribute [local go_sem] Oper.semAt_some

theorem infoK : (Tryz.prog.info? 25).map (·.size) = some 5 := by kernel_rfl
theorem infoKr : (Tryz.prog.info? 32).map (·.size) = some 5 := by kernel_rfl
theorem end_k {fn : Func} {R : Ending → World → Prop} {a : Act} {W : World} {p : Tmp} {g : Nat} {ty : TypeId} {fr : Nat × Nat} {x0 x1 x2 x3 x4 : Value} (hr : fn.results = #[.cell p 25]) (hp : a.tmps.getD p undef = .pointer (some ⟨g, 0, none⟩)) (hd : a.defers = [])
 (hg : W.heap[g]? = some (.cells #[x0, x1, x2, x3, x4] ty fr)) (hR : R (.returned (.agg #[x0, x1, x2, x3, x4])) W) : bodyPost Tryz.prog fn R .ret a W :=
 bodyPost_ret (results_cell_row hr a.tmps W g _ _ _ _ hp hg Tryz.underlying25 rfl infoK) hd hR
theorem end_kr {fn : Func} {R : Ending → World → Prop} {a : Act} {W : World} {p : Tmp} {g : Nat} {ty : TypeId} {fr : Nat × Nat} {x0 x1 x2 x3 x4 : Value} (hr : fn.results = #[.cell p 32]) (hp : a.tmps.getD p undef = .pointer (some ⟨g, 0, none⟩)) (hd : a.defers = [])
 (hg : W.heap[g]? = some (.cells #[x0, x1, x2, x3, x4] ty fr)) (hR : R (.returned (.agg #[x0, x1, x2, x3, x4])) W) : bodyPost Tryz.prog fn R .ret a W :=
 bodyPost_ret (results_cell_row hr a.tmps W g _ _ _ _ hp hg Tryz.underlying32 rfl infoKr) hd hR
theorem k_one (A0 A1 A2 A3 A4 : Option Addr) (n0 n1 n2 n3 n4 c0 c1 c2 c3 c4 : Nat) : (#[Value.slice A0 n0 c0, .slice A1 n1 c1, .slice A2 n2 c2, .slice A3 n3 c3, .slice A4 n4 c4] : Array Value).all (·.oneCell') = true := by simp [Value.oneCell']
def KL (w : World) (P : Nat → Prop) (v : Value) (l0 l1 l2 l3 l4 : List Nat) : Prop := ∃ (A0 A1 A2 A3 A4 : Option Addr) (c0 c1 c2 c3 c4 : Nat), v = .agg #[.slice A0 l0.length c0, .slice A1 l1.length c1, .slice A2 l2.length c2, .slice A3 l3.length c3, .slice A4 l4.length c4] ∧ RL w P A0 c0 l0 ∧ RL w P A1 c1 l1 ∧ RL w P A2 c2 l2 ∧ RL w P A3 c3 l3 ∧ RL w P A4 c4 l4
def KU (w : World) (v : Value) (l0 l1 l2 l3 l4 : List Nat) : Prop := ∃ (A0 A1 A2 A3 A4 : Option Addr) (c0 c1 c2 c3 c4 : Nat), v = .agg #[.slice A0 l0.length c0, .slice A1 l1.length c1, .slice A2 l2.length c2, .slice A3 l3.length c3, .slice A4 l4.length c4] ∧ RU w A0 c0 l0 ∧ RU w A1 c1 l1 ∧ RU w A2 c2 l2 ∧ RU w A3 c3 l3 ∧ RU w A4 c4 l4
theorem KU.ext {w X : World} {v : Value} {l0 l1 l2 l3 l4 : List Nat} (h : KU w v l0 l1 l2 l3 l4) (hE : Ext w X) : KU X v l0 l1 l2 l3 l4 := by
 obtain ⟨A0, A1, A2, A3, A4, c0, c1, c2, c3, c4, rfl, h0, h1, h2, h3, h4⟩ := h
 exact ⟨A0, A1, A2, A3, A4, c0, c1, c2, c3, c4, rfl, RN.up h0 hE, RN.up h1 hE, RN.up h2 hE, RN.up h3 hE, RN.up h4 hE⟩
set_option maxRecDepth 100000 in
set_option maxHeartbeats 8000000 in
theorem cutkey_any {P : Nat → Prop} {v : Value} {l0 l1 l2 l3 l4 : List Nat} (w : World) (hk : KL w P v l0 l1 l2 l3 l4) (hP : ∀ b, P b → b < w.heap.size) :
 Calls Tryz.prog 5 #[v, .int .i64 9] w fun e w' => ∃ u, e = .returned u ∧ KU w' u (l0.take 9) (l1.take 9) (l2.take 9) (l3.take 9) (l4.take 9) ∧ Ext w w' := by
 obtain ⟨A0, A1, A2, A3, A4, c0, c1, c2, c3, c4, rfl, h0, h1, h2, h3, h4⟩ := hk
 obtain ⟨W0, hW0⟩ : ∃ W0, W0 = (w.alloc (.cells #[.slice A0 l0.length c0, .slice A1 l1.length c1, .slice A2 l2.length c2, .slice A3 l3.length c3, .slice A4 l4.length c4] 25)).alloc (.cells #[.slice none 0 0, .slice none 0 0, .slice none 0 0, .slice none 0 0, .slice none 0 0] 25) := ⟨_, rfl⟩
 obtain ⟨s, hs⟩ : ∃ q, w.heap.size = q := ⟨_, rfl⟩
 have hE0 : Ext w W0 := by rw [hW0]; exact (Ext.alloc _ _).trans (Ext.alloc _ _)
 obtain ⟨b1, b2, hz0⟩ := two_at2 w (.cells #[.slice A0 l0.length c0, .slice A1 l1.length c1, .slice A2 l2.length c2, .slice A3 l3.length c3, .slice A4 l4.length c4] 25) (.cells #[.slice none 0 0, .slice none 0 0, .slice none 0 0, .slice none 0 0, .slice none 0 0] 25)
 rw [← hW0, hs] at b1 b2 hz0
 obtain ⟨y0, y1, y2, y3, y4⟩ := fiveF b1
 have HP := Lib.hid (show ∀ b, P b → b < W0.heap.size from fun b hb => Nat.lt_of_lt_of_le (hP b hb) hE0.bsize)
 have H0 := Lib.hid (h0.below hE0 hP)
 have H1 := Lib.hid (h1.below hE0 hP)
 have H2 := Lib.hid (h2.below hE0 hP)
 have H3 := Lib.hid (h3.below hE0 hP)
 have H4 := Lib.hid (h4.below hE0 hP)
 obtain ⟨m0, hm0⟩ : ∃ m, (l0.take 9).length = m := ⟨_, rfl⟩
 have HC0 := Lib.hid (fun X (hX : Ext W0 X) => (by have h := cut_any P A0 c0 l0 9 X (H0.out.below hX HP.out) (by omega); rw [hm0] at h; exact h : Calls Tryz.prog 14 #[.slice A0 l0.length c0, .int .i64 9] X fun e w' => ∃ A1 c1, e = .returned (.slice A1 m0 c1) ∧ OB w' X.heap.size A1 c1 (l0.take 9) ∧ Below X.heap.size X w'))
 have HM0 := Lib.hid hm0
 obtain ⟨m1, hm1⟩ : ∃ m, (l1.take 9).length = m := ⟨_, rfl⟩
 have HC1 := Lib.hid (fun X (hX : Ext W0 X) => (by have h := cut_any P A1 c1 l1 9 X (H1.out.below hX HP.out) (by omega); rw [hm1] at h; exact h : Calls Tryz.prog 14 #[.slice A1 l1.length c1, .int .i64 9] X fun e w' => ∃ A1 c1, e = .returned (.slice A1 m1 c1) ∧ OB w' X.heap.size A1 c1 (l1.take 9) ∧ Below X.heap.size X w'))
 have HM1 := Lib.hid hm1
 obtain ⟨m2, hm2⟩ : ∃ m, (l2.take 9).length = m := ⟨_, rfl⟩
 have HC2 := Lib.hid (fun X (hX : Ext W0 X) => (by have h := cut_any P A2 c2 l2 9 X (H2.out.below hX HP.out) (by omega); rw [hm2] at h; exact h : Calls Tryz.prog 14 #[.slice A2 l2.length c2, .int .i64 9] X fun e w' => ∃ A1 c1, e = .returned (.slice A1 m2 c1) ∧ OB w' X.heap.size A1 c1 (l2.take 9) ∧ Below X.heap.size X w'))
 have HM2 := Lib.hid hm2
 obtain ⟨m3, hm3⟩ : ∃ m, (l3.take 9).length = m := ⟨_, rfl⟩
 have HC3 := Lib.hid (fun X (hX : Ext W0 X) => (by have h := cut_any P A3 c3 l3 9 X (H3.out.below hX HP.out) (by omega); rw [hm3] at h; exact h : Calls Tryz.prog 14 #[.slice A3 l3.length c3, .int .i64 9] X fun e w' => ∃ A1 c1, e = .returned (.slice A1 m3 c1) ∧ OB w' X.heap.size A1 c1 (l3.take 9) ∧ Below X.heap.size X w'))
 have HM3 := Lib.hid hm3
 obtain ⟨m4, hm4⟩ : ∃ m, (l4.take 9).length = m := ⟨_, rfl⟩
 have HC4 := Lib.hid (fun X (hX : Ext W0 X) => (by have h := cut_any P A4 c4 l4 9 X (H4.out.below hX HP.out) (by omega); rw [hm4] at h; exact h : Calls Tryz.prog 14 #[.slice A4 l4.length c4, .int .i64 9] X fun e w' => ∃ A1 c1, e = .returned (.slice A1 m4 c1) ∧ OB w' X.heap.size A1 c1 (l4.take 9) ∧ Below X.heap.size X w'))
 have HM4 := Lib.hid hm4
 have HE0 := Lib.hid hE0
 have Hs := Lib.hid hs
 clear h0 h1 h2 h3 h4 hE0 hz0 b1 hP hs hm0 hm1 hm2 hm3 hm4
 go_enter Tryz.func5, Tryz.ntmps5
 go_upto_region 1 with fail
 rw [← hW0, Hs.out]
 clear hW0
 refine Par.region_ext (by kernel_rfl) 21 [0, 1, 0, 7, 0, 16, 0, 127, 0, 256, 0, 2047, 0, 4096, 0, 32767, 0, 65536, 0, 524287, 1048575, 2097151] [] (fun j f X => match j with
  | 0 => f 0 = .pointer (some ⟨s, 0, none⟩)
  | 1 => f 1 = .slice A0 l0.length c0
  | 2 => f 2 = .int .i64 9
  | 3 => ∃ B c, f 3 = .slice B m0 c ∧ RU X B c (l0.take 9)
  | 4 => f 4 = .pointer (some ⟨s, 1, none⟩)
  | 5 => f 5 = .slice A1 l1.length c1
  | 6 => f 6 = .int .i64 9
  | 7 => ∃ B c, f 7 = .slice B m1 c ∧ RU X B c (l1.take 9)
  | 8 => f 8 = .pointer (some ⟨s, 2, none⟩)
  | 9 => f 9 = .slice A2 l2.length c2
  | 10 => f 10 = .int .i64 9
  | 11 => ∃ B c, f 11 = .slice B m2 c ∧ RU X B c (l2.take 9)
  | 12 => f 12 = .pointer (some ⟨s, 3, none⟩)
  | 13 => f 13 = .slice A3 l3.length c3
  | 14 => f 14 = .int .i64 9
  | 15 => ∃ B c, f 15 = .slice B m3 c ∧ RU X B c (l3.take 9)
  | 16 => f 16 = .pointer (some ⟨s, 4, none⟩)
  | 17 => f 17 = .slice A4 l4.length c4
  | 18 => f 18 = .int .i64 9
  | 19 => ∃ B c, f 19 = .slice B m4 c ∧ RU X B c (l4.take 9)
  | 20 => f 20 = .agg #[f 3, f 7, f 11, f 15, f 19]
  | _ => True) (by kernel_rfl) [(5, 0), (6, 1), (7, 2), (8, 3), (9, 4), (10, 5), (11, 6), (12, 7), (13, 8), (14, 9), (15, 10), (16, 11), (17, 12), (18, 13), (19, 14), (20, 15), (21, 16), (22, 17), (23, 18), (24, 19), (25, 20)] (by kernel_rfl) ?_
 refine Par.v0 1 20 ?_
 refine Par.ld1 2 19 0 y0 ?_
 refine Par.v0 3 18 ?_
 refine Par.c0 4 17 (fun f => #[f 1, f 2]) (F' := 14) (fun f X hX hR => ?_) ?_
 · have e1 : f 1 = _ := hR.out 1 rfl
   have e2 : f 2 = _ := hR.out 2 rfl
   simp only [e1, e2]
   refine (HC0.out X hX).mono ?_
   rintro e w2 ⟨B, c, rfl, h, hB⟩
   exact ⟨(.slice B m0 c), rfl, hB, fun Y hY => ⟨B, c, rfl, RN.up h.ru hY⟩⟩
 refine Par.v0 5 16 ?_
 refine Par.ld1 6 15 4 y1 ?_
 refine Par.v0 7 14 ?_
 refine Par.c0 8 13 (fun f => #[f 5, f 6]) (F' := 14) (fun f X hX hR => ?_) ?_
 · have e5 : f 5 = _ := hR.out 5 rfl
   have e6 : f 6 = _ := hR.out 6 rfl
   simp only [e5, e6]
   refine (HC1.out X hX).mono ?_
   rintro e w2 ⟨B, c, rfl, h, hB⟩
   exact ⟨(.slice B m1 c), rfl, hB, fun Y hY => ⟨B, c, rfl, RN.up h.ru hY⟩⟩
 refine Par.v0 9 12 ?_
 refine Par.ld1 10 11 8 y2 ?_
 refine Par.v0 11 10 ?_
 refine Par.c0 12 9 (fun f => #[f 9, f 10]) (F' := 14) (fun f X hX hR => ?_) ?_
 · have e9 : f 9 = _ := hR.out 9 rfl
   have e10 : f 10 = _ := hR.out 10 rfl
   simp only [e9, e10]
   refine (HC2.out X hX).mono ?_
   rintro e w2 ⟨B, c, rfl, h, hB⟩
   exact ⟨(.slice B m2 c), rfl, hB, fun Y hY => ⟨B, c, rfl, RN.up h.ru hY⟩⟩
 refine Par.v0 13 8 ?_
 refine Par.ld1 14 7 12 y3 ?_
 refine Par.v0 15 6 ?_
 refine Par.c0 16 5 (fun f => #[f 13, f 14]) (F' := 14) (fun f X hX hR => ?_) ?_
 · have e13 : f 13 = _ := hR.out 13 rfl
   have e14 : f 14 = _ := hR.out 14 rfl
   simp only [e13, e14]
   refine (HC3.out X hX).mono ?_
   rintro e w2 ⟨B, c, rfl, h, hB⟩
   exact ⟨(.slice B m3 c), rfl, hB, fun Y hY => ⟨B, c, rfl, RN.up h.ru hY⟩⟩
 refine Par.v0 17 4 ?_
 refine Par.ld1 18 3 16 y4 ?_
 refine Par.v0 19 2 ?_
 refine Par.c0 20 1 (fun f => #[f 17, f 18]) (F' := 14) (fun f X hX hR => ?_) ?_
 · have e17 : f 17 = _ := hR.out 17 rfl
   have e18 : f 18 = _ := hR.out 18 rfl
   simp only [e17, e18]
   refine (HC4.out X hX).mono ?_
   rintro e w2 ⟨B, c, rfl, h, hB⟩
   exact ⟨(.slice B m4 c), rfl, hB, fun Y hY => ⟨B, c, rfl, RN.up h.ru hY⟩⟩
 refine Par.S 21 0 [(5, 0), (6, 1), (7, 2), (8, 3), (9, 4), (10, 5), (11, 6), (12, 7), (13, 8), (14, 9), (15, 10), (16, 11), (17, 12), (18, 13), (19, 14), (20, 15), (21, 16), (22, 17), (23, 18), (24, 19)] (fun f X hX hR K hK => ?_) ?_
 · obtain ⟨B3, k3, (e3 : f 3 = _), r3⟩ := hR.out 3 rfl
   obtain ⟨B7, k7, (e7 : f 7 = _), r7⟩ := hR.out 7 rfl
   obtain ⟨B11, k11, (e11 : f 11 = _), r11⟩ := hR.out 11 rfl
   obtain ⟨B15, k15, (e15 : f 15 = _), r15⟩ := hR.out 15 rfl
   obtain ⟨B19, k19, (e19 : f 19 = _), r19⟩ := hR.out 19 rfl
   simp only [yA, yB, yC, yD, yE, e3, e7, e11, e15, e19]
   refine ⟨?_⟩
   go_simp
   exact hK.out _ (.agg #[f 3, f 7, f 11, f 15, f 19]) _ (by simp only [yA, yB, yC, yD, yE, e3, e7, e11, e15, e19]) (Ext.refl _) trivial (fun _ _ => rfl)
 refine Par.AllOps.fin ⟨fun f X hX hR hal hap => ?_⟩
 obtain ⟨B3, k3, (e3 : f 3 = _), r3⟩ := hR 3 (by decide)
 obtain ⟨B7, k7, (e7 : f 7 = _), r7⟩ := hR 7 (by decide)
 obtain ⟨B11, k11, (e11 : f 11 = _), r11⟩ := hR 11 (by decide)
 obtain ⟨B15, k15, (e15 : f 15 = _), r15⟩ := hR 15 (by decide)
 obtain ⟨B19, k19, (e19 : f 19 = _), r19⟩ := hR 19 (by decide)
 have e20 : f 20 = .agg #[f 3, f 7, f 11, f 15, f 19] := hR 20 (by decide)
 simp only [yA, yB, yD, yE, e3, e7, e11, e15, e19, e20]
 clear hR hal hap e3 e7 e11 e15 e19 e20
 refine Par.Chain.next (fun K hK => ⟨Par.want (by kernel_rfl) (wp_storeV (cs' := #[.slice B3 m0 k3, .slice B7 m1 k7, .slice B11 m2 k11, .slice B15 m3 k15, .slice B19 m4 k19]) (t := 25) 25 (.tmp 4) (.tmp 25) rfl rfl rfl rfl (hX.at_ b2) infoK rfl (k_one _ _ _ _ _ _ _ _ _ _ _ _ _ _ _) (fun Y hY1 hY2 hY3 => hK.out _ _ ?_))⟩)
 refine Par.Chain.done ?_
 go_wp2
 exact end_k rfl rfl rfl hY1 ⟨_, rfl, ⟨_, _, _, _, _, _, _, _, _, _, by rw [HM0.out, HM1.out, HM2.out, HM3.out, HM4.out], r3.offJ hY2 (hX.at_ b2) (by kernel_rfl), r7.offJ hY2 (hX.at_ b2) (by kernel_rfl), r11.offJ hY2 (hX.at_ b2) (by kernel_rfl), r15.offJ hY2 (hX.at_ b2) (by kernel_rfl), r19.offJ hY2 (hX.at_ b2) (by kernel_rfl)⟩, hY2.ext (HE0.out.trans hX) (by have := Hs.out; omega)⟩
set_option maxRecDepth 100000 in
set_option maxHeartbeats 8000000 in
theorem fromkey_any {v : Value} {l0 l1 l2 l3 l4 : List Nat} (w : World) (hk : KU w v l0 l1 l2 l3 l4) (hl : ∀ l ∈ [l0, l1, l2, l3, l4], l.length ≤ 9) :
 Calls Tryz.prog 8 #[v] w fun e w' => ∃ u, e = .returned u ∧ RKr w' u (val 18446744073709551616 l0) (val 18446744073709551616 l1) (val 18446744073709551616 l2) (val 18446744073709551616 l3) (val 18446744073709551616 l4) ∧ Ext w w' := by
 obtain ⟨A0, A1, A2, A3, A4, c0, c1, c2, c3, c4, rfl, h0, h1, h2, h3, h4⟩ := hk
 obtain ⟨W0, hW0⟩ : ∃ W0, W0 = (w.alloc (.cells #[.slice A0 l0.length c0, .slice A1 l1.length c1, .slice A2 l2.length c2, .slice A3 l3.length c3, .slice A4 l4.length c4] 25)).alloc (.cells #[.slice none 0 0, .slice none 0 0, .slice none 0 0, .slice none 0 0, .slice none 0 0] 32) := ⟨_, rfl⟩
 obtain ⟨s, hs⟩ : ∃ q, w.heap.size = q := ⟨_, rfl⟩
 have hE0 : Ext w W0 := by rw [hW0]; exact (Ext.alloc _ _).trans (Ext.alloc _ _)
 obtain ⟨b1, b2, hz0⟩ := two_at2 w (.cells #[.slice A0 l0.length c0, .slice A1 l1.length c1, .slice A2 l2.length c2, .slice A3 l3.length c3, .slice A4 l4.length c4] 25) (.cells #[.slice none 0 0, .slice none 0 0, .slice none 0 0, .slice none 0 0, .slice none 0 0] 32)
 rw [← hW0, hs] at b1 b2 hz0
 obtain ⟨y0, y1, y2, y3, y4⟩ := fiveF b1
 have H0 := Lib.hid (RN.up h0 hE0)
 have hl0 : l0.length ≤ 9 := hl l0 (by simp)
 have HL0 := Lib.hid hl0
 have H1 := Lib.hid (RN.up h1 hE0)
 have hl1 : l1.length ≤ 9 := hl l1 (by simp)
 have HL1 := Lib.hid hl1
 have H2 := Lib.hid (RN.up h2 hE0)
 have hl2 : l2.length ≤ 9 := hl l2 (by simp)
 have HL2 := Lib.hid hl2
 have H3 := Lib.hid (RN.up h3 hE0)
 have hl3 : l3.length ≤ 9 := hl l3 (by simp)
 have HL3 := Lib.hid hl3
 have H4 := Lib.hid (RN.up h4 hE0)
 have hl4 : l4.length ≤ 9 := hl l4 (by simp)
 have HL4 := Lib.hid hl4
 have HN := Lib.hid (fun (l : List Nat) (h : l.length ≤ 9) (hm : Lim l) => (by have := digs32_len hm h; omega : (digs 4294967296 (val 18446744073709551616 l)).length < 20000))
 obtain ⟨x0, hx0⟩ : ∃ x, val 18446744073709551616 l0 = x := ⟨_, rfl⟩
 have HF0 := Lib.hid (fun X (hX : Ext W0 X) => (hx0 ▸ from_any _ A0 c0 l0 X (RN.up H0.out hX) (fun _ h => h) (by omega) : Calls Tryz.prog 31 #[.slice A0 l0.length c0] X fun e w' => ∃ A1 c1, e = .returned (.slice A1 (digs 4294967296 x0).length c1) ∧ OB w' X.heap.size A1 c1 (digs 4294967296 x0) ∧ Below X.heap.size X w'))
 obtain ⟨x1, hx1⟩ : ∃ x, val 18446744073709551616 l1 = x := ⟨_, rfl⟩
 have HF1 := Lib.hid (fun X (hX : Ext W0 X) => (hx1 ▸ from_any _ A1 c1 l1 X (RN.up H1.out hX) (fun _ h => h) (by omega) : Calls Tryz.prog 31 #[.slice A1 l1.length c1] X fun e w' => ∃ A1 c1, e = .returned (.slice A1 (digs 4294967296 x1).length c1) ∧ OB w' X.heap.size A1 c1 (digs 4294967296 x1) ∧ Below X.heap.size X w'))
 obtain ⟨x2, hx2⟩ : ∃ x, val 18446744073709551616 l2 = x := ⟨_, rfl⟩
 have HF2 := Lib.hid (fun X (hX : Ext W0 X) => (hx2 ▸ from_any _ A2 c2 l2 X (RN.up H2.out hX) (fun _ h => h) (by omega) : Calls Tryz.prog 31 #[.slice A2 l2.length c2] X fun e w' => ∃ A1 c1, e = .returned (.slice A1 (digs 4294967296 x2).length c1) ∧ OB w' X.heap.size A1 c1 (digs 4294967296 x2) ∧ Below X.heap.size X w'))
 obtain ⟨x3, hx3⟩ : ∃ x, val 18446744073709551616 l3 = x := ⟨_, rfl⟩
 have HF3 := Lib.hid (fun X (hX : Ext W0 X) => (hx3 ▸ from_any _ A3 c3 l3 X (RN.up H3.out hX) (fun _ h => h) (by omega) : Calls Tryz.prog 31 #[.slice A3 l3.length c3] X fun e w' => ∃ A1 c1, e = .returned (.slice A1 (digs 4294967296 x3).length c1) ∧ OB w' X.heap.size A1 c1 (digs 4294967296 x3) ∧ Below X.heap.size X w'))
 obtain ⟨x4, hx4⟩ : ∃ x, val 18446744073709551616 l4 = x := ⟨_, rfl⟩
 have HF4 := Lib.hid (fun X (hX : Ext W0 X) => (hx4 ▸ from_any _ A4 c4 l4 X (RN.up H4.out hX) (fun _ h => h) (by omega) : Calls Tryz.prog 31 #[.slice A4 l4.length c4] X fun e w' => ∃ A1 c1, e = .returned (.slice A1 (digs 4294967296 x4).length c1) ∧ OB w' X.heap.size A1 c1 (digs 4294967296 x4) ∧ Below X.heap.size X w'))
 have HE0 := Lib.hid hE0
 have Hs := Lib.hid hs
 have hn0 : (digs 4294967296 x0).length < 20000 := by rw [← hx0]; exact HN.out l0 hl0 h0.2
 have HN0 := Lib.hid hn0
 have hn1 : (digs 4294967296 x1).length < 20000 := by rw [← hx1]; exact HN.out l1 hl1 h1.2
 have HN1 := Lib.hid hn1
 have hn2 : (digs 4294967296 x2).length < 20000 := by rw [← hx2]; exact HN.out l2 hl2 h2.2
 have HN2 := Lib.hid hn2
 have hn3 : (digs 4294967296 x3).length < 20000 := by rw [← hx3]; exact HN.out l3 hl3 h3.2
 have HN3 := Lib.hid hn3
 have hn4 : (digs 4294967296 x4).length < 20000 := by rw [← hx4]; exact HN.out l4 hl4 h4.2
 have HN4 := Lib.hid hn4
 rw [hx0, hx1, hx2, hx3, hx4]
 clear h0 h1 h2 h3 h4 hE0 hz0 b1 hs hl hl0 hl1 hl2 hl3 hl4 hx0 hx1 hx2 hx3 hx4 hn0 hn1 hn2 hn3 hn4 HN HL0 HL1 HL2 HL3 HL4
 go_enter Tryz.func8, Tryz.ntmps8
 go_upto_region 1 with fail
 rw [← hW0, Hs.out]
 clear hW0
 refine Par.region_ext (by kernel_rfl) 16 [0, 1, 3, 0, 8, 31, 0, 64, 255, 0, 512, 2047, 0, 4096, 16383, 32767, 65535] [] (fun j f X => match j with
  | 0 => f 0 = .pointer (some ⟨s, 0, none⟩)
  | 1 => f 1 = .slice A0 l0.length c0
  | 2 => ∃ B c, f 2 = .slice B (digs 4294967296 x0).length c ∧ RU X B c (digs 4294967296 x0)
  | 3 => f 3 = .pointer (some ⟨s, 1, none⟩)
  | 4 => f 4 = .slice A1 l1.length c1
  | 5 => ∃ B c, f 5 = .slice B (digs 4294967296 x1).length c ∧ RU X B c (digs 4294967296 x1)
  | 6 => f 6 = .pointer (some ⟨s, 2, none⟩)
  | 7 => f 7 = .slice A2 l2.length c2
  | 8 => ∃ B c, f 8 = .slice B (digs 4294967296 x2).length c ∧ RU X B c (digs 4294967296 x2)
  | 9 => f 9 = .pointer (some ⟨s, 3, none⟩)
  | 10 => f 10 = .slice A3 l3.length c3
  | 11 => ∃ B c, f 11 = .slice B (digs 4294967296 x3).length c ∧ RU X B c (digs 4294967296 x3)
  | 12 => f 12 = .pointer (some ⟨s, 4, none⟩)
  | 13 => f 13 = .slice A4 l4.length c4
  | 14 => ∃ B c, f 14 = .slice B (digs 4294967296 x4).length c ∧ RU X B c (digs 4294967296 x4)
  | 15 => f 15 = .agg #[f 2, f 5, f 8, f 11, f 14]
  | _ => True) (by kernel_rfl) [(3, 0), (4, 1), (5, 2), (6, 3), (7, 4), (8, 5), (9, 6), (10, 7), (11, 8), (12, 9), (13, 10), (14, 11), (15, 12), (16, 13), (17, 14), (18, 15)] (by kernel_rfl) ?_
 refine Par.v0 1 15 ?_
 refine Par.ld1 2 14 0 y0 ?_
 refine Par.c0 3 13 (fun f => #[f 1]) (F' := 31) (fun f X hX hR => ?_) ?_
 · have e1 : f 1 = _ := hR.out 1 rfl
   simp only [e1]
   refine (HF0.out X hX).mono ?_
   rintro e w2 ⟨B, c, rfl, h, hB⟩
   exact ⟨(.slice B (digs 4294967296 x0).length c), rfl, hB, fun Y hY => ⟨B, c, rfl, RN.up h.ru hY⟩⟩
 refine Par.v0 4 12 ?_
 refine Par.ld1 5 11 3 y1 ?_
 refine Par.c0 6 10 (fun f => #[f 4]) (F' := 31) (fun f X hX hR => ?_) ?_
 · have e4 : f 4 = _ := hR.out 4 rfl
   simp only [e4]
   refine (HF1.out X hX).mono ?_
   rintro e w2 ⟨B, c, rfl, h, hB⟩
   exact ⟨(.slice B (digs 4294967296 x1).length c), rfl, hB, fun Y hY => ⟨B, c, rfl, RN.up h.ru hY⟩⟩
 refine Par.v0 7 9 ?_
 refine Par.ld1 8 8 6 y2 ?_
 refine Par.c0 9 7 (fun f => #[f 7]) (F' := 31) (fun f X hX hR => ?_) ?_
 · have e7 : f 7 = _ := hR.out 7 rfl
   simp only [e7]
   refine (HF2.out X hX).mono ?_
   rintro e w2 ⟨B, c, rfl, h, hB⟩
   exact ⟨(.slice B (digs 4294967296 x2).length c), rfl, hB, fun Y hY => ⟨B, c, rfl, RN.up h.ru hY⟩⟩
 refine Par.v0 10 6 ?_
 refine Par.ld1 11 5 9 y3 ?_
 refine Par.c0 12 4 (fun f => #[f 10]) (F' := 31) (fun f X hX hR => ?_) ?_
 · have e10 : f 10 = _ := hR.out 10 rfl
   simp only [e10]
   refine (HF3.out X hX).mono ?_
   rintro e w2 ⟨B, c, rfl, h, hB⟩
   exact ⟨(.slice B (digs 4294967296 x3).length c), rfl, hB, fun Y hY => ⟨B, c, rfl, RN.up h.ru hY⟩⟩
 refine Par.v0 13 3 ?_
 refine Par.ld1 14 2 12 y4 ?_
 refine Par.c0 15 1 (fun f => #[f 13]) (F' := 31) (fun f X hX hR => ?_) ?_
 · have e13 : f 13 = _ := hR.out 13 rfl
   simp only [e13]
   refine (HF4.out X hX).mono ?_
   rintro e w2 ⟨B, c, rfl, h, hB⟩
   exact ⟨(.slice B (digs 4294967296 x4).length c), rfl, hB, fun Y hY => ⟨B, c, rfl, RN.up h.ru hY⟩⟩
 refine Par.S 16 0 [(3, 0), (4, 1), (5, 2), (6, 3), (7, 4), (8, 5), (9, 6), (10, 7), (11, 8), (12, 9), (13, 10), (14, 11), (15, 12), (16, 13), (17, 14)] (fun f X hX hR K hK => ?_) ?_
 · obtain ⟨B2, k2, (e2 : f 2 = _), r2⟩ := hR.out 2 rfl
   obtain ⟨B5, k5, (e5 : f 5 = _), r5⟩ := hR.out 5 rfl
   obtain ⟨B8, k8, (e8 : f 8 = _), r8⟩ := hR.out 8 rfl
   obtain ⟨B11, k11, (e11 : f 11 = _), r11⟩ := hR.out 11 rfl
   obtain ⟨B14, k14, (e14 : f 14 = _), r14⟩ := hR.out 14 rfl
   simp only [yA, yB, yC, yD, yE, e2, e5, e8, e11, e14]
   refine ⟨?_⟩
   go_simp
   exact hK.out _ (.agg #[f 2, f 5, f 8, f 11, f 14]) _ (by simp only [yA, yB, yC, yD, yE, e2, e5, e8, e11, e14]) (Ext.refl _) trivial (fun _ _ => rfl)
 refine Par.AllOps.fin ⟨fun f X hX hR hal hap => ?_⟩
 obtain ⟨B2, k2, (e2 : f 2 = _), r2⟩ := hR 2 (by decide)
 obtain ⟨B5, k5, (e5 : f 5 = _), r5⟩ := hR 5 (by decide)
 obtain ⟨B8, k8, (e8 : f 8 = _), r8⟩ := hR 8 (by decide)
 obtain ⟨B11, k11, (e11 : f 11 = _), r11⟩ := hR 11 (by decide)
 obtain ⟨B14, k14, (e14 : f 14 = _), r14⟩ := hR 14 (by decide)
 have e15 : f 15 = .agg #[f 2, f 5, f 8, f 11, f 14] := hR 15 (by decide)
 simp only [yA, yB, yD, yE, e2, e5, e8, e11, e14, e15]
 clear hR hal hap e2 e5 e8 e11 e14 e15
 refine Par.Chain.next (fun K hK => ⟨Par.want (by kernel_rfl) (wp_storeV (cs' := #[.slice B2 (digs 4294967296 x0).length k2, .slice B5 (digs 4294967296 x1).length k5, .slice B8 (digs 4294967296 x2).length k8, .slice B11 (digs 4294967296 x3).length k11, .slice B14 (digs 4294967296 x4).length k14]) (t := 32) 32 (.tmp 2) (.tmp 18) rfl rfl rfl rfl (hX.at_ b2) infoKr rfl (k_one _ _ _ _ _ _ _ _ _ _ _ _ _ _ _) (fun Y hY1 hY2 hY3 => hK.out _ _ ?_))⟩)
 refine Par.Chain.done ?_
 go_wp2
 exact end_kr rfl rfl rfl hY1 ⟨_, rfl, ⟨_, _, _, _, _, _, _, _, _, _, rfl, ⟨r2.offJ hY2 (hX.at_ b2) (by kernel_rfl), HN0.out⟩, ⟨r5.offJ hY2 (hX.at_ b2) (by kernel_rfl), HN1.out⟩, ⟨r8.offJ hY2 (hX.at_ b2) (by kernel_rfl), HN2.out⟩, ⟨r11.offJ hY2 (hX.at_ b2) (by kernel_rfl), HN3.out⟩, ⟨r14.offJ hY2 (hX.at_ b2) (by kernel_rfl), HN4.out⟩⟩, hY2.ext (HE0.out.trans hX) (by have := Hs.out; omega)⟩
end Go.Proofs.YtlaphnlolgokiaaGreatDoor.Der

namespace Go.Proofs.YtlaphnlolgokiaaGreatDoor.Der
open Go.RowKit Go.Shelf
open Sha

attribute [local go_sem] Oper.semAt_some

theorem KU.rk {w : World} {v : Value} {k0 k1 k2 k3 k4 : List Nat} {n ee d p q : Nat} (h : KU w v k0 k1 k2 k3 k4) (hl : ∀ l ∈ [k0, k1, k2, k3, k4], l.length ≤ 9) (h0 : val 18446744073709551616 k0 = n) (h1 : val 18446744073709551616 k1 = ee) (h2 : val 18446744073709551616 k2 = d) (h3 : val 18446744073709551616 k3 = p) (h4 : val 18446744073709551616 k4 = q) : RK w v n ee d p q := by
 obtain ⟨A0, A1, A2, A3, A4, c0, c1, c2, c3, c4, rfl, g0, g1, g2, g3, g4⟩ := h
 have e : ∀ l ∈ [k0, k1, k2, k3, k4], l.length ≤ 20000 := fun l h => Nat.le_trans (hl l h) (by omega)
 exact ⟨A0, A1, A2, A3, A4, c0, c1, c2, c3, c4, k0, k1, k2, k3, k4, rfl, ⟨g0, h0, e _ (by simp)⟩, ⟨g1, h1, e _ (by simp)⟩, ⟨g2, h2, e _ (by simp)⟩, ⟨g3, h3, e _ (by simp)⟩, ⟨g4, h4, e _ (by simp)⟩⟩
set_option maxRecDepth 100000 in
set_option maxHeartbeats 8000000 in
theorem rsavalid_any {P : Nat → Prop} {v : Value} {l0 l1 l2 l3 l4 : List Nat} (w : World) (hkw : KW w) (hk : KL w P v l0 l1 l2 l3 l4) (hP : ∀ b, P b → b < w.heap.size) :
 Calls Tryz.prog 3 #[v] w fun e w' => e = .returned (.bool true) ∧ Ext w w' := by
 obtain ⟨A0, A1, A2, A3, A4, c0, c1, c2, c3, c4, rfl, h0, h1, h2, h3, h4⟩ := hk
 obtain ⟨W0, hW0⟩ : ∃ W0, W0 = w.alloc (.cells #[.slice A0 l0.length c0, .slice A1 l1.length c1, .slice A2 l2.length c2, .slice A3 l3.length c3, .slice A4 l4.length c4] 25) := ⟨_, rfl⟩
 obtain ⟨s, hs⟩ : ∃ s, w.heap.size = s := ⟨_, rfl⟩
 have hq0 := heap_alloc_new w (.cells #[.slice A0 l0.length c0, .slice A1 l1.length c1, .slice A2 l2.length c2, .slice A3 l3.length c3, .slice A4 l4.length c4] 25)
 have hE : Ext w W0 := by rw [hW0]; exact Ext.alloc _ _
 rw [← hW0, hs] at hq0
 have HPX := Lib.hid (fun X (hX : Ext W0 X) (b : Nat) (hb : P b) => (Nat.lt_of_lt_of_le (hP b hb) (Ext.trans hE hX).bsize : b < X.heap.size))
 have HK := Lib.hid (fun X (hX : Ext W0 X) => (⟨A0, A1, A2, A3, A4, c0, c1, c2, c3, c4, rfl, h0.below (Ext.trans hE hX) hP, h1.below (Ext.trans hE hX) hP, h2.below (Ext.trans hE hX) hP, h3.below (Ext.trans hE hX) hP, h4.below (Ext.trans hE hX) hP⟩ : KL X P (.agg #[.slice A0 l0.length c0, .slice A1 l1.length c1, .slice A2 l2.length c2, .slice A3 l3.length c3, .slice A4 l4.length c4]) l0 l1 l2 l3 l4))
 obtain ⟨k0, hk0⟩ : ∃ k, l0.take 9 = k := ⟨_, rfl⟩
 have hm0 : k0.length ≤ 9 := by rw [← hk0, List.length_take]; omega
 obtain ⟨k1, hk1⟩ : ∃ k, l1.take 9 = k := ⟨_, rfl⟩
 have hm1 : k1.length ≤ 9 := by rw [← hk1, List.length_take]; omega
 obtain ⟨k2, hk2⟩ : ∃ k, l2.take 9 = k := ⟨_, rfl⟩
 have hm2 : k2.length ≤ 9 := by rw [← hk2, List.length_take]; omega
 obtain ⟨k3, hk3⟩ : ∃ k, l3.take 9 = k := ⟨_, rfl⟩
 have hm3 : k3.length ≤ 9 := by rw [← hk3, List.length_take]; omega
 obtain ⟨k4, hk4⟩ : ∃ k, l4.take 9 = k := ⟨_, rfl⟩
 have hm4 : k4.length ≤ 9 := by rw [← hk4, List.length_take]; omega
 obtain ⟨n, hx0⟩ : ∃ x, val 18446744073709551616 k0 = x := ⟨_, rfl⟩
 obtain ⟨ee, hx1⟩ : ∃ x, val 18446744073709551616 k1 = x := ⟨_, rfl⟩
 obtain ⟨d, hx2⟩ : ∃ x, val 18446744073709551616 k2 = x := ⟨_, rfl⟩
 obtain ⟨p, hx3⟩ : ∃ x, val 18446744073709551616 k3 = x := ⟨_, rfl⟩
 obtain ⟨q, hx4⟩ : ∃ x, val 18446744073709551616 k4 = x := ⟨_, rfl⟩
 have hl9 : ∀ l ∈ [k0, k1, k2, k3, k4], l.length ≤ 9 := by
  intro l h
  simp only [List.mem_cons, List.not_mem_nil, or_false] at h
  rcases h with rfl | rfl | rfl | rfl | rfl <;> assumption
 have HL9 := Lib.hid hl9
 have HRK := Lib.hid (fun X (v : Value) (h : KU X v k0 k1 k2 k3 k4) => (h.rk hl9 hx0 hx1 hx2 hx3 hx4 : RK X v n ee d p q))
 have HX := Lib.hid (And.intro hx0 (And.intro hx1 (And.intro hx2 (And.intro hx3 hx4))))
 have Hk := Lib.hid (And.intro hk0 (And.intro hk1 (And.intro hk2 (And.intro hk3 hk4))))
 have HE0 := Lib.hid hE
 have HBg := Lib.hid (begun7_any W0 (hkw.ext hE))
 have Hs := Lib.hid hs
 have Hq0 := Lib.hid hq0
 clear h0 h1 h2 h3 h4 hE hs hq0 hP hk0 hk1 hk2 hk3 hk4 hm0 hm1 hm2 hm3 hm4 hx0 hx1 hx2 hx3 hx4 hl9
 clear hkw
 go_enter Tryz.func3, Tryz.ntmps3
 go_upto_region 1 with fail
 rw [← hW0, Hs.out]
 clear hW0
 go_upto_region 2 with (go_at_call 4; refine HBg.out.mono ?_; rintro e w1 ⟨rfl, hE1⟩)
 obtain ⟨y0, y1, y2, y3, y4⟩ := fiveF (Ext.at_ hE1 Hq0.out)
 have hck := cutkey_any w1 (HK.out w1 hE1) (HPX.out w1 hE1)
 rw [Hk.out.1, Hk.out.2.1, Hk.out.2.2.1, Hk.out.2.2.2.1, Hk.out.2.2.2.2] at hck
 have HCk := Lib.hid hck
 have HE1 := Lib.hid hE1
 clear hE1 hck HK HPX
 go_wp2_with fail
 refine HCk.out.mono ?_
 rintro e w2 ⟨u, rfl, ⟨U0, U1, U2, U3, U4, d0, d1, d2, d3, d4, rfl, r0, r1, r2, r3, r4⟩, hE2⟩
 have hq2 := Ext.at_ (Ext.trans HE1.out hE2) Hq0.out
 have HR := Lib.hid (And.intro r0 (And.intro r1 (And.intro r2 (And.intro r3 r4))))
 have HE2 := Lib.hid (Ext.trans HE0.out (Ext.trans HE1.out hE2))
 have Hq2 := Lib.hid hq2
 clear r0 r1 r2 r3 r4 hE2 y0 y1 y2 y3 y4 HCk HE1 HE0 Hq0 Hk
 obtain ⟨p0, p1, p2, p3, p4⟩ := fiveF hq2
 obtain ⟨o0, o1, o2, o3, o4⟩ := fiveZ hq2
 clear hq2
 go_upto_region 3 with fail
 clear p0 p1 p2 p3 p4 o0 o1 o2 o3 o4
 generalize hY : ((((w2.setCell ⟨s, 0, none⟩ (.slice U0 k0.length d0)).setCell ⟨s, 1, none⟩ (.slice U1 k1.length d1)).setCell ⟨s, 2, none⟩ (.slice U2 k2.length d2)).setCell ⟨s, 3, none⟩ (.slice U3 k3.length d3)).setCell ⟨s, 4, none⟩ (.slice U4 k4.length d4) = Y at *
 obtain ⟨f1, f2, f3, f4⟩ := five_node hY Hq2.out
 have hJ : Just s w2 Y := ⟨(f4 0 (Nat.zero_le _)).os, (f4 0 (Nat.zero_le _)).tape, (f4 0 (Nat.zero_le _)).output, (f4 0 (Nat.zero_le _)).size, fun b _ hb => f1 b hb⟩
 have hni : (#[.slice A0 l0.length c0, .slice A1 l1.length c1, .slice A2 l2.length c2, .slice A3 l3.length c3, .slice A4 l4.length c4] : Array Value).all noInt = true := by simp [noInt]
 have hku : KU Y (.agg #[.slice U0 k0.length d0, .slice U1 k1.length d1, .slice U2 k2.length d2, .slice U3 k3.length d3, .slice U4 k4.length d4]) k0 k1 k2 k3 k4 := ⟨_, _, _, _, _, _, _, _, _, _, rfl, HR.out.1.offJ hJ Hq2.out hni, HR.out.2.1.offJ hJ Hq2.out hni, HR.out.2.2.1.offJ hJ Hq2.out hni, HR.out.2.2.2.1.offJ hJ Hq2.out hni, HR.out.2.2.2.2.offJ hJ Hq2.out hni⟩
 have HE := Lib.hid (show Ext w Y from by have h := HE2.out; unfold Ext at h ⊢; rw [Hs.out] at h ⊢; exact h.trans (f4 s (Nat.le_refl _)))
 have HS := Lib.hid (fun X (hX : Ext Y X) => And.intro (Ext.at_ hX f3) (hku.ext hX))
 have hfr := fromkey_any Y hku HL9.out
 rw [HX.out.1, HX.out.2.1, HX.out.2.2.1, HX.out.2.2.2.1, HX.out.2.2.2.2] at hfr
 have hfr2 := fun X (hX : Ext Y X) => fromkey_any X (hku.ext hX) HL9.out
 simp only [HX.out.1, HX.out.2.1, HX.out.2.2.1, HX.out.2.2.2.1, HX.out.2.2.2.2] at hfr2
 have HFr := Lib.hid hfr2
 have Hv := Lib.hid (fun X (hX : Ext Y X) => valid_any X (HRK.out X _ (hku.ext hX)))
 have HF3 := Lib.hid (fun X (hX : Ext Y X) => fiveF (Ext.at_ hX f3))
 obtain ⟨y0, y1, y2, y3, y4⟩ := fiveF f3
 obtain ⟨R, hR⟩ : ∃ R, vOf n ee d p q = R := ⟨_, rfl⟩
 have HRv := Lib.hid (fun (X : World) (u : Value) (hu : RKr X u n ee d p q) => (by have h := refValid_any X hu; rw [hR] at h; exact h))
 replace Hv := Lib.hid (fun X (hX : Ext Y X) => by have h := Hv.out X hX; rw [hR] at h; exact h)
 clear hY f1 f2 f3 f4 hJ hni hku hfr hfr2 HR HE2 Hq2 HX HL9 HRK hR
 go_region_with (first
  | (go_at_call 6; refine (Hv.out _ (by first | exact Ext.refl _ | exact Ext.drew _ | exact Ext.drewN _ _)).mono ?_; rintro e X1 ⟨rfl, F1⟩; have G1 : Ext Y X1 := (by first | exact F1 | exact (Ext.drew _).trans F1 | exact (Ext.drewN _ _).trans F1); obtain ⟨y0, y1, y2, y3, y4⟩ := HF3.out X1 G1)
  | (go_at_call 8; refine (HFr.out _ G1).mono ?_; rintro e X2 ⟨u, rfl, hu, F2⟩; have H2 := Lib.hid (HRv.out X2 u hu); have G2 := G1.trans F2)
  | (go_at_call 7; refine H2.out.mono ?_; rintro e X3 ⟨rfl, F3⟩; have G3 := G2.trans F3))
 all_goals
  go_wp2_with fail
  go_ret
  exact ⟨by cases R <;> rfl, HE.out.trans G3⟩
end Go.Proofs.YtlaphnlolgokiaaGreatDoor.Der

namespace Go.Proofs.YtlaphnlolgokiaaGreatDoor.Der
open Go.ChangeShapes Go.WideShapes Go.ChangeAt Go.RowKit Go.Deep Go.Joins
section
variable {H : Type} {enc : TypeId × Value → H} {w : World}
theorem cellsK : Tryz.prog.cellsOf 25 = 5 := by kernel_rfl
theorem honeK : ∃ f0 f1 f2 f3 f4, Tryz.prog.underlying 25 = some (.struct #[f0, f1, f2, f3, f4]) ∧ oneCellFields Tryz.prog #[f0, f1, f2, f3, f4] = true ∧ f0.type = 23 ∧ f1.type = 23 ∧ f2.type = 23 ∧ f3.type = 23 ∧ f4.type = 23 :=
 ⟨_, _, _, _, _, Tryz.underlying25, by kernel_rfl, rfl, rfl, rfl, rfl, rfl⟩
theorem five_of {cs : Array Value} (h : cs.size = 5) : ∃ a b c d e, cs = #[a, b, c, d, e] := by
 obtain ⟨l⟩ := cs
 match l, h with
 | [a, b, c, d, e], _ => exact ⟨a, b, c, d, e, rfl⟩
set_option maxRecDepth 100000 in
theorem open_key {r : Reach} {b0 : Nat} {v : Value} {d : DataW H} {p : List MemPlace} (hv : Value.okWide Tryz.prog w r b0 25 v) (h : DataW.Trod enc Tryz.prog w 0 (fun _ => true) true 25 v d p) (hw : Fits 25 d) :
 ∃ l0 l1 l2 l3 l4, KL w (fun b => b < w.heap.size) v l0 l1 l2 l3 l4 := by
 obtain ⟨f0, f1, f2, f3, f4, hu, hone, t0, t1, t2, t3, t4⟩ := honeK
 obtain ⟨cs, rfl, hsz⟩ := okWide_struct hu hv
 obtain ⟨v0, v1, v2, v3, v4, rfl⟩ := five_of (hsz.trans cellsK)
 obtain ⟨fuel, hf⟩ := h
 obtain ⟨xs, n, _, hx, hl, hlen, hff⟩ := DataW.trod_struct hu hf
 match xs, hlen with
 | [y0, y1, y2, y3, y4], _ =>
 simp only [Prod.mk.injEq] at hx
 obtain ⟨rfl, rfl⟩ := hx
 obtain ⟨o0, k0⟩ := hone_of hone 0 f0 rfl
 have h0 : DataW.trod enc Tryz.prog w 0 (fun _ => true) true n f0.type [v0] = some y0 := by simpa [Value.cells, o0, k0] using hff 0 f0 rfl
 rw [t0] at h0
 have g0 : Fits 23 y0.1 := fun q hq => by
  apply hw
  simp only [DataW.weights, hu, List.map_cons, List.map_nil, DataW.weightsEach, t0, t1, t2, t3, t4, List.mem_append]
  exact .inl hq
 obtain ⟨A0, c0, l0, rfl, R0⟩ := open_nats h0 g0
 obtain ⟨o1, k1⟩ := hone_of hone 1 f1 rfl
 have h1 : DataW.trod enc Tryz.prog w 0 (fun _ => true) true n f1.type [v1] = some y1 := by simpa [Value.cells, o1, k1] using hff 1 f1 rfl
 rw [t1] at h1
 have g1 : Fits 23 y1.1 := fun q hq => by
  apply hw
  simp only [DataW.weights, hu, List.map_cons, List.map_nil, DataW.weightsEach, t0, t1, t2, t3, t4, List.mem_append]
  exact .inr (.inl hq)
 obtain ⟨A1, c1, l1, rfl, R1⟩ := open_nats h1 g1
 obtain ⟨o2, k2⟩ := hone_of hone 2 f2 rfl
 have h2 : DataW.trod enc Tryz.prog w 0 (fun _ => true) true n f2.type [v2] = some y2 := by simpa [Value.cells, o2, k2] using hff 2 f2 rfl
 rw [t2] at h2
 have g2 : Fits 23 y2.1 := fun q hq => by
  apply hw
  simp only [DataW.weights, hu, List.map_cons, List.map_nil, DataW.weightsEach, t0, t1, t2, t3, t4, List.mem_append]
  exact .inr (.inr (.inl hq))
 obtain ⟨A2, c2, l2, rfl, R2⟩ := open_nats h2 g2
 obtain ⟨o3, k3⟩ := hone_of hone 3 f3 rfl
 have h3 : DataW.trod enc Tryz.prog w 0 (fun _ => true) true n f3.type [v3] = some y3 := by simpa [Value.cells, o3, k3] using hff 3 f3 rfl
 rw [t3] at h3
 have g3 : Fits 23 y3.1 := fun q hq => by
  apply hw
  simp only [DataW.weights, hu, List.map_cons, List.map_nil, DataW.weightsEach, t0, t1, t2, t3, t4, List.mem_append]
  exact .inr (.inr (.inr (.inl hq)))
 obtain ⟨A3, c3, l3, rfl, R3⟩ := open_nats h3 g3
 obtain ⟨o4, k4⟩ := hone_of hone 4 f4 rfl
 have h4 : DataW.trod enc Tryz.prog w 0 (fun _ => true) true n f4.type [v4] = some y4 := by simpa [Value.cells, o4, k4] using hff 4 f4 rfl
 rw [t4] at h4
 have g4 : Fits 23 y4.1 := fun q hq => by
  apply hw
  simp only [DataW.weights, hu, List.map_cons, List.map_nil, DataW.weightsEach, t0, t1, t2, t3, t4, List.mem_append]
  exact .inr (.inr (.inr (.inr (.inl hq))))
 obtain ⟨A4, c4, l4, rfl, R4⟩ := open_nats h4 g4
 exact ⟨l0, l1, l2, l3, l4, A0, A1, A2, A3, A4, c0, c1, c2, c3, c4, rfl, R0, R1, R2, R3, R4⟩
end
end Go.Proofs.YtlaphnlolgokiaaGreatDoor.Der

namespace Go.Proofs.YtlaphnlolgokiaaGreatDoor
open Go.ChangeShapes Go.WideShapes Go.ChangeAt Go.RowKit
open Sha

theorem gK : Tryz.prog.globalNamed "bailey/hashes.k" = some 3 := by kernel_rfl
theorem tK : (Tryz.prog.globals[3]?).map (·.type) = some 150 := by kernel_rfl
def kOk (n : Nat) (i : Nat) : Bool := decide (n < 18446744073709551616 ∧ n / 4294967296 = (wd kk i).toNat)
theorem k_all : (List.range 64).all (fun i => match (Rows.laid_bailey_hashes_k (H := Unit)) with | .agg l => (match l[i]? with | some (.lit (.int .u64 n)) => decide (0 ≤ n) && kOk n.toNat i | _ => false) | _ => false) = true := by decide +kernel
theorem of_laid {W : World} (h : laidMetH Tryz.prog [("bailey/hashes.k", Rows.laid_bailey_hashes_k)] W) : KW W := by
 rw [MakeChecks.laidMetH_plain _ _ _ (by kernel_rfl)] at h
 obtain ⟨ps, ⟨g0, t0, cs0, f0, p0, q0, hg0, ht0, hv0, hd0, _⟩, _, _⟩ := h
 obtain rfl := Option.some.inj (gK.symm.trans hg0)
 obtain rfl := Option.some.inj (tK.symm.trans ht0)
 obtain ⟨xs, m, rfl, hx, hlen, hn, hel⟩ := DataW.trod_array Tryz.underlying150 hd0
 have c1 : Tryz.prog.cellsOf 34 = 1 := by kernel_rfl
 intro i hi
 have hi80 : i < xs.length := by omega
 have h0 := hel i (by omega)
 rw [List.getElem?_eq_getElem hi80] at h0
 obtain ⟨k, e1, e2, _⟩ := DataW.trod_int Tryz.underlying34 h0
 rw [c1, Nat.mul_one] at e1
 have hall := List.all_eq_true.1 k_all i (List.mem_range.2 hi)
 have hx1 := congrArg (fun z : DataW Unit × List MemPlace => z.1) hx
 simp only at hx1
 rw [hx1] at hall
 simp only [List.getElem?_map, List.getElem?_eq_getElem hi80, Option.map_some, e2, Bool.and_eq_true, kOk, decide_eq_true_eq] at hall
 obtain ⟨k0, k1, k2⟩ := hall
 have hc : cs0[i]? = some (.int .u64 k) := by
  have : (cs0.toList.drop i)[0]? = some (Value.int .u64 k) := by
   have h2 := congrArg (fun l : List Value => l[0]?) e1
   simpa using h2
  simpa using this
 refine ⟨k.toNat, ?_, k1, k2⟩
 rw [World.var?_cell hg0 hv0 i, hc, Int.toNat_of_nonneg k0]
theorem door_met (os : Os) (args : Array Value) : laidMetH Tryz.prog [("bailey/hashes.k", Rows.laid_bailey_hashes_k)] ((World.doorLaid Tryz.prog 14 os).forCall (fun _ _ => 0) ⟨#[], args, []⟩).memory :=
 laidMetH_of_parts3 (fuel := 8) (laidMet_of_run' 8 (by kernel_rfl) (by kernel_rfl)) (by kernel_rfl) (by kernel_rfl)
end Go.Proofs.YtlaphnlolgokiaaGreatDoor

namespace Go.Proofs.YtlaphnlolgokiaaGreatDoor.rsaValid
open Go.ChangeShapes Go.WideShapes Go.ChangeAt Go.RowKit

theorem own : ownKnob Tryz.prog.godebug = none := by kernel_rfl
theorem laidOut : laidOutB Tryz.prog = true := by kernel_rfl

set_option maxRecDepth 100000 in
theorem lifted (os : Os) (started : os.Started) (H : Type) (enc : TypeId × Value → H) :
 ReturnsInHanded {} Tryz.checked os 3 .any (fun w args => (Rows.rsaValidSpec.pre enc Tryz.prog Tryz.f3 Rows.rsaValidRow.domain false w args ∧ laidMetH Tryz.prog [("bailey/hashes.k", Rows.laid_bailey_hashes_k)] w) ∧ sizedMet enc Tryz.prog Tryz.f3 (OpenSpec.ofChange Rows.rsaValidSpec) false w args) (Rows.rsaValidSpec.post enc Tryz.prog Tryz.f3 false true false false) := by
 refine returnsInHanded_of_change_and (C := Tryz.checked) (X := fun w _ => laidMetH Tryz.prog [("bailey/hashes.k", Rows.laid_bailey_hashes_k)] w) (fun _ _ _ hh h => h.of_heap hh) own started (by kernel_rfl) Tryz.func3
  (ChangeSpec.witness_shaped (enc := enc) (C := Tryz.checked) (os := os) (X := fun w _ => laidMetH Tryz.prog [("bailey/hashes.k", Rows.laid_bailey_hashes_k)] w) false (World.doorLaid Tryz.prog 14 os) #[.agg #[.slice none 0 0, .slice none 0 0, .slice none 0 0, .slice none 0 0, .slice none 0 0]] 8 rfl (World.shaped_of_RefB (by kernel_rfl) (by kernel_rfl)) (by kernel_rfl) (by kernel_rfl) (by kernel_rfl) (door_met os _)) ?_
 intro W base args ds gs before hval0 hW hcnd hsz0 hL _
 have hk : KW W := of_laid hL
 have hval : ∀ (j : Nat) t v, Tryz.f3.params[j]? = some t → args[j]? = some v → Value.okWide Tryz.prog W .any base t v := hval0
 have hsz : (DataW.weightsEach Tryz.prog (Tryz.f3.params.toList ++ Rows.rsaValidSpec.plain.varTypes Tryz.prog) (ds ++ gs)).all (· ≤ reachBytes) = true := hsz0
 have hW' := hW
 obtain ⟨p, q, hA0, hV, rfl, hfz, hnd⟩ := hW
 have hA : DataW.TrodAll enc Tryz.prog W 0 (fun _ => true) true Tryz.f3.params.toList args.toList ds p := hA0
 rw [Tryz.params3] at hA hval hsz
 obtain ⟨v0, vs0, d0, ds0, p0, q0, hargs, rfl, rfl, h0, r0⟩ := trodAll_cons hA
 obtain ⟨rfl, rfl, rfl⟩ := trodAll_nil r0
 obtain rfl : args = #[v0] := by cases args; simp_all
 obtain ⟨rfl, rfl⟩ := trodVars_none hV
 have k0 := h0
 have lt0 : ∀ x ∈ p0, x.block < W.heap.size := by obtain ⟨m, hm⟩ := k0; exact DataW.trod_lt m _ _ _ hm
 have fit : ∀ (j : Nat) (t : TypeId) (d : DataW H), [25][j]? = some t → [d0][j]? = some d → Fits t d := fun j t d ht hd k hk => by
  have := List.all_eq_true.1 hsz k (DataW.weights_mem_each (ts := [25]) (ds := [d0]) ht hd k hk)
  simpa using this
 obtain ⟨l0a, l0b, l0c, l0d, l0e, hR0⟩ := Der.open_key (hval 0 25 v0 rfl rfl) h0 (fit 0 _ _ rfl rfl)
 clear hA0 hval0
 refine (Der.rsavalid_any W hk hR0 (fun b hb => hb)).mono fun e W' ⟨he, bel⟩ => ?_
 subst he
 exact ⟨_, rfl, _, _, _, [], _, [], hW', trodAll_mk1 (shut_bool Tryz.underlying4 _), (trodAll_cons_mk (Below.trod laidOut (by kernel_rfl) (of_decide_eq_true (by kernel_rfl)) k0 bel lt0) trodAll_mk0), rfl, bel.frame _, fun h => by cases h⟩

theorem over : Rows.rsaValidRow.holds Tryz.pinned (OpenSpec.ofChange Rows.rsaValidSpec) :=
 OpenClaim.holds_of_wide 3 Tryz.f3 rfl rfl rfl rfl rfl rfl rfl ⟨rfl, rfl, rfl, rfl, rfl⟩ rfl rfl rfl rfl rfl (by kernel_rfl) Tryz.func3 (by kernel_rfl)
  (of_decide_eq_true (by kernel_rfl)) (by unfold Func.isWrapper; first | (rw [if_pos (by decide +kernel)]; kernel_rfl) | (rw [if_neg (by decide +kernel)]; exact ⟨rfl, rfl⟩))
  (fun os started H enc _ => lifted os started H enc)

theorem proved : Rows.RsaValidCardSaid :=
 Claim7.holds_tied_plain_at .later [] [.data] true (true, "ba4f6c0e6c7f75220ab02a00ac545afebe0b65d07ebcf575dfa8bafd3b9f5b52") false over (fun _ h => by cases h) (by kernel_rfl) (fun _ h => by cases h) rsaValid_row_tie rfl ⟨rfl, rfl⟩ (by kernel_rfl) rfl
  (fun f fn hf hfn => by
   obtain rfl : f = 3 := Option.some.inj ((show Tryz.prog.funcNamed "bailey/baileylaw7.RsaValid" = some 3 by kernel_rfl).symm.trans hf) |>.symm
   obtain rfl : fn = Tryz.f3 := (Option.some.inj (Tryz.func3.symm.trans hfn)).symm
   exact ⟨by kernel_rfl, fun j t ht => by
    rw [Tryz.params3] at ht
    have hm : t ∈ [25] := by simpa using Array.mem_of_getElem? ht
    have hall : ([25].all fun u => !Tryz.prog.wantsStandIn u) = true := by kernel_rfl
    exact (show Tryz.prog.wantsStandIn t = false by simpa using List.all_eq_true.1 hall t hm)⟩)
  (by kernel_rfl)
#print axioms proved
end Go.Proofs.YtlaphnlolgokiaaGreatDoor.rsaValid
