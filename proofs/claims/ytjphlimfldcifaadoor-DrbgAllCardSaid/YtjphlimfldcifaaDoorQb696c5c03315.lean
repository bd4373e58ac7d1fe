/- The reference's update. What bytes.Repeat calls at thirty-two ones. drbg: New. The reference's New. The reference's Bytes. DrbgIter: what holds between the rounds. Regions whose operations may write: each operation is told what stands as long as it has not been carried out. After LPar. Bytes as a string. -/
import Derived.Test.YtjphlimfldcifaaDoorQa34a04b7191f
import Derived.Lib.MakeNoZero
import Derived.Laws.Externs
import Derived.Laws.BytesArg
import Derived.Lib.Bytes
namespace Go.Proofs.YtjphlimfldcifaaDoor
open Go.RowKit
open Sha

theorem RP.up {w X : World} {A : Option Addr} {c : Nat} {ps : List (List Nat)} (h : RP w (fun k => k < w.heap.size) A c ps) (hE : Ext w X) : RP X (fun k => k < X.heap.size) A c ps := by
 obtain ⟨cs, h1, h2⟩ := h.ext hE (fun _ h => h)
 exact ⟨cs, h1.mono fun k hk => Nat.lt_of_lt_of_le hk hE.bsize, fun i hi => let ⟨Ai, ci, e, h3⟩ := h2 i hi; ⟨Ai, ci, e, h3.mono fun k hk => Nat.lt_of_lt_of_le hk hE.bsize⟩⟩
theorem RP.lit3 (w : World) {A1 A2 A3 : Option Addr} {c1 c2 c3 n1 n2 n3 : Nat} {p1 p2 p3 : List Nat} (h1 : RB w (fun k => k < w.heap.size) A1 c1 p1) (h2 : RB w (fun k => k < w.heap.size) A2 c2 p2) (h3 : RB w (fun k => k < w.heap.size) A3 c3 p3) (e1 : p1.length = n1) (e2 : p2.length = n2) (e3 : p3.length = n3) :
 RP (w.alloc (.cells #[.slice A1 n1 c1, .slice A2 n2 c2, .slice A3 n3 c3] 22)) (fun k => k < (w.alloc (.cells #[.slice A1 n1 c1, .slice A2 n2 c2, .slice A3 n3 c3] 22)).heap.size) (some ⟨w.heap.size, 0, none⟩) 3 [p1, p2, p3] := by
 subst e1 e2 e3
 have hE := Ext.alloc w (.cells #[.slice A1 p1.length c1, .slice A2 p2.length c2, .slice A3 p3.length c3] 22)
 refine ⟨_, RS.lit w #[.slice A1 p1.length c1, .slice A2 p2.length c2, .slice A3 p3.length c3] 22 (by simp [maxLen]), fun i hi => ?_⟩
 match i, hi with
 | 0, _ => exact ⟨A1, c1, by simp, h1.upE hE⟩
 | 1, _ => exact ⟨A2, c2, by simp, h2.upE hE⟩
 | 2, _ => exact ⟨A3, c3, by simp, h3.upE hE⟩
 | i + 3, hi => exact absurd hi (by simp only [List.length_cons, List.length_nil]; omega)
theorem RP.lit1 (w : World) {A1 : Option Addr} {c1 n1 : Nat} {p1 : List Nat} (h1 : RB w (fun k => k < w.heap.size) A1 c1 p1) (e1 : p1.length = n1) :
 RP (w.alloc (.cells #[.slice A1 n1 c1] 22)) (fun k => k < (w.alloc (.cells #[.slice A1 n1 c1] 22)).heap.size) (some ⟨w.heap.size, 0, none⟩) 1 [p1] := by
 subst e1
 have hE := Ext.alloc w (.cells #[.slice A1 p1.length c1] 22)
 refine ⟨_, RS.lit w #[.slice A1 p1.length c1] 22 (by simp [maxLen]), fun i hi => ?_⟩
 match i, hi with
 | 0, _ => exact ⟨A1, c1, by simp, h1.upE hE⟩
 | i + 1, hi => exact absurd hi (by simp only [List.length_cons, List.length_nil]; omega)
set_option maxRecDepth 100000 in
set_option maxHeartbeats 8000000 in
theorem rupdate_any {b : Nat} {k v d : List Nat} {n : Int} {P : Nat → Prop} {A : Option Addr} {c : Nat} (w : World) (hd : ER w b k v n) (hp : RB w P A c d) (hP : ∀ k, P k → k < w.heap.size) (hl : d.length ≤ 200000) :
 Calls Tryd.prog 24 #[.pointer (some ⟨b, 0, none⟩), .slice A d.length c] w fun e w' => e = .returned (.tuple #[]) ∧ ER w' b (upd2 k v d).1 (upd2 k v d).2 n ∧ Fr b w.heap.size w w' := by
 have HD := Lib.hid hd
 have HP := Lib.hid hp
 have HPP := Lib.hid hP
 have HL := Lib.hid hl
 have HD0 := Lib.hid hd
 clear hd hp hP hl
 go_enter Tryd.func24, Tryd.ntmps24
 go_upto_region 0 with fail
 obtain ⟨Ak, ck, Av, cv, h1, h2, h3, h4, h5⟩ := id HD.out
 have kc : w.cell? ⟨b, 0, none⟩ = some (.slice Ak 32 ck) := blk_cell h1 0
 have vc : w.cell? ⟨b, 1, none⟩ = some (.slice Av 32 cv) := blk_cell h1 1
 have H2 := Lib.hid h2
 have H3 := Lib.hid h3
 have H4 := Lib.hid h4
 have H5 := Lib.hid h5
 clear h1 h2 h3 h4 h5
 refine Par.region_ext (by kernel_rfl) 15 [0, 0, 2, 6, 14, 0, 32, 96, 224, 0, 0, 2016, 4094, 8191, 16383, 32767] [] (fun j f X => match j with
  | 0 => f 0 = .pointer (some ⟨b, 0, none⟩)
  | 1 => f 1 = .pointer (some ⟨b, 0, none⟩)
  | 2 => f 2 = .pointer (some ⟨b, 0, none⟩)
  | 3 => f 3 = .pointer (some ⟨b, 0, none⟩)
  | 4 => f 4 = .slice Ak 32 ck
  | 5 => f 5 = .pointer (some ⟨b, 0, none⟩)
  | 6 => f 6 = .pointer (some ⟨b, 0, none⟩)
  | 7 => f 7 = .pointer (some ⟨b, 1, none⟩)
  | 8 => f 8 = .slice Av 32 cv
  | 9 => ∃ g, f 9 = .slice (some ⟨g, 0, none⟩) 1 1 ∧ RB X (fun k => k < X.heap.size) (some ⟨g, 0, none⟩) 1 [0]
  | 10 => f 10 = .slice A d.length c
  | 11 => ∃ g, f 11 = .slice (some ⟨g, 0, none⟩) 3 3 ∧ RP X (fun k => k < X.heap.size) (some ⟨g, 0, none⟩) 3 [v, [0], d]
  | 12 => ∃ A c, f 12 = .slice A 32 c ∧ OW X w.heap.size A c (hmac k (v ++ [0] ++ d))
  | 13 => f 13 = .pointer (some ⟨b, 0, none⟩)
  | 14 => f 14 = .pointer (some ⟨b, 0, none⟩)
  | _ => True) (by kernel_rfl) [(4, 0), (5, 1), (6, 2), (7, 3), (8, 4), (9, 5), (10, 6), (11, 7), (12, 8), (13, 9), (14, 10), (15, 11), (16, 12), (17, 13), (18, 14)] (by kernel_rfl) ?_
 refine Par.v0 1 14 ?_
 refine Par.v0 2 13 ?_
 refine Par.v1 3 12 1 ?_
 refine Par.v1 4 11 2 ?_
 refine Par.ld1 5 10 3 kc ?_
 refine Par.v0 6 9 ?_
 refine Par.v1 7 8 5 ?_
 refine Par.v1 8 7 6 ?_
 refine Par.ld1 9 6 7 vc ?_
 refine Par.S 10 5 [(4, 0), (5, 1), (6, 2), (7, 3), (8, 4), (9, 5), (10, 6), (11, 7), (12, 8), (14, 10)] (fun f X hX hR K hK => ?_) ?_
 · simp only [yA, yB, yC, yD, yE]
   refine ⟨?_⟩
   go_simp
   exact hK.out _ _ _ (by simp only [yA, yB, yC, yD, yE]) (Ext.alloc _ _) trivial (fun Y hY => ⟨_, rfl, (RB.lit8' X [0] (by decide) (by decide) rfl).upE hY⟩)
 refine Par.v0 11 4 ?_
 refine Par.S 12 3 [(4, 0), (5, 1), (6, 2), (7, 3), (8, 4), (9, 5), (10, 6), (11, 7), (12, 8), (13, 9), (14, 10)] (fun f X hX hR K hK => ?_) ?_
 · have e8 : f 8 = _ := hR.out 8 rfl
   obtain ⟨g9, (e9 : f 9 = _), r9⟩ := hR.out 9 rfl
   have e10 : f 10 = _ := hR.out 10 rfl
   simp only [yA, yB, yC, yD, yE, e8, e9, e10]
   refine ⟨?_⟩
   go_simp
   exact hK.out _ _ _ (by simp only [yA, yB, yC, yD, yE, e8, e9, e10]) (Ext.alloc _ _) trivial (fun Y hY => ⟨_, rfl, (RP.lit3 X (H3.out.upE hX) r9 ((HP.out.below hX HPP.out).mono fun k hk => Nat.lt_of_lt_of_le (HPP.out k hk) hX.bsize) H5.out rfl rfl).up hY⟩)
 refine Par.c0 13 2 (fun f => #[f 4, f 11]) (F' := 26) (fun f X hX hR => ?_) ?_
 · have e4 : f 4 = _ := hR.out 4 rfl
   obtain ⟨g11, (e11 : f 11 = _), r11⟩ := hR.out 11 rfl
   simp only [e4, e11]
   refine (rhm4_any X (H2.out.upE hX) H4.out r11 (fun _ h => h) (by have := HL.out; have := H5.out; simp; omega)).mono ?_
   rintro e w2 ⟨A2, c2, rfl, ho, hE⟩
   exact ⟨_, rfl, hE, fun Y hY => ⟨A2, c2, rfl, by have := (ho.mono hX.bsize).extE hY; simpa using this⟩⟩
 refine Par.v1 14 1 0 ?_
 refine Par.v1 15 0 13 ?_
 refine Par.AllOps.fin ⟨fun f X hX hR hal hap => ?_⟩
 obtain ⟨g9, (e9 : f 9 = _), r9⟩ := hR 9 (by decide)
 obtain ⟨g11, (e11 : f 11 = _), r11⟩ := hR 11 (by decide)
 obtain ⟨A12, c12, (e12 : f 12 = _), o12⟩ := hR 12 (by decide)
 have e14 : f 14 = _ := hR 14 (by decide)
 simp only [yA, yB, yD, yE, e9, e11, e12, e14]
 clear hR hal hap e9 e11 e12 e14
 replace kc := hX.cell kc
 have fr := (HD.out.ext hX).free 0
 refine Par.Chain.next (fun K hK => ⟨Par.want (by kernel_rfl) ?_⟩)
 go_simp
 refine hK.out _ _ ?_
 refine Par.Chain.done ?_
 have ht := eturnK HD.out hX o12 (hmac_len _ _)
 obtain ⟨hd', hf'⟩ := ht
 have HF := Lib.hid hf'
 replace HD := Lib.hid hd'
 clear hd' hf' hX o12 kc vc fr H2 H3 H4 H5
 generalize X.setCell ⟨b, 0, none⟩ (.slice A12 32 c12) = w1 at *
 have HP1 := Lib.hid (HP.out.er HPP.out HD0.out HF.out)
 clear r9 r11
 go_upto_region 1 with fail
 obtain ⟨Ak, ck, Av, cv, h1, h2, h3, h4, h5⟩ := id HD.out
 have kc : w1.cell? ⟨b, 0, none⟩ = some (.slice Ak 32 ck) := blk_cell h1 0
 have vc : w1.cell? ⟨b, 1, none⟩ = some (.slice Av 32 cv) := blk_cell h1 1
 have H2 := Lib.hid h2
 have H3 := Lib.hid h3
 have H4 := Lib.hid h4
 have H5 := Lib.hid h5
 clear h1 h2 h3 h4 h5
 refine Par.region_ext (by kernel_rfl) 13 [0, 0, 2, 6, 14, 0, 32, 96, 224, 480, 1022, 2047, 4095, 8191] [] (fun j f X => match j with
  | 0 => f 0 = .pointer (some ⟨b, 0, none⟩)
  | 1 => f 1 = .pointer (some ⟨b, 0, none⟩)
  | 2 => f 2 = .pointer (some ⟨b, 0, none⟩)
  | 3 => f 3 = .pointer (some ⟨b, 0, none⟩)
  | 4 => f 4 = .slice Ak 32 ck
  | 5 => f 5 = .pointer (some ⟨b, 0, none⟩)
  | 6 => f 6 = .pointer (some ⟨b, 0, none⟩)
  | 7 => f 7 = .pointer (some ⟨b, 1, none⟩)
  | 8 => f 8 = .slice Av 32 cv
  | 9 => ∃ g, f 9 = .slice (some ⟨g, 0, none⟩) 1 1 ∧ RP X (fun k => k < X.heap.size) (some ⟨g, 0, none⟩) 1 [v]
  | 10 => ∃ A c, f 10 = .slice A 32 c ∧ OW X w1.heap.size A c (hmac (hmac k (v ++ [0] ++ d)) v)
  | 11 => f 11 = .pointer (some ⟨b, 0, none⟩)
  | 12 => f 12 = .pointer (some ⟨b, 1, none⟩)
  | _ => True) (by kernel_rfl) [(19, 0), (20, 1), (21, 2), (22, 3), (23, 4), (24, 5), (25, 6), (26, 7), (27, 8), (28, 9), (29, 10), (30, 11), (31, 12)] (by kernel_rfl) ?_
 refine Par.v0 1 12 ?_
 refine Par.v0 2 11 ?_
 refine Par.v1 3 10 1 ?_
 refine Par.v1 4 9 2 ?_
 refine Par.ld1 5 8 3 kc ?_
 refine Par.v0 6 7 ?_
 refine Par.v1 7 6 5 ?_
 refine Par.v1 8 5 6 ?_
 refine Par.ld1 9 4 7 vc ?_
 refine Par.S 10 3 [(19, 0), (20, 1), (21, 2), (22, 3), (23, 4), (24, 5), (25, 6), (26, 7), (27, 8)] (fun f X hX hR K hK => ?_) ?_
 · have e8 : f 8 = _ := hR.out 8 rfl
   simp only [yA, yB, yC, yD, yE, e8]
   refine ⟨?_⟩
   go_simp
   exact hK.out _ _ _ (by simp only [yA, yB, yC, yD, yE, e8]) (Ext.alloc _ _) trivial (fun Y hY => ⟨_, rfl, (RP.lit1 X (H3.out.upE hX) H5.out).up hY⟩)
 refine Par.c0 11 2 (fun f => #[f 4, f 9]) (F' := 26) (fun f X hX hR => ?_) ?_
 · have e4 : f 4 = _ := hR.out 4 rfl
   obtain ⟨g9, (e9 : f 9 = _), r9⟩ := hR.out 9 rfl
   simp only [e4, e9]
   refine (rhm4_any X (H2.out.upE hX) H4.out r9 (fun _ h => h) (by have := H5.out; simp; omega)).mono ?_
   rintro e w2 ⟨A2, c2, rfl, ho, hE⟩
   exact ⟨_, rfl, hE, fun Y hY => ⟨A2, c2, rfl, by have := (ho.mono hX.bsize).extE hY; simpa using this⟩⟩
 refine Par.v1 12 1 0 ?_
 refine Par.v1 13 0 11 ?_
 refine Par.AllOps.fin ⟨fun f X hX hR hal hap => ?_⟩
 obtain ⟨g9, (e9 : f 9 = _), r9⟩ := hR 9 (by decide)
 obtain ⟨A10, c10, (e10 : f 10 = _), o10⟩ := hR 10 (by decide)
 have e12 : f 12 = _ := hR 12 (by decide)
 simp only [yA, yB, yD, yE, e9, e10, e12]
 clear hR hal hap e9 e10 e12
 replace vc := hX.cell vc
 have fr := (HD.out.ext hX).free 1
 refine Par.Chain.next (fun K hK => ⟨Par.want (by kernel_rfl) ?_⟩)
 go_simp
 refine hK.out _ _ ?_
 refine Par.Chain.done ?_
 have ht := eturnV HD.out hX o10 (hmac_len _ _)
 obtain ⟨hd', hf'⟩ := ht
 replace HF := Lib.hid (HF.out.trans (hf'.mono HF.out.size))
 replace HD := Lib.hid hd'
 clear hd' hf' hX o10 kc vc fr H2 H3 H4 H5
 generalize X.setCell ⟨b, 1, none⟩ (.slice A10 32 c10) = w2 at *
 have HP2 := Lib.hid (HP.out.er HPP.out HD0.out HF.out)
 have HPP2 := Lib.hid (show ∀ k, P k → k < w2.heap.size from fun k hk => Nat.lt_of_lt_of_le (HPP.out k hk) HF.out.size)
 clear r9 HP1
 have HH := Lib.hid (show half k v d 0 = (hmac k (v ++ [0] ++ d), hmac (hmac k (v ++ [0] ++ d)) v) from rfl)
 go_upto_region 2 with fail
 by_cases h0 : d.length = 0
 · have l0 : ¬ (0 : Int) < (d.length : Int) := by omega
   go_wp2_with fail
   have hu : upd2 k v d = half k v d 0 := if_pos h0
   have hfin : ER w2 b (upd2 k v d).1 (upd2 k v d).2 n := by rw [hu]; exact HD.out
   go_end0
   exact ⟨rfl, hfin, HF.out⟩
 · have l0 : (0 : Int) < (d.length : Int) := by omega
   obtain ⟨k1, hk1⟩ : ∃ l, hmac k (v ++ [0] ++ d) = l := ⟨_, rfl⟩
   obtain ⟨v1, hv1⟩ : ∃ l, hmac k1 v = l := ⟨_, rfl⟩
   have HK1 := Lib.hid hk1
   have HV1 := Lib.hid hv1
   rw [hk1, hv1] at HD
   clear hk1 hv1
   go_upto_region 3 with fail
   rw [show decide (0 < d.length) = true from decide_eq_true (by omega)]
   obtain ⟨Ak, ck, Av, cv, h1, h2, h3, h4, h5⟩ := id HD.out
   have kc : w2.cell? ⟨b, 0, none⟩ = some (.slice Ak 32 ck) := blk_cell h1 0
   have vc : w2.cell? ⟨b, 1, none⟩ = some (.slice Av 32 cv) := blk_cell h1 1
   have H2 := Lib.hid h2
   have H3 := Lib.hid h3
   have H4 := Lib.hid h4
   have H5 := Lib.hid h5
   clear h1 h2 h3 h4 h5
   refine Par.region_ext (by kernel_rfl) 15 [0, 0, 2, 6, 14, 0, 32, 96, 224, 0, 0, 2016, 4094, 8191, 16383, 32767] [] (fun j f X => match j with
    | 0 => f 0 = .pointer (some ⟨b, 0, none⟩)
    | 1 => f 1 = .pointer (some ⟨b, 0, none⟩)
    | 2 => f 2 = .pointer (some ⟨b, 0, none⟩)
    | 3 => f 3 = .pointer (some ⟨b, 0, none⟩)
    | 4 => f 4 = .slice Ak 32 ck
    | 5 => f 5 = .pointer (some ⟨b, 0, none⟩)
    | 6 => f 6 = .pointer (some ⟨b, 0, none⟩)
    | 7 => f 7 = .pointer (some ⟨b, 1, none⟩)
    | 8 => f 8 = .slice Av 32 cv
    | 9 => ∃ g, f 9 = .slice (some ⟨g, 0, none⟩) 1 1 ∧ RB X (fun k => k < X.heap.size) (some ⟨g, 0, none⟩) 1 [1]
    | 10 => f 10 = .slice A d.length c
    | 11 => ∃ g, f 11 = .slice (some ⟨g, 0, none⟩) 3 3 ∧ RP X (fun k => k < X.heap.size) (some ⟨g, 0, none⟩) 3 [v1, [1], d]
    | 12 => ∃ A c, f 12 = .slice A 32 c ∧ OW X w2.heap.size A c (hmac k1 (v1 ++ [1] ++ d))
    | 13 => f 13 = .pointer (some ⟨b, 0, none⟩)
    | 14 => f 14 = .pointer (some ⟨b, 0, none⟩)
    | _ => True) (by kernel_rfl) [(35, 0), (36, 1), (37, 2), (38, 3), (39, 4), (40, 5), (41, 6), (42, 7), (43, 8), (44, 9), (45, 10), (46, 11), (47, 12), (48, 13), (49, 14)] (by kernel_rfl) ?_
   refine Par.v0 1 14 ?_
   refine Par.v0 2 13 ?_
   refine Par.v1 3 12 1 ?_
   refine Par.v1 4 11 2 ?_
   refine Par.ld1 5 10 3 kc ?_
   refine Par.v0 6 9 ?_
   refine Par.v1 7 8 5 ?_
   refine Par.v1 8 7 6 ?_
   refine Par.ld1 9 6 7 vc ?_
   refine Par.S 10 5 [(35, 0), (36, 1), (37, 2), (38, 3), (39, 4), (40, 5), (41, 6), (42, 7), (43, 8), (45, 10)] (fun f X hX hR K hK => ?_) ?_
   · simp only [yA, yB, yC, yD, yE]
     refine ⟨?_⟩
     go_simp
     exact hK.out _ _ _ (by simp only [yA, yB, yC, yD, yE]) (Ext.alloc _ _) trivial (fun Y hY => ⟨_, rfl, (RB.lit8' X [1] (by decide) (by decide) rfl).upE hY⟩)
   refine Par.v0 11 4 ?_
   refine Par.S 12 3 [(35, 0), (36, 1), (37, 2), (38, 3), (39, 4), (40, 5), (41, 6), (42, 7), (43, 8), (44, 9), (45, 10)] (fun f X hX hR K hK => ?_) ?_
   · have e8 : f 8 = _ := hR.out 8 rfl
     obtain ⟨g9, (e9 : f 9 = _), r9⟩ := hR.out 9 rfl
     have e10 : f 10 = _ := hR.out 10 rfl
     simp only [yA, yB, yC, yD, yE, e8, e9, e10]
     refine ⟨?_⟩
     go_simp
     exact hK.out _ _ _ (by simp only [yA, yB, yC, yD, yE, e8, e9, e10]) (Ext.alloc _ _) trivial (fun Y hY => ⟨_, rfl, (RP.lit3 X (H3.out.upE hX) r9 ((HP2.out.below hX HPP2.out).mono fun k hk => Nat.lt_of_lt_of_le (HPP2.out k hk) hX.bsize) H5.out rfl rfl).up hY⟩)
   refine Par.c0 13 2 (fun f => #[f 4, f 11]) (F' := 26) (fun f X hX hR => ?_) ?_
   · have e4 : f 4 = _ := hR.out 4 rfl
     obtain ⟨g11, (e11 : f 11 = _), r11⟩ := hR.out 11 rfl
     simp only [e4, e11]
     refine (rhm4_any X (H2.out.upE hX) H4.out r11 (fun _ h => h) (by have := HL.out; have := H5.out; simp; omega)).mono ?_
     rintro e w2 ⟨A2, c2, rfl, ho, hE⟩
     exact ⟨_, rfl, hE, fun Y hY => ⟨A2, c2, rfl, by have := (ho.mono hX.bsize).extE hY; simpa using this⟩⟩
   refine Par.v1 14 1 0 ?_
   refine Par.v1 15 0 13 ?_
   refine Par.AllOps.fin ⟨fun f X hX hR hal hap => ?_⟩
   obtain ⟨g9, (e9 : f 9 = _), r9⟩ := hR 9 (by decide)
   obtain ⟨g11, (e11 : f 11 = _), r11⟩ := hR 11 (by decide)
   obtain ⟨A12, c12, (e12 : f 12 = _), o12⟩ := hR 12 (by decide)
   have e14 : f 14 = _ := hR 14 (by decide)
   simp only [yA, yB, yD, yE, e9, e11, e12, e14]
   clear hR hal hap e9 e11 e12 e14
   replace kc := hX.cell kc
   have fr := (HD.out.ext hX).free 0
   refine Par.Chain.next (fun K hK => ⟨Par.want (by kernel_rfl) ?_⟩)
   go_simp
   refine hK.out _ _ ?_
   refine Par.Chain.done ?_
   have ht := eturnK HD.out hX o12 (hmac_len _ _)
   obtain ⟨hd', hf'⟩ := ht
   replace HF := Lib.hid (HF.out.trans (hf'.mono HF.out.size))
   replace HD := Lib.hid hd'
   clear hd' hf' hX o12 kc vc fr H2 H3 H4 H5
   generalize X.setCell ⟨b, 0, none⟩ (.slice A12 32 c12) = w3 at *
   clear r9 r11
   go_upto_region 4 with fail
   obtain ⟨Ak, ck, Av, cv, h1, h2, h3, h4, h5⟩ := id HD.out
   have kc : w3.cell? ⟨b, 0, none⟩ = some (.slice Ak 32 ck) := blk_cell h1 0
   have vc : w3.cell? ⟨b, 1, none⟩ = some (.slice Av 32 cv) := blk_cell h1 1
   have H2 := Lib.hid h2
   have H3 := Lib.hid h3
   have H4 := Lib.hid h4
   have H5 := Lib.hid h5
   clear h1 h2 h3 h4 h5
   refine Par.region_ext (by kernel_rfl) 13 [0, 0, 2, 6, 14, 0, 32, 96, 224, 480, 1022, 2047, 4095, 8191] [] (fun j f X => match j with
    | 0 => f 0 = .pointer (some ⟨b, 0, none⟩)
    | 1 => f 1 = .pointer (some ⟨b, 0, none⟩)
    | 2 => f 2 = .pointer (some ⟨b, 0, none⟩)
    | 3 => f 3 = .pointer (some ⟨b, 0, none⟩)
    | 4 => f 4 = .slice Ak 32 ck
    | 5 => f 5 = .pointer (some ⟨b, 0, none⟩)
    | 6 => f 6 = .pointer (some ⟨b, 0, none⟩)
    | 7 => f 7 = .pointer (some ⟨b, 1, none⟩)
    | 8 => f 8 = .slice Av 32 cv
    | 9 => ∃ g, f 9 = .slice (some ⟨g, 0, none⟩) 1 1 ∧ RP X (fun k => k < X.heap.size) (some ⟨g, 0, none⟩) 1 [v1]
    | 10 => ∃ A c, f 10 = .slice A 32 c ∧ OW X w3.heap.size A c (hmac (hmac k1 (v1 ++ [1] ++ d)) v1)
    | 11 => f 11 = .pointer (some ⟨b, 0, none⟩)
    | 12 => f 12 = .pointer (some ⟨b, 1, none⟩)
    | _ => True) (by kernel_rfl) [(50, 0), (51, 1), (52, 2), (53, 3), (54, 4), (55, 5), (56, 6), (57, 7), (58, 8), (59, 9), (60, 10), (61, 11), (62, 12)] (by kernel_rfl) ?_
   refine Par.v0 1 12 ?_
   refine Par.v0 2 11 ?_
   refine Par.v1 3 10 1 ?_
   refine Par.v1 4 9 2 ?_
   refine Par.ld1 5 8 3 kc ?_
   refine Par.v0 6 7 ?_
   refine Par.v1 7 6 5 ?_
   refine Par.v1 8 5 6 ?_
   refine Par.ld1 9 4 7 vc ?_
   refine Par.S 10 3 [(50, 0), (51, 1), (52, 2), (53, 3), (54, 4), (55, 5), (56, 6), (57, 7), (58, 8)] (fun f X hX hR K hK => ?_) ?_
   · have e8 : f 8 = _ := hR.out 8 rfl
     simp only [yA, yB, yC, yD, yE, e8]
     refine ⟨?_⟩
     go_simp
     exact hK.out _ _ _ (by simp only [yA, yB, yC, yD, yE, e8]) (Ext.alloc _ _) trivial (fun Y hY => ⟨_, rfl, (RP.lit1 X (H3.out.upE hX) H5.out).up hY⟩)
   refine Par.c0 11 2 (fun f => #[f 4, f 9]) (F' := 26) (fun f X hX hR => ?_) ?_
   · have e4 : f 4 = _ := hR.out 4 rfl
     obtain ⟨g9, (e9 : f 9 = _), r9⟩ := hR.out 9 rfl
     simp only [e4, e9]
     refine (rhm4_any X (H2.out.upE hX) H4.out r9 (fun _ h => h) (by have := H5.out; simp; omega)).mono ?_
     rintro e w2 ⟨A2, c2, rfl, ho, hE⟩
     exact ⟨_, rfl, hE, fun Y hY => ⟨A2, c2, rfl, by have := (ho.mono hX.bsize).extE hY; simpa using this⟩⟩
   refine Par.v1 12 1 0 ?_
   refine Par.v1 13 0 11 ?_
   refine Par.AllOps.fin ⟨fun f X hX hR hal hap => ?_⟩
   obtain ⟨g9, (e9 : f 9 = _), r9⟩ := hR 9 (by decide)
   obtain ⟨A10, c10, (e10 : f 10 = _), o10⟩ := hR 10 (by decide)
   have e12 : f 12 = _ := hR 12 (by decide)
   simp only [yA, yB, yD, yE, e9, e10, e12]
   clear hR hal hap e9 e10 e12
   replace vc := hX.cell vc
   have fr := (HD.out.ext hX).free 1
   refine Par.Chain.next (fun K hK => ⟨Par.want (by kernel_rfl) ?_⟩)
   go_simp
   refine hK.out _ _ ?_
   refine Par.Chain.done ?_
   have ht := eturnV HD.out hX o10 (hmac_len _ _)
   obtain ⟨hd', hf'⟩ := ht
   replace HF := Lib.hid (HF.out.trans (hf'.mono HF.out.size))
   replace HD := Lib.hid hd'
   clear hd' hf' hX o10 kc vc fr H2 H3 H4 H5
   generalize X.setCell ⟨b, 1, none⟩ (.slice A10 32 c10) = w4 at *
   have hu : upd2 k v d = half (half k v d 0).1 (half k v d 0).2 d 1 := if_neg h0
   have Hfin := Lib.hid (show ER w4 b (upd2 k v d).1 (upd2 k v d).2 n by rw [hu, HH.out, HK1.out, HV1.out]; exact HD.out)
   clear hu HD r9
   go_wp2_with fail
   go_end0
   exact ⟨rfl, Hfin.out, HF.out⟩
end Go.Proofs.YtjphlimfldcifaaDoor

namespace Go.Proofs.YtjphlimfldcifaaDoor
open Go.RowKit
open Sha

theorem run_nozero (w : World) (n : Nat) (hn : n ≤ 281474976710656) : ∃ cs, (callFunc 37 #[.int .i64 (n : Int)]).run Tryd.prog w = .ok (.value (.slice (some ⟨w.heap.size, 0, none⟩) n cs.size)) ((w.drew.drew).alloc (.cells cs 5)) ∧ n ≤ cs.size ∧ cs.size ≤ maxLen := by
 obtain ⟨cs, h1, h2, h3⟩ := Lib.run_makeNoZero (P := Tryd.prog) w #[3] 22 5 Tryd.underlying22 n hn
 refine ⟨cs, ?_, h2, h3 (by unfold maxLen; omega)⟩
 rw [run_callFunc_extern (e := Extern.BytealgMakeNoZero.makeNoZero #[3] #[22]) Tryd.func37 (by kernel_rfl) (by kernel_rfl) (by kernel_rfl) (by kernel_rfl), h1]
 rfl
theorem mul_one_any (w : World) : Calls Tryd.prog 36 #[.int .u64 1, .int .u64 32] w fun e w' => e = .returned (.tuple #[.int .u64 0, .int .u64 32]) ∧ w' = w := by
 have H := Lib.hid (mul64_at 1 32 0 32 (by omega) (by omega) (by omega) (by omega))
 go_enter Tryd.func36, Tryd.ntmps36
 go_wp2_with fail
 refine (H.out w).mono ?_
 rintro e w1 ⟨rfl, rfl⟩
 go_wp2
 go_ret2
 exact ⟨rfl, rfl⟩
theorem ones_copy {w : World} {g p k dl dc sl sc : Nat} {a : Addr} {cur : Array Value} (hb : w.heap[g]? = some (.cells cur 5 (0, 0))) (ho : ∀ j, j < p → cur[j]? = some (.int .u8 1)) (hs : ∀ j, j < k → w.cell? (a.add j) = some (.int .u8 1)) (hk : k = min sl dl) (hle : p + k ≤ cur.size) :
 ∃ W' cur', (Builtin.copy_ #[22, 22] 3 #[.slice (some ⟨g, p, none⟩) dl dc, .slice (some a) sl sc]).run Tryd.prog w = .ok (.int .i64 (k : Int)) W' ∧ W'.heap[g]? = some (.cells cur' 5 (0, 0)) ∧ cur'.size = cur.size ∧ (∀ j, j < p + k → cur'[j]? = some (.int .u8 1)) ∧ Just g w W' := by
 have hcl : (List.replicate k (Value.int .u8 1)).length = k := List.length_replicate
 have hr := run_copy_row (P := Tryd.prog) w 22 22 3 5 g p dl dc a sl sc cur 5 (List.replicate k (.int .u8 1)) Tryd.underlying22 (by kernel_rfl) hb (by rw [hcl]; exact hk) (fun j v hv => by
  obtain ⟨h1, h2⟩ := List.getElem?_eq_some_iff.1 hv
  rw [hcl] at h1
  rw [hs j h1, ← h2, List.getElem_replicate]) (by rw [hcl]; exact hle) (by intro v hv; rw [(List.mem_replicate.1 hv).2]; rfl)
 rw [hcl] at hr
 refine ⟨_, _, hr, Go.setRow_heap w g _ _ 5 _ hb, ?_, ?_, ⟨rfl, rfl, rfl, by simp [World.setRow], fun k _ hk => Go.setRow_other w g k _ hk⟩⟩
 · simp; omega
 · intro j hj
   have hpl : (cur.toList.take p).length = p := by simp; omega
   rw [List.getElem?_toArray, List.append_assoc]
   by_cases h : j < p
   · rw [List.getElem?_append_left (by omega), List.getElem?_take_of_lt h]
     simpa using ho j h
   · rw [List.getElem?_append_right (by omega), hpl, List.getElem?_append_left (by rw [hcl]; omega), List.getElem?_replicate_of_lt (by omega)]
set_option maxRecDepth 100000 in
set_option maxHeartbeats 8000000 in
theorem repeat_one {g : Nat} (w : World) (hg : w.heap[g]? = some (.cells #[.int .u8 1] 5 (0, 0))) :
 Calls Tryd.prog 22 #[.slice (some ⟨g, 0, none⟩) 1 1, .int .i64 32] w fun e w' => ∃ A, e = .returned (.slice A 32 32) ∧ RB w' (fun k => k < w'.heap.size) A 32 (List.replicate 32 1) ∧ Ext w w' := by
 obtain ⟨cs, hrun, hcs, hcm⟩ := run_nozero w 32 (by omega)
 rw [show ((32 : Nat) : Int) = 32 from rfl] at hrun
 obtain ⟨W1, hW1⟩ : ∃ W, (w.drew.drew).alloc (.cells cs 5) = W := ⟨_, rfl⟩
 have hb : W1.heap[w.heap.size]? = some (.cells cs 5 (0, 0)) := by rw [← hW1]; exact heap_alloc_new w.drew.drew _
 have hE : Ext w W1 := by rw [← hW1]; exact ((Ext.drew w).trans (Ext.drew _)).trans (Ext.alloc _ _)
 rw [hW1] at hrun
 have c32 : (32 : Int) ≤ (cs.size : Int) := by omega
 obtain ⟨W2, cs2, hcp, hb2, hz2, hon, hj2⟩ := ones_copy (p := 0) (k := 1) (dl := 32) (dc := 32) (sl := 1) (sc := 1) (a := ⟨g, 0, none⟩) hb (by omega) (by
  intro j hj
  obtain rfl : j = 0 := by omega
  exact blk_cell (hE.at_ hg) 0) rfl (by omega)
 have Hb2 := Lib.hid hb2
 have Hon := Lib.hid hon
 have HE2 := Lib.hid (hj2.ext hE (Nat.le_refl _))
 have hz := Lib.hid (show 32 ≤ cs2.size by omega)
 clear hb hE hW1 hg hb2 hon hj2 hz2 hcm
 go_enter Tryd.func22, Tryd.ntmps22
 go_upto_region 6 with (go_at_call 36; refine (mul_one_any _).mono ?_; rintro e w1 ⟨rfl, rfl⟩)
 go_upto_region 18 with fail
 clear hrun hcp
 go_loopw [10] (fun iv wr => ∃ (p : Nat) (cur : Array Value), iv = .int .i64 (p : Int) ∧ (p = 1 ∨ p = 2 ∨ p = 4 ∨ p = 8 ∨ p = 16 ∨ p = 32) ∧ Hid (wr.heap[w1.heap.size]? = some (.cells cur 5 (0, 0))) ∧ Hid (∀ j, j < p → cur[j]? = some (.int .u8 1)) ∧ Hid (32 ≤ cur.size) ∧ Hid (Ext w1 wr)) (fun iv _ => (32 - intOf iv).toNat)
 case atStart => exact ⟨1, cs2, rfl, .inl rfl, Hb2, Hon, hz, HE2⟩
 case round =>
  clear Hb2 Hon hz HE2
  obtain ⟨p, cur, rfl, hp, HB, HO, HZ, HE⟩ := hrel
  rcases hp with rfl | rfl | rfl | rfl | rfl | rfl
  · obtain ⟨X, cur', hc, hbx, hzx, hox, hjx⟩ := ones_copy (w := wr.drew) (p := 1) (k := 1) (dl := 31) (dc := 31) (sl := 1) (sc := 32) (a := ⟨w1.heap.size, 0, none⟩) (show wr.drew.heap[w1.heap.size]? = some (.cells cur 5 (0, 0)) from HB.out) HO.out (by
     intro j hj
     rw [show Addr.add ⟨w1.heap.size, 0, none⟩ j = ⟨w1.heap.size, j, none⟩ by unfold Addr.add; split <;> simp_all, blk_cell (show wr.drew.heap[w1.heap.size]? = some (.cells cur 5 (0, 0)) from HB.out) j]
     exact HO.out j hj) rfl (by have := HZ.out; omega)
    rw [show ((1 : Nat) : Int) = 1 from rfl] at hc ⊢
    have HBn := Lib.hid hbx
    have HOn := Lib.hid (show ∀ j, j < 2 → cur'[j]? = some (.int .u8 1) from hox)
    have HEn := Lib.hid (hjx.ext (HE.out.trans (Ext.drew _)) (Nat.le_refl _))
    have HZn := Lib.hid (show 32 ≤ cur'.size by have := HZ.out; omega)
    clear hbx hzx hox hjx HB HO HE HZ
    go_upto_region 20 with fail
    rw [show min (1 : Int) 32 = 1 from by decide]
    go_region_with fail
    all_goals
     go_roundw
     case rel =>
      have hR : ∃ (p : Nat) (cur : Array Value), Value.int .i64 2 = .int .i64 (p : Int) ∧ (p = 1 ∨ p = 2 ∨ p = 4 ∨ p = 8 ∨ p = 16 ∨ p = 32) ∧ Hid (X.heap[w1.heap.size]? = some (.cells cur 5 (0, 0))) ∧ Hid (∀ j, j < p → cur[j]? = some (.int .u8 1)) ∧ Hid (32 ≤ cur.size) ∧ Hid (Ext w1 X) := ⟨2, cur', rfl, by omega, HBn, HOn, HZn, HEn⟩
      first | exact ⟨_, _, _, _, _, _, _, _, _, _, _, _, _, _, _, hR, rfl⟩ | exact ⟨_, _, _, _, _, _, _, _, _, _, _, _, _, _, _, _, hR, rfl⟩ | exact ⟨_, _, _, _, _, _, _, _, _, _, _, _, _, _, _, _, _, hR, rfl⟩ | exact ⟨_, _, _, _, _, _, _, _, _, _, _, _, _, _, _, _, _, _, hR, rfl⟩ | exact ⟨_, _, _, _, _, _, _, _, _, _, _, _, _, _, _, _, _, _, _, hR, rfl⟩ | exact ⟨_, _, _, _, _, _, _, _, _, _, _, _, _, _, _, _, _, _, _, _, hR, rfl⟩ | exact ⟨_, _, _, _, _, _, _, _, _, _, _, _, _, _, _, _, _, _, _, _, _, hR, rfl⟩ | exact ⟨_, _, _, _, _, _, _, _, _, _, _, _, _, _, _, _, _, _, _, _, _, _, hR, rfl⟩ | exact ⟨_, _, _, _, _, _, _, _, _, _, _, _, _, _, _, _, _, _, _, _, _, _, _, hR, rfl⟩
     case measure => change (32 - (2 : Int)).toNat < (32 - (1 : Int)).toNat; decide
  · obtain ⟨X, cur', hc, hbx, hzx, hox, hjx⟩ := ones_copy (w := wr.drew) (p := 2) (k := 2) (dl := 30) (dc := 30) (sl := 2) (sc := 32) (a := ⟨w1.heap.size, 0, none⟩) (show wr.drew.heap[w1.heap.size]? = some (.cells cur 5 (0, 0)) from HB.out) HO.out (by
     intro j hj
     rw [show Addr.add ⟨w1.heap.size, 0, none⟩ j = ⟨w1.heap.size, j, none⟩ by unfold Addr.add; split <;> simp_all, blk_cell (show wr.drew.heap[w1.heap.size]? = some (.cells cur 5 (0, 0)) from HB.out) j]
     exact HO.out j hj) rfl (by have := HZ.out; omega)
    rw [show ((2 : Nat) : Int) = 2 from rfl] at hc ⊢
    have HBn := Lib.hid hbx
    have HOn := Lib.hid (show ∀ j, j < 4 → cur'[j]? = some (.int .u8 1) from hox)
    have HEn := Lib.hid (hjx.ext (HE.out.trans (Ext.drew _)) (Nat.le_refl _))
    have HZn := Lib.hid (show 32 ≤ cur'.size by have := HZ.out; omega)
    clear hbx hzx hox hjx HB HO HE HZ
    go_upto_region 20 with fail
    rw [show min (2 : Int) 32 = 2 from by decide]
    go_region_with fail
    all_goals
     go_roundw
     case rel =>
      have hR : ∃ (p : Nat) (cur : Array Value), Value.int .i64 4 = .int .i64 (p : Int) ∧ (p = 1 ∨ p = 2 ∨ p = 4 ∨ p = 8 ∨ p = 16 ∨ p = 32) ∧ Hid (X.heap[w1.heap.size]? = some (.cells cur 5 (0, 0))) ∧ Hid (∀ j, j < p → cur[j]? = some (.int .u8 1)) ∧ Hid (32 ≤ cur.size) ∧ Hid (Ext w1 X) := ⟨4, cur', rfl, by omega, HBn, HOn, HZn, HEn⟩
      first | exact ⟨_, _, _, _, _, _, _, _, _, _, _, _, _, _, _, hR, rfl⟩ | exact ⟨_, _, _, _, _, _, _, _, _, _, _, _, _, _, _, _, hR, rfl⟩ | exact ⟨_, _, _, _, _, _, _, _, _, _, _, _, _, _, _, _, _, hR, rfl⟩ | exact ⟨_, _, _, _, _, _, _, _, _, _, _, _, _, _, _, _, _, _, hR, rfl⟩ | exact ⟨_, _, _, _, _, _, _, _, _, _, _, _, _, _, _, _, _, _, _, hR, rfl⟩ | exact ⟨_, _, _, _, _, _, _, _, _, _, _, _, _, _, _, _, _, _, _, _, hR, rfl⟩ | exact ⟨_, _, _, _, _, _, _, _, _, _, _, _, _, _, _, _, _, _, _, _, _, hR, rfl⟩ | exact ⟨_, _, _, _, _, _, _, _, _, _, _, _, _, _, _, _, _, _, _, _, _, _, hR, rfl⟩ | exact ⟨_, _, _, _, _, _, _, _, _, _, _, _, _, _, _, _, _, _, _, _, _, _, _, hR, rfl⟩
     case measure => change (32 - (4 : Int)).toNat < (32 - (2 : Int)).toNat; decide
  · obtain ⟨X, cur', hc, hbx, hzx, hox, hjx⟩ := ones_copy (w := wr.drew) (p := 4) (k := 4) (dl := 28) (dc := 28) (sl := 4) (sc := 32) (a := ⟨w1.heap.size, 0, none⟩) (show wr.drew.heap[w1.heap.size]? = some (.cells cur 5 (0, 0)) from HB.out) HO.out (by
     intro j hj
     rw [show Addr.add ⟨w1.heap.size, 0, none⟩ j = ⟨w1.heap.size, j, none⟩ by unfold Addr.add; split <;> simp_all, blk_cell (show wr.drew.heap[w1.heap.size]? = some (.cells cur 5 (0, 0)) from HB.out) j]
     exact HO.out j hj) rfl (by have := HZ.out; omega)
    rw [show ((4 : Nat) : Int) = 4 from rfl] at hc ⊢
    have HBn := Lib.hid hbx
    have HOn := Lib.hid (show ∀ j, j < 8 → cur'[j]? = some (.int .u8 1) from hox)
    have HEn := Lib.hid (hjx.ext (HE.out.trans (Ext.drew _)) (Nat.le_refl _))
    have HZn := Lib.hid (show 32 ≤ cur'.size by have := HZ.out; omega)
    clear hbx hzx hox hjx HB HO HE HZ
    go_upto_region 20 with fail
    rw [show min (4 : Int) 32 = 4 from by decide]
    go_region_with fail
    all_goals
     go_roundw
     case rel =>
      have hR : ∃ (p : Nat) (cur : Array Value), Value.int .i64 8 = .int .i64 (p : Int) ∧ (p = 1 ∨ p = 2 ∨ p = 4 ∨ p = 8 ∨ p = 16 ∨ p = 32) ∧ Hid (X.heap[w1.heap.size]? = some (.cells cur 5 (0, 0))) ∧ Hid (∀ j, j < p → cur[j]? = some (.int .u8 1)) ∧ Hid (32 ≤ cur.size) ∧ Hid (Ext w1 X) := ⟨8, cur', rfl, by omega, HBn, HOn, HZn, HEn⟩
      first | exact ⟨_, _, _, _, _, _, _, _, _, _, _, _, _, _, _, hR, rfl⟩ | exact ⟨_, _, _, _, _, _, _, _, _, _, _, _, _, _, _, _, hR, rfl⟩ | exact ⟨_, _, _, _, _, _, _, _, _, _, _, _, _, _, _, _, _, hR, rfl⟩ | exact ⟨_, _, _, _, _, _, _, _, _, _, _, _, _, _, _, _, _, _, hR, rfl⟩ | exact ⟨_, _, _, _, _, _, _, _, _, _, _, _, _, _, _, _, _, _, _, hR, rfl⟩ | exact ⟨_, _, _, _, _, _, _, _, _, _, _, _, _, _, _, _, _, _, _, _, hR, rfl⟩ | exact ⟨_, _, _, _, _, _, _, _, _, _, _, _, _, _, _, _, _, _, _, _, _, hR, rfl⟩ | exact ⟨_, _, _, _, _, _, _, _, _, _, _, _, _, _, _, _, _, _, _, _, _, _, hR, rfl⟩ | exact ⟨_, _, _, _, _, _, _, _, _, _, _, _, _, _, _, _, _, _, _, _, _, _, _, hR, rfl⟩
     case measure => change (32 - (8 : Int)).toNat < (32 - (4 : Int)).toNat; decide
  · obtain ⟨X, cur', hc, hbx, hzx, hox, hjx⟩ := ones_copy (w := wr.drew) (p := 8) (k := 8) (dl := 24) (dc := 24) (sl := 8) (sc := 32) (a := ⟨w1.heap.size, 0, none⟩) (show wr.drew.heap[w1.heap.size]? = some (.cells cur 5 (0, 0)) from HB.out) HO.out (by
     intro j hj
     rw [show Addr.add ⟨w1.heap.size, 0, none⟩ j = ⟨w1.heap.size, j, none⟩ by unfold Addr.add; split <;> simp_all, blk_cell (show wr.drew.heap[w1.heap.size]? = some (.cells cur 5 (0, 0)) from HB.out) j]
     exact HO.out j hj) rfl (by have := HZ.out; omega)
    rw [show ((8 : Nat) : Int) = 8 from rfl] at hc ⊢
    have HBn := Lib.hid hbx
    have HOn := Lib.hid (show ∀ j, j < 16 → cur'[j]? = some (.int .u8 1) from hox)
    have HEn := Lib.hid (hjx.ext (HE.out.trans (Ext.drew _)) (Nat.le_refl _))
    have HZn := Lib.hid (show 32 ≤ cur'.size by have := HZ.out; omega)
    clear hbx hzx hox hjx HB HO HE HZ
    go_upto_region 20 with fail
    rw [show min (8 : Int) 32 = 8 from by decide]
    go_region_with fail
    all_goals
     go_roundw
     case rel =>
      have hR : ∃ (p : Nat) (cur : Array Value), Value.int .i64 16 = .int .i64 (p : Int) ∧ (p = 1 ∨ p = 2 ∨ p = 4 ∨ p = 8 ∨ p = 16 ∨ p = 32) ∧ Hid (X.heap[w1.heap.size]? = some (.cells cur 5 (0, 0))) ∧ Hid (∀ j, j < p → cur[j]? = some (.int .u8 1)) ∧ Hid (32 ≤ cur.size) ∧ Hid (Ext w1 X) := ⟨16, cur', rfl, by omega, HBn, HOn, HZn, HEn⟩
      first | exact ⟨_, _, _, _, _, _, _, _, _, _, _, _, _, _, _, hR, rfl⟩ | exact ⟨_, _, _, _, _, _, _, _, _, _, _, _, _, _, _, _, hR, rfl⟩ | exact ⟨_, _, _, _, _, _, _, _, _, _, _, _, _, _, _, _, _, hR, rfl⟩ | exact ⟨_, _, _, _, _, _, _, _, _, _, _, _, _, _, _, _, _, _, hR, rfl⟩ | exact ⟨_, _, _, _, _, _, _, _, _, _, _, _, _, _, _, _, _, _, _, hR, rfl⟩ | exact ⟨_, _, _, _, _, _, _, _, _, _, _, _, _, _, _, _, _, _, _, _, hR, rfl⟩ | exact ⟨_, _, _, _, _, _, _, _, _, _, _, _, _, _, _, _, _, _, _, _, _, hR, rfl⟩ | exact ⟨_, _, _, _, _, _, _, _, _, _, _, _, _, _, _, _, _, _, _, _, _, _, hR, rfl⟩ | exact ⟨_, _, _, _, _, _, _, _, _, _, _, _, _, _, _, _, _, _, _, _, _, _, _, hR, rfl⟩
     case measure => change (32 - (16 : Int)).toNat < (32 - (8 : Int)).toNat; decide
  · obtain ⟨X, cur', hc, hbx, hzx, hox, hjx⟩ := ones_copy (w := wr.drew) (p := 16) (k := 16) (dl := 16) (dc := 16) (sl := 16) (sc := 32) (a := ⟨w1.heap.size, 0, none⟩) (show wr.drew.heap[w1.heap.size]? = some (.cells cur 5 (0, 0)) from HB.out) HO.out (by
     intro j hj
     rw [show Addr.add ⟨w1.heap.size, 0, none⟩ j = ⟨w1.heap.size, j, none⟩ by unfold Addr.add; split <;> simp_all, blk_cell (show wr.drew.heap[w1.heap.size]? = some (.cells cur 5 (0, 0)) from HB.out) j]
     exact HO.out j hj) rfl (by have := HZ.out; omega)
    rw [show ((16 : Nat) : Int) = 16 from rfl] at hc ⊢
    have HBn := Lib.hid hbx
    have HOn := Lib.hid (show ∀ j, j < 32 → cur'[j]? = some (.int .u8 1) from hox)
    have HEn := Lib.hid (hjx.ext (HE.out.trans (Ext.drew _)) (Nat.le_refl _))
    have HZn := Lib.hid (show 32 ≤ cur'.size by have := HZ.out; omega)
    clear hbx hzx hox hjx HB HO HE HZ
    go_upto_region 20 with fail
    rw [show min (16 : Int) 32 = 16 from by decide]
    go_region_with fail
    all_goals
     go_roundw
     case rel =>
      have hR : ∃ (p : Nat) (cur : Array Value), Value.int .i64 32 = .int .i64 (p : Int) ∧ (p = 1 ∨ p = 2 ∨ p = 4 ∨ p = 8 ∨ p = 16 ∨ p = 32) ∧ Hid (X.heap[w1.heap.size]? = some (.cells cur 5 (0, 0))) ∧ Hid (∀ j, j < p → cur[j]? = some (.int .u8 1)) ∧ Hid (32 ≤ cur.size) ∧ Hid (Ext w1 X) := ⟨32, cur', rfl, by omega, HBn, HOn, HZn, HEn⟩
      first | exact ⟨_, _, _, _, _, _, _, _, _, _, _, _, _, _, _, hR, rfl⟩ | exact ⟨_, _, _, _, _, _, _, _, _, _, _, _, _, _, _, _, hR, rfl⟩ | exact ⟨_, _, _, _, _, _, _, _, _, _, _, _, _, _, _, _, _, hR, rfl⟩ | exact ⟨_, _, _, _, _, _, _, _, _, _, _, _, _, _, _, _, _, _, hR, rfl⟩ | exact ⟨_, _, _, _, _, _, _, _, _, _, _, _, _, _, _, _, _, _, _, hR, rfl⟩ | exact ⟨_, _, _, _, _, _, _, _, _, _, _, _, _, _, _, _, _, _, _, _, hR, rfl⟩ | exact ⟨_, _, _, _, _, _, _, _, _, _, _, _, _, _, _, _, _, _, _, _, _, hR, rfl⟩ | exact ⟨_, _, _, _, _, _, _, _, _, _, _, _, _, _, _, _, _, _, _, _, _, _, hR, rfl⟩ | exact ⟨_, _, _, _, _, _, _, _, _, _, _, _, _, _, _, _, _, _, _, _, _, _, _, hR, rfl⟩
     case measure => change (32 - (32 : Int)).toNat < (32 - (16 : Int)).toNat; decide
  · rw [show ((32 : Nat) : Int) = 32 from rfl]
    have hones : bys (List.replicate 32 1) = List.replicate 32 (Value.int .u8 1) := by simp [bys]
    have hRB : RB wr (fun k => k < wr.heap.size) (some ⟨w1.heap.size, 0, none⟩) 32 (List.replicate 32 1) := by
     refine ⟨⟨by simp, by unfold maxLen; omega, by simp [bys], fun _ => ⟨⟨w1.heap.size, 0, none⟩, rfl, blk_lt HB.out, fun j u hu => ?_⟩⟩, fun x hx => by rw [(List.mem_replicate.1 hx).2]; omega, by simp⟩
     rw [hones] at hu
     obtain ⟨h1, h2⟩ := List.getElem?_eq_some_iff.1 hu
     rw [List.length_replicate] at h1
     rw [List.getElem_replicate] at h2
     rw [show Addr.add ⟨w1.heap.size, 0, none⟩ j = ⟨w1.heap.size, j, none⟩ by unfold Addr.add; split <;> simp_all, blk_cell HB.out j, HO.out j h1, h2]
    have HRB := Lib.hid hRB
    clear hRB hones
    go_wp2_with fail
    go_ret
    exact ⟨_, rfl, HRB.out, HE.out⟩
end Go.Proofs.YtjphlimfldcifaaDoor

namespace Go.Proofs.YtjphlimfldcifaaDoor
open Go.RowKit
open Sha

theorem made32 (w : World) : RB (w.alloc (.cells (madeCells #[.int .u8 0] 32) 5)) (fun k => k < (w.alloc (.cells (madeCells #[.int .u8 0] 32) 5)).heap.size) (some ⟨w.heap.size, 0, none⟩) 32 (List.replicate 32 0) := by
 have := (Blk8.made w 32).rb (P := fun k => k < (w.alloc (.cells (madeCells #[.int .u8 0] 32) 5)).heap.size) (by rw [World.size_alloc]; omega) (by simp) (by simp)
 rwa [List.length_replicate] at this
def news (d : List Nat) : List Nat × List Nat := upd2 (List.replicate 32 0) (List.replicate 32 1) d
set_option maxRecDepth 100000 in
set_option maxHeartbeats 8000000 in
theorem new_any {P : Nat → Prop} {A : Option Addr} {c : Nat} {d : List Nat} (w : World) (hk : KW w) (hp : RB w P A c d) (hP : ∀ k, P k → k < w.heap.size) (hl : d.length ≤ 200000) :
 Calls Tryd.prog 9 #[.slice A d.length c] w fun e w' => ∃ b, e = .returned (.pointer (some ⟨b, 0, none⟩)) ∧ w.heap.size ≤ b ∧ DR w' b (news d).1 (news d).2 0 ∧ Ext w w' := by
 have HK := Lib.hid hk
 have HP := Lib.hid hp
 have HPP := Lib.hid hP
 clear hk hp hP
 go_enter Tryd.func9, Tryd.ntmps9
 go_upto_region 1 with fail
 refine Par.region_ext (by kernel_rfl) 6 [0, 0, 2, 7, 15, 31] [] (fun j f X => match j with
  | 0 => ∃ g, f 0 = .slice (some ⟨g, 0, none⟩) 32 32 ∧ RB X (fun k => k < X.heap.size) (some ⟨g, 0, none⟩) 32 (List.replicate 32 0)
  | 1 => ∃ g, f 1 = .slice (some ⟨g, 0, none⟩) 1 1 ∧ X.heap[g]? = some (.cells #[.int .u8 1] 5 (0, 0))
  | 2 => ∃ A, f 2 = .slice A 32 32 ∧ RB X (fun k => k < X.heap.size) A 32 (List.replicate 32 1)
  | 3 => ∃ g A, f 3 = .agg #[.slice (some ⟨g, 0, none⟩) 32 32, .slice A 32 32, .int .i64 0] ∧ RB X (fun k => k < X.heap.size) (some ⟨g, 0, none⟩) 32 (List.replicate 32 0) ∧ RB X (fun k => k < X.heap.size) A 32 (List.replicate 32 1)
  | 4 => ∃ b, f 4 = .pointer (some ⟨b, 0, none⟩) ∧ w.heap.size ≤ b ∧ DR X b (List.replicate 32 0) (List.replicate 32 1) 0
  | 5 => ∃ b, f 5 = .pointer (some ⟨b, 0, none⟩) ∧ w.heap.size ≤ b ∧ DR X b (List.replicate 32 0) (List.replicate 32 1) 0
  | _ => True) (by kernel_rfl) [(4, 0), (5, 1), (6, 2), (7, 3), (8, 4), (3, 5)] (by kernel_rfl) ?_
 refine Par.S 1 5 [(5, 1), (6, 2)] (fun f X hX hR K hK => ?_) ?_
 · have hmk := run_make_row' (P := Tryd.prog) 22 5 (.int .u8 0) 1 Tryd.underlying22 info8 rfl .i64 .i64 32 (by omega) (by omega)
   simp only [Int.cast_ofNat_Int] at hmk
   simp only [yA, yB, yC, yD, yE]
   refine ⟨?_⟩
   go_simp
   exact hK.out _ _ _ (by simp only [yA, yB, yC, yD, yE]) (Ext.alloc _ _) trivial (fun Y hY => ⟨_, rfl, (made32 X).upE hY⟩)
 refine Par.S 2 4 [(4, 0)] (fun f X hX hR K hK => ?_) ?_
 · simp only [yA, yB, yC, yD, yE]
   refine ⟨?_⟩
   go_simp
   exact hK.out _ _ _ (by simp only [yA, yB, yC, yD, yE]) (Ext.alloc _ _) trivial (fun Y hY => ⟨_, rfl, hY.at_ (heap_alloc_new _ _)⟩)
 refine Par.c0 3 3 (fun f => #[f 1, Value.int IntKind.i64 32]) (F' := 22) (fun f X hX hR => ?_) ?_
 · obtain ⟨g1, (e1 : f 1 = _), r1⟩ := hR.out 1 rfl
   simp only [e1]
   refine (repeat_one X r1).mono ?_
   rintro e w2 ⟨A2, rfl, hr, hE⟩
   exact ⟨_, rfl, hE, fun Y hY => ⟨A2, rfl, hr.upE hY⟩⟩
 refine Par.S 4 2 [(4, 0), (5, 1), (6, 2)] (fun f X hX hR K hK => ?_) ?_
 · obtain ⟨g0, (e0 : f 0 = _), r0⟩ := hR.out 0 rfl
   obtain ⟨A2, (e2 : f 2 = _), r2⟩ := hR.out 2 rfl
   simp only [yA, yB, yC, yD, yE, e0, e2]
   refine ⟨?_⟩
   go_simp
   exact hK.out _ _ _ (by simp only [yA, yB, yC, yD, yE, e0, e2]) (Ext.refl _) trivial (fun Y hY => ⟨_, _, rfl, r0.upE hY, r2.upE hY⟩)
 refine Par.S 5 1 [(4, 0), (5, 1), (6, 2), (7, 3)] (fun f X hX hR K hK => ?_) ?_
 · obtain ⟨g3, A3, (e3 : f 3 = _), r3, s3⟩ := hR.out 3 rfl
   simp only [yA, yB, yC, yD, yE, e3]
   refine ⟨?_⟩
   go_simp
   exact hK.out _ _ _ (by simp only [yA, yB, yC, yD, yE, e3]) (Ext.alloc _ _) trivial (fun Y hY => ⟨_, rfl, hX.bsize, DR.ext ⟨_, _, _, _, heap_alloc_new _ _, r3.upE (Ext.alloc _ _), s3.upE (Ext.alloc _ _), by simp, by simp⟩ hY⟩)
 refine Par.S 6 0 [(4, 0), (5, 1), (6, 2), (7, 3), (8, 4)] (fun f X hX hR K hK => ?_) ?_
 · obtain ⟨b4, (e4 : f 4 = _), l4, d4⟩ := hR.out 4 rfl
   simp only [yA, yB, yC, yD, yE, e4]
   refine ⟨?_⟩
   go_simp
   exact hK.out _ _ _ (by simp only [yA, yB, yC, yD, yE, e4]) (Ext.refl _) trivial (fun Y hY => ⟨_, rfl, l4, d4.ext hY⟩)
 refine Par.AllOps.fin ⟨fun f X hX hR hal hap => ?_⟩
 obtain ⟨g0, (e0 : f 0 = _), r0⟩ := hR 0 (by decide)
 obtain ⟨g1, (e1 : f 1 = _), r1⟩ := hR 1 (by decide)
 obtain ⟨A2, (e2 : f 2 = _), r2⟩ := hR 2 (by decide)
 obtain ⟨g3, A3, (e3 : f 3 = _), r3, s3⟩ := hR 3 (by decide)
 obtain ⟨b4, (e4 : f 4 = _), l4, d4⟩ := hR 4 (by decide)
 obtain ⟨b, (e5 : f 5 = _), lb, db⟩ := hR 5 (by decide)
 simp only [yA, yB, yD, yE, e0, e1, e2, e3, e4, e5]
 clear hR hal hap e0 e1 e2 e3 e4 e5
 refine Par.Chain.done ?_
 have H := Lib.hid (update_any X (HK.out.ext hX) db (HP.out.below hX HPP.out) (fun k hk => Nat.lt_of_lt_of_le (HPP.out k hk) hX.bsize) hl)
 clear r0 r1 r2 r3 s3 l4 d4 db HP HPP
 have HX := Lib.hid hX
 clear hX
 go_wp2_with fail
 refine H.out.mono ?_
 rintro e w1 ⟨rfl, hd, hf⟩
 have HD := Lib.hid hd
 have HF := Lib.hid (hf.ext' HX.out lb HX.out.bsize)
 clear hd hf H
 go_wp2_with fail
 go_ret
 exact ⟨b, rfl, lb, HD.out, HF.out⟩
end Go.Proofs.YtjphlimfldcifaaDoor

namespace Go.Proofs.YtjphlimfldcifaaDoor
open Go.RowKit
open Sha

theorem two_made (w : World) (cs : Array Value) (t : TypeId) :
 Blk8 (((w.alloc (.cells (madeCells #[.int .u8 0] 32) 5)).alloc (.cells (madeCells #[.int .u8 0] 32) 5)).alloc (.cells cs t)) w.heap.size (List.replicate 32 0) ∧
 Blk8 (((w.alloc (.cells (madeCells #[.int .u8 0] 32) 5)).alloc (.cells (madeCells #[.int .u8 0] 32) 5)).alloc (.cells cs t)) (w.heap.size + 1) (List.replicate 32 0) ∧
 (((w.alloc (.cells (madeCells #[.int .u8 0] 32) 5)).alloc (.cells (madeCells #[.int .u8 0] 32) 5)).alloc (.cells cs t)).heap[w.heap.size + 1 + 1]? = some (.cells cs t (0, 0)) ∧
 Ext w (((w.alloc (.cells (madeCells #[.int .u8 0] 32) 5)).alloc (.cells (madeCells #[.int .u8 0] 32) 5)).alloc (.cells cs t)) := by
 have m2 := Blk8.made (w.alloc (.cells (madeCells #[.int .u8 0] 32) 5)) 32
 have m3 := heap_alloc_new ((w.alloc (.cells (madeCells #[.int .u8 0] 32) 5)).alloc (.cells (madeCells #[.int .u8 0] 32) 5)) (.cells cs t)
 rw [World.size_alloc] at m2
 rw [World.size_alloc, World.size_alloc] at m3
 exact ⟨(Ext.alloc _ _).at_ ((Ext.alloc _ _).at_ (Blk8.made w 32)), (Ext.alloc _ _).at_ m2, m3, ((Ext.alloc _ _).trans (Ext.alloc _ _)).trans (Ext.alloc _ _)⟩
theorem ones_step {k : Nat} (h : k < 32) : List.set (List.replicate k 1 ++ List.replicate (32 - k) 0 : List Nat) k 1 = List.replicate (k + 1) 1 ++ List.replicate (32 - (k + 1)) 0 := by
 rw [show 32 - k = (32 - (k + 1)) + 1 by omega, List.replicate_succ (n := 32 - (k + 1)), List.set_append_right _ _ (by simp), List.replicate_succ' (n := k)]
 simp
set_option maxRecDepth 100000 in
set_option maxHeartbeats 8000000 in
theorem rnew_any {P : Nat → Prop} {A : Option Addr} {c : Nat} {d : List Nat} (w : World) (hp : RB w P A c d) (hP : ∀ k, P k → k < w.heap.size) (hl : d.length ≤ 200000) :
 Calls Tryd.prog 10 #[.slice A d.length c] w fun e w' => ∃ b, e = .returned (.pointer (some ⟨b, 0, none⟩)) ∧ w.heap.size ≤ b ∧ ER w' b (news d).1 (news d).2 0 ∧ Ext w w' := by
 have HP := Lib.hid hp
 have HPP := Lib.hid hP
 clear hp hP
 have hmk := run_make_row' (P := Tryd.prog) 22 5 (.int .u8 0) 1 Tryd.underlying22 info8 rfl .i64 .i64 32 (by omega) (by omega)
 simp only [Int.cast_ofNat_Int] at hmk
 go_enter Tryd.func10, Tryd.ntmps10
 go_upto_region 1 with fail
 go_cut [3] from 4 (fun s3 wx => ∃ b gk gv : Nat, s3 = .pointer (some ⟨b, 0, none⟩) ∧ gk ≠ gv ∧ b ≠ gv ∧ w.heap.size ≤ b ∧ w.heap.size ≤ gv ∧ Hid (Blk8 wx gk (List.replicate 32 0)) ∧ Hid (Blk8 wx gv (List.replicate 32 0)) ∧ Hid (wx.heap[b]? = some (.cells #[.slice (some ⟨gk, 0, none⟩) 32 32, .slice (some ⟨gv, 0, none⟩) 32 32, .int .i64 0] 49 (0, 0))) ∧ Hid (Ext w wx))
 case first =>
  go_region_with fail
  all_goals
   go_wp2_with fail
   go_meet
   case rel => first
    | exact ⟨_, _, _, rfl, by omega, by omega, by omega, by omega, Lib.hid ((Ext.drew _).at_ (two_made w _ _).1), Lib.hid ((Ext.drew _).at_ (two_made w _ _).2.1), Lib.hid ((Ext.drew _).at_ (two_made w _ _).2.2.1), Lib.hid ((two_made w _ _).2.2.2.trans (Ext.drew _))⟩
    | exact ⟨_, _, _, rfl, by omega, by omega, by omega, by omega, Lib.hid ((Ext.drew _).at_ (two_made w _ _).2.1), Lib.hid ((Ext.drew _).at_ (two_made w _ _).1), Lib.hid ((Ext.drew _).at_ (two_made w _ _).2.2.1), Lib.hid ((two_made w _ _).2.2.2.trans (Ext.drew _))⟩
    | exact ⟨_, _, _, rfl, by omega, by omega, by omega, by omega, Lib.hid ((Ext.drewN _ _).at_ (two_made w _ _).1), Lib.hid ((Ext.drewN _ _).at_ (two_made w _ _).2.1), Lib.hid ((Ext.drewN _ _).at_ (two_made w _ _).2.2.1), Lib.hid ((two_made w _ _).2.2.2.trans (Ext.drewN _ _))⟩
    | exact ⟨_, _, _, rfl, by omega, by omega, by omega, by omega, Lib.hid ((Ext.drewN _ _).at_ (two_made w _ _).2.1), Lib.hid ((Ext.drewN _ _).at_ (two_made w _ _).1), Lib.hid ((Ext.drewN _ _).at_ (two_made w _ _).2.2.1), Lib.hid ((two_made w _ _).2.2.2.trans (Ext.drewN _ _))⟩
    | exact ⟨_, _, _, rfl, by omega, by omega, by omega, by omega, Lib.hid ((Ext.refl _).at_ (two_made w _ _).1), Lib.hid ((Ext.refl _).at_ (two_made w _ _).2.1), Lib.hid ((Ext.refl _).at_ (two_made w _ _).2.2.1), Lib.hid ((two_made w _ _).2.2.2.trans (Ext.refl _))⟩
    | exact ⟨_, _, _, rfl, by omega, by omega, by omega, by omega, Lib.hid ((Ext.refl _).at_ (two_made w _ _).2.1), Lib.hid ((Ext.refl _).at_ (two_made w _ _).1), Lib.hid ((Ext.refl _).at_ (two_made w _ _).2.2.1), Lib.hid ((two_made w _ _).2.2.2.trans (Ext.refl _))⟩
 case rest =>
  obtain ⟨b, gk, gv, rfl, hn1, hn2, hb, hv, HK, HV, HB, HE⟩ := hcut
  clear hmk
  go_wp2_with fail
  go_loopw [4] (fun s4 wx => ∃ k : Nat, s4 = .int .i64 (k : Int) ∧ k ≤ 32 ∧ Hid (Blk8 wx gk (List.replicate 32 0)) ∧ Hid (Blk8 wx gv (List.replicate k 1 ++ List.replicate (32 - k) 0)) ∧ Hid (wx.heap[b]? = some (.cells #[.slice (some ⟨gk, 0, none⟩) 32 32, .slice (some ⟨gv, 0, none⟩) 32 32, .int .i64 0] 49 (0, 0))) ∧ Hid (Ext w wx)) (fun s4 _ => (32 - intOf s4).toNat)
  case atStart => exact ⟨0, rfl, by omega, HK, HV, HB, HE⟩
  case round =>
   clear HK HV HB HE
   obtain ⟨k, rfl, hk, HK, HV, HB, HE⟩ := hrel
   by_cases hlt : k < 32
   · have k32 : (k : Int) < 32 := by omega
     have vc : wr.cell? ⟨b, 1, none⟩ = some (.slice (some ⟨gv, 0, none⟩) 32 32) := blk_cell HB.out 1
     have ck := HV.out.cell (i := k) (by simp; omega)
     have fk := HV.out.free k
     have j := (Just.refl gv wr).set k (.int .u8 1)
     have HV2 := Lib.hid (show Blk8 (wr.setCell ⟨gv, k, none⟩ (.int .u8 1)) gv (List.replicate (k + 1) 1 ++ List.replicate (32 - (k + 1)) 0) by
      have := HV.out.set k 1
      rw [ones_step hlt] at this
      exact this)
     have HK2 := Lib.hid (show Blk8 (wr.setCell ⟨gv, k, none⟩ (.int .u8 1)) gk (List.replicate 32 0) from j.at_ hn1 HK.out)
     have HB2 := Lib.hid (j.at_ hn2 HB.out)
     have HE2 := Lib.hid (j.ext HE.out hv)
     clear j HK HV HB HE
     go_wp2_with fail
     go_roundw
     case rel => exact ⟨k + 1, by go_num, by omega, HK2, HV2, HB2, HE2⟩
     case measure => simp [intOf]; omega
   · obtain rfl : k = 32 := by omega
     rw [show ((32 : Nat) : Int) = 32 from rfl]
     have hv' : Blk8 wr gv (List.replicate 32 1) := by simpa using HV.out
     have hd : ER wr b (List.replicate 32 0) (List.replicate 32 1) 0 := ⟨_, _, _, _, HB.out, by simpa using HK.out.rb (P := fun g => g < wr.heap.size) (blk_lt HK.out) (by simp) (by simp), by simpa using hv'.rb (P := fun g => g < wr.heap.size) (blk_lt hv') (by simp) (by simp), by simp, by simp⟩
     have H := Lib.hid (rupdate_any wr hd (HP.out.below HE.out HPP.out) (fun k hk => Nat.lt_of_lt_of_le (HPP.out k hk) HE.out.bsize) hl)
     clear hv' hd HK HV HB
     go_wp2_with fail
     refine H.out.mono ?_
     rintro e w1 ⟨rfl, hd, hf⟩
     have HD := Lib.hid hd
     have HF := Lib.hid (hf.ext' HE.out hb HE.out.bsize)
     clear hd hf H
     go_wp2_with fail
     go_ret
     exact ⟨b, rfl, hb, HD.out, HF.out⟩
end Go.Proofs.YtjphlimfldcifaaDoor

namespace Go.Proofs.YtjphlimfldcifaaDoor
open Go.RowKit
open Sha

def CL (w : World) (F b : Nat) (k v : List Nat) (n : Int) (A : Option Addr) (c : Nat) (out : List Nat) : Prop :=
 ∃ Ak ck Av cv, w.heap[b]? = some (.cells #[.slice Ak 32 ck, .slice Av 32 cv, .int .i64 n] 49 (0, 0)) ∧ RB w (fun g => g < F) Ak ck k ∧ F ≤ w.heap.size ∧ RB w (fun g => g < w.heap.size) Av cv v ∧ k.length = 32 ∧ v.length = 32 ∧ OW w F A c out
theorem CL.er {w : World} {F b c : Nat} {k v out : List Nat} {n : Int} {A : Option Addr} (h : CL w F b k v n A c out) : ER w b k v n := by
 obtain ⟨Ak, ck, Av, cv, h1, h2, hF, h3, h4, h5, _⟩ := h
 exact ⟨Ak, ck, Av, cv, h1, h2.mono fun _ hg => Nat.lt_of_lt_of_le hg hF, h3, h4, h5⟩
theorem CL.ow {w : World} {F b c : Nat} {k v out : List Nat} {n : Int} {A : Option Addr} (h : CL w F b k v n A c out) : OW w F A c out := let ⟨_, _, _, _, _, _, _, _, _, _, h⟩ := h; h
theorem ER.cl {w : World} {b : Nat} {k v : List Nat} {n : Int} (h : ER w b k v n) : CL w w.heap.size b k v n none 0 [] := by
 obtain ⟨Ak, ck, Av, cv, h1, h2, h3, h4, h5⟩ := h
 exact ⟨Ak, ck, Av, cv, h1, h2, Nat.le_refl _, h3, h4, h5, ⟨⟨by simp [bys], .inl ⟨rfl, rfl⟩⟩, by simp⟩⟩
theorem OW.erb {w X : World} {b : Nat} {cs : Array Value} {A : Option Addr} {c base : Nat} {l : List Nat} (h : OW w base A c l) (hj : Just b w X) (hb : w.heap[b]? = some (.cells cs 49 (0, 0))) : OW X base A c l :=
 h.same fun g _ cs' hk => hj.at_ (fun e => by
  rw [e, hb] at hk
  injection Option.some.inj hk with _ e2
  exact absurd e2 (by decide)) hk
theorem own_nee {w : World} {b g base c : Nat} {cs : Array Value} {A : Option Addr} {l : List Nat} (hb : w.heap[b]? = some (.cells cs 49 (0, 0))) (h : OW w base A c l) (hg : (Value.slice A l.length c).ownBlock = some g) : b ≠ g := by
 intro e
 obtain ⟨_, cs', hc⟩ := h.own hg
 rw [← e, hb] at hc
 injection Option.some.inj hc with _ e2
 exact absurd e2 (by decide)
theorem CL.turn {w w1 : World} {F b c c' : Nat} {k v v' out : List Nat} {n : Int} {A A' : Option Addr} (h : CL w F b k v n A c out) (hE : Ext w w1) (ho : OW w1 w.heap.size A' c' v') (hl : v'.length = 32) :
 CL (w1.setCell ⟨b, 1, none⟩ (.slice A' 32 c')) F b k v' n A c out ∧ OW (w1.setCell ⟨b, 1, none⟩ (.slice A' 32 c')) w.heap.size A' c' v' ∧ (w1.setCell ⟨b, 1, none⟩ (.slice A' 32 c')).cell? ⟨b, 1, none⟩ = some (.slice A' 32 c') ∧ (∀ g, (Value.slice A out.length c).ownBlock = some g → g < w.heap.size) := by
 have hd := h.er.ext hE
 obtain ⟨Ak, ck, Av, cv, h1, h2, hF, h3, h4, h5, h6⟩ := h
 have j := (Just.refl b w1).set 1 (.slice A' 32 c')
 have h1' := hE.at_ h1
 have ho' := ho.erb j h1'
 exact ⟨⟨Ak, ck, A', c', blk_set h1' 1 _, (h2.below hE (fun _ hg => Nat.lt_of_lt_of_le hg hF)).er (fun _ hg => Nat.lt_of_lt_of_le hg (Nat.le_trans hF hE.bsize)) hd (ER.frS _ _), Nat.le_trans hF (Nat.le_trans hE.bsize (ER.frS (b := b) 1 (.slice A' 32 c')).size), ho'.rb' (by omega), h4, hl, (h6.same fun g _ cs hk => hE.at_ hk).erb j h1'⟩, ho', by rw [blk_cell (blk_set h1' 1 _) 1]; rfl, fun g hg => let ⟨_, cs, hc⟩ := h6.own hg; blk_lt hc⟩
theorem CL.app {w w' : World} {F B b c c2 : Nat} {k v out : List Nat} {n : Int} {A A' A2 : Option Addr} {c' : Nat} (h : CL w F b k v n A c out) (hv : OW w B A' c' v) (hc : w.cell? ⟨b, 1, none⟩ = some (.slice A' 32 c')) (hB : ∀ g, (Value.slice A out.length c).ownBlock = some g → g < B)
 (hg : w.grownBy w' (Value.slice A out.length c).ownBlock) (ho : OW w' F A2 c2 (out ++ v)) : CL w' F b k v n A2 c2 (out ++ v) := by
 obtain ⟨Ak, ck, Av, cv, h1, h2, hF, h3, h4, h5, h6⟩ := h
 have e1 := blk_cell h1 1
 rw [hc] at e1
 simp only [List.getElem?_toArray, List.getElem?_cons_zero, List.getElem?_cons_succ, Option.some.injEq, Value.slice.injEq] at e1
 obtain ⟨rfl, _, rfl⟩ := e1
 have k1 := (hg.block b (blk_lt h1) (fun e => own_nee h1 h6 e.symm rfl)).trans h1
 refine ⟨Ak, ck, A', c', k1, h2.keep fun p hp => World.cell?_of_block (hg.block _ (Nat.lt_of_lt_of_le hp hF) (fun e => ?_)), Nat.le_trans hF hg.size, (hv.keepOwn fun g cs hq hk => (hg.block g (blk_lt hk) (fun e => ?_)).trans hk).rb' (by omega), h4, h5, ho⟩
 · have h8 := (h6.own e.symm).1
   omega
 · have h7 := (hv.own hq).1
   have h8 := hB g e.symm
   omega
set_option maxRecDepth 100000 in
set_option maxHeartbeats 8000000 in
theorem rbytes_any {b m : Nat} {k v : List Nat} {num : Int} (w : World) (hd : ER w b k v num) (hm : 0 < m) (hm2 : m ≤ 65536) (hn : 0 ≤ num) (hn2 : num < 1000000000) :
 Calls Tryd.prog 12 #[.pointer (some ⟨b, 0, none⟩), .int .i64 (m : Int)] w fun e w' => ∃ A c, e = .returned (.slice A m c) ∧ RB w' (In w.heap.size w'.heap.size) A c ((douts k v ((m + 31) / 32)).take m) ∧ ER w' b (upd2 k (dvs k v ((m + 31) / 32)) []).1 (upd2 k (dvs k v ((m + 31) / 32)) []).2 (num + 1) ∧ Fr b w.heap.size w w' := by
 have HB0 := Lib.hid hd.cl
 have HD0 := Lib.hid hd
 have m1 : ¬ (m : Int) < 1 := by omega
 have m2 : ¬ (65536 : Int) < (m : Int) := by omega
 clear hd
 go_enter Tryd.func12, Tryd.ntmps12
 go_wp2_with fail
 go_loopw [5] (fun sv wr => ∃ (q : Nat) (A : Option Addr) (c : Nat), sv = .slice A (douts k v q).length c ∧ 32 * q < m + 32 ∧ Hid (CL wr w.heap.size b k (dvs k v q) num A c (douts k v q)) ∧ Hid (Fr b w.heap.size w wr)) (fun sv _ => m + 32 - (match sv with | .slice _ l _ => l | _ => 0))
 case atStart => exact ⟨0, none, 0, rfl, by omega, HB0, Lib.hid (Fr.refl _ _ _)⟩
 case round =>
  clear HB0
  obtain ⟨q, A, c, rfl, hq, HB, HF⟩ := hrel
  have hql := douts_len k v q
  by_cases hlt : 32 * q < m
  · have hl1 : ((douts k v q).length : Int) < (m : Int) := by omega
    have HD := Lib.hid HB.out.er
    have Hql := Lib.hid hql
    have Hv' := Lib.hid (show hmac k (dvs k v q) = dvs k v (q + 1) from rfl)
    have Hdo := Lib.hid (show douts k v (q + 1) = douts k v q ++ dvs k v (q + 1) from rfl)
    have hol : (douts k v (q + 1)).length = 32 * q + 32 := by rw [douts_len]; omega
    have Hol := Lib.hid hol
    have fsz := Lib.hid HF.out.size
    obtain ⟨o, ho⟩ : ∃ o, douts k v q = o := ⟨_, rfl⟩
    obtain ⟨v0, hv0⟩ : ∃ o, dvs k v q = o := ⟨_, rfl⟩
    rw [ho] at HB Hql Hdo hl1 hql
    rw [hv0] at HB HD Hv'
    rw [ho]
    clear hql hol
    go_upto_region 5 with fail
    obtain ⟨l, hol⟩ : ∃ l, o.length = l := ⟨_, rfl⟩
    rw [hol]
    rw [hol] at hl1 Hql
    obtain ⟨Ak, ck, Av, cv, h1, h2, h3, h4, h5⟩ := id HD.out
    have kc : wr.cell? ⟨b, 0, none⟩ = some (.slice Ak 32 ck) := blk_cell h1 0
    have vc : wr.cell? ⟨b, 1, none⟩ = some (.slice Av 32 cv) := blk_cell h1 1
    have H2 := Lib.hid h2
    have H3 := Lib.hid h3
    have H4 := Lib.hid h4
    have H5 := Lib.hid h5
    clear h1 h2 h3 h4 h5
    refine Par.region_ext (by kernel_rfl) 13 [0, 0, 2, 6, 14, 0, 32, 96, 224, 480, 1022, 2047, 4095, 8191] [] (fun j f X => match j with
     | 0 => f 0 = .pointer (some ⟨b, 0, none⟩)
     | 1 => f 1 = .pointer (some ⟨b, 0, none⟩)
     | 2 => f 2 = .pointer (some ⟨b, 0, none⟩)
     | 3 => f 3 = .pointer (some ⟨b, 0, none⟩)
     | 4 => f 4 = .slice Ak 32 ck
     | 5 => f 5 = .pointer (some ⟨b, 0, none⟩)
     | 6 => f 6 = .pointer (some ⟨b, 0, none⟩)
     | 7 => f 7 = .pointer (some ⟨b, 1, none⟩)
     | 8 => f 8 = .slice Av 32 cv
     | 9 => ∃ g, f 9 = .slice (some ⟨g, 0, none⟩) 1 1 ∧ RP X (fun k => k < X.heap.size) (some ⟨g, 0, none⟩) 1 [v0]
     | 10 => ∃ A c, f 10 = .slice A 32 c ∧ OW X wr.heap.size A c (hmac k v0)
     | 11 => f 11 = .pointer (some ⟨b, 0, none⟩)
     | 12 => f 12 = .pointer (some ⟨b, 1, none⟩)
     | _ => True) (by kernel_rfl) [(16, 0), (17, 1), (18, 2), (19, 3), (20, 4), (21, 5), (22, 6), (23, 7), (24, 8), (25, 9), (26, 10), (27, 11), (28, 12)] (by kernel_rfl) ?_
    refine Par.v0 1 12 ?_
    refine Par.v0 2 11 ?_
    refine Par.v1 3 10 1 ?_
    refine Par.v1 4 9 2 ?_
    refine Par.ld1 5 8 3 kc ?_
    refine Par.v0 6 7 ?_
    refine Par.v1 7 6 5 ?_
    refine Par.v1 8 5 6 ?_
    refine Par.ld1 9 4 7 vc ?_
    refine Par.S 10 3 [(16, 0), (17, 1), (18, 2), (19, 3), (20, 4), (21, 5), (22, 6), (23, 7), (24, 8)] (fun f X hX hR K hK => ?_) ?_
    · have e8 : f 8 = _ := hR.out 8 rfl
      simp only [yA, yB, yC, yD, yE, e8]
      refine ⟨?_⟩
      go_simp
      exact hK.out _ _ _ (by simp only [yA, yB, yC, yD, yE, e8]) (Ext.alloc _ _) trivial (fun Y hY => ⟨_, rfl, (RP.lit1 X (H3.out.upE hX) H5.out).up hY⟩)
    refine Par.c0 11 2 (fun f => #[f 4, f 9]) (F' := 26) (fun f X hX hR => ?_) ?_
    · have e4 : f 4 = _ := hR.out 4 rfl
      obtain ⟨g9, (e9 : f 9 = _), r9⟩ := hR.out 9 rfl
      simp only [e4, e9]
      refine (rhm4_any X (H2.out.upE hX) H4.out r9 (fun _ h => h) (by have := H5.out; simp; omega)).mono ?_
      rintro e w2 ⟨A2, c2, rfl, ho, hE⟩
      exact ⟨_, rfl, hE, fun Y hY => ⟨A2, c2, rfl, by have := (ho.mono hX.bsize).extE hY; simpa using this⟩⟩
    refine Par.v1 12 1 0 ?_
    refine Par.v1 13 0 11 ?_
    refine Par.AllOps.fin ⟨fun f X hX hR hal hap => ?_⟩
    obtain ⟨g9, (e9 : f 9 = _), r9⟩ := hR 9 (by decide)
    obtain ⟨A10, c10, (e10 : f 10 = _), o10⟩ := hR 10 (by decide)
    have e12 : f 12 = _ := hR 12 (by decide)
    simp only [yA, yB, yD, yE, e9, e10, e12]
    clear hR hal hap e9 e10 e12
    replace vc := hX.cell vc
    have fr := (HD.out.ext hX).free 1
    refine Par.Chain.next (fun K hK => ⟨Par.want (by kernel_rfl) ?_⟩)
    go_simp
    refine hK.out _ _ ?_
    refine Par.Chain.done ?_
    obtain ⟨v', hv'⟩ : ∃ x, hmac k v0 = x := ⟨_, rfl⟩
    have hvl : v'.length = 32 := by rw [← hv']; exact hmac_len _ _
    rw [hv'] at o10 Hv'
    obtain ⟨hb1, hv1, hc1, hown⟩ := HB.out.turn hX o10 hvl
    have hf1 := (Fr.below hX (Nat.le_refl _)).trans (Fr.just ((Just.refl b X).set 1 (.slice A10 32 c10)) hX.bsize)
    have HF1 := Lib.hid (HF.out.trans (hf1.mono fsz.out))
    have HB1 := Lib.hid hb1
    have HV1 := Lib.hid hv1
    have Hown := Lib.hid hown
    have Hvl := Lib.hid hvl
    clear hb1 hv1 hown hvl hf1 hX o10 HB HF HD H2 H3 H4 H5 fr vc kc r9 hv'
    generalize X.setCell ⟨b, 1, none⟩ (.slice A10 32 c10) = X1 at *
    go_upto_region 6 with fail
    have hO1 := Lib.hid HB1.out.ow
    have hP1 := Lib.hid (HV1.out.rb (by rw [Hvl.out]; omega))
    have hlen := Lib.hid (show o.length + v'.length ≤ 100000000 by rw [Hvl.out, hol, Hql.out]; omega)
    have hbase := Lib.hid HF1.out.size
    go_wp2_with (at_builtin; refine app8g rfl (.tmp 29) (.tmp 33) rfl w.heap.size (by rw [hol]; rfl) hO1.out (by rw [Hvl.out]; rfl) hP1.out hlen.out hbase.out ?_; intro A2 c2 W2 ho2 hg2; have HO2 := Lib.hid ho2; have HG2 := Lib.hid hg2; clear ho2 hg2)
    have hba := HB1.out.app HV1.out hc1 Hown.out HG2.out HO2.out
    have e1 : o ++ v' = douts k v (q + 1) := by rw [Hdo.out, ← Hv'.out]
    rw [e1, Hv'.out] at hba
    have HBn := Lib.hid hba
    have HFn := Lib.hid (HF1.out.trans (Fr.below (b := b) (Below.grown (Below.refl w.heap.size X1) HG2.out hbase.out (own_base hO1.out.1)) (Nat.le_refl _)))
    have E1 := Lib.hid (show l + 32 = (douts k v (q + 1)).length by rw [Hol.out, Hql.out])
    have Hvl2 := Hvl.out
    clear hba e1
    go_roundw
    case rel => exact ⟨q + 1, A2, c2, by rw [← E1.out, ← Hvl2], by omega, HBn, HFn⟩
    case measure => simp [hol, Hvl2]; have := Hql.out; omega
  · obtain ⟨M, hM⟩ : ∃ M, (m + 31) / 32 = M := ⟨_, rfl⟩
    obtain rfl : q = M := by omega
    have HM := Lib.hid hM
    have hl1 : ¬ ((douts k v q).length : Int) < (m : Int) := by omega
    have H2 := Lib.hid (rupdate_any (d := []) wr HB.out.er (RB.nil_ wr (fun _ => False)) (fun _ h => h.elim) (by simp))
    have Hql := Lib.hid hql
    have hrb := HB.out.ow.rb (by omega)
    have fsz := HF.out.size
    clear hql hM
    go_wp2_with fail
    refine H2.out.mono ?_
    rintro e w1 ⟨rfl, hd1, hf1⟩
    have hR1 := Lib.hid (hrb.er (fun _ hk => hk.2) HB.out.er hf1)
    have HF1 := Lib.hid (HF.out.trans (hf1.mono fsz))
    obtain ⟨Ak, ck, Av', cv', h1, _⟩ := id hd1
    have nc := blk_cell h1 2
    simp only [List.getElem?_toArray, List.getElem?_cons_zero, List.getElem?_cons_succ] at nc
    have fr := hd1.free 2
    have hd2 := hd1.setN (num + 1)
    have hf2 := HF1.out.trans ((Fr.just (b := b) ((Just.refl b w1).set 2 (.int .i64 (num + 1))) (Nat.le_refl _)).mono HF1.out.size)
    have hR2 := hR1.out.er (fun _ hk => Nat.lt_of_lt_of_le hk.2 hf1.size) hd1 (Fr.just (b := b) ((Just.refl b w1).set 2 (.int .i64 (num + 1))) (Nat.le_refl _))
    have HD2 := Lib.hid hd2
    have HF2 := Lib.hid hf2
    have HR2 := Lib.hid hR2
    have hc := hrb.cap
    have b1 : (0 : Int) ≤ (m : Int) := by omega
    have b2 : (m : Int) ≤ (c : Int) := by have := Hql.out; omega
    have hwz := IntWalk.i64_in (num + 1) (by omega)
    have fz2 : wr.heap.size ≤ (w1.setCell ⟨b, 2, none⟩ (.int .i64 (num + 1))).heap.size := by simpa [World.setCell] using hf1.size
    clear hd1 hf1 hd2 hf2 hR2 h1 hrb H2 HB HF hR1 HF1
    go_upto_region 9 with fail
    go_wp2_with fail
    go_ret
    rw [HM.out]
    have hsl := HR2.out.mid' (k := 0) (m := m) (c' := c) (by omega) (by have := Hql.out; omega) (by have := Hql.out; omega) (by have := hc.2.1; unfold maxLen; omega) (A' := A) (fun _ => by cases A <;> simp [Addr.add])
    rw [List.drop_zero, Nat.sub_zero] at hsl
    exact ⟨A, c, rfl, hsl.mono fun g hg => ⟨hg.1, Nat.lt_of_lt_of_le hg.2 fz2⟩, HD2.out, HF2.out⟩
set_option maxRecDepth 100000 in
set_option maxHeartbeats 8000000 in
theorem rbytes_no {b : Nat} (m : Int) (hm : m < 1 ∨ 65536 < m) (w : World) :
 Calls Tryd.prog 12 #[.pointer (some ⟨b, 0, none⟩), .int .i64 m] w fun e w' => e = .returned (.slice none 0 0) ∧ w' = w := by
 go_enter Tryd.func12, Tryd.ntmps12
 rcases hm with h | h
 · go_wp2
   go_ret
   exact ⟨rfl, rfl⟩
 · have h1 : ¬ m < 1 := by omega
   go_wp2
   go_ret
   exact ⟨rfl, rfl⟩
set_option maxRecDepth 100000 in
set_option maxHeartbeats 8000000 in
theorem rreseed_any {b : Nat} {k v d : List Nat} {n : Int} {P : Nat → Prop} {A : Option Addr} {c : Nat} (w : World) (hd : ER w b k v n) (hp : RB w P A c d) (hP : ∀ k, P k → k < w.heap.size) (hl : d.length ≤ 200000) :
 Calls Tryd.prog 20 #[.pointer (some ⟨b, 0, none⟩), .slice A d.length c] w fun e w' => e = .returned (.tuple #[]) ∧ ER w' b (upd2 k v d).1 (upd2 k v d).2 0 ∧ Fr b w.heap.size w w' := by
 have H := Lib.hid (rupdate_any w hd hp hP hl)
 clear hd hp hP hl
 go_enter Tryd.func20, Tryd.ntmps20
 go_wp2_with fail
 refine H.out.mono ?_
 rintro e w1 ⟨rfl, hd1, hf1⟩
 obtain ⟨Ak, ck, Av, cv, h1, _⟩ := id hd1
 have nc : w1.cell? ⟨b, 2, none⟩ = some (.int .i64 n) := blk_cell h1 2
 have fr := hd1.free 2
 have HD := Lib.hid (hd1.setN 0)
 have HF := Lib.hid (hf1.trans ((Fr.just (b := b) ((Just.refl b w1).set 2 (.int .i64 0)) (Nat.le_refl _)).mono hf1.size))
 clear h1 hd1 hf1 H
 go_wp2_with fail
 go_end0
 exact ⟨rfl, HD.out, HF.out⟩
end Go.Proofs.YtjphlimfldcifaaDoor

namespace Go.Proofs.YtjphlimfldcifaaDoor
open Go.RowKit Go.Shelf
open Sha

def CK (W W' : World) : Prop := W.heap.size ≤ W'.heap.size ∧ ∀ (b : Nat) (cs : Array Value) (T : TypeId) (fr : Nat × Nat), W.heap[b]? = some (.cells cs T fr) → W'.heap[b]? = some (.cells cs T fr)
theorem CK.cell {W W' : World} (h : CK W W') {p : Addr} {v : Value} (hp : W.cell? p = some v) : W'.cell? p = some v := by
 have hb : ∃ cs T fr, W.heap[p.block]? = some (.cells cs T fr) := by
  unfold World.cell? at hp
  split at hp
  · rename_i cs T fr hc
    exact ⟨cs, T, fr, hc⟩
  all_goals cases hp
 obtain ⟨cs, T, fr, hb⟩ := hb
 exact (World.cell?_of_block ((h.2 _ _ _ _ hb).trans hb.symm)).trans hp
theorem RB.ck {W W' : World} {A : Option Addr} {c : Nat} {d : List Nat} (h : RB W (fun g => g < W.heap.size) A c d) (hk : CK W W') : RB W' (fun g => g < W'.heap.size) A c d :=
 (h.by_ fun _ _ _ hc => hk.cell hc).mono fun _ hg => Nat.lt_of_lt_of_le hg hk.1
theorem KW.ck {W W' : World} (h : KW W) (hk : CK W W') : KW W' := fun i hi => let ⟨y, h1, h2⟩ := h i hi; ⟨y, hk.cell h1, h2⟩
theorem DR.ck {W W' : World} {b : Nat} {k v : List Nat} {n : Int} (h : DR W b k v n) (hk : CK W W') : DR W' b k v n := let ⟨Ak, ck, Av, cv, h1, h2, h3, h4, h5⟩ := h; ⟨Ak, ck, Av, cv, hk.2 _ _ _ _ h1, h2.ck hk, h3.ck hk, h4, h5⟩
theorem ER.ck {W W' : World} {b : Nat} {k v : List Nat} {n : Int} (h : ER W b k v n) (hk : CK W W') : ER W' b k v n := let ⟨Ak, ck, Av, cv, h1, h2, h3, h4, h5⟩ := h; ⟨Ak, ck, Av, cv, hk.2 _ _ _ _ h1, h2.ck hk, h3.ck hk, h4, h5⟩
theorem CK.grown {X X' : World} {row : Option Nat} {B : Nat} (hg : X.grownBy X' row) (hr : ∀ r, row = some r → B ≤ r ∧ ∃ o : Obj, X.heap[r]? = some o ∧ o.isCells = false) : CK X X' :=
 ⟨hg.size, fun _b _cs _T _fr hb => (grownBy_keeps_cells hg (fun r e => (hr r e).2) hb rfl).trans hb⟩
theorem Ext.grown {w X X' : World} {row : Option Nat} {B : Nat} (hE : Ext w X) (hB : w.heap.size ≤ B) (hg : X.grownBy X' row) (hr : ∀ r, row = some r → B ≤ r ∧ ∃ o : Obj, X.heap[r]? = some o ∧ o.isCells = false) : Ext w X' :=
 ⟨hg.os.trans hE.os, hg.tape.trans hE.tape, hg.output.trans hE.output, Nat.le_trans hE.bsize hg.size, fun b hb => (hg.block b (Nat.lt_of_lt_of_le hb hE.bsize) (fun e => by have := (hr b e.symm).1; omega)).trans (hE.block b hb)⟩
theorem ER.frd {w X : World} {b b' : Nat} {k v k' v' : List Nat} {n n' : Int} (h : ER w b k v n) (hf : Fr b' w.heap.size w X) (hb : DR w b' k' v' n') (hn : b ≠ b') : ER X b k v n :=
 let ⟨Ak, ck, Av, cv, h1, h2, h3, h4, h5⟩ := h; ⟨Ak, ck, Av, cv, hf.at_ (blk_lt h1) hn h1, h2.dr' hb hf, h3.dr' hb hf, h4, h5⟩
theorem DR.fre {w X : World} {b b' : Nat} {k v k' v' : List Nat} {n n' : Int} (h : DR w b k v n) (hf : Fr b' w.heap.size w X) (hb : ER w b' k' v' n') (hn : b ≠ b') : DR X b k v n :=
 let ⟨Ak, ck, Av, cv, h1, h2, h3, h4, h5⟩ := h; ⟨Ak, ck, Av, cv, hf.at_ (blk_lt h1) hn h1, h2.er' hb hf, h3.er' hb hf, h4, h5⟩
theorem KW.nee {w : World} {b : Nat} {k v : List Nat} {n : Int} (h : KW w) (hd : ER w b k v n) : 3 ≠ b := by
 intro e
 obtain ⟨z, h1, h2⟩ := h 0 (by omega)
 obtain ⟨Ak, ck, Av, cv, h3, _⟩ := hd
 rw [e] at h1
 rw [blk_cell h3 0] at h1
 simp at h1
theorem KW.er {w X : World} {b F : Nat} {k v : List Nat} {n : Int} (h : KW w) (hd : ER w b k v n) (hf : Fr b F w X) (hF : w.heap.size ≤ F) : KW X := fun i hi => by
 obtain ⟨z, h1, h2⟩ := h i hi
 exact ⟨z, (World.cell?_of_block (hf.block _ (Nat.lt_of_lt_of_le h.lt hF) (h.nee hd))).trans h1, h2⟩
theorem DR.ne_ptr {w : World} {b g : Nat} {k v : List Nat} {n : Int} {x : Value} {t : TypeId} (h : DR w b k v n) (hg : w.heap[g]? = some (.cells #[x] t (0, 0))) : g ≠ b := by
 intro e
 obtain ⟨Ak, ck, Av, cv, h1, _⟩ := h
 rw [← e, hg] at h1
 simp at h1
theorem ER.ne_ptr {w : World} {b g : Nat} {k v : List Nat} {n : Int} {x : Value} {t : TypeId} (h : ER w b k v n) (hg : w.heap[g]? = some (.cells #[x] t (0, 0))) : g ≠ b := by
 intro e
 obtain ⟨Ak, ck, Av, cv, h1, _⟩ := h
 rw [← e, hg] at h1
 simp at h1
structure It (w : World) (pd pr pb p7 bn br pk : Nat) (k0 v0 : List Nat) (n : Int) (j i q : Nat) (W : World) : Prop where
 kw : KW W
 d : DR W pd (dst k0 v0 j).1 (dst k0 v0 j).2 (0 + (j : Int))
 r : ER W pr (dst k0 v0 i).1 (dst k0 v0 i).2 (i : Int)
 b : W.heap[pb]? = some (.cells #[.pointer (some ⟨pd, 0, none⟩)] 25 (0, 0))
 c7 : W.heap[p7]? = some (.cells #[.pointer (some ⟨pr, 0, none⟩)] 27 (0, 0))
 cn : W.heap[bn]? = some (.cells #[.int .i64 n] 3 (0, 0))
 cr : W.heap[br]? = some (.cells #[.bool false] 4 (0, 0))
 ck : W.heap[pk]? = some (.cells #[.int .i64 (q : Int)] 3 (0, 0))
 e : Ext w W
 ne : pr ≠ pd
 nk : bn ≠ pk
 ld : w.heap.size ≤ pd
 lr : w.heap.size ≤ pr
 lk : w.heap.size ≤ pk
section
variable {w W X : World} {pd pr pb p7 bn br pk : Nat} {k0 v0 : List Nat} {n : Int} {j i q : Nat}
theorem It.nd (h : It w pd pr pb p7 bn br pk k0 v0 n j i q W) : NdD pb pd k0 v0 0 j W := ⟨h.kw, h.d, blk_cell h.b 0⟩
theorem It.grown {B : Nat} {row : Option Nat} (h : It w pd pr pb p7 bn br pk k0 v0 n j i q W) (hB : w.heap.size ≤ B) (hg : W.grownBy X row) (hr : ∀ r, row = some r → B ≤ r ∧ ∃ o : Obj, W.heap[r]? = some o ∧ o.isCells = false) : It w pd pr pb p7 bn br pk k0 v0 n j i q X :=
 have hc := CK.grown hg hr
 ⟨h.kw.ck hc, h.d.ck hc, h.r.ck hc, hc.2 _ _ _ _ h.b, hc.2 _ _ _ _ h.c7, hc.2 _ _ _ _ h.cn, hc.2 _ _ _ _ h.cr, hc.2 _ _ _ _ h.ck, h.e.grown hB hg hr, h.ne, h.nk, h.ld, h.lr, h.lk⟩
theorem It.ext (h : It w pd pr pb p7 bn br pk k0 v0 n j i q W) (hE : Ext W X) : It w pd pr pb p7 bn br pk k0 v0 n j i q X :=
 ⟨h.kw.ext hE, h.d.ext hE, h.r.ext hE, hE.at_ h.b, hE.at_ h.c7, hE.at_ h.cn, hE.at_ h.cr, hE.at_ h.ck, h.e.trans hE, h.ne, h.nk, h.ld, h.lr, h.lk⟩
theorem It.turn {B : Nat} (h : It w pd pr pb p7 bn br pk k0 v0 n j i q W) (ht : TD pd k0 v0 0 B j W X) : It w pd pr pb p7 bn br pk k0 v0 n (j + 1) i q X :=
 have hf := ht.2.1
 ⟨h.kw.dr h.d hf (Nat.le_refl _), ht.2.2, h.r.frd hf h.d h.ne, hf.at_ (blk_lt h.b) (h.d.ne_ptr h.b) h.b, hf.at_ (blk_lt h.c7) (h.d.ne_ptr h.c7) h.c7, hf.at_ (blk_lt h.cn) (h.d.ne_ptr h.cn) h.cn, hf.at_ (blk_lt h.cr) (h.d.ne_ptr h.cr) h.cr, hf.at_ (blk_lt h.ck) (h.d.ne_ptr h.ck) h.ck,
  hf.ext' h.e h.ld h.e.bsize, h.ne, h.nk, h.ld, h.lr, h.lk⟩
end
end Go.Proofs.YtjphlimfldcifaaDoor

namespace Go.Proofs.YtjphlimfldcifaaDoor.ParG
open Go.RowKit Go.Proofs.YtjphlimfldcifaaDoor.Par
section
variable {P : Program} {ops : Array Oper} {Q : Exit → Act → World → Prop}

def Step (P : Program) (ops : Array Oper) (Q : Exit → Act → World → Prop) (E : World → World → Prop) (G : Nat → World → Prop) (m : Nat) (M : Nat → Nat) (AL : Nat → Bool) (R : Nat → (Nat → Value) → World → Prop) (a : Act) (w : World) (i : Nat) : Prop :=
  ∀ f X, E w X → G i X → (∀ j, (M i).testBit j = true → R j f X) → ∀ K : Act → World → Prop,
    (∀ a' v X', a' = (put ops (nd M i) f (List.range m) a).put (Par.dst ops i) v → E X X' → (∀ j, j ≠ i → G j X → G j X') → (if AL i = true then v = .pointer (some ⟨X.heap.size, 0, none⟩) ∧ X.heap.size < X'.heap.size else True) → (∀ Y, E X' Y → R i (upd f i v) Y) → K a' X') →
    wpOp P ops Q i K (put ops (nd M i) f (List.range m) a) X

theorem Step.intro {E : World → World → Prop} {G : Nat → World → Prop} {m : Nat} {M : Nat → Nat} {AL : Nat → Bool} {R : Nat → (Nat → Value) → World → Prop} {a : Act} {w : World} {i : Nat} {o : Oper} (ho : ops[i]? = some o)
 (h : ∀ f X, E w X → G i X → (∀ j, (M i).testBit j = true → R j f X) → ∀ K : Act → World → Prop,
  (∀ a' v X', a' = (put ops (nd M i) f (List.range m) a).put o.dst v → E X X' → (∀ j, j ≠ i → G j X → G j X') → (if AL i = true then v = .pointer (some ⟨X.heap.size, 0, none⟩) ∧ X.heap.size < X'.heap.size else True) → (∀ Y, E X' Y → R i (upd f i v) Y) → K a' X') →
  if Region.wanted o (yielded ops (put ops (nd M i) f (List.range m) a).tmps) = true then Oper.wp P o (put ops (nd M i) f (List.range m) a) X K Q else K ((put ops (nd M i) f (List.range m) a).put o.dst undef) X) :
 Step P ops Q E G m M AL R a w i := fun f X hX hG hR K hK => wpOp_step ho fun K' hK' => h f X hX hG hR K' fun a' v X' ha hE hJ hA hR' => hK' _ _ (hK a' v X' (by rw [ha, Par.dst, ho]; rfl) hE hJ hA hR')

structure Inv (ops : Array Oper) (E : World → World → Prop) (G : Nat → World → Prop) (m : Nat) (M : Nat → Nat) (AL : Nat → Bool) (R : Nat → (Nat → Value) → World → Prop) (a : Act) (w : World) (D : Nat → Bool) (f : Nat → Value) (a' : Act) (X : World) : Prop where
 act : a' = put ops D f (List.range m) a
 ext : E w X
 gd : ∀ j, j < m → D j = false → G j X
 said : ∀ j, j < m → D j = true → R j (mask M j f) X
 at_ : ∀ j, j < m → D j = true → AL j = true → ∃ b, f j = .pointer (some ⟨b, 0, none⟩) ∧ b < X.heap.size
 apart : ∀ j k, j < m → k < m → D j = true → D k = true → AL j = true → AL k = true → j ≠ k → f j ≠ f k

theorem fin {E : World → World → Prop} {G : Nat → World → Prop} {m : Nat} {M : Nat → Nat} {AL : Nat → Bool} {R : Nat → (Nat → Value) → World → Prop} {a : Act} {w : World} (_hF : Par.Form ops M m)
 (hfin : ∀ f X, E w X → (∀ j, j < m → R j (mask M j f) X) → (∀ j, j < m → AL j = true → ∃ b, f j = .pointer (some ⟨b, 0, none⟩) ∧ b < X.heap.size) → (∀ j k, j < m → k < m → AL j = true → AL k = true → j ≠ k → f j ≠ f k) →
  wpAny P .any ops Q (ops.size - m) (((List.range ops.size).map fun j => decide (j < m)).toArray) (put ops (fun _ => true) f (List.range m) a) X)
 {fuel : Nat} {listed : Array Bool} {f : Nat → Value} {a' : Act} {X : World} (hsz : listed.size = ops.size) (hall : ∀ j, j < m → listed.getD j false = true) (hlt : ∀ j, listed.getD j false = true → j < m)
 (hI : Inv ops E G m M AL R a w (fun j => listed.getD j false) f a' X) (hfuel : fuel + m = ops.size) : wpAny P .any ops Q fuel listed a' X := by
 have e1 : listed = ((List.range ops.size).map fun j => decide (j < m)).toArray := by
  apply Array.ext
  · simp [hsz]
  · intro k h1 h2
    simp only [List.getElem_toArray, List.getElem_map, List.getElem_range]
    by_cases hk : k < m
    · have := hall k hk
      simpa [h1, hk] using this
    · cases hd : listed[k]
      · simp [hk]
      · exact absurd (hlt k (by simp [h1, hd])) hk
 have e2 : a' = put ops (fun _ => true) f (List.range m) a := by
  rw [hI.act]
  exact put_congr (fun j hj => ⟨hall j (List.mem_range.1 hj), rfl⟩) _
 have e3 : fuel = ops.size - m := by omega
 rw [e1, e2, e3]
 exact hfin f X hI.ext (fun j hj => hI.said j hj (hall j hj)) (fun j hj h => hI.at_ j hj (hall j hj) h) (fun j k hj hk h1 h2 => hI.apart j k hj hk (hall j hj) (hall k hk) h1 h2)

theorem par {E : World → World → Prop} {G : Nat → World → Prop} (hE0 : ∀ w, E w w) (hE1 : ∀ a b c, E a b → E b c → E a c) (hE2 : ∀ a b, E a b → a.heap.size ≤ b.heap.size)
    {m : Nat} {M : Nat → Nat} {AL : Nat → Bool} {R : Nat → (Nat → Value) → World → Prop} {a : Act} {w : World} (hF : Par.Form ops M m)
    (hR : ∀ j, j < m → ∀ f X, R j (mask M j f) X → ∀ Y, E X Y → R j (mask M j f) Y)
    (hstep : ∀ i, i < m → Step P ops Q E G m M AL (fun j f X => R j (mask M j f) X) a w i)
    (hfin : ∀ f X, E w X → (∀ j, j < m → R j (mask M j f) X) → (∀ j, j < m → AL j = true → ∃ b, f j = .pointer (some ⟨b, 0, none⟩) ∧ b < X.heap.size) → (∀ j k, j < m → k < m → AL j = true → AL k = true → j ≠ k → f j ≠ f k) →
      wpAny P .any ops Q (ops.size - m) (((List.range ops.size).map fun j => decide (j < m)).toArray) (put ops (fun _ => true) f (List.range m) a) X) :
    ∀ (fuel : Nat) (listed : Array Bool) (f : Nat → Value) (a' : Act) (X : World), listed.size = ops.size →
      (∀ j o, ops[j]? = some o → listed.getD j false = true → ∀ e ∈ o.after, binds e = true → listed.getD e.on false = true) →
      (∀ j, listed.getD j false = true → j < m) → fuel + cnt (fun j => listed.getD j false) m = ops.size →
      Inv ops E G m M AL R a w (fun j => listed.getD j false) f a' X → wpAny P .any ops Q fuel listed a' X := by
  intro fuel
  induction fuel with
  | zero =>
    intro listed f a' X hsz hcl hlt hc hI
    have hcm : cnt (fun j => listed.getD j false) m ≤ m := cnt_le _ _
    have hmm : m = ops.size := by have := hF.le; omega
    have hall : ∀ j, j < m → listed.getD j false = true := fun j hj => by
      cases h : listed.getD j false
      · have := cnt_lt (D := fun j => listed.getD j false) (i := j) h hj; omega
      · rfl
    exact fin hF hfin hsz hall hlt hI (by omega)
  | succ fuel ih =>
    intro listed f a' X hsz hcl hlt hc hI
    by_cases hall : ∀ j, j < m → listed.getD j false = true
    · have hcm := cnt_full (D := fun j => listed.getD j false) hall
      exact fin hF hfin hsz hall hlt hI (by omega)
    · refine ⟨fun h => ?_, fun i hi => ?_⟩
      · exfalso
        -- the first that is not done may come up
        have : ∀ n, n ≤ m → (∀ j, j < n → listed.getD j false = true) := by
          intro n
          induction n with
          | zero => intro _ j hj; omega
          | succ n ihn =>
            intro hn j hj
            by_cases hjn : j < n
            · exact ihn (by omega) j hjn
            · obtain rfl : j = n := by omega
              cases hd : listed.getD j false
              · exfalso
                have hjs : j < ops.size := by have := hF.le; omega
                have hmem : j ∈ Region.ready .any ops listed := by
                  rw [mem_ready]
                  have hjl : j < listed.size := by omega
                  refine ⟨by simpa [hjl] using hd, _, Array.getElem?_eq_getElem hjs, fun e he hb => ihn (by omega) _ (hF.up j _ (Array.getElem?_eq_getElem hjs) e he hb)⟩
                rw [h] at hmem
                cases hmem
              · rfl
        exact hall (this m (Nat.le_refl _))
      · obtain ⟨hi0, o, ho, hdep⟩ := mem_ready.1 hi
        have his : i < ops.size := (Array.getElem?_eq_some_iff.1 ho).1
        have hil : i < listed.size := by omega
        have hid : listed.getD i false = false := by simpa [hil] using hi0
        have anc := fun i o hio hd k hk hb => anc hF hcl i i o (Nat.le_refl _) hio hd k (Nat.lt_of_lt_of_le hk hF.le) hb
        have him : i < m := by
          rcases Nat.lt_or_ge i m with h | h
          · exact h
          · exact absurd (fun k hk => anc i o ho hdep k hk (hF.late i h his k (by omega))) hall
        -- what waits for it is not
        have hnd : ∀ j, j < m → listed.getD j false = true → nd M i j = true := fun j hj hd => by
          have h1 : j ≠ i := fun e => by rw [e, hid] at hd; cases hd
          have hjs : j < ops.size := by have := hF.le; omega
          have h2 : (M j).testBit i = false := by
            cases hb : (M j).testBit i
            · rfl
            · have := anc j _ (Array.getElem?_eq_getElem hjs) (hcl j _ (Array.getElem?_eq_getElem hjs) hd) i him hb
              rw [hid] at this; cases this
          simp [nd, h1, h2]
        -- the slots as the step sees them
        obtain ⟨g, hg⟩ : ∃ g : Nat → Value, g = fun j => if listed.getD j false = true then f j else ((Par.dst ops j).map fun t => a.tmps.getD t undef).getD undef := ⟨_, rfl⟩
        have hgf : ∀ j, listed.getD j false = true → g j = f j := fun j hj => by rw [hg]; simp only [hj, if_true]
        have hact : a' = put ops (nd M i) g (List.range m) a := by
          rw [hI.act]
          refine put_wide a List.nodup_range (fun p hp q hq => hF.own p q (List.mem_range.1 hp) (List.mem_range.1 hq)) (fun j hj hd => ⟨hnd j (List.mem_range.1 hj) hd, hgf j hd⟩) a (fun j _ hd t ht => ?_)
          rw [hg]
          simp only [hd, Bool.false_eq_true, if_false, ht, Option.map_some, Option.getD_some]
        have hmask : ∀ j, j < m → listed.getD j false = true → mask M j g = mask M j f := fun j hj hd => by
          funext k
          unfold mask
          split
          · rename_i hk
            rw [Bool.or_eq_true, beq_iff_eq] at hk
            rcases hk with rfl | hk
            · exact hgf _ hd
            · have hjs : j < ops.size := by have := hF.le; omega
              have hkj := hF.bit j hjs k hk
              exact hgf k (anc j _ (Array.getElem?_eq_getElem hjs) (hcl j _ (Array.getElem?_eq_getElem hjs) hd) k (by omega) hk)
          · rfl
        rw [hact]
        refine hstep i him g X hI.ext (hI.gd i him hid) (fun j hb => ?_) _ (fun a'' v X' ha hE hJ hA hR' => ?_)
        · have hj : j < m := by have := hF.bit i his j hb; omega
          have hd := anc i o ho hdep j hj hb
          show R j (mask M j g) X
          rw [hmask j hj hd]
          exact hI.said j hj hd
        · have hnew : ∀ j, (listed.setIfInBounds i true).getD j false = (listed.getD j false || j == i) := fun j => by
            by_cases hji : j = i
            · subst hji; simp [hil]
            · rw [Go.getD_set_ne false (fun e => hji e.symm)]; simp [hji]
          have hnin : ∀ j, j < m → listed.getD j false = true → j ≠ i := fun j _ hd e => by rw [e, hid] at hd; cases hd
          have hupd : ∀ j, listed.getD j false = true → upd g i v j = f j := fun j hd => by
            have hne : j ≠ i := fun e => by rw [e, hid] at hd; cases hd
            simp only [upd, hne, if_false]; exact hgf j hd
          have hupi : upd g i v i = v := by simp [upd]
          have hmk : ∀ j, j < m → listed.getD j false = true → mask M j (upd g i v) = mask M j f := fun j hj hd => by
            rw [← hmask j hj hd]
            funext k
            unfold mask
            split
            · rename_i hk
              rw [Bool.or_eq_true, beq_iff_eq] at hk
              have hne : k ≠ i := by
                rintro rfl
                rcases hk with rfl | hk
                · exact hnin _ hj hd rfl
                · have := hnd j hj hd
                  simp [nd, hk] at this
              simp [upd, hne]
            · rfl
          refine ih _ (upd g i v) a'' X' (by simpa using hsz) (fun j oj hoj hd e he hb => ?_) (fun j hd => ?_) ?_ ⟨?_, hE1 _ _ _ hI.ext hE, fun j hj hd => by rw [hnew, Bool.or_eq_false_iff] at hd; exact hJ j (by simpa using hd.2) (hI.gd j hj hd.1), fun j hj hd => ?_, fun j hj hd hal => ?_, fun j k hj hk hd hd' hal hal' hne => ?_⟩
          · rw [hnew] at hd ⊢
            rw [Bool.or_eq_true, beq_iff_eq] at hd ⊢
            rcases hd with hd | rfl
            · exact .inl (hcl j oj hoj hd e he hb)
            · rw [ho] at hoj; cases hoj; exact .inl (hdep e he hb)
          · rw [hnew, Bool.or_eq_true, beq_iff_eq] at hd
            rcases hd with hd | rfl
            · exact hlt j hd
            · exact him
          · rw [cnt_more (D := fun j => listed.getD j false) (D' := fun j => (listed.setIfInBounds i true).getD j false) hid (by rw [hnew]; simp) (fun j hj => by show (listed.setIfInBounds i true).getD j false = listed.getD j false; rw [hnew]; simp [hj]) him]
            omega
          · rw [ha, put_more (List.mem_range.2 him) List.nodup_range (fun j hj hne => hF.own i j him (List.mem_range.1 hj) (Ne.symm hne)) (by simp [nd])]
            refine (put_wide a List.nodup_range (fun p hp q hq => hF.own p q (List.mem_range.1 hp) (List.mem_range.1 hq)) (fun j hj hd => ⟨?_, rfl⟩) a (fun j hj hd t ht => ?_)).symm
            · rw [hnew, Bool.or_eq_true, beq_iff_eq] at hd
              rw [Bool.or_eq_true, beq_iff_eq]
              exact hd.imp (hnd j (List.mem_range.1 hj)) id
            · rw [hnew, Bool.or_eq_false_iff] at hd
              have hne : j ≠ i := by simpa using hd.2
              simp only [upd, hne, if_false]
              rw [hg]
              simp only [hd.1, Bool.false_eq_true, if_false, ht, Option.map_some, Option.getD_some]
          · rw [hnew, Bool.or_eq_true, beq_iff_eq] at hd
            by_cases hold : listed.getD j false = true
            · rw [hmk j hj hold]
              have := hI.said j hj hold
              exact hR j hj f X this X' hE
            · obtain rfl : j = i := hd.resolve_left hold
              exact hR' X' (hE0 _)
          · rw [hnew, Bool.or_eq_true, beq_iff_eq] at hd
            by_cases hold : listed.getD j false = true
            · obtain ⟨b, h1, h2⟩ := hI.at_ j hj hold hal
              exact ⟨b, (hupd j hold).trans h1, Nat.lt_of_lt_of_le h2 (hE2 _ _ hE)⟩
            · obtain rfl : j = i := hd.resolve_left hold
              rw [if_pos hal] at hA
              exact ⟨X.heap.size, hupi.trans hA.1, hA.2⟩
          · rw [hnew, Bool.or_eq_true, beq_iff_eq] at hd hd'
            have key : ∀ j k, j < m → listed.getD j false = true → AL j = true → AL k = true → k = i → upd g i v j ≠ upd g i v k := fun j k hj hold hal hal' hki heq => by
              subst hki
              rw [if_pos hal'] at hA
              obtain ⟨b, h1, h2⟩ := hI.at_ j hj hold hal
              rw [hupd j hold, hupi, h1, hA.1] at heq
              injection heq with heq
              injection heq with heq
              injection heq with heq
              omega
            by_cases hold : listed.getD j false = true
            · by_cases hold' : listed.getD k false = true
              · rw [hupd j hold, hupd k hold']
                exact hI.apart j k hj hk hold hold' hal hal' hne
              · exact key j k hj hold hal hal' (hd'.resolve_left hold')
            · have hji := hd.resolve_left hold
              by_cases hold' : listed.getD k false = true
              · exact fun e => key k j hk hold' hal' hal hji e.symm
              · exact absurd (hji.trans (hd'.resolve_left hold').symm) hne
def StepU (P : Program) (ops : Array Oper) (Q : Exit → Act → World → Prop) (E : World → World → Prop) (G : Nat → World → Prop) (m : Nat) (L : List Nat) (AL : List Nat) (R : Nat → (Nat → Value) → World → Prop) (a : Act) (w : World) (i : Nat) : Prop :=
 Step P ops Q E G m (fun i => L.getD i 0) (fun i => AL.contains i) (fun j f X => R j (mask (fun i => L.getD i 0) j f) X) a w i
theorem StepU.intro {E : World → World → Prop} {G : Nat → World → Prop} {m : Nat} {L AL : List Nat} {R : Nat → (Nat → Value) → World → Prop} {a : Act} {w : World} {i : Nat} {o : Oper} (pl : List (Nat × Nat)) (ho : ops[i]? = some o) (hpl : sel ops (nd (fun i => L.getD i 0) i) (List.range m) = pl)
 (h : ∀ f X, E w X → G i X → Par.Way (∀ j, (L.getD i 0).testBit j = true → R j (mask (fun i => L.getD i 0) j f) X) → ∀ K : Act → World → Prop,
  Par.Way (∀ a' v X', a' = (putL f pl a).put o.dst v → E X X' → (∀ j, j ≠ i → G j X → G j X') → (if AL.contains i = true then v = .pointer (some ⟨X.heap.size, 0, none⟩) ∧ X.heap.size < X'.heap.size else True) → (∀ Y, E X' Y → R i (mask (fun i => L.getD i 0) i (upd f i v)) Y) → K a' X') →
  Par.Way (if Region.wanted o (yielded ops (putL f pl a).tmps) = true then Oper.wp P o (putL f pl a) X K Q else K ((putL f pl a).put o.dst undef) X)) :
 StepU P ops Q E G m L AL R a w i := Step.intro ho fun f X hX hG hR K hK => by
 have h1 := h f X hX hG ⟨hR⟩ K
 rw [← hpl, ← put_sel] at h1
 exact (h1 ⟨hK⟩).out

structure StepO (P : Program) (ol : List Oper) (Q : Exit → Act → World → Prop) (E : World → World → Prop) (G : Nat → World → Prop) (m : Nat) (L : List Nat) (AL : List Nat) (R : Nat → (Nat → Value) → World → Prop) (a : Act) (w : World) (i : Nat) (o : Oper) : Prop where
 out : ol[i]? = some o → StepU P ol.toArray Q E G m L AL R a w i
theorem StepO.intro {ol : List Oper} {E : World → World → Prop} {G : Nat → World → Prop} {m : Nat} {L AL : List Nat} {R : Nat → (Nat → Value) → World → Prop} {a : Act} {w : World} {i : Nat} {o : Oper} (pl : List (Nat × Nat)) (hpl : sel ol.toArray (nd (fun i => L.getD i 0) i) (List.range m) = pl)
 (h : ∀ f X, E w X → G i X → Par.Way (∀ j, (L.getD i 0).testBit j = true → R j (mask (fun i => L.getD i 0) j f) X) → ∀ K : Act → World → Prop,
  Par.Way (∀ a' v X', a' = (putL f pl a).put o.dst v → E X X' → (∀ j, j ≠ i → G j X → G j X') → (if AL.contains i = true then v = .pointer (some ⟨X.heap.size, 0, none⟩) ∧ X.heap.size < X'.heap.size else True) → (∀ Y, E X' Y → R i (mask (fun i => L.getD i 0) i (upd f i v)) Y) → K a' X') →
  Par.Way (if Region.wanted o (yielded ol.toArray (putL f pl a).tmps) = true then Oper.wp P o (putL f pl a) X K Q else K ((putL f pl a).put o.dst undef) X)) :
 StepO P ol Q E G m L AL R a w i o := ⟨fun ho => StepU.intro pl (by simpa using ho) hpl h⟩
theorem any_of {E : World → World → Prop} {G : Nat → World → Prop} (hE0 : ∀ w, E w w) (hE1 : ∀ a b c, E a b → E b c → E a c) (hE2 : ∀ a b, E a b → a.heap.size ≤ b.heap.size)
 {a : Act} {w X0 : World} (hX0 : E w X0) (hG0 : ∀ j, G j X0) (m : Nat) (L AL : List Nat) (R : Nat → (Nat → Value) → World → Prop) (hok : Par.ok ops (fun i => L.getD i 0) m = true)
 (hstep : AllFrom (StepU P ops Q E G m L AL R a w) 0 m) (pl : List (Nat × Nat)) (hpl : sel ops (fun _ => true) (List.range m) = pl)
 (hfin : ∀ f X, E w X → (∀ j, j < m → R j (mask (fun i => L.getD i 0) j f) X) → (∀ j, j < m → AL.contains j = true → ∃ b, f j = .pointer (some ⟨b, 0, none⟩) ∧ b < X.heap.size) → (∀ j k, j < m → k < m → AL.contains j = true → AL.contains k = true → j ≠ k → f j ≠ f k) →
  wpAny P .any ops Q (ops.size - m) (((List.range ops.size).map fun j => decide (j < m)).toArray) (putL f pl a) X) : wpAny P .any ops Q ops.size (Array.replicate ops.size false) a X0 := by
 have hF := ok.form hok
 refine par hE0 hE1 hE2 (R := fun j f X => ∀ Y, E X Y → R j f Y) (M := fun i => L.getD i 0) (AL := fun i => AL.contains i) (m := m) (a := a) (w := w) hF (fun j _ f X h Y hY Z hZ => h Z (hE1 _ _ _ hY hZ))
  (fun i hi f X hX hG hR K hK => ?_) (fun f X hX hR h1 h2 => ?_) ops.size _ (fun _ => undef) a X0 (by simp) (fun j o _ h => (by rw [none_] at h; cases h)) (fun j h => (by rw [none_] at h; cases h)) ?_ ⟨?_, hX0, fun j _ _ => hG0 j, fun j _ h => (by rw [none_] at h; cases h), fun j _ h => (by rw [none_] at h; cases h), fun j k _ _ h => (by rw [none_] at h; cases h)⟩
 · refine hstep.out i (Nat.zero_le _) (by omega) f X hX hG (fun j hj => hR j hj X (hE0 _)) K (fun a' v X' ha hE hJ hA hR' => hK a' v X' ha hE hJ hA (fun Y hY Z hZ => hR' Z (hE1 _ _ _ hY hZ)))
 · have := hfin f X hX (fun j hj => hR j hj X (hE0 _)) h1 h2
   rw [← hpl, ← put_sel] at this
   exact this
 · have : ∀ n, cnt (fun j => (Array.replicate ops.size false).getD j false) n = 0 := fun n => by
    induction n with
    | zero => rfl
    | succ n ih => rw [cnt, ih, none_]; rfl
   rw [this]; rfl
 · have : ∀ (l : List Nat) (a : Act), put ops (fun j => (Array.replicate ops.size false).getD j false) (fun _ => undef) l a = a := fun l => by
    induction l with
    | nil => intro a; rfl
    | cons j l ih => intro a; rw [put, none_]; exact ih _
   exact (this _ _).symm
theorem any_all {E : World → World → Prop} {G : Nat → World → Prop} (hE0 : ∀ w, E w w) (hE1 : ∀ a b c, E a b → E b c → E a c) (hE2 : ∀ a b, E a b → a.heap.size ≤ b.heap.size)
 {ol : List Oper} {a : Act} {w X0 : World} (hX0 : E w X0) (hG0 : ∀ j, G j X0) (m : Nat) (L AL : List Nat) (R : Nat → (Nat → Value) → World → Prop) (hok : Par.ok ol.toArray (fun i => L.getD i 0) m = true) (pl : List (Nat × Nat)) (hpl : sel ol.toArray (fun _ => true) (List.range m) = pl)
 (hstep : AllOps (StepO P ol Q E G m L AL R a w) (Par.Fin P ol Q E m L AL R pl a w) 0 m ol) : wpAny P .any ol.toArray Q ol.toArray.size (Array.replicate ol.toArray.size false) a X0 := by
 refine any_of hE0 hE1 hE2 hX0 hG0 m L AL R hok ?_ pl hpl (fun f X hX hR h1 h2 => ?_)
 · have key : ∀ i, i < m → StepU P ol.toArray Q E G m L AL R a w i := fun i hi => by
    obtain ⟨o, h1, h2⟩ := hstep.out i hi
    rw [Nat.zero_add] at h2
    exact h2.out h1
   have : ∀ n k, k + n = m → AllFrom (StepU P ol.toArray Q E G m L AL R a w) k n := fun n => by
    induction n with
    | zero => intro k _; trivial
    | succ n ih => intro k hk; exact ⟨key k (by omega), ih (k + 1) (by omega)⟩
   exact this m 0 (by omega)
 · have hF := ok.form hok
   have h3 := (hstep.end_.out f X hX hR h1 h2).out
   exact Chain.sound hF (ol.toArray.size - m) m _ X (Nat.le_refl _) (by have := hF.le; omega) h3
theorem region {E : World → World → Prop} {G : Nat → World → Prop} (hE0 : ∀ w, E w w) (hE1 : ∀ a b c, E a b → E b c → E a c) (hE2 : ∀ a b, E a b → a.heap.size ≤ b.heap.size) {ol : List Oper} {id : Nat} {a : Act} {w : World} (hEd : E w w.drew) (hG0 : ∀ j, G j w.drew) (hm : P.follows .mixedOrders = true) (m : Nat) (L AL : List Nat) (R : Nat → (Nat → Value) → World → Prop) (hok : Par.ok ol.toArray (fun i => L.getD i 0) m = true) (pl : List (Nat × Nat)) (hpl : sel ol.toArray (fun _ => true) (List.range m) = pl)
 (hstep : AllOps (StepO P ol Q E G m L AL R a w) (Par.Fin P ol Q E m L AL R pl a w) 0 m ol) : (Code.region id ol.toArray true).wp P Q a w :=
 wp_region_any hm (any_all hE0 hE1 hE2 hEd hG0 m L AL R hok pl hpl hstep)
end
end Go.Proofs.YtjphlimfldcifaaDoor.ParG

namespace Go.Proofs.YtjphlimfldcifaaDoor
open Go.RowKit

def strB (bs : List Nat) : ByteArray := strOfNums (bs.map fun b : Nat => (b : Int))
section
variable {w : World} {Q : Nat → Prop} {A : Option Addr} {c : Nat} {bs : List Nat}
theorem RB.str {P : Program} (h : RB w Q A c bs) (src e dst : TypeId) (hs : P.underlying src = some (.slice e)) (he : P.underlying e = some (.int .u8)) (hd : P.underlying dst = some .string) :
 (convert src dst (.slice A bs.length c)).run P w = .ok (.string (strB bs)) w := by
 rcases A with _ | ad
 · have hl : bs.length = 0 := by
    rcases Nat.eq_zero_or_pos bs.length with h0 | h0
    · exact h0
    · obtain ⟨ad, h, _⟩ := h.1.2.2.2 h0
      cases h
   obtain rfl := List.eq_nil_of_length_eq_zero hl
   rw [run_convert_bytes_nil w src e hs he _ _ dst hd]
   rfl
 · have hc : ∀ j v, (bys bs)[j]? = some v → w.cell? (ad.add j) = some v := by
    intro j v hj
    rcases Nat.eq_zero_or_pos bs.length with h0 | h0
    · obtain rfl := List.eq_nil_of_length_eq_zero h0
      simp [bys] at hj
    · obtain ⟨ad', h, _, hc⟩ := h.1.2.2.2 h0
      injection h with h
      subst h
      exact hc j v hj
   have hl : (loadCells ad bs.length).run P w = .ok ((bs.map fun b : Nat => (b : Int)).map (Value.int .u8)).toArray w := by
    have := run_loadCells_list (P := P) w ad (bys bs) hc
    simpa [bys, Function.comp_def] using this
   rw [run_convert_bytes_string w src dst e _ _ c hs he hd, run_bytesToString w _ _ c _ hl, foldl_push_bytes]
   simp [strB, strOfNums, ByteArray.empty, ByteArray.emptyWithCapacity]
   rfl
end

end Go.Proofs.YtjphlimfldcifaaDoor
