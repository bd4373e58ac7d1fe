/- DrbgIter: for every tape and number the law answers true, and its arguments stay as they were, over the program's own table of constants. The card is tied. The reference's update. What bytes.Repeat calls at thirty-two ones. drbg: New. The reference's New. The reference's Bytes. DrbgIter: what holds between the rounds. drbg: begun. Bytes as a string. DrbgTwo: the law. DrbgIter: the law. The table of hashes.k as the row lists it. -/
import Derived.Test.YtjphlimfldcifaaDoorQ4b2dc8ccb5be
import Derived.Lib.MakeNoZero
import Derived.Laws.Externs
import Derived.Lib.SlBytesConst
import Derived.Laws.BytesArg
import Derived.Lib.Bytes
import Derived.Test.YtjphlimfldcifaaDoorRows
import Derived.ProofKit
import Derived.LaidMore
import Derived.OpenShut
import Derived.MakeChecks
import Derived.Test.YtjphlimfldcifaaDoorCards
import Derived.Test.YtjphlimfldcifaaDoorTie
import Derived.Stop.Joined
import Derived.SevenTiedAt
namespace Go.Proofs.YtjphlimfldcifaaDoor
open Go.RowKit
open Sha

theorem RP.up {w X : World} {A : Option Addr} {c : Nat} {ps : List (List Nat)} (h : RP w (fun k => k < w.heap.size) A c ps) (hE : Ext w X) : RP X (fun k => k < X.heap.size) A c ps := by
 obtain ⟨cs, h1, h2⟩ := h.ext hE (fun _ h => h)
 exact ⟨cs, h1.mono fun k hk => Nat.lt_of_lt_of_le hk hE.bsize, fun i hi => let ⟨Ai, ci, e, h3⟩ := h2 i hi; ⟨Ai, ci, e, h3.mono fun k hk => Nat.lt_of_lt_of_le hk hE.bsize⟩⟩
theorem RP.lit3 (w : World) {A1 A2 A3 : Option Addr} {c1 c2 c3 n1 n2 n3 : Nat} {p1 p2 p3 : List Nat} (h1 : RB w (fun k => k < w.heap.size) A1 c1 p1) (h2 : RB w (fun k => k < w.heap.size) A2 c2 p2) (h3 : RB w (fun k => k < w.heap.size) A3 c3 p3) (e1 : p1.length = n1) (e2 : p2.length = n2) (e3 : p3.length = n3) :
 RP (w.alloc (.cells #[.slice A1 n1 c1, .slice A2 n2 c2, .slice A3 n3 c3] 22)) (fun k => k < (w.alloc (.cells #[.slice A1 n1 c1, .slice A2 n2 c2, .slice A3 n3 c3] 22)).heap.size) (some ⟨w.heap.size, 0, none⟩) 3 [p1, p2, p3] := by
 subst e1 e2 e3
 have hE := Ext.alloc w (.cells #[.slice A1 p1.length c1, .slice A2 p2.length c2, .slice A3 p3.length c3] 22)
 refine ⟨_, RS.lit w #[.slice A1 p1.length c1, .slice A2 p2.length c2, .slice A3 p3.length c3] 22 (by simp [maxLen]), fun i hi => ?_⟩
 match i, hi with
 | 0, _ => exact ⟨A1, c1, by simp, h1.upE hE⟩
 | 1, _ => exact ⟨A2, c2, by simp, h2.upE hE⟩
 | 2, _ => exact ⟨A3, c3, by simp, h3.upE hE⟩
 | i + 3, hi => exact absurd hi (by simp only [List.length_cons, List.length_nil]; omega)
theorem RP.lit1 (w : World) {A1 : Option Addr} {c1 n1 : Nat} {p1 : List Nat} (h1 : RB w (fun k => k < w.heap.size) A1 c1 p1) (e1 : p1.length = n1) :
 RP (w.alloc (.cells #[.slice A1 n1 c1] 22)) (fun k => k < (w.alloc (.cells #[.slice A1 n1 c1] 22)).heap.size) (some ⟨w.heap.size, 0, none⟩) 1 [p1] := by
 subst e1
 have hE := Ext.alloc w (.cells #[.slice A1 p1.length c1] 22)
 refine ⟨_, RS.lit w #[.slice A1 p1.length c1] 22 (by simp [maxLen]), fun i hi => ?_⟩
 match i, hi with
 | 0, _ => exact ⟨A1, c1, by simp, h1.upE hE⟩
 | i + 1, hi => exact absurd hi (by simp only [List.length_cons, List.length_nil]; omega)
set_option maxRecDepth 100000 in
set_option maxHeartbeats 8000000 in
theorem rupdate_any {b : Nat} {k v d : List Nat} {n : Int} {P : Nat → Prop} {A : Option Addr} {c : Nat} (w : World) (hd : ER w b k v n) (hp : RB w P A c d) (hP : ∀ k, P k → k < w.heap.size) (hl : d.length ≤ 200000) :
 Calls Tryd.prog 24 #[.pointer (some ⟨b, 0, none⟩), .slice A d.length c] w fun e w' => e = .returned (.tuple #[]) ∧ ER w' b (upd2 k v d).1 (upd2 k v d).2 n ∧ Fr b w.heap.size w w' := by
 have HD := Lib.hid hd
 have HP := Lib.hid hp
 have HPP := Lib.hid hP
 have HL := Lib.hid hl
 have HD0 := Lib.hid hd
 clear hd hp hP hl
 go_enter Tryd.func24, Tryd.ntmps24
 go_upto_region 0 with fail
 obtain ⟨Ak, ck, Av, cv, h1, h2, h3, h4, h5⟩ := id HD.out
 have kc : w.cell? ⟨b, 0, none⟩ = some (.slice Ak 32 ck) := blk_cell h1 0
 have vc : w.cell? ⟨b, 1, none⟩ = some (.slice Av 32 cv) := blk_cell h1 1
 have H2 := Lib.hid h2
 have H3 := Lib.hid h3
 have H4 := Lib.hid h4
 have H5 := Lib.hid h5
 clear h1 h2 h3 h4 h5
 refine Par.region_ext (by kernel_rfl) 15 [0, 0, 2, 6, 14, 0, 32, 96, 224, 0, 0, 2016, 4094, 8191, 16383, 32767] [] (fun j f X => match j with
  | 0 => f 0 = .pointer (some ⟨b, 0, none⟩)
  | 1 => f 1 = .pointer (some ⟨b, 0, none⟩)
  | 2 => f 2 = .pointer (some ⟨b, 0, none⟩)
  | 3 => f 3 = .pointer (some ⟨b, 0, none⟩)
  | 4 => f 4 = .slice Ak 32 ck
  | 5 => f 5 = .pointer (some ⟨b, 0, none⟩)
  | 6 => f 6 = .pointer (some ⟨b, 0, none⟩)
  | 7 => f 7 = .pointer (some ⟨b, 1, none⟩)
  | 8 => f 8 = .slice Av 32 cv
  | 9 => ∃ g, f 9 = .slice (some ⟨g, 0, none⟩) 1 1 ∧ RB X (fun k => k < X.heap.size) (some ⟨g, 0, none⟩) 1 [0]
  | 10 => f 10 = .slice A d.length c
  | 11 => ∃ g, f 11 = .slice (some ⟨g, 0, none⟩) 3 3 ∧ RP X (fun k => k < X.heap.size) (some ⟨g, 0, none⟩) 3 [v, [0], d]
  | 12 => ∃ A c, f 12 = .slice A 32 c ∧ OW X w.heap.size A c (hmac k (v ++ [0] ++ d))
  | 13 => f 13 = .pointer (some ⟨b, 0, none⟩)
  | 14 => f 14 = .pointer (some ⟨b, 0, none⟩)
  | _ => True) (by kernel_rfl) [(4, 0), (5, 1), (6, 2), (7, 3), (8, 4), (9, 5), (10, 6), (11, 7), (12, 8), (13, 9), (14, 10), (15, 11), (16, 12), (17, 13), (18, 14)] (by kernel_rfl) ?_
 refine Par.v0 1 14 ?_
 refine Par.v0 2 13 ?_
 refine Par.v1 3 12 1 ?_
 refine Par.v1 4 11 2 ?_
 refine Par.ld1 5 10 3 kc ?_
 refine Par.v0 6 9 ?_
 refine Par.v1 7 8 5 ?_
 refine Par.v1 8 7 6 ?_
 refine Par.ld1 9 6 7 vc ?_
 refine Par.S 10 5 [(4, 0), (5, 1), (6, 2), (7, 3), (8, 4), (9, 5), (10, 6), (11, 7), (12, 8), (14, 10)] (fun f X hX hR K hK => ?_) ?_
 · simp only [yA, yB, yC, yD, yE]
   refine ⟨?_⟩
   go_simp
   exact hK.out _ _ _ (by simp only [yA, yB, yC, yD, yE]) (Ext.alloc _ _) trivial (fun Y hY => ⟨_, rfl, (RB.lit8' X [0] (by decide) (by decide) rfl).upE hY⟩)
 refine Par.v0 11 4 ?_
 refine Par.S 12 3 [(4, 0), (5, 1), (6, 2), (7, 3), (8, 4), (9, 5), (10, 6), (11, 7), (12, 8), (13, 9), (14, 10)] (fun f X hX hR K hK => ?_) ?_
 · have e8 : f 8 = _ := hR.out 8 rfl
   obtain ⟨g9, (e9 : f 9 = _), r9⟩ := hR.out 9 rfl
   have e10 : f 10 = _ := hR.out 10 rfl
   simp only [yA, yB, yC, yD, yE, e8, e9, e10]
   refine ⟨?_⟩
   go_simp
   exact hK.out _ _ _ (by simp only [yA, yB, yC, yD, yE, e8, e9, e10]) (Ext.alloc _ _) trivial (fun Y hY => ⟨_, rfl, (RP.lit3 X (H3.out.upE hX) r9 ((HP.out.below hX HPP.out).mono fun k hk => Nat.lt_of_lt_of_le (HPP.out k hk) hX.bsize) H5.out rfl rfl).up hY⟩)
 refine Par.c0 13 2 (fun f => #[f 4, f 11]) (F' := 26) (fun f X hX hR => ?_) ?_
 · have e4 : f 4 = _ := hR.out 4 rfl
   obtain ⟨g11, (e11 : f 11 = _), r11⟩ := hR.out 11 rfl
   simp only [e4, e11]
   refine (rhm4_any X (H2.out.upE hX) H4.out r11 (fun _ h => h) (by have := HL.out; have := H5.out; simp; omega)).mono ?_
   rintro e w2 ⟨A2, c2, rfl, ho, hE⟩
   exact ⟨_, rfl, hE, fun Y hY => ⟨A2, c2, rfl, by have := (ho.mono hX.bsize).extE hY; simpa using this⟩⟩
 refine Par.v1 14 1 0 ?_
 refine Par.v1 15 0 13 ?_
 refine Par.AllOps.fin ⟨fun f X hX hR hal hap => ?_⟩
 obtain ⟨g9, (e9 : f 9 = _), r9⟩ := hR 9 (by decide)
 obtain ⟨g11, (e11 : f 11 = _), r11⟩ := hR 11 (by decide)
 obtain ⟨A12, c12, (e12 : f 12 = _), o12⟩ := hR 12 (by decide)
 have e14 : f 14 = _ := hR 14 (by decide)
 simp only [yA, yB, yD, yE, e9, e11, e12, e14]
 clear hR hal hap e9 e11 e12 e14
 replace kc := hX.cell kc
 have fr := (HD.out.ext hX).free 0
 refine Par.Chain.next (fun K hK => ⟨Par.want (by kernel_rfl) ?_⟩)
 go_simp
 refine hK.out _ _ ?_
 refine Par.Chain.done ?_
 have ht := eturnK HD.out hX o12 (hmac_len _ _)
 obtain ⟨hd', hf'⟩ := ht
 have HF := Lib.hid hf'
 replace HD := Lib.hid hd'
 clear hd' hf' hX o12 kc vc fr H2 H3 H4 H5
 generalize X.setCell ⟨b, 0, none⟩ (.slice A12 32 c12) = w1 at *
 have HP1 := Lib.hid (HP.out.er HPP.out HD0.out HF.out)
 clear r9 r11
 go_upto_region 1 with fail
 obtain ⟨Ak, ck, Av, cv, h1, h2, h3, h4, h5⟩ := id HD.out
 have kc : w1.cell? ⟨b, 0, none⟩ = some (.slice Ak 32 ck) := blk_cell h1 0
 have vc : w1.cell? ⟨b, 1, none⟩ = some (.slice Av 32 cv) := blk_cell h1 1
 have H2 := Lib.hid h2
 have H3 := Lib.hid h3
 have H4 := Lib.hid h4
 have H5 := Lib.hid h5
 clear h1 h2 h3 h4 h5
 refine Par.region_ext (by kernel_rfl) 13 [0, 0, 2, 6, 14, 0, 32, 96, 224, 480, 1022, 2047, 4095, 8191] [] (fun j f X => match j with
  | 0 => f 0 = .pointer (some ⟨b, 0, none⟩)
  | 1 => f 1 = .pointer (some ⟨b, 0, none⟩)
  | 2 => f 2 = .pointer (some ⟨b, 0, none⟩)
  | 3 => f 3 = .pointer (some ⟨b, 0, none⟩)
  | 4 => f 4 = .slice Ak 32 ck
  | 5 => f 5 = .pointer (some ⟨b, 0, none⟩)
  | 6 => f 6 = .pointer (some ⟨b, 0, none⟩)
  | 7 => f 7 = .pointer (some ⟨b, 1, none⟩)
  | 8 => f 8 = .slice Av 32 cv
  | 9 => ∃ g, f 9 = .slice (some ⟨g, 0, none⟩) 1 1 ∧ RP X (fun k => k < X.heap.size) (some ⟨g, 0, none⟩) 1 [v]
  | 10 => ∃ A c, f 10 = .slice A 32 c ∧ OW X w1.heap.size A c (hmac (hmac k (v ++ [0] ++ d)) v)
  | 11 => f 11 = .pointer (some ⟨b, 0, none⟩)
  | 12 => f 12 = .pointer (some ⟨b, 1, none⟩)
  | _ => True) (by kernel_rfl) [(19, 0), (20, 1), (21, 2), (22, 3), (23, 4), (24, 5), (25, 6), (26, 7), (27, 8), (28, 9), (29, 10), (30, 11), (31, 12)] (by kernel_rfl) ?_
 refine Par.v0 1 12 ?_
 refine Par.v0 2 11 ?_
 refine Par.v1 3 10 1 ?_
 refine Par.v1 4 9 2 ?_
 refine Par.ld1 5 8 3 kc ?_
 refine Par.v0 6 7 ?_
 refine Par.v1 7 6 5 ?_
 refine Par.v1 8 5 6 ?_
 refine Par.ld1 9 4 7 vc ?_
 refine Par.S 10 3 [(19, 0), (20, 1), (21, 2), (22, 3), (23, 4), (24, 5), (25, 6), (26, 7), (27, 8)] (fun f X hX hR K hK => ?_) ?_
 · have e8 : f 8 = _ := hR.out 8 rfl
   simp only [yA, yB, yC, yD, yE, e8]
   refine ⟨?_⟩
   go_simp
   exact hK.out _ _ _ (by simp only [yA, yB, yC, yD, yE, e8]) (Ext.alloc _ _) trivial (fun Y hY => ⟨_, rfl, (RP.lit1 X (H3.out.upE hX) H5.out).up hY⟩)
 refine Par.c0 11 2 (fun f => #[f 4, f 9]) (F' := 26) (fun f X hX hR => ?_) ?_
 · have e4 : f 4 = _ := hR.out 4 rfl
   obtain ⟨g9, (e9 : f 9 = _), r9⟩ := hR.out 9 rfl
   simp only [e4, e9]
   refine (rhm4_any X (H2.out.upE hX) H4.out r9 (fun _ h => h) (by have := H5.out; simp; omega)).mono ?_
   rintro e w2 ⟨A2, c2, rfl, ho, hE⟩
   exact ⟨_, rfl, hE, fun Y hY => ⟨A2, c2, rfl, by have := (ho.mono hX.bsize).extE hY; simpa using this⟩⟩
 refine Par.v1 12 1 0 ?_
 refine Par.v1 13 0 11 ?_
 refine Par.AllOps.fin ⟨fun f X hX hR hal hap => ?_⟩
 obtain ⟨g9, (e9 : f 9 = _), r9⟩ := hR 9 (by decide)
 obtain ⟨A10, c10, (e10 : f 10 = _), o10⟩ := hR 10 (by decide)
 have e12 : f 12 = _ := hR 12 (by decide)
 simp only [yA, yB, yD, yE, e9, e10, e12]
 clear hR hal hap e9 e10 e12
 replace vc := hX.cell vc
 have fr := (HD.out.ext hX).free 1
 refine Par.Chain.next (fun K hK => ⟨Par.want (by kernel_rfl) ?_⟩)
 go_simp
 refine hK.out _ _ ?_
 refine Par.Chain.done ?_
 have ht := eturnV HD.out hX o10 (hmac_len _ _)
 obtain ⟨hd', hf'⟩ := ht
 replace HF := Lib.hid (HF.out.trans (hf'.mono HF.out.size))
 replace HD := Lib.hid hd'
 clear hd' hf' hX o10 kc vc fr H2 H3 H4 H5
 generalize X.setCell ⟨b, 1, none⟩ (.slice A10 32 c10) = w2 at *
 have HP2 := Lib.hid (HP.out.er HPP.out HD0.out HF.out)
 have HPP2 := Lib.hid (show ∀ k, P k → k < w2.heap.size from fun k hk => Nat.lt_of_lt_of_le (HPP.out k hk) HF.out.size)
 clear r9 HP1
 have HH := Lib.hid (show half k v d 0 = (hmac k (v ++ [0] ++ d), hmac (hmac k (v ++ [0] ++ d)) v) from rfl)
 go_upto_region 2 with fail
 by_cases h0 : d.length = 0
 · have l0 : ¬ (0 : Int) < (d.length : Int) := by omega
   go_wp2_with fail
   have hu : upd2 k v d = half k v d 0 := if_pos h0
   have hfin : ER w2 b (upd2 k v d).1 (upd2 k v d).2 n := by rw [hu]; exact HD.out
   go_end0
   exact ⟨rfl, hfin, HF.out⟩
 · have l0 : (0 : Int) < (d.length : Int) := by omega
   obtain ⟨k1, hk1⟩ : ∃ l, hmac k (v ++ [0] ++ d) = l := ⟨_, rfl⟩
   obtain ⟨v1, hv1⟩ : ∃ l, hmac k1 v = l := ⟨_, rfl⟩
   have HK1 := Lib.hid hk1
   have HV1 := Lib.hid hv1
   rw [hk1, hv1] at HD
   clear hk1 hv1
   go_upto_region 3 with fail
   rw [show decide (0 < d.length) = true from decide_eq_true (by omega)]
   obtain ⟨Ak, ck, Av, cv, h1, h2, h3, h4, h5⟩ := id HD.out
   have kc : w2.cell? ⟨b, 0, none⟩ = some (.slice Ak 32 ck) := blk_cell h1 0
   have vc : w2.cell? ⟨b, 1, none⟩ = some (.slice Av 32 cv) := blk_cell h1 1
   have H2 := Lib.hid h2
   have H3 := Lib.hid h3
   have H4 := Lib.hid h4
   have H5 := Lib.hid h5
   clear h1 h2 h3 h4 h5
   refine Par.region_ext (by kernel_rfl) 15 [0, 0, 2, 6, 14, 0, 32, 96, 224, 0, 0, 2016, 4094, 8191, 16383, 32767] [] (fun j f X => match j with
    | 0 => f 0 = .pointer (some ⟨b, 0, none⟩)
    | 1 => f 1 = .pointer (some ⟨b, 0, none⟩)
    | 2 => f 2 = .pointer (some ⟨b, 0, none⟩)
    | 3 => f 3 = .pointer (some ⟨b, 0, none⟩)
    | 4 => f 4 = .slice Ak 32 ck
    | 5 => f 5 = .pointer (some ⟨b, 0, none⟩)
    | 6 => f 6 = .pointer (some ⟨b, 0, none⟩)
    | 7 => f 7 = .pointer (some ⟨b, 1, none⟩)
    | 8 => f 8 = .slice Av 32 cv
    | 9 => ∃ g, f 9 = .slice (some ⟨g, 0, none⟩) 1 1 ∧ RB X (fun k => k < X.heap.size) (some ⟨g, 0, none⟩) 1 [1]
    | 10 => f 10 = .slice A d.length c
    | 11 => ∃ g, f 11 = .slice (some ⟨g, 0, none⟩) 3 3 ∧ RP X (fun k => k < X.heap.size) (some ⟨g, 0, none⟩) 3 [v1, [1], d]
    | 12 => ∃ A c, f 12 = .slice A 32 c ∧ OW X w2.heap.size A c (hmac k1 (v1 ++ [1] ++ d))
    | 13 => f 13 = .pointer (some ⟨b, 0, none⟩)
    | 14 => f 14 = .pointer (some ⟨b, 0, none⟩)
    | _ => True) (by kernel_rfl) [(35, 0), (36, 1), (37, 2), (38, 3), (39, 4), (40, 5), (41, 6), (42, 7), (43, 8), (44, 9), (45, 10), (46, 11), (47, 12), (48, 13), (49, 14)] (by kernel_rfl) ?_
   refine Par.v0 1 14 ?_
   refine Par.v0 2 13 ?_
   refine Par.v1 3 12 1 ?_
   refine Par.v1 4 11 2 ?_
   refine Par.ld1 5 10 3 kc ?_
   refine Par.v0 6 9 ?_
   refine Par.v1 7 8 5 ?_
   refine Par.v1 8 7 6 ?_
   refine Par.ld1 9 6 7 vc ?_
   refine Par.S 10 5 [(35, 0), (36, 1), (37, 2), (38, 3), (39, 4), (40, 5), (41, 6), (42, 7), (43, 8), (45, 10)] (fun f X hX hR K hK => ?_) ?_
   · simp only [yA, yB, yC, yD, yE]
     refine ⟨?_⟩
     go_simp
     exact hK.out _ _ _ (by simp only [yA, yB, yC, yD, yE]) (Ext.alloc _ _) trivial (fun Y hY => ⟨_, rfl, (RB.lit8' X [1] (by decide) (by decide) rfl).upE hY⟩)
   refine Par.v0 11 4 ?_
   refine Par.S 12 3 [(35, 0), (36, 1), (37, 2), (38, 3), (39, 4), (40, 5), (41, 6), (42, 7), (43, 8), (44, 9), (45, 10)] (fun f X hX hR K hK => ?_) ?_
   · have e8 : f 8 = _ := hR.out 8 rfl
     obtain ⟨g9, (e9 : f 9 = _), r9⟩ := hR.out 9 rfl
     have e10 : f 10 = _ := hR.out 10 rfl
     simp only [yA, yB, yC, yD, yE, e8, e9, e10]
     refine ⟨?_⟩
     go_simp
     exact hK.out _ _ _ (by simp only [yA, yB, yC, yD, yE, e8, e9, e10]) (Ext.alloc _ _) trivial (fun Y hY => ⟨_, rfl, (RP.lit3 X (H3.out.upE hX) r9 ((HP2.out.below hX HPP2.out).mono fun k hk => Nat.lt_of_lt_of_le (HPP2.out k hk) hX.bsize) H5.out rfl rfl).up hY⟩)
   refine Par.c0 13 2 (fun f => #[f 4, f 11]) (F' := 26) (fun f X hX hR => ?_) ?_
   · have e4 : f 4 = _ := hR.out 4 rfl
     obtain ⟨g11, (e11 : f 11 = _), r11⟩ := hR.out 11 rfl
     simp only [e4, e11]
     refine (rhm4_any X (H2.out.upE hX) H4.out r11 (fun _ h => h) (by have := HL.out; have := H5.out; simp; omega)).mono ?_
     rintro e w2 ⟨A2, c2, rfl, ho, hE⟩
     exact ⟨_, rfl, hE, fun Y hY => ⟨A2, c2, rfl, by have := (ho.mono hX.bsize).extE hY; simpa using this⟩⟩
   refine Par.v1 14 1 0 ?_
   refine Par.v1 15 0 13 ?_
   refine Par.AllOps.fin ⟨fun f X hX hR hal hap => ?_⟩
   obtain ⟨g9, (e9 : f 9 = _), r9⟩ := hR 9 (by decide)
   obtain ⟨g11, (e11 : f 11 = _), r11⟩ := hR 11 (by decide)
   obtain ⟨A12, c12, (e12 : f 12 = _), o12⟩ := hR 12 (by decide)
   have e14 : f 14 = _ := hR 14 (by decide)
   simp only [yA, yB, yD, yE, e9, e11, e12, e14]
   clear hR hal hap e9 e11 e12 e14
   replace kc := hX.cell kc
   have fr := (HD.out.ext hX).free 0
   refine Par.Chain.next (fun K hK => ⟨Par.want (by kernel_rfl) ?_⟩)
   go_simp
   refine hK.out _ _ ?_
   refine Par.Chain.done ?_
   have ht := eturnK HD.out hX o12 (hmac_len _ _)
   obtain ⟨hd', hf'⟩ := ht
   replace HF := Lib.hid (HF.out.trans (hf'.mono HF.out.size))
   replace HD := Lib.hid hd'
   clear hd' hf' hX o12 kc vc fr H2 H3 H4 H5
   generalize X.setCell ⟨b, 0, none⟩ (.slice A12 32 c12) = w3 at *
   clear r9 r11
   go_upto_region 4 with fail
   obtain ⟨Ak, ck, Av, cv, h1, h2, h3, h4, h5⟩ := id HD.out
   have kc : w3.cell? ⟨b, 0, none⟩ = some (.slice Ak 32 ck) := blk_cell h1 0
   have vc : w3.cell? ⟨b, 1, none⟩ = some (.slice Av 32 cv) := blk_cell h1 1
   have H2 := Lib.hid h2
   have H3 := Lib.hid h3
   have H4 := Lib.hid h4
   have H5 := Lib.hid h5
   clear h1 h2 h3 h4 h5
   refine Par.region_ext (by kernel_rfl) 13 [0, 0, 2, 6, 14, 0, 32, 96, 224, 480, 1022, 2047, 4095, 8191] [] (fun j f X => match j with
    | 0 => f 0 = .pointer (some ⟨b, 0, none⟩)
    | 1 => f 1 = .pointer (some ⟨b, 0, none⟩)
    | 2 => f 2 = .pointer (some ⟨b, 0, none⟩)
    | 3 => f 3 = .pointer (some ⟨b, 0, none⟩)
    | 4 => f 4 = .slice Ak 32 ck
    | 5 => f 5 = .pointer (some ⟨b, 0, none⟩)
    | 6 => f 6 = .pointer (some ⟨b, 0, none⟩)
    | 7 => f 7 = .pointer (some ⟨b, 1, none⟩)
    | 8 => f 8 = .slice Av 32 cv
    | 9 => ∃ g, f 9 = .slice (some ⟨g, 0, none⟩) 1 1 ∧ RP X (fun k => k < X.heap.size) (some ⟨g, 0, none⟩) 1 [v1]
    | 10 => ∃ A c, f 10 = .slice A 32 c ∧ OW X w3.heap.size A c (hmac (hmac k1 (v1 ++ [1] ++ d)) v1)
    | 11 => f 11 = .pointer (some ⟨b, 0, none⟩)
    | 12 => f 12 = .pointer (some ⟨b, 1, none⟩)
    | _ => True) (by kernel_rfl) [(50, 0), (51, 1), (52, 2), (53, 3), (54, 4), (55, 5), (56, 6), (57, 7), (58, 8), (59, 9), (60, 10), (61, 11), (62, 12)] (by kernel_rfl) ?_
   refine Par.v0 1 12 ?_
   refine Par.v0 2 11 ?_
   refine Par.v1 3 10 1 ?_
   refine Par.v1 4 9 2 ?_
   refine Par.ld1 5 8 3 kc ?_
   refine Par.v0 6 7 ?_
   refine Par.v1 7 6 5 ?_
   refine Par.v1 8 5 6 ?_
   refine Par.ld1 9 4 7 vc ?_
   refine Par.S 10 3 [(50, 0), (51, 1), (52, 2), (53, 3), (54, 4), (55, 5), (56, 6), (57, 7), (58, 8)] (fun f X hX hR K hK => ?_) ?_
   · have e8 : f 8 = _ := hR.out 8 rfl
     simp only [yA, yB, yC, yD, yE, e8]
     refine ⟨?_⟩
     go_simp
     exact hK.out _ _ _ (by simp only [yA, yB, yC, yD, yE, e8]) (Ext.alloc _ _) trivial (fun Y hY => ⟨_, rfl, (RP.lit1 X (H3.out.upE hX) H5.out).up hY⟩)
   refine Par.c0 11 2 (fun f => #[f 4, f 9]) (F' := 26) (fun f X hX hR => ?_) ?_
   · have e4 : f 4 = _ := hR.out 4 rfl
     obtain ⟨g9, (e9 : f 9 = _), r9⟩ := hR.out 9 rfl
     simp only [e4, e9]
     refine (rhm4_any X (H2.out.upE hX) H4.out r9 (fun _ h => h) (by have := H5.out; simp; omega)).mono ?_
     rintro e w2 ⟨A2, c2, rfl, ho, hE⟩
     exact ⟨_, rfl, hE, fun Y hY => ⟨A2, c2, rfl, by have := (ho.mono hX.bsize).extE hY; simpa using this⟩⟩
   refine Par.v1 12 1 0 ?_
   refine Par.v1 13 0 11 ?_
   refine Par.AllOps.fin ⟨fun f X hX hR hal hap => ?_⟩
   obtain ⟨g9, (e9 : f 9 = _), r9⟩ := hR 9 (by decide)
   obtain ⟨A10, c10, (e10 : f 10 = _), o10⟩ := hR 10 (by decide)
   have e12 : f 12 = _ := hR 12 (by decide)
   simp only [yA, yB, yD, yE, e9, e10, e12]
   clear hR hal hap e9 e10 e12
   replace vc := hX.cell vc
   have fr := (HD.out.ext hX).free 1
   refine Par.Chain.next (fun K hK => ⟨Par.want (by kernel_rfl) ?_⟩)
   go_simp
   refine hK.out _ _ ?_
   refine Par.Chain.done ?_
   have ht := eturnV HD.out hX o10 (hmac_len _ _)
   obtain ⟨hd', hf'⟩ := ht
   replace HF := Lib.hid (HF.out.trans (hf'.mono HF.out.size))
   replace HD := Lib.hid hd'
   clear hd' hf' hX o10 kc vc fr H2 H3 H4 H5
   generalize X.setCell ⟨b, 1, none⟩ (.slice A10 32 c10) = w4 at *
   have hu : upd2 k v d = half (half k v d 0).1 (half k v d 0).2 d 1 := if_neg h0
   have Hfin := Lib.hid (show ER w4 b (upd2 k v d).1 (upd2 k v d).2 n by rw [hu, HH.out, HK1.out, HV1.out]; exact HD.out)
   clear hu HD r9
   go_wp2_with fail
   go_end0
   exact ⟨rfl, Hfin.out, HF.out⟩
end Go.Proofs.YtjphlimfldcifaaDoor

namespace Go.Proofs.YtjphlimfldcifaaDoor
open Go.RowKit
open Sha

theorem run_nozero (w : World) (n : Nat) (hn : n ≤ 281474976710656) : ∃ cs, (callFunc 37 #[.int .i64 (n : Int)]).run Tryd.prog w = .ok (.value (.slice (some ⟨w.heap.size, 0, none⟩) n cs.size)) ((w.drew.drew).alloc (.cells cs 5)) ∧ n ≤ cs.size ∧ cs.size ≤ maxLen := by
 obtain ⟨cs, h1, h2, h3⟩ := Lib.run_makeNoZero (P := Tryd.prog) w #[3] 22 5 Tryd.underlying22 n hn
 refine ⟨cs, ?_, h2, h3 (by unfold maxLen; omega)⟩
 rw [run_callFunc_extern (e := Extern.BytealgMakeNoZero.makeNoZero #[3] #[22]) Tryd.func37 (by kernel_rfl) (by kernel_rfl) (by kernel_rfl) (by kernel_rfl), h1]
 rfl
theorem mul_one_any (w : World) : Calls Tryd.prog 36 #[.int .u64 1, .int .u64 32] w fun e w' => e = .returned (.tuple #[.int .u64 0, .int .u64 32]) ∧ w' = w := by
 have H := Lib.hid (mul64_at 1 32 0 32 (by omega) (by omega) (by omega) (by omega))
 go_enter Tryd.func36, Tryd.ntmps36
 go_wp2_with fail
 refine (H.out w).mono ?_
 rintro e w1 ⟨rfl, rfl⟩
 go_wp2
 go_ret2
 exact ⟨rfl, rfl⟩
theorem ones_copy {w : World} {g p k dl dc sl sc : Nat} {a : Addr} {cur : Array Value} (hb : w.heap[g]? = some (.cells cur 5 (0, 0))) (ho : ∀ j, j < p → cur[j]? = some (.int .u8 1)) (hs : ∀ j, j < k → w.cell? (a.add j) = some (.int .u8 1)) (hk : k = min sl dl) (hle : p + k ≤ cur.size) :
 ∃ W' cur', (Builtin.copy_ #[22, 22] 3 #[.slice (some ⟨g, p, none⟩) dl dc, .slice (some a) sl sc]).run Tryd.prog w = .ok (.int .i64 (k : Int)) W' ∧ W'.heap[g]? = some (.cells cur' 5 (0, 0)) ∧ cur'.size = cur.size ∧ (∀ j, j < p + k → cur'[j]? = some (.int .u8 1)) ∧ Just g w W' := by
 have hcl : (List.replicate k (Value.int .u8 1)).length = k := List.length_replicate
 have hr := run_copy_row (P := Tryd.prog) w 22 22 3 5 g p dl dc a sl sc cur 5 (List.replicate k (.int .u8 1)) Tryd.underlying22 (by kernel_rfl) hb (by rw [hcl]; exact hk) (fun j v hv => by
  obtain ⟨h1, h2⟩ := List.getElem?_eq_some_iff.1 hv
  rw [hcl] at h1
  rw [hs j h1, ← h2, List.getElem_replicate]) (by rw [hcl]; exact hle) (by intro v hv; rw [(List.mem_replicate.1 hv).2]; rfl)
 rw [hcl] at hr
 refine ⟨_, _, hr, Go.setRow_heap w g _ _ 5 _ hb, ?_, ?_, ⟨rfl, rfl, rfl, by simp [World.setRow], fun k _ hk => Go.setRow_other w g k _ hk⟩⟩
 · simp; omega
 · intro j hj
   have hpl : (cur.toList.take p).length = p := by simp; omega
   rw [List.getElem?_toArray, List.append_assoc]
   by_cases h : j < p
   · rw [List.getElem?_append_left (by omega), List.getElem?_take_of_lt h]
     simpa using ho j h
   · rw [List.getElem?_append_right (by omega), hpl, List.getElem?_append_left (by rw [hcl]; omega), List.getElem?_replicate_of_lt (by omega)]
set_option maxRecDepth 100000 in
set_option maxHeartbeats 8000000 in
theorem repeat_one {g : Nat} (w : World) (hg : w.heap[g]? = some (.cells #[.int .u8 1] 5 (0, 0))) :
 Calls Tryd.prog 22 #[.slice (some ⟨g, 0, none⟩) 1 1, .int .i64 32] w fun e w' => ∃ A, e = .returned (.slice A 32 32) ∧ RB w' (fun k => k < w'.heap.size) A 32 (List.replicate 32 1) ∧ Ext w w' := by
 obtain ⟨cs, hrun, hcs, hcm⟩ := run_nozero w 32 (by omega)
 rw [show ((32 : Nat) : Int) = 32 from rfl] at hrun
 obtain ⟨W1, hW1⟩ : ∃ W, (w.drew.drew).alloc (.cells cs 5) = W := ⟨_, rfl⟩
 have hb : W1.heap[w.heap.size]? = some (.cells cs 5 (0, 0)) := by rw [← hW1]; exact heap_alloc_new w.drew.drew _
 have hE : Ext w W1 := by rw [← hW1]; exact ((Ext.drew w).trans (Ext.drew _)).trans (Ext.alloc _ _)
 rw [hW1] at hrun
 have c32 : (32 : Int) ≤ (cs.size : Int) := by omega
 obtain ⟨W2, cs2, hcp, hb2, hz2, hon, hj2⟩ := ones_copy (p := 0) (k := 1) (dl := 32) (dc := 32) (sl := 1) (sc := 1) (a := ⟨g, 0, none⟩) hb (by omega) (by
  intro j hj
  obtain rfl : j = 0 := by omega
  exact blk_cell (hE.at_ hg) 0) rfl (by omega)
 have Hb2 := Lib.hid hb2
 have Hon := Lib.hid hon
 have HE2 := Lib.hid (hj2.ext hE (Nat.le_refl _))
 have hz := Lib.hid (show 32 ≤ cs2.size by omega)
 clear hb hE hW1 hg hb2 hon hj2 hz2 hcm
 go_enter Tryd.func22, Tryd.ntmps22
 go_upto_region 6 with (go_at_call 36; refine (mul_one_any _).mono ?_; rintro e w1 ⟨rfl, rfl⟩)
 go_upto_region 18 with fail
 clear hrun hcp
 go_loopw [10] (fun iv wr => ∃ (p : Nat) (cur : Array Value), iv = .int .i64 (p : Int) ∧ (p = 1 ∨ p = 2 ∨ p = 4 ∨ p = 8 ∨ p = 16 ∨ p = 32) ∧ Hid (wr.heap[w1.heap.size]? = some (.cells cur 5 (0, 0))) ∧ Hid (∀ j, j < p → cur[j]? = some (.int .u8 1)) ∧ Hid (32 ≤ cur.size) ∧ Hid (Ext w1 wr)) (fun iv _ => (32 - intOf iv).toNat)
 case atStart => exact ⟨1, cs2, rfl, .inl rfl, Hb2, Hon, hz, HE2⟩
 case round =>
  clear Hb2 Hon hz HE2
  obtain ⟨p, cur, rfl, hp, HB, HO, HZ, HE⟩ := hrel
  rcases hp with rfl | rfl | rfl | rfl | rfl | rfl
  · obtain ⟨X, cur', hc, hbx, hzx, hox, hjx⟩ := ones_copy (w := wr.drew) (p := 1) (k := 1) (dl := 31) (dc := 31) (sl := 1) (sc := 32) (a := ⟨w1.heap.size, 0, none⟩) (show wr.drew.heap[w1.heap.size]? = some (.cells cur 5 (0, 0)) from HB.out) HO.out (by
     intro j hj
     rw [show Addr.add ⟨w1.heap.size, 0, none⟩ j = ⟨w1.heap.size, j, none⟩ by unfold Addr.add; split <;> simp_all, blk_cell (show wr.drew.heap[w1.heap.size]? = some (.cells cur 5 (0, 0)) from HB.out) j]
     exact HO.out j hj) rfl (by have := HZ.out; omega)
    rw [show ((1 : Nat) : Int) = 1 from rfl] at hc ⊢
    have HBn := Lib.hid hbx
    have HOn := Lib.hid (show ∀ j, j < 2 → cur'[j]? = some (.int .u8 1) from hox)
    have HEn := Lib.hid (hjx.ext (HE.out.trans (Ext.drew _)) (Nat.le_refl _))
    have HZn := Lib.hid (show 32 ≤ cur'.size by have := HZ.out; omega)
    clear hbx hzx hox hjx HB HO HE HZ
    go_upto_region 20 with fail
    rw [show min (1 : Int) 32 = 1 from by decide]
    go_region_with fail
    all_goals
     go_roundw
     case rel =>
      have hR : ∃ (p : Nat) (cur : Array Value), Value.int .i64 2 = .int .i64 (p : Int) ∧ (p = 1 ∨ p = 2 ∨ p = 4 ∨ p = 8 ∨ p = 16 ∨ p = 32) ∧ Hid (X.heap[w1.heap.size]? = some (.cells cur 5 (0, 0))) ∧ Hid (∀ j, j < p → cur[j]? = some (.int .u8 1)) ∧ Hid (32 ≤ cur.size) ∧ Hid (Ext w1 X) := ⟨2, cur', rfl, by omega, HBn, HOn, HZn, HEn⟩
      first | exact ⟨_, _, _, _, _, _, _, _, _, _, _, _, _, _, _, hR, rfl⟩ | exact ⟨_, _, _, _, _, _, _, _, _, _, _, _, _, _, _, _, hR, rfl⟩ | exact ⟨_, _, _, _, _, _, _, _, _, _, _, _, _, _, _, _, _, hR, rfl⟩ | exact ⟨_, _, _, _, _, _, _, _, _, _, _, _, _, _, _, _, _, _, hR, rfl⟩ | exact ⟨_, _, _, _, _, _, _, _, _, _, _, _, _, _, _, _, _, _, _, hR, rfl⟩ | exact ⟨_, _, _, _, _, _, _, _, _, _, _, _, _, _, _, _, _, _, _, _, hR, rfl⟩ | exact ⟨_, _, _, _, _, _, _, _, _, _, _, _, _, _, _, _, _, _, _, _, _, hR, rfl⟩ | exact ⟨_, _, _, _, _, _, _, _, _, _, _, _, _, _, _, _, _, _, _, _, _, _, hR, rfl⟩ | exact ⟨_, _, _, _, _, _, _, _, _, _, _, _, _, _, _, _, _, _, _, _, _, _, _, hR, rfl⟩
     case measure => change (32 - (2 : Int)).toNat < (32 - (1 : Int)).toNat; decide
  · obtain ⟨X, cur', hc, hbx, hzx, hox, hjx⟩ := ones_copy (w := wr.drew) (p := 2) (k := 2) (dl := 30) (dc := 30) (sl := 2) (sc := 32) (a := ⟨w1.heap.size, 0, none⟩) (show wr.drew.heap[w1.heap.size]? = some (.cells cur 5 (0, 0)) from HB.out) HO.out (by
     intro j hj
     rw [show Addr.add ⟨w1.heap.size, 0, none⟩ j = ⟨w1.heap.size, j, none⟩ by unfold Addr.add; split <;> simp_all, blk_cell (show wr.drew.heap[w1.heap.size]? = some (.cells cur 5 (0, 0)) from HB.out) j]
     exact HO.out j hj) rfl (by have := HZ.out; omega)
    rw [show ((2 : Nat) : Int) = 2 from rfl] at hc ⊢
    have HBn := Lib.hid hbx
    have HOn := Lib.hid (show ∀ j, j < 4 → cur'[j]? = some (.int .u8 1) from hox)
    have HEn := Lib.hid (hjx.ext (HE.out.trans (Ext.drew _)) (Nat.le_refl _))
    have HZn := Lib.hid (show 32 ≤ cur'.size by have := HZ.out; omega)
    clear hbx hzx hox hjx HB HO HE HZ
    go_upto_region 20 with fail
    rw [show min (2 : Int) 32 = 2 from by decide]
    go_region_with fail
    all_goals
     go_roundw
     case rel =>
      have hR : ∃ (p : Nat) (cur : Array Value), Value.int .i64 4 = .int .i64 (p : Int) ∧ (p = 1 ∨ p = 2 ∨ p = 4 ∨ p = 8 ∨ p = 16 ∨ p = 32) ∧ Hid (X.heap[w1.heap.size]? = some (.cells cur 5 (0, 0))) ∧ Hid (∀ j, j < p → cur[j]? = some (.int .u8 1)) ∧ Hid (32 ≤ cur.size) ∧ Hid (Ext w1 X) := ⟨4, cur', rfl, by omega, HBn, HOn, HZn, HEn⟩
      first | exact ⟨_, _, _, _, _, _, _, _, _, _, _, _, _, _, _, hR, rfl⟩ | exact ⟨_, _, _, _, _, _, _, _, _, _, _, _, _, _, _, _, hR, rfl⟩ | exact ⟨_, _, _, _, _, _, _, _, _, _, _, _, _, _, _, _, _, hR, rfl⟩ | exact ⟨_, _, _, _, _, _, _, _, _, _, _, _, _, _, _, _, _, _, hR, rfl⟩ | exact ⟨_, _, _, _, _, _, _, _, _, _, _, _, _, _, _, _, _, _, _, hR, rfl⟩ | exact ⟨_, _, _, _, _, _, _, _, _, _, _, _, _, _, _, _, _, _, _, _, hR, rfl⟩ | exact ⟨_, _, _, _, _, _, _, _, _, _, _, _, _, _, _, _, _, _, _, _, _, hR, rfl⟩ | exact ⟨_, _, _, _, _, _, _, _, _, _, _, _, _, _, _, _, _, _, _, _, _, _, hR, rfl⟩ | exact ⟨_, _, _, _, _, _, _, _, _, _, _, _, _, _, _, _, _, _, _, _, _, _, _, hR, rfl⟩
     case measure => change (32 - (4 : Int)).toNat < (32 - (2 : Int)).toNat; decide
  · obtain ⟨X, cur', hc, hbx, hzx, hox, hjx⟩ := ones_copy (w := wr.drew) (p := 4) (k := 4) (dl := 28) (dc := 28) (sl := 4) (sc := 32) (a := ⟨w1.heap.size, 0, none⟩) (show wr.drew.heap[w1.heap.size]? = some (.cells cur 5 (0, 0)) from HB.out) HO.out (by
     intro j hj
     rw [show Addr.add ⟨w1.heap.size, 0, none⟩ j = ⟨w1.heap.size, j, none⟩ by unfold Addr.add; split <;> simp_all, blk_cell (show wr.drew.heap[w1.heap.size]? = some (.cells cur 5 (0, 0)) from HB.out) j]
     exact HO.out j hj) rfl (by have := HZ.out; omega)
    rw [show ((4 : Nat) : Int) = 4 from rfl] at hc ⊢
    have HBn := Lib.hid hbx
    have HOn := Lib.hid (show ∀ j, j < 8 → cur'[j]? = some (.int .u8 1) from hox)
    have HEn := Lib.hid (hjx.ext (HE.out.trans (Ext.drew _)) (Nat.le_refl _))
    have HZn := Lib.hid (show 32 ≤ cur'.size by have := HZ.out; omega)
    clear hbx hzx hox hjx HB HO HE HZ
    go_upto_region 20 with fail
    rw [show min (4 : Int) 32 = 4 from by decide]
    go_region_with fail
    all_goals
     go_roundw
     case rel =>
      have hR : ∃ (p : Nat) (cur : Array Value), Value.int .i64 8 = .int .i64 (p : Int) ∧ (p = 1 ∨ p = 2 ∨ p = 4 ∨ p = 8 ∨ p = 16 ∨ p = 32) ∧ Hid (X.heap[w1.heap.size]? = some (.cells cur 5 (0, 0))) ∧ Hid (∀ j, j < p → cur[j]? = some (.int .u8 1)) ∧ Hid (32 ≤ cur.size) ∧ Hid (Ext w1 X) := ⟨8, cur', rfl, by omega, HBn, HOn, HZn, HEn⟩
      first | exact ⟨_, _, _, _, _, _, _, _, _, _, _, _, _, _, _, hR, rfl⟩ | exact ⟨_, _, _, _, _, _, _, _, _, _, _, _, _, _, _, _, hR, rfl⟩ | exact ⟨_, _, _, _, _, _, _, _, _, _, _, _, _, _, _, _, _, hR, rfl⟩ | exact ⟨_, _, _, _, _, _, _, _, _, _, _, _, _, _, _, _, _, _, hR, rfl⟩ | exact ⟨_, _, _, _, _, _, _, _, _, _, _, _, _, _, _, _, _, _, _, hR, rfl⟩ | exact ⟨_, _, _, _, _, _, _, _, _, _, _, _, _, _, _, _, _, _, _, _, hR, rfl⟩ | exact ⟨_, _, _, _, _, _, _, _, _, _, _, _, _, _, _, _, _, _, _, _, _, hR, rfl⟩ | exact ⟨_, _, _, _, _, _, _, _, _, _, _, _, _, _, _, _, _, _, _, _, _, _, hR, rfl⟩ | exact ⟨_, _, _, _, _, _, _, _, _, _, _, _, _, _, _, _, _, _, _, _, _, _, _, hR, rfl⟩
     case measure => change (32 - (8 : Int)).toNat < (32 - (4 : Int)).toNat; decide
  · obtain ⟨X, cur', hc, hbx, hzx, hox, hjx⟩ := ones_copy (w := wr.drew) (p := 8) (k := 8) (dl := 24) (dc := 24) (sl := 8) (sc := 32) (a := ⟨w1.heap.size, 0, none⟩) (show wr.drew.heap[w1.heap.size]? = some (.cells cur 5 (0, 0)) from HB.out) HO.out (by
     intro j hj
     rw [show Addr.add ⟨w1.heap.size, 0, none⟩ j = ⟨w1.heap.size, j, none⟩ by unfold Addr.add; split <;> simp_all, blk_cell (show wr.drew.heap[w1.heap.size]? = some (.cells cur 5 (0, 0)) from HB.out) j]
     exact HO.out j hj) rfl (by have := HZ.out; omega)
    rw [show ((8 : Nat) : Int) = 8 from rfl] at hc ⊢
    have HBn := Lib.hid hbx
    have HOn := Lib.hid (show ∀ j, j < 16 → cur'[j]? = some (.int .u8 1) from hox)
    have HEn := Lib.hid (hjx.ext (HE.out.trans (Ext.drew _)) (Nat.le_refl _))
    have HZn := Lib.hid (show 32 ≤ cur'.size by have := HZ.out; omega)
    clear hbx hzx hox hjx HB HO HE HZ
    go_upto_region 20 with fail
    rw [show min (8 : Int) 32 = 8 from by decide]
    go_region_with fail
    all_goals
     go_roundw
     case rel =>
      have hR : ∃ (p : Nat) (cur : Array Value), Value.int .i64 16 = .int .i64 (p : Int) ∧ (p = 1 ∨ p = 2 ∨ p = 4 ∨ p = 8 ∨ p = 16 ∨ p = 32) ∧ Hid (X.heap[w1.heap.size]? = some (.cells cur 5 (0, 0))) ∧ Hid (∀ j, j < p → cur[j]? = some (.int .u8 1)) ∧ Hid (32 ≤ cur.size) ∧ Hid (Ext w1 X) := ⟨16, cur', rfl, by omega, HBn, HOn, HZn, HEn⟩
      first | exact ⟨_, _, _, _, _, _, _, _, _, _, _, _, _, _, _, hR, rfl⟩ | exact ⟨_, _, _, _, _, _, _, _, _, _, _, _, _, _, _, _, hR, rfl⟩ | exact ⟨_, _, _, _, _, _, _, _, _, _, _, _, _, _, _, _, _, hR, rfl⟩ | exact ⟨_, _, _, _, _, _, _, _, _, _, _, _, _, _, _, _, _, _, hR, rfl⟩ | exact ⟨_, _, _, _, _, _, _, _, _, _, _, _, _, _, _, _, _, _, _, hR, rfl⟩ | exact ⟨_, _, _, _, _, _, _, _, _, _, _, _, _, _, _, _, _, _, _, _, hR, rfl⟩ | exact ⟨_, _, _, _, _, _, _, _, _, _, _, _, _, _, _, _, _, _, _, _, _, hR, rfl⟩ | exact ⟨_, _, _, _, _, _, _, _, _, _, _, _, _, _, _, _, _, _, _, _, _, _, hR, rfl⟩ | exact ⟨_, _, _, _, _, _, _, _, _, _, _, _, _, _, _, _, _, _, _, _, _, _, _, hR, rfl⟩
     case measure => change (32 - (16 : Int)).toNat < (32 - (8 : Int)).toNat; decide
  · obtain ⟨X, cur', hc, hbx, hzx, hox, hjx⟩ := ones_copy (w := wr.drew) (p := 16) (k := 16) (dl := 16) (dc := 16) (sl := 16) (sc := 32) (a := ⟨w1.heap.size, 0, none⟩) (show wr.drew.heap[w1.heap.size]? = some (.cells cur 5 (0, 0)) from HB.out) HO.out (by
     intro j hj
     rw [show Addr.add ⟨w1.heap.size, 0, none⟩ j = ⟨w1.heap.size, j, none⟩ by unfold Addr.add; split <;> simp_all, blk_cell (show wr.drew.heap[w1.heap.size]? = some (.cells cur 5 (0, 0)) from HB.out) j]
     exact HO.out j hj) rfl (by have := HZ.out; omega)
    rw [show ((16 : Nat) : Int) = 16 from rfl] at hc ⊢
    have HBn := Lib.hid hbx
    have HOn := Lib.hid (show ∀ j, j < 32 → cur'[j]? = some (.int .u8 1) from hox)
    have HEn := Lib.hid (hjx.ext (HE.out.trans (Ext.drew _)) (Nat.le_refl _))
    have HZn := Lib.hid (show 32 ≤ cur'.size by have := HZ.out; omega)
    clear hbx hzx hox hjx HB HO HE HZ
    go_upto_region 20 with fail
    rw [show min (16 : Int) 32 = 16 from by decide]
    go_region_with fail
    all_goals
     go_roundw
     case rel =>
      have hR : ∃ (p : Nat) (cur : Array Value), Value.int .i64 32 = .int .i64 (p : Int) ∧ (p = 1 ∨ p = 2 ∨ p = 4 ∨ p = 8 ∨ p = 16 ∨ p = 32) ∧ Hid (X.heap[w1.heap.size]? = some (.cells cur 5 (0, 0))) ∧ Hid (∀ j, j < p → cur[j]? = some (.int .u8 1)) ∧ Hid (32 ≤ cur.size) ∧ Hid (Ext w1 X) := ⟨32, cur', rfl, by omega, HBn, HOn, HZn, HEn⟩
      first | exact ⟨_, _, _, _, _, _, _, _, _, _, _, _, _, _, _, hR, rfl⟩ | exact ⟨_, _, _, _, _, _, _, _, _, _, _, _, _, _, _, _, hR, rfl⟩ | exact ⟨_, _, _, _, _, _, _, _, _, _, _, _, _, _, _, _, _, hR, rfl⟩ | exact ⟨_, _, _, _, _, _, _, _, _, _, _, _, _, _, _, _, _, _, hR, rfl⟩ | exact ⟨_, _, _, _, _, _, _, _, _, _, _, _, _, _, _, _, _, _, _, hR, rfl⟩ | exact ⟨_, _, _, _, _, _, _, _, _, _, _, _, _, _, _, _, _, _, _, _, hR, rfl⟩ | exact ⟨_, _, _, _, _, _, _, _, _, _, _, _, _, _, _, _, _, _, _, _, _, hR, rfl⟩ | exact ⟨_, _, _, _, _, _, _, _, _, _, _, _, _, _, _, _, _, _, _, _, _, _, hR, rfl⟩ | exact ⟨_, _, _, _, _, _, _, _, _, _, _, _, _, _, _, _, _, _, _, _, _, _, _, hR, rfl⟩
     case measure => change (32 - (32 : Int)).toNat < (32 - (16 : Int)).toNat; decide
  · rw [show ((32 : Nat) : Int) = 32 from rfl]
    have hones : bys (List.replicate 32 1) = List.replicate 32 (Value.int .u8 1) := by simp [bys]
    have hRB : RB wr (fun k => k < wr.heap.size) (some ⟨w1.heap.size, 0, none⟩) 32 (List.replicate 32 1) := by
     refine ⟨⟨by simp, by unfold maxLen; omega, by simp [bys], fun _ => ⟨⟨w1.heap.size, 0, none⟩, rfl, blk_lt HB.out, fun j u hu => ?_⟩⟩, fun x hx => by rw [(List.mem_replicate.1 hx).2]; omega, by simp⟩
     rw [hones] at hu
     obtain ⟨h1, h2⟩ := List.getElem?_eq_some_iff.1 hu
     rw [List.length_replicate] at h1
     rw [List.getElem_replicate] at h2
     rw [show Addr.add ⟨w1.heap.size, 0, none⟩ j = ⟨w1.heap.size, j, none⟩ by unfold Addr.add; split <;> simp_all, blk_cell HB.out j, HO.out j h1, h2]
    have HRB := Lib.hid hRB
    clear hRB hones
    go_wp2_with fail
    go_ret
    exact ⟨_, rfl, HRB.out, HE.out⟩
end Go.Proofs.YtjphlimfldcifaaDoor

namespace Go.Proofs.YtjphlimfldcifaaDoor
open Go.RowKit
open Sha

theorem made32 (w : World) : RB (w.alloc (.cells (madeCells #[.int .u8 0] 32) 5)) (fun k => k < (w.alloc (.cells (madeCells #[.int .u8 0] 32) 5)).heap.size) (some ⟨w.heap.size, 0, none⟩) 32 (List.replicate 32 0) := by
 have := (Blk8.made w 32).rb (P := fun k => k < (w.alloc (.cells (madeCells #[.int .u8 0] 32) 5)).heap.size) (by rw [World.size_alloc]; omega) (by simp) (by simp)
 rwa [List.length_replicate] at this
def news (d : List Nat) : List Nat × List Nat := upd2 (List.replicate 32 0) (List.replicate 32 1) d
set_option maxRecDepth 100000 in
set_option maxHeartbeats 8000000 in
theorem new_any {P : Nat → Prop} {A : Option Addr} {c : Nat} {d : List Nat} (w : World) (hk : KW w) (hp : RB w P A c d) (hP : ∀ k, P k → k < w.heap.size) (hl : d.length ≤ 200000) :
 Calls Tryd.prog 9 #[.slice A d.length c] w fun e w' => ∃ b, e = .returned (.pointer (some ⟨b, 0, none⟩)) ∧ w.heap.size ≤ b ∧ DR w' b (news d).1 (news d).2 0 ∧ Ext w w' := by
 have HK := Lib.hid hk
 have HP := Lib.hid hp
 have HPP := Lib.hid hP
 clear hk hp hP
 go_enter Tryd.func9, Tryd.ntmps9
 go_upto_region 1 with fail
 refine Par.region_ext (by kernel_rfl) 6 [0, 0, 2, 7, 15, 31] [] (fun j f X => match j with
  | 0 => ∃ g, f 0 = .slice (some ⟨g, 0, none⟩) 32 32 ∧ RB X (fun k => k < X.heap.size) (some ⟨g, 0, none⟩) 32 (List.replicate 32 0)
  | 1 => ∃ g, f 1 = .slice (some ⟨g, 0, none⟩) 1 1 ∧ X.heap[g]? = some (.cells #[.int .u8 1] 5 (0, 0))
  | 2 => ∃ A, f 2 = .slice A 32 32 ∧ RB X (fun k => k < X.heap.size) A 32 (List.replicate 32 1)
  | 3 => ∃ g A, f 3 = .agg #[.slice (some ⟨g, 0, none⟩) 32 32, .slice A 32 32, .int .i64 0] ∧ RB X (fun k => k < X.heap.size) (some ⟨g, 0, none⟩) 32 (List.replicate 32 0) ∧ RB X (fun k => k < X.heap.size) A 32 (List.replicate 32 1)
  | 4 => ∃ b, f 4 = .pointer (some ⟨b, 0, none⟩) ∧ w.heap.size ≤ b ∧ DR X b (List.replicate 32 0) (List.replicate 32 1) 0
  | 5 => ∃ b, f 5 = .pointer (some ⟨b, 0, none⟩) ∧ w.heap.size ≤ b ∧ DR X b (List.replicate 32 0) (List.replicate 32 1) 0
  | _ => True) (by kernel_rfl) [(4, 0), (5, 1), (6, 2), (7, 3), (8, 4), (3, 5)] (by kernel_rfl) ?_
 refine Par.S 1 5 [(5, 1), (6, 2)] (fun f X hX hR K hK => ?_) ?_
 · have hmk := run_make_row' (P := Tryd.prog) 22 5 (.int .u8 0) 1 Tryd.underlying22 info8 rfl .i64 .i64 32 (by omega) (by omega)
   simp only [Int.cast_ofNat_Int] at hmk
   simp only [yA, yB, yC, yD, yE]
   refine ⟨?_⟩
   go_simp
   exact hK.out _ _ _ (by simp only [yA, yB, yC, yD, yE]) (Ext.alloc _ _) trivial (fun Y hY => ⟨_, rfl, (made32 X).upE hY⟩)
 refine Par.S 2 4 [(4, 0)] (fun f X hX hR K hK => ?_) ?_
 · simp only [yA, yB, yC, yD, yE]
   refine ⟨?_⟩
   go_simp
   exact hK.out _ _ _ (by simp only [yA, yB, yC, yD, yE]) (Ext.alloc _ _) trivial (fun Y hY => ⟨_, rfl, hY.at_ (heap_alloc_new _ _)⟩)
 refine Par.c0 3 3 (fun f => #[f 1, Value.int IntKind.i64 32]) (F' := 22) (fun f X hX hR => ?_) ?_
 · obtain ⟨g1, (e1 : f 1 = _), r1⟩ := hR.out 1 rfl
   simp only [e1]
   refine (repeat_one X r1).mono ?_
   rintro e w2 ⟨A2, rfl, hr, hE⟩
   exact ⟨_, rfl, hE, fun Y hY => ⟨A2, rfl, hr.upE hY⟩⟩
 refine Par.S 4 2 [(4, 0), (5, 1), (6, 2)] (fun f X hX hR K hK => ?_) ?_
 · obtain ⟨g0, (e0 : f 0 = _), r0⟩ := hR.out 0 rfl
   obtain ⟨A2, (e2 : f 2 = _), r2⟩ := hR.out 2 rfl
   simp only [yA, yB, yC, yD, yE, e0, e2]
   refine ⟨?_⟩
   go_simp
   exact hK.out _ _ _ (by simp only [yA, yB, yC, yD, yE, e0, e2]) (Ext.refl _) trivial (fun Y hY => ⟨_, _, rfl, r0.upE hY, r2.upE hY⟩)
 refine Par.S 5 1 [(4, 0), (5, 1), (6, 2), (7, 3)] (fun f X hX hR K hK => ?_) ?_
 · obtain ⟨g3, A3, (e3 : f 3 = _), r3, s3⟩ := hR.out 3 rfl
   simp only [yA, yB, yC, yD, yE, e3]
   refine ⟨?_⟩
   go_simp
   exact hK.out _ _ _ (by simp only [yA, yB, yC, yD, yE, e3]) (Ext.alloc _ _) trivial (fun Y hY => ⟨_, rfl, hX.bsize, DR.ext ⟨_, _, _, _, heap_alloc_new _ _, r3.upE (Ext.alloc _ _), s3.upE (Ext.alloc _ _), by simp, by simp⟩ hY⟩)
 refine Par.S 6 0 [(4, 0), (5, 1), (6, 2), (7, 3), (8, 4)] (fun f X hX hR K hK => ?_) ?_
 · obtain ⟨b4, (e4 : f 4 = _), l4, d4⟩ := hR.out 4 rfl
   simp only [yA, yB, yC, yD, yE, e4]
   refine ⟨?_⟩
   go_simp
   exact hK.out _ _ _ (by simp only [yA, yB, yC, yD, yE, e4]) (Ext.refl _) trivial (fun Y hY => ⟨_, rfl, l4, d4.ext hY⟩)
 refine Par.AllOps.fin ⟨fun f X hX hR hal hap => ?_⟩
 obtain ⟨g0, (e0 : f 0 = _), r0⟩ := hR 0 (by decide)
 obtain ⟨g1, (e1 : f 1 = _), r1⟩ := hR 1 (by decide)
 obtain ⟨A2, (e2 : f 2 = _), r2⟩ := hR 2 (by decide)
 obtain ⟨g3, A3, (e3 : f 3 = _), r3, s3⟩ := hR 3 (by decide)
 obtain ⟨b4, (e4 : f 4 = _), l4, d4⟩ := hR 4 (by decide)
 obtain ⟨b, (e5 : f 5 = _), lb, db⟩ := hR 5 (by decide)
 simp only [yA, yB, yD, yE, e0, e1, e2, e3, e4, e5]
 clear hR hal hap e0 e1 e2 e3 e4 e5
 refine Par.Chain.done ?_
 have H := Lib.hid (update_any X (HK.out.ext hX) db (HP.out.below hX HPP.out) (fun k hk => Nat.lt_of_lt_of_le (HPP.out k hk) hX.bsize) hl)
 clear r0 r1 r2 r3 s3 l4 d4 db HP HPP
 have HX := Lib.hid hX
 clear hX
 go_wp2_with fail
 refine H.out.mono ?_
 rintro e w1 ⟨rfl, hd, hf⟩
 have HD := Lib.hid hd
 have HF := Lib.hid (hf.ext' HX.out lb HX.out.bsize)
 clear hd hf H
 go_wp2_with fail
 go_ret
 exact ⟨b, rfl, lb, HD.out, HF.out⟩
end Go.Proofs.YtjphlimfldcifaaDoor

namespace Go.Proofs.YtjphlimfldcifaaDoor
open Go.RowKit
open Sha

theorem two_made (w : World) (cs : Array Value) (t : TypeId) :
 Blk8 (((w.alloc (.cells (madeCells #[.int .u8 0] 32) 5)).alloc (.cells (madeCells #[.int .u8 0] 32) 5)).alloc (.cells cs t)) w.heap.size (List.replicate 32 0) ∧
 Blk8 (((w.alloc (.cells (madeCells #[.int .u8 0] 32) 5)).alloc (.cells (madeCells #[.int .u8 0] 32) 5)).alloc (.cells cs t)) (w.heap.size + 1) (List.replicate 32 0) ∧
 (((w.alloc (.cells (madeCells #[.int .u8 0] 32) 5)).alloc (.cells (madeCells #[.int .u8 0] 32) 5)).alloc (.cells cs t)).heap[w.heap.size + 1 + 1]? = some (.cells cs t (0, 0)) ∧
 Ext w (((w.alloc (.cells (madeCells #[.int .u8 0] 32) 5)).alloc (.cells (madeCells #[.int .u8 0] 32) 5)).alloc (.cells cs t)) := by
 have m2 := Blk8.made (w.alloc (.cells (madeCells #[.int .u8 0] 32) 5)) 32
 have m3 := heap_alloc_new ((w.alloc (.cells (madeCells #[.int .u8 0] 32) 5)).alloc (.cells (madeCells #[.int .u8 0] 32) 5)) (.cells cs t)
 rw [World.size_alloc] at m2
 rw [World.size_alloc, World.size_alloc] at m3
 exact ⟨(Ext.alloc _ _).at_ ((Ext.alloc _ _).at_ (Blk8.made w 32)), (Ext.alloc _ _).at_ m2, m3, ((Ext.alloc _ _).trans (Ext.alloc _ _)).trans (Ext.alloc _ _)⟩
theorem ones_step {k : Nat} (h : k < 32) : List.set (List.replicate k 1 ++ List.replicate (32 - k) 0 : List Nat) k 1 = List.replicate (k + 1) 1 ++ List.replicate (32 - (k + 1)) 0 := by
 rw [show 32 - k = (32 - (k + 1)) + 1 by omega, List.replicate_succ (n := 32 - (k + 1)), List.set_append_right _ _ (by simp), List.replicate_succ' (n := k)]
 simp
set_option maxRecDepth 100000 in
set_option maxHeartbeats 8000000 in
theorem rnew_any {P : Nat → Prop} {A : Option Addr} {c : Nat} {d : List Nat} (w : World) (hp : RB w P A c d) (hP : ∀ k, P k → k < w.heap.size) (hl : d.length ≤ 200000) :
 Calls Tryd.prog 10 #[.slice A d.length c] w fun e w' => ∃ b, e = .returned (.pointer (some ⟨b, 0, none⟩)) ∧ w.heap.size ≤ b ∧ ER w' b (news d).1 (news d).2 0 ∧ Ext w w' := by
 have HP := Lib.hid hp
 have HPP := Lib.hid hP
 clear hp hP
 have hmk := run_make_row' (P := Tryd.prog) 22 5 (.int .u8 0) 1 Tryd.underlying22 info8 rfl .i64 .i64 32 (by omega) (by omega)
 simp only [Int.cast_ofNat_Int] at hmk
 go_enter Tryd.func10, Tryd.ntmps10
 go_upto_region 1 with fail
 go_cut [3] from 4 (fun s3 wx => ∃ b gk gv : Nat, s3 = .pointer (some ⟨b, 0, none⟩) ∧ gk ≠ gv ∧ b ≠ gv ∧ w.heap.size ≤ b ∧ w.heap.size ≤ gv ∧ Hid (Blk8 wx gk (List.replicate 32 0)) ∧ Hid (Blk8 wx gv (List.replicate 32 0)) ∧ Hid (wx.heap[b]? = some (.cells #[.slice (some ⟨gk, 0, none⟩) 32 32, .slice (some ⟨gv, 0, none⟩) 32 32, .int .i64 0] 49 (0, 0))) ∧ Hid (Ext w wx))
 case first =>
  go_region_with fail
  all_goals
   go_wp2_with fail
   go_meet
   case rel => first
    | exact ⟨_, _, _, rfl, by omega, by omega, by omega, by omega, Lib.hid ((Ext.drew _).at_ (two_made w _ _).1), Lib.hid ((Ext.drew _).at_ (two_made w _ _).2.1), Lib.hid ((Ext.drew _).at_ (two_made w _ _).2.2.1), Lib.hid ((two_made w _ _).2.2.2.trans (Ext.drew _))⟩
    | exact ⟨_, _, _, rfl, by omega, by omega, by omega, by omega, Lib.hid ((Ext.drew _).at_ (two_made w _ _).2.1), Lib.hid ((Ext.drew _).at_ (two_made w _ _).1), Lib.hid ((Ext.drew _).at_ (two_made w _ _).2.2.1), Lib.hid ((two_made w _ _).2.2.2.trans (Ext.drew _))⟩
    | exact ⟨_, _, _, rfl, by omega, by omega, by omega, by omega, Lib.hid ((Ext.drewN _ _).at_ (two_made w _ _).1), Lib.hid ((Ext.drewN _ _).at_ (two_made w _ _).2.1), Lib.hid ((Ext.drewN _ _).at_ (two_made w _ _).2.2.1), Lib.hid ((two_made w _ _).2.2.2.trans (Ext.drewN _ _))⟩
    | exact ⟨_, _, _, rfl, by omega, by omega, by omega, by omega, Lib.hid ((Ext.drewN _ _).at_ (two_made w _ _).2.1), Lib.hid ((Ext.drewN _ _).at_ (two_made w _ _).1), Lib.hid ((Ext.drewN _ _).at_ (two_made w _ _).2.2.1), Lib.hid ((two_made w _ _).2.2.2.trans (Ext.drewN _ _))⟩
    | exact ⟨_, _, _, rfl, by omega, by omega, by omega, by omega, Lib.hid ((Ext.refl _).at_ (two_made w _ _).1), Lib.hid ((Ext.refl _).at_ (two_made w _ _).2.1), Lib.hid ((Ext.refl _).at_ (two_made w _ _).2.2.1), Lib.hid ((two_made w _ _).2.2.2.trans (Ext.refl _))⟩
    | exact ⟨_, _, _, rfl, by omega, by omega, by omega, by omega, Lib.hid ((Ext.refl _).at_ (two_made w _ _).2.1), Lib.hid ((Ext.refl _).at_ (two_made w _ _).1), Lib.hid ((Ext.refl _).at_ (two_made w _ _).2.2.1), Lib.hid ((two_made w _ _).2.2.2.trans (Ext.refl _))⟩
 case rest =>
  obtain ⟨b, gk, gv, rfl, hn1, hn2, hb, hv, HK, HV, HB, HE⟩ := hcut
  clear hmk
  go_wp2_with fail
  go_loopw [4] (fun s4 wx => ∃ k : Nat, s4 = .int .i64 (k : Int) ∧ k ≤ 32 ∧ Hid (Blk8 wx gk (List.replicate 32 0)) ∧ Hid (Blk8 wx gv (List.replicate k 1 ++ List.replicate (32 - k) 0)) ∧ Hid (wx.heap[b]? = some (.cells #[.slice (some ⟨gk, 0, none⟩) 32 32, .slice (some ⟨gv, 0, none⟩) 32 32, .int .i64 0] 49 (0, 0))) ∧ Hid (Ext w wx)) (fun s4 _ => (32 - intOf s4).toNat)
  case atStart => exact ⟨0, rfl, by omega, HK, HV, HB, HE⟩
  case round =>
   clear HK HV HB HE
   obtain ⟨k, rfl, hk, HK, HV, HB, HE⟩ := hrel
   by_cases hlt : k < 32
   · have k32 : (k : Int) < 32 := by omega
     have vc : wr.cell? ⟨b, 1, none⟩ = some (.slice (some ⟨gv, 0, none⟩) 32 32) := blk_cell HB.out 1
     have ck := HV.out.cell (i := k) (by simp; omega)
     have fk := HV.out.free k
     have j := (Just.refl gv wr).set k (.int .u8 1)
     have HV2 := Lib.hid (show Blk8 (wr.setCell ⟨gv, k, none⟩ (.int .u8 1)) gv (List.replicate (k + 1) 1 ++ List.replicate (32 - (k + 1)) 0) by
      have := HV.out.set k 1
      rw [ones_step hlt] at this
      exact this)
     have HK2 := Lib.hid (show Blk8 (wr.setCell ⟨gv, k, none⟩ (.int .u8 1)) gk (List.replicate 32 0) from j.at_ hn1 HK.out)
     have HB2 := Lib.hid (j.at_ hn2 HB.out)
     have HE2 := Lib.hid (j.ext HE.out hv)
     clear j HK HV HB HE
     go_wp2_with fail
     go_roundw
     case rel => exact ⟨k + 1, by go_num, by omega, HK2, HV2, HB2, HE2⟩
     case measure => simp [intOf]; omega
   · obtain rfl : k = 32 := by omega
     rw [show ((32 : Nat) : Int) = 32 from rfl]
     have hv' : Blk8 wr gv (List.replicate 32 1) := by simpa using HV.out
     have hd : ER wr b (List.replicate 32 0) (List.replicate 32 1) 0 := ⟨_, _, _, _, HB.out, by simpa using HK.out.rb (P := fun g => g < wr.heap.size) (blk_lt HK.out) (by simp) (by simp), by simpa using hv'.rb (P := fun g => g < wr.heap.size) (blk_lt hv') (by simp) (by simp), by simp, by simp⟩
     have H := Lib.hid (rupdate_any wr hd (HP.out.below HE.out HPP.out) (fun k hk => Nat.lt_of_lt_of_le (HPP.out k hk) HE.out.bsize) hl)
     clear hv' hd HK HV HB
     go_wp2_with fail
     refine H.out.mono ?_
     rintro e w1 ⟨rfl, hd, hf⟩
     have HD := Lib.hid hd
     have HF := Lib.hid (hf.ext' HE.out hb HE.out.bsize)
     clear hd hf H
     go_wp2_with fail
     go_ret
     exact ⟨b, rfl, hb, HD.out, HF.out⟩
end Go.Proofs.YtjphlimfldcifaaDoor

namespace Go.Proofs.YtjphlimfldcifaaDoor
open Go.RowKit
open Sha

def CL (w : World) (F b : Nat) (k v : List Nat) (n : Int) (A : Option Addr) (c : Nat) (out : List Nat) : Prop :=
 ∃ Ak ck Av cv, w.heap[b]? = some (.cells #[.slice Ak 32 ck, .slice Av 32 cv, .int .i64 n] 49 (0, 0)) ∧ RB w (fun g => g < F) Ak ck k ∧ F ≤ w.heap.size ∧ RB w (fun g => g < w.heap.size) Av cv v ∧ k.length = 32 ∧ v.length = 32 ∧ OW w F A c out
theorem CL.er {w : World} {F b c : Nat} {k v out : List Nat} {n : Int} {A : Option Addr} (h : CL w F b k v n A c out) : ER w b k v n := by
 obtain ⟨Ak, ck, Av, cv, h1, h2, hF, h3, h4, h5, _⟩ := h
 exact ⟨Ak, ck, Av, cv, h1, h2.mono fun _ hg => Nat.lt_of_lt_of_le hg hF, h3, h4, h5⟩
theorem CL.ow {w : World} {F b c : Nat} {k v out : List Nat} {n : Int} {A : Option Addr} (h : CL w F b k v n A c out) : OW w F A c out := let ⟨_, _, _, _, _, _, _, _, _, _, h⟩ := h; h
theorem ER.cl {w : World} {b : Nat} {k v : List Nat} {n : Int} (h : ER w b k v n) : CL w w.heap.size b k v n none 0 [] := by
 obtain ⟨Ak, ck, Av, cv, h1, h2, h3, h4, h5⟩ := h
 exact ⟨Ak, ck, Av, cv, h1, h2, Nat.le_refl _, h3, h4, h5, ⟨⟨by simp [bys], .inl ⟨rfl, rfl⟩⟩, by simp⟩⟩
theorem OW.erb {w X : World} {b : Nat} {cs : Array Value} {A : Option Addr} {c base : Nat} {l : List Nat} (h : OW w base A c l) (hj : Just b w X) (hb : w.heap[b]? = some (.cells cs 49 (0, 0))) : OW X base A c l :=
 h.same fun g _ cs' hk => hj.at_ (fun e => by
  rw [e, hb] at hk
  injection Option.some.inj hk with _ e2
  exact absurd e2 (by decide)) hk
theorem own_nee {w : World} {b g base c : Nat} {cs : Array Value} {A : Option Addr} {l : List Nat} (hb : w.heap[b]? = some (.cells cs 49 (0, 0))) (h : OW w base A c l) (hg : (Value.slice A l.length c).ownBlock = some g) : b ≠ g := by
 intro e
 obtain ⟨_, cs', hc⟩ := h.own hg
 rw [← e, hb] at hc
 injection Option.some.inj hc with _ e2
 exact absurd e2 (by decide)
theorem CL.turn {w w1 : World} {F b c c' : Nat} {k v v' out : List Nat} {n : Int} {A A' : Option Addr} (h : CL w F b k v n A c out) (hE : Ext w w1) (ho : OW w1 w.heap.size A' c' v') (hl : v'.length = 32) :
 CL (w1.setCell ⟨b, 1, none⟩ (.slice A' 32 c')) F b k v' n A c out ∧ OW (w1.setCell ⟨b, 1, none⟩ (.slice A' 32 c')) w.heap.size A' c' v' ∧ (w1.setCell ⟨b, 1, none⟩ (.slice A' 32 c')).cell? ⟨b, 1, none⟩ = some (.slice A' 32 c') ∧ (∀ g, (Value.slice A out.length c).ownBlock = some g → g < w.heap.size) := by
 have hd := h.er.ext hE
 obtain ⟨Ak, ck, Av, cv, h1, h2, hF, h3, h4, h5, h6⟩ := h
 have j := (Just.refl b w1).set 1 (.slice A' 32 c')
 have h1' := hE.at_ h1
 have ho' := ho.erb j h1'
 exact ⟨⟨Ak, ck, A', c', blk_set h1' 1 _, (h2.below hE (fun _ hg => Nat.lt_of_lt_of_le hg hF)).er (fun _ hg => Nat.lt_of_lt_of_le hg (Nat.le_trans hF hE.bsize)) hd (ER.frS _ _), Nat.le_trans hF (Nat.le_trans hE.bsize (ER.frS (b := b) 1 (.slice A' 32 c')).size), ho'.rb' (by omega), h4, hl, (h6.same fun g _ cs hk => hE.at_ hk).erb j h1'⟩, ho', by rw [blk_cell (blk_set h1' 1 _) 1]; rfl, fun g hg => let ⟨_, cs, hc⟩ := h6.own hg; blk_lt hc⟩
theorem CL.app {w w' : World} {F B b c c2 : Nat} {k v out : List Nat} {n : Int} {A A' A2 : Option Addr} {c' : Nat} (h : CL w F b k v n A c out) (hv : OW w B A' c' v) (hc : w.cell? ⟨b, 1, none⟩ = some (.slice A' 32 c')) (hB : ∀ g, (Value.slice A out.length c).ownBlock = some g → g < B)
 (hg : w.grownBy w' (Value.slice A out.length c).ownBlock) (ho : OW w' F A2 c2 (out ++ v)) : CL w' F b k v n A2 c2 (out ++ v) := by
 obtain ⟨Ak, ck, Av, cv, h1, h2, hF, h3, h4, h5, h6⟩ := h
 have e1 := blk_cell h1 1
 rw [hc] at e1
 simp only [List.getElem?_toArray, List.getElem?_cons_zero, List.getElem?_cons_succ, Option.some.injEq, Value.slice.injEq] at e1
 obtain ⟨rfl, _, rfl⟩ := e1
 have k1 := (hg.block b (blk_lt h1) (fun e => own_nee h1 h6 e.symm rfl)).trans h1
 refine ⟨Ak, ck, A', c', k1, h2.keep fun p hp => World.cell?_of_block (hg.block _ (Nat.lt_of_lt_of_le hp hF) (fun e => ?_)), Nat.le_trans hF hg.size, (hv.keepOwn fun g cs hq hk => (hg.block g (blk_lt hk) (fun e => ?_)).trans hk).rb' (by omega), h4, h5, ho⟩
 · have h8 := (h6.own e.symm).1
   omega
 · have h7 := (hv.own hq).1
   have h8 := hB g e.symm
   omega
set_option maxRecDepth 100000 in
set_option maxHeartbeats 8000000 in
theorem rbytes_any {b m : Nat} {k v : List Nat} {num : Int} (w : World) (hd : ER w b k v num) (hm : 0 < m) (hm2 : m ≤ 65536) (hn : 0 ≤ num) (hn2 : num < 1000000000) :
 Calls Tryd.prog 12 #[.pointer (some ⟨b, 0, none⟩), .int .i64 (m : Int)] w fun e w' => ∃ A c, e = .returned (.slice A m c) ∧ RB w' (In w.heap.size w'.heap.size) A c ((douts k v ((m + 31) / 32)).take m) ∧ ER w' b (upd2 k (dvs k v ((m + 31) / 32)) []).1 (upd2 k (dvs k v ((m + 31) / 32)) []).2 (num + 1) ∧ Fr b w.heap.size w w' := by
 have HB0 := Lib.hid hd.cl
 have HD0 := Lib.hid hd
 have m1 : ¬ (m : Int) < 1 := by omega
 have m2 : ¬ (65536 : Int) < (m : Int) := by omega
 clear hd
 go_enter Tryd.func12, Tryd.ntmps12
 go_wp2_with fail
 go_loopw [5] (fun sv wr => ∃ (q : Nat) (A : Option Addr) (c : Nat), sv = .slice A (douts k v q).length c ∧ 32 * q < m + 32 ∧ Hid (CL wr w.heap.size b k (dvs k v q) num A c (douts k v q)) ∧ Hid (Fr b w.heap.size w wr)) (fun sv _ => m + 32 - (match sv with | .slice _ l _ => l | _ => 0))
 case atStart => exact ⟨0, none, 0, rfl, by omega, HB0, Lib.hid (Fr.refl _ _ _)⟩
 case round =>
  clear HB0
  obtain ⟨q, A, c, rfl, hq, HB, HF⟩ := hrel
  have hql := douts_len k v q
  by_cases hlt : 32 * q < m
  · have hl1 : ((douts k v q).length : Int) < (m : Int) := by omega
    have HD := Lib.hid HB.out.er
    have Hql := Lib.hid hql
    have Hv' := Lib.hid (show hmac k (dvs k v q) = dvs k v (q + 1) from rfl)
    have Hdo := Lib.hid (show douts k v (q + 1) = douts k v q ++ dvs k v (q + 1) from rfl)
    have hol : (douts k v (q + 1)).length = 32 * q + 32 := by rw [douts_len]; omega
    have Hol := Lib.hid hol
    have fsz := Lib.hid HF.out.size
    obtain ⟨o, ho⟩ : ∃ o, douts k v q = o := ⟨_, rfl⟩
    obtain ⟨v0, hv0⟩ : ∃ o, dvs k v q = o := ⟨_, rfl⟩
    rw [ho] at HB Hql Hdo hl1 hql
    rw [hv0] at HB HD Hv'
    rw [ho]
    clear hql hol
    go_upto_region 5 with fail
    obtain ⟨l, hol⟩ : ∃ l, o.length = l := ⟨_, rfl⟩
    rw [hol]
    rw [hol] at hl1 Hql
    obtain ⟨Ak, ck, Av, cv, h1, h2, h3, h4, h5⟩ := id HD.out
    have kc : wr.cell? ⟨b, 0, none⟩ = some (.slice Ak 32 ck) := blk_cell h1 0
    have vc : wr.cell? ⟨b, 1, none⟩ = some (.slice Av 32 cv) := blk_cell h1 1
    have H2 := Lib.hid h2
    have H3 := Lib.hid h3
    have H4 := Lib.hid h4
    have H5 := Lib.hid h5
    clear h1 h2 h3 h4 h5
    refine Par.region_ext (by kernel_rfl) 13 [0, 0, 2, 6, 14, 0, 32, 96, 224, 480, 1022, 2047, 4095, 8191] [] (fun j f X => match j with
     | 0 => f 0 = .pointer (some ⟨b, 0, none⟩)
     | 1 => f 1 = .pointer (some ⟨b, 0, none⟩)
     | 2 => f 2 = .pointer (some ⟨b, 0, none⟩)
     | 3 => f 3 = .pointer (some ⟨b, 0, none⟩)
     | 4 => f 4 = .slice Ak 32 ck
     | 5 => f 5 = .pointer (some ⟨b, 0, none⟩)
     | 6 => f 6 = .pointer (some ⟨b, 0, none⟩)
     | 7 => f 7 = .pointer (some ⟨b, 1, none⟩)
     | 8 => f 8 = .slice Av 32 cv
     | 9 => ∃ g, f 9 = .slice (some ⟨g, 0, none⟩) 1 1 ∧ RP X (fun k => k < X.heap.size) (some ⟨g, 0, none⟩) 1 [v0]
     | 10 => ∃ A c, f 10 = .slice A 32 c ∧ OW X wr.heap.size A c (hmac k v0)
     | 11 => f 11 = .pointer (some ⟨b, 0, none⟩)
     | 12 => f 12 = .pointer (some ⟨b, 1, none⟩)
     | _ => True) (by kernel_rfl) [(16, 0), (17, 1), (18, 2), (19, 3), (20, 4), (21, 5), (22, 6), (23, 7), (24, 8), (25, 9), (26, 10), (27, 11), (28, 12)] (by kernel_rfl) ?_
    refine Par.v0 1 12 ?_
    refine Par.v0 2 11 ?_
    refine Par.v1 3 10 1 ?_
    refine Par.v1 4 9 2 ?_
    refine Par.ld1 5 8 3 kc ?_
    refine Par.v0 6 7 ?_
    refine Par.v1 7 6 5 ?_
    refine Par.v1 8 5 6 ?_
    refine Par.ld1 9 4 7 vc ?_
    refine Par.S 10 3 [(16, 0), (17, 1), (18, 2), (19, 3), (20, 4), (21, 5), (22, 6), (23, 7), (24, 8)] (fun f X hX hR K hK => ?_) ?_
    · have e8 : f 8 = _ := hR.out 8 rfl
      simp only [yA, yB, yC, yD, yE, e8]
      refine ⟨?_⟩
      go_simp
      exact hK.out _ _ _ (by simp only [yA, yB, yC, yD, yE, e8]) (Ext.alloc _ _) trivial (fun Y hY => ⟨_, rfl, (RP.lit1 X (H3.out.upE hX) H5.out).up hY⟩)
    refine Par.c0 11 2 (fun f => #[f 4, f 9]) (F' := 26) (fun f X hX hR => ?_) ?_
    · have e4 : f 4 = _ := hR.out 4 rfl
      obtain ⟨g9, (e9 : f 9 = _), r9⟩ := hR.out 9 rfl
      simp only [e4, e9]
      refine (rhm4_any X (H2.out.upE hX) H4.out r9 (fun _ h => h) (by have := H5.out; simp; omega)).mono ?_
      rintro e w2 ⟨A2, c2, rfl, ho, hE⟩
      exact ⟨_, rfl, hE, fun Y hY => ⟨A2, c2, rfl, by have := (ho.mono hX.bsize).extE hY; simpa using this⟩⟩
    refine Par.v1 12 1 0 ?_
    refine Par.v1 13 0 11 ?_
    refine Par.AllOps.fin ⟨fun f X hX hR hal hap => ?_⟩
    obtain ⟨g9, (e9 : f 9 = _), r9⟩ := hR 9 (by decide)
    obtain ⟨A10, c10, (e10 : f 10 = _), o10⟩ := hR 10 (by decide)
    have e12 : f 12 = _ := hR 12 (by decide)
    simp only [yA, yB, yD, yE, e9, e10, e12]
    clear hR hal hap e9 e10 e12
    replace vc := hX.cell vc
    have fr := (HD.out.ext hX).free 1
    refine Par.Chain.next (fun K hK => ⟨Par.want (by kernel_rfl) ?_⟩)
    go_simp
    refine hK.out _ _ ?_
    refine Par.Chain.done ?_
    obtain ⟨v', hv'⟩ : ∃ x, hmac k v0 = x := ⟨_, rfl⟩
    have hvl : v'.length = 32 := by rw [← hv']; exact hmac_len _ _
    rw [hv'] at o10 Hv'
    obtain ⟨hb1, hv1, hc1, hown⟩ := HB.out.turn hX o10 hvl
    have hf1 := (Fr.below hX (Nat.le_refl _)).trans (Fr.just ((Just.refl b X).set 1 (.slice A10 32 c10)) hX.bsize)
    have HF1 := Lib.hid (HF.out.trans (hf1.mono fsz.out))
    have HB1 := Lib.hid hb1
    have HV1 := Lib.hid hv1
    have Hown := Lib.hid hown
    have Hvl := Lib.hid hvl
    clear hb1 hv1 hown hvl hf1 hX o10 HB HF HD H2 H3 H4 H5 fr vc kc r9 hv'
    generalize X.setCell ⟨b, 1, none⟩ (.slice A10 32 c10) = X1 at *
    go_upto_region 6 with fail
    have hO1 := Lib.hid HB1.out.ow
    have hP1 := Lib.hid (HV1.out.rb (by rw [Hvl.out]; omega))
    have hlen := Lib.hid (show o.length + v'.length ≤ 100000000 by rw [Hvl.out, hol, Hql.out]; omega)
    have hbase := Lib.hid HF1.out.size
    go_wp2_with (at_builtin; refine app8g rfl (.tmp 29) (.tmp 33) rfl w.heap.size (by rw [hol]; rfl) hO1.out (by rw [Hvl.out]; rfl) hP1.out hlen.out hbase.out ?_; intro A2 c2 W2 ho2 hg2; have HO2 := Lib.hid ho2; have HG2 := Lib.hid hg2; clear ho2 hg2)
    have hba := HB1.out.app HV1.out hc1 Hown.out HG2.out HO2.out
    have e1 : o ++ v' = douts k v (q + 1) := by rw [Hdo.out, ← Hv'.out]
    rw [e1, Hv'.out] at hba
    have HBn := Lib.hid hba
    have HFn := Lib.hid (HF1.out.trans (Fr.below (b := b) (Below.grown (Below.refl w.heap.size X1) HG2.out hbase.out (own_base hO1.out.1)) (Nat.le_refl _)))
    have E1 := Lib.hid (show l + 32 = (douts k v (q + 1)).length by rw [Hol.out, Hql.out])
    have Hvl2 := Hvl.out
    clear hba e1
    go_roundw
    case rel => exact ⟨q + 1, A2, c2, by rw [← E1.out, ← Hvl2], by omega, HBn, HFn⟩
    case measure => simp [hol, Hvl2]; have := Hql.out; omega
  · obtain ⟨M, hM⟩ : ∃ M, (m + 31) / 32 = M := ⟨_, rfl⟩
    obtain rfl : q = M := by omega
    have HM := Lib.hid hM
    have hl1 : ¬ ((douts k v q).length : Int) < (m : Int) := by omega
    have H2 := Lib.hid (rupdate_any (d := []) wr HB.out.er (RB.nil_ wr (fun _ => False)) (fun _ h => h.elim) (by simp))
    have Hql := Lib.hid hql
    have hrb := HB.out.ow.rb (by omega)
    have fsz := HF.out.size
    clear hql hM
    go_wp2_with fail
    refine H2.out.mono ?_
    rintro e w1 ⟨rfl, hd1, hf1⟩
    have hR1 := Lib.hid (hrb.er (fun _ hk => hk.2) HB.out.er hf1)
    have HF1 := Lib.hid (HF.out.trans (hf1.mono fsz))
    obtain ⟨Ak, ck, Av', cv', h1, _⟩ := id hd1
    have nc := blk_cell h1 2
    simp only [List.getElem?_toArray, List.getElem?_cons_zero, List.getElem?_cons_succ] at nc
    have fr := hd1.free 2
    have hd2 := hd1.setN (num + 1)
    have hf2 := HF1.out.trans ((Fr.just (b := b) ((Just.refl b w1).set 2 (.int .i64 (num + 1))) (Nat.le_refl _)).mono HF1.out.size)
    have hR2 := hR1.out.er (fun _ hk => Nat.lt_of_lt_of_le hk.2 hf1.size) hd1 (Fr.just (b := b) ((Just.refl b w1).set 2 (.int .i64 (num + 1))) (Nat.le_refl _))
    have HD2 := Lib.hid hd2
    have HF2 := Lib.hid hf2
    have HR2 := Lib.hid hR2
    have hc := hrb.cap
    have b1 : (0 : Int) ≤ (m : Int) := by omega
    have b2 : (m : Int) ≤ (c : Int) := by have := Hql.out; omega
    have hwz := IntWalk.i64_in (num + 1) (by omega)
    have fz2 : wr.heap.size ≤ (w1.setCell ⟨b, 2, none⟩ (.int .i64 (num + 1))).heap.size := by simpa [World.setCell] using hf1.size
    clear hd1 hf1 hd2 hf2 hR2 h1 hrb H2 HB HF hR1 HF1
    go_upto_region 9 with fail
    go_wp2_with fail
    go_ret
    rw [HM.out]
    have hsl := HR2.out.mid' (k := 0) (m := m) (c' := c) (by omega) (by have := Hql.out; omega) (by have := Hql.out; omega) (by have := hc.2.1; unfold maxLen; omega) (A' := A) (fun _ => by cases A <;> simp [Addr.add])
    rw [List.drop_zero, Nat.sub_zero] at hsl
    exact ⟨A, c, rfl, hsl.mono fun g hg => ⟨hg.1, Nat.lt_of_lt_of_le hg.2 fz2⟩, HD2.out, HF2.out⟩
end Go.Proofs.YtjphlimfldcifaaDoor

namespace Go.Proofs.YtjphlimfldcifaaDoor
open Go.RowKit Go.Shelf
open Sha

def CK (W W' : World) : Prop := W.heap.size ≤ W'.heap.size ∧ ∀ (b : Nat) (cs : Array Value) (T : TypeId) (fr : Nat × Nat), W.heap[b]? = some (.cells cs T fr) → W'.heap[b]? = some (.cells cs T fr)
theorem CK.cell {W W' : World} (h : CK W W') {p : Addr} {v : Value} (hp : W.cell? p = some v) : W'.cell? p = some v := by
 have hb : ∃ cs T fr, W.heap[p.block]? = some (.cells cs T fr) := by
  unfold World.cell? at hp
  split at hp
  · rename_i cs T fr hc
    exact ⟨cs, T, fr, hc⟩
  all_goals cases hp
 obtain ⟨cs, T, fr, hb⟩ := hb
 exact (World.cell?_of_block ((h.2 _ _ _ _ hb).trans hb.symm)).trans hp
theorem RB.ck {W W' : World} {A : Option Addr} {c : Nat} {d : List Nat} (h : RB W (fun g => g < W.heap.size) A c d) (hk : CK W W') : RB W' (fun g => g < W'.heap.size) A c d :=
 (h.by_ fun _ _ _ hc => hk.cell hc).mono fun _ hg => Nat.lt_of_lt_of_le hg hk.1
theorem KW.ck {W W' : World} (h : KW W) (hk : CK W W') : KW W' := fun i hi => let ⟨y, h1, h2⟩ := h i hi; ⟨y, hk.cell h1, h2⟩
theorem DR.ck {W W' : World} {b : Nat} {k v : List Nat} {n : Int} (h : DR W b k v n) (hk : CK W W') : DR W' b k v n := let ⟨Ak, ck, Av, cv, h1, h2, h3, h4, h5⟩ := h; ⟨Ak, ck, Av, cv, hk.2 _ _ _ _ h1, h2.ck hk, h3.ck hk, h4, h5⟩
theorem ER.ck {W W' : World} {b : Nat} {k v : List Nat} {n : Int} (h : ER W b k v n) (hk : CK W W') : ER W' b k v n := let ⟨Ak, ck, Av, cv, h1, h2, h3, h4, h5⟩ := h; ⟨Ak, ck, Av, cv, hk.2 _ _ _ _ h1, h2.ck hk, h3.ck hk, h4, h5⟩
theorem CK.grown {X X' : World} {row : Option Nat} {B : Nat} (hg : X.grownBy X' row) (hr : ∀ r, row = some r → B ≤ r ∧ ∃ o : Obj, X.heap[r]? = some o ∧ o.isCells = false) : CK X X' :=
 ⟨hg.size, fun _b _cs _T _fr hb => (grownBy_keeps_cells hg (fun r e => (hr r e).2) hb rfl).trans hb⟩
theorem Ext.grown {w X X' : World} {row : Option Nat} {B : Nat} (hE : Ext w X) (hB : w.heap.size ≤ B) (hg : X.grownBy X' row) (hr : ∀ r, row = some r → B ≤ r ∧ ∃ o : Obj, X.heap[r]? = some o ∧ o.isCells = false) : Ext w X' :=
 ⟨hg.os.trans hE.os, hg.tape.trans hE.tape, hg.output.trans hE.output, Nat.le_trans hE.bsize hg.size, fun b hb => (hg.block b (Nat.lt_of_lt_of_le hb hE.bsize) (fun e => by have := (hr b e.symm).1; omega)).trans (hE.block b hb)⟩
theorem ER.frd {w X : World} {b b' : Nat} {k v k' v' : List Nat} {n n' : Int} (h : ER w b k v n) (hf : Fr b' w.heap.size w X) (hb : DR w b' k' v' n') (hn : b ≠ b') : ER X b k v n :=
 let ⟨Ak, ck, Av, cv, h1, h2, h3, h4, h5⟩ := h; ⟨Ak, ck, Av, cv, hf.at_ (blk_lt h1) hn h1, h2.dr' hb hf, h3.dr' hb hf, h4, h5⟩
theorem DR.fre {w X : World} {b b' : Nat} {k v k' v' : List Nat} {n n' : Int} (h : DR w b k v n) (hf : Fr b' w.heap.size w X) (hb : ER w b' k' v' n') (hn : b ≠ b') : DR X b k v n :=
 let ⟨Ak, ck, Av, cv, h1, h2, h3, h4, h5⟩ := h; ⟨Ak, ck, Av, cv, hf.at_ (blk_lt h1) hn h1, h2.er' hb hf, h3.er' hb hf, h4, h5⟩
theorem KW.nee {w : World} {b : Nat} {k v : List Nat} {n : Int} (h : KW w) (hd : ER w b k v n) : 3 ≠ b := by
 intro e
 obtain ⟨z, h1, h2⟩ := h 0 (by omega)
 obtain ⟨Ak, ck, Av, cv, h3, _⟩ := hd
 rw [e] at h1
 rw [blk_cell h3 0] at h1
 simp at h1
theorem KW.er {w X : World} {b F : Nat} {k v : List Nat} {n : Int} (h : KW w) (hd : ER w b k v n) (hf : Fr b F w X) (hF : w.heap.size ≤ F) : KW X := fun i hi => by
 obtain ⟨z, h1, h2⟩ := h i hi
 exact ⟨z, (World.cell?_of_block (hf.block _ (Nat.lt_of_lt_of_le h.lt hF) (h.nee hd))).trans h1, h2⟩
theorem DR.ne_ptr {w : World} {b g : Nat} {k v : List Nat} {n : Int} {x : Value} {t : TypeId} (h : DR w b k v n) (hg : w.heap[g]? = some (.cells #[x] t (0, 0))) : g ≠ b := by
 intro e
 obtain ⟨Ak, ck, Av, cv, h1, _⟩ := h
 rw [← e, hg] at h1
 simp at h1
theorem ER.ne_ptr {w : World} {b g : Nat} {k v : List Nat} {n : Int} {x : Value} {t : TypeId} (h : ER w b k v n) (hg : w.heap[g]? = some (.cells #[x] t (0, 0))) : g ≠ b := by
 intro e
 obtain ⟨Ak, ck, Av, cv, h1, _⟩ := h
 rw [← e, hg] at h1
 simp at h1
structure It (w : World) (pd pr pb p7 bn br pk : Nat) (k0 v0 : List Nat) (n : Int) (j i q : Nat) (W : World) : Prop where
 kw : KW W
 d : DR W pd (dst k0 v0 j).1 (dst k0 v0 j).2 (0 + (j : Int))
 r : ER W pr (dst k0 v0 i).1 (dst k0 v0 i).2 (i : Int)
 b : W.heap[pb]? = some (.cells #[.pointer (some ⟨pd, 0, none⟩)] 25 (0, 0))
 c7 : W.heap[p7]? = some (.cells #[.pointer (some ⟨pr, 0, none⟩)] 27 (0, 0))
 cn : W.heap[bn]? = some (.cells #[.int .i64 n] 3 (0, 0))
 cr : W.heap[br]? = some (.cells #[.bool false] 4 (0, 0))
 ck : W.heap[pk]? = some (.cells #[.int .i64 (q : Int)] 3 (0, 0))
 e : Ext w W
 ne : pr ≠ pd
 nk : bn ≠ pk
 ld : w.heap.size ≤ pd
 lr : w.heap.size ≤ pr
 lk : w.heap.size ≤ pk
section
variable {w W X : World} {pd pr pb p7 bn br pk : Nat} {k0 v0 : List Nat} {n : Int} {j i q : Nat}
theorem It.nd (h : It w pd pr pb p7 bn br pk k0 v0 n j i q W) : NdD pb pd k0 v0 0 j W := ⟨h.kw, h.d, blk_cell h.b 0⟩
theorem It.grown {B : Nat} {row : Option Nat} (h : It w pd pr pb p7 bn br pk k0 v0 n j i q W) (hB : w.heap.size ≤ B) (hg : W.grownBy X row) (hr : ∀ r, row = some r → B ≤ r ∧ ∃ o : Obj, W.heap[r]? = some o ∧ o.isCells = false) : It w pd pr pb p7 bn br pk k0 v0 n j i q X :=
 have hc := CK.grown hg hr
 ⟨h.kw.ck hc, h.d.ck hc, h.r.ck hc, hc.2 _ _ _ _ h.b, hc.2 _ _ _ _ h.c7, hc.2 _ _ _ _ h.cn, hc.2 _ _ _ _ h.cr, hc.2 _ _ _ _ h.ck, h.e.grown hB hg hr, h.ne, h.nk, h.ld, h.lr, h.lk⟩
theorem It.ext (h : It w pd pr pb p7 bn br pk k0 v0 n j i q W) (hE : Ext W X) : It w pd pr pb p7 bn br pk k0 v0 n j i q X :=
 ⟨h.kw.ext hE, h.d.ext hE, h.r.ext hE, hE.at_ h.b, hE.at_ h.c7, hE.at_ h.cn, hE.at_ h.cr, hE.at_ h.ck, h.e.trans hE, h.ne, h.nk, h.ld, h.lr, h.lk⟩
theorem It.turn {B : Nat} (h : It w pd pr pb p7 bn br pk k0 v0 n j i q W) (ht : TD pd k0 v0 0 B j W X) : It w pd pr pb p7 bn br pk k0 v0 n (j + 1) i q X :=
 have hf := ht.2.1
 ⟨h.kw.dr h.d hf (Nat.le_refl _), ht.2.2, h.r.frd hf h.d h.ne, hf.at_ (blk_lt h.b) (h.d.ne_ptr h.b) h.b, hf.at_ (blk_lt h.c7) (h.d.ne_ptr h.c7) h.c7, hf.at_ (blk_lt h.cn) (h.d.ne_ptr h.cn) h.cn, hf.at_ (blk_lt h.cr) (h.d.ne_ptr h.cr) h.cr, hf.at_ (blk_lt h.ck) (h.d.ne_ptr h.ck) h.ck,
  hf.ext' h.e h.ld h.e.bsize, h.ne, h.nk, h.ld, h.lr, h.lk⟩
theorem It.rturn (h : It w pd pr pb p7 bn br pk k0 v0 n j i q W) (hf : Fr pr W.heap.size W X) (hr : ER X pr (dst k0 v0 (i + 1)).1 (dst k0 v0 (i + 1)).2 ((i + 1 : Nat) : Int)) : It w pd pr pb p7 bn br pk k0 v0 n j (i + 1) q X :=
 ⟨h.kw.er h.r hf (Nat.le_refl _), h.d.fre hf h.r h.ne.symm, hr, hf.at_ (blk_lt h.b) (h.r.ne_ptr h.b) h.b, hf.at_ (blk_lt h.c7) (h.r.ne_ptr h.c7) h.c7, hf.at_ (blk_lt h.cn) (h.r.ne_ptr h.cn) h.cn, hf.at_ (blk_lt h.cr) (h.r.ne_ptr h.cr) h.cr, hf.at_ (blk_lt h.ck) (h.r.ne_ptr h.ck) h.ck,
  hf.ext' h.e h.lr h.e.bsize, h.ne, h.nk, h.ld, h.lr, h.lk⟩
theorem It.count (h : It w pd pr pb p7 bn br pk k0 v0 n j i q W) (q' : Nat) : It w pd pr pb p7 bn br pk k0 v0 n j i q' (W.setCell ⟨pk, 0, none⟩ (.int .i64 (q' : Int))) := by
 have hj := (Just.refl pk W).set 0 (.int .i64 (q' : Int))
 have ng : ∀ {g : Nat} {x : Value} {t : TypeId}, W.heap[g]? = some (.cells #[x] t (0, 0)) → x ≠ .int .i64 (q : Int) → g ≠ pk := fun hg hx e => by
  rw [e, h.ck] at hg
  injection Option.some.inj hg with e1 _
  exact hx (by simpa using e1.symm)
 have hck : CK W W := ⟨Nat.le_refl _, fun _ _ _ _ h => h⟩
 have by8 : ∀ {A : Option Addr} {c : Nat} {d : List Nat}, RB W (fun g => g < W.heap.size) A c d → RB (W.setCell ⟨pk, 0, none⟩ (.int .i64 (q' : Int))) (fun g => g < (W.setCell ⟨pk, 0, none⟩ (.int .i64 (q' : Int))).heap.size) A c d := fun hR => (hR.by_ fun p u hp hc => (World.cell?_of_block (hj.block _ hp (fun e => by
  have h1 := World.cell?_of_block (w := W) (w' := W) (a := p) rfl
  unfold World.cell? at hc
  rw [e, h.ck] at hc
  simp only at hc
  split at hc
  · cases hc
  · have hm := List.mem_of_getElem? (l := [Value.int .i64 (q : Int)]) (i := p.off) (by simpa using hc)
    simp at hm))).trans hc).mono fun _ hg => Nat.lt_of_lt_of_le hg hj.size
 have hkw : KW (W.setCell ⟨pk, 0, none⟩ (.int .i64 (q' : Int))) := fun i hi => by
  obtain ⟨z, h1, h2⟩ := h.kw i hi
  refine ⟨z, (World.cell?_of_block (hj.block _ h.kw.lt (fun e => ?_))).trans h1, h2⟩
  obtain ⟨z', h3, _⟩ := h.kw 0 (by omega)
  rw [show 3 = pk from e, blk_cell h.ck 0] at h3
  simp at h3
 obtain ⟨Ak, ck, Av, cv, d1, d2, d3, d4, d5⟩ := id h.d
 obtain ⟨Bk, ck', Bv, cv', r1, r2, r3, r4, r5⟩ := id h.r
 have nd : pd ≠ pk := (h.d.ne_ptr h.ck).symm
 have nr : pr ≠ pk := (h.r.ne_ptr h.ck).symm
 exact ⟨hkw, ⟨Ak, ck, Av, cv, hj.at_ nd d1, by8 d2, by8 d3, d4, d5⟩, ⟨Bk, ck', Bv, cv', hj.at_ nr r1, by8 r2, by8 r3, r4, r5⟩, hj.at_ (ng h.b (by simp)) h.b, hj.at_ (ng h.c7 (by simp)) h.c7, hj.at_ h.nk h.cn, hj.at_ (ng h.cr (by simp)) h.cr, blk_set h.ck 0 _, hj.ext h.e h.lk, h.ne, h.nk, h.ld, h.lr, h.lk⟩
end
end Go.Proofs.YtjphlimfldcifaaDoor

namespace Go.Proofs.YtjphlimfldcifaaDoor
open Go.RowKit
open Sha

theorem RB.litm (w : World) (bs : List Nat) (hb : ∀ x ∈ bs, x < 256) (hl : bs.length ≤ 1000000) {cs : Array Value} (hc : (bys bs).toArray = cs) (f : Nat × Nat) :
 RB (w.alloc (.cells cs 5 f)) (fun g => g = w.heap.size) (some ⟨w.heap.size, 0, none⟩) bs.length bs := by
 subst hc
 refine ⟨⟨Nat.le_refl _, by unfold maxLen; omega, by simp [bys], fun _ => ⟨_, rfl, rfl, fun j u hu => ?_⟩⟩, hb, by omega⟩
 rw [add_blk, World.cell?, heap_alloc_new]
 simpa using hu
theorem cv8 (w : World) (cs : Array Value) (n c : Nat) : (convert 22 22 (.slice (some ⟨w.heap.size, 0, none⟩) n c)).run Tryd.prog (w.alloc (.cells cs 5)) = .ok (.slice (some ⟨w.heap.size, 0, none⟩) n c) (w.alloc (.cells cs 5 (cs.size, cs.size + 1))) :=
 Lib.run_convert_bytes_const (P := Tryd.prog) w 22 5 cs n c Tryd.underlying22 Tryd.underlying5
theorem neq_nil4 (w : World) (f : Fn) (a b : Array Value) : (binOp .neq 30 (.func f a b) .nilFunc).run Tryd.prog w = .ok (.bool true) w := by kernel_rfl
theorem eql_nil4 (w : World) (f : Fn) (a b : Array Value) : (binOp .eql 30 (.func f a b) .nilFunc).run Tryd.prog w = .ok (.bool false) w := by kernel_rfl
set_option maxRecDepth 100000 in
set_option maxHeartbeats 8000000 in
theorem begun4_any (w : World) (hk : KW w) : Calls Tryd.prog 7 #[] w fun e w' => e = .returned (.bool true) ∧ Ext w w' := by
 have hp := RB.litm w [116, 97, 112, 101] (by decide) (by decide) (cs := #[.int .u8 116, .int .u8 97, .int .u8 112, .int .u8 101]) rfl (4, 5)
 have hE1 : Ext w (w.alloc (.cells #[.int .u8 116, .int .u8 97, .int .u8 112, .int .u8 101] 5 (4, 5))) := Ext.alloc _ _
 have hsz := World.size_alloc w (.cells #[.int .u8 116, .int .u8 97, .int .u8 112, .int .u8 101] 5 (4, 5))
 obtain ⟨W1, hW1⟩ : ∃ W, w.alloc (.cells #[.int .u8 116, .int .u8 97, .int .u8 112, .int .u8 101] 5 (4, 5)) = W := ⟨_, rfl⟩
 rw [hW1] at hp hE1 hsz
 have hN := new_any W1 (hk.ext hE1) hp (fun k hk => by omega) (by decide)
 rw [show ([116, 97, 112, 101] : List Nat).length = 4 from rfl] at hN
 have HN := Lib.hid hN
 have HE1 := Lib.hid hE1
 have HK := Lib.hid hk
 have HW1 := Lib.hid hW1
 clear hp hE1 hsz hN hk hW1
 have hcv := cv8 w #[.int .u8 116, .int .u8 97, .int .u8 112, .int .u8 101] 4 4
 simp only [List.size_toArray, List.length_cons, List.length_nil, Nat.reduceAdd] at hcv
 rw [HW1.out] at hcv
 go_enter Tryd.func7, Tryd.ntmps7
 go_wp2_with fail
 refine HN.out.mono ?_
 rintro e w2 ⟨b, rfl, hb, hd, hE2⟩
 have hEw := HE1.out.trans hE2
 have HE2 := Lib.hid hEw
 have HB := Lib.hid (Nat.le_trans HE1.out.bsize hb)
 have H5 := Lib.hid (dbytes_any (m := 5) w2 (HK.out.ext hEw) hd (by omega) (by omega) (by omega) (by omega))
 have hkd := HK.out.ext hEw
 clear hE2 hb HN
 go_wp2_with fail
 refine H5.out.mono ?_
 rintro e w3 ⟨A5, c5, rfl, hr5, hd3, hf3⟩
 have hff := hf3.ext' hEw HB.out HE2.out.bsize
 obtain ⟨k3, v3, hd3⟩ : ∃ k v, DR w3 b k v 1 := ⟨_, _, hd3⟩
 have hrn := RN.one w3 10 (by omega)
 have hE4 : Ext w3 (w3.alloc (.cells #[.int .u64 10] 51)) := Ext.alloc _ _
 have h4 := dbelow_any (q := 4) _ (HK.out.ext (hff.trans hE4)) (hd3.ext hE4) hrn (fun g hg => by rw [World.size_alloc]; exact hg.2) (fun hg => absurd hd3.lt (by have := hg.1; omega)) (by decide) (by rw [val_one]; exact nbits_eq (k := 3) (by omega) (by omega)) (by omega) (by omega) (by rw [val_one]; omega) (by omega) (by omega)
 rw [show ([10] : List Nat).length = 1 from rfl] at h4
 obtain ⟨W4, hW4⟩ : ∃ W, w3.alloc (.cells #[.int .u64 10] 51) = W := ⟨_, rfl⟩
 have hb4 : w.heap.size ≤ W4.heap.size := by rw [← hW4]; exact (hff.trans hE4).bsize
 rw [hW4] at h4 hE4
 have HFF := Lib.hid (hff.trans hE4)
 have H4 := Lib.hid h4
 have HW4 := Lib.hid hW4
 clear hf3 hr5 hd3 hrn hE4 h4 hW4 hd hkd hEw H5 hff
 go_wp2_with fail
 rw [HW4.out]
 refine H4.out.mono ?_
 rintro e w5 ⟨A2, c2, r, m, _, hr, rfl, ho5, hd5, hf5⟩
 have hl5 : (digs 18446744073709551616 r).length ≤ 1 := digs_length_of_lt (by omega) (by rw [hr, val_one]; have := Nat.mod_lt (numOf ((douts k3 v3 ((m + 31) / 32)).take m)) (show 0 < 10 by omega); omega)
 have HD5 := Lib.hid (show DR w5 b _ _ 2 from hd5)
 have HF5 := Lib.hid (hf5.ext' HFF.out HB.out HFF.out.bsize)
 generalize (digs 18446744073709551616 r).length = n5 at *
 have l5 : (n5 : Int) ≤ 1 := by omega
 clear hr ho5 hd5 hf5 H4 hl5
 go_wp2_with fail
 refine (all_any _ _).mono ?_
 rintro e w6 ⟨rfl, rfl⟩
 have hE6 : Ext w5 (w5.alloc (.cells #[.pointer (some ⟨b, 0, none⟩)] 25)) := Ext.alloc _ _
 have HL := Lib.hid (left_any _ (HD5.out.ext hE6))
 have HE6 := Lib.hid (HF5.out.trans hE6)
 clear hE6
 generalize w5.alloc (.cells #[.pointer (some ⟨b, 0, none⟩)] 25) = W6 at *
 have hnf := neq_nil4 W6 (.func 25) #[] #[.pointer (some ⟨w5.heap.size, 0, none⟩)]
 go_wp2_with fail
 refine HL.out.mono ?_
 rintro e w7 ⟨rfl, rfl⟩
 go_wp2_with fail
 go_ret
 exact ⟨rfl, HE6.out⟩
end Go.Proofs.YtjphlimfldcifaaDoor

namespace Go.Proofs.YtjphlimfldcifaaDoor
open Go.RowKit

def strB (bs : List Nat) : ByteArray := strOfNums (bs.map fun b : Nat => (b : Int))
section
variable {w : World} {Q : Nat → Prop} {A : Option Addr} {c : Nat} {bs : List Nat}
theorem RB.str {P : Program} (h : RB w Q A c bs) (src e dst : TypeId) (hs : P.underlying src = some (.slice e)) (he : P.underlying e = some (.int .u8)) (hd : P.underlying dst = some .string) :
 (convert src dst (.slice A bs.length c)).run P w = .ok (.string (strB bs)) w := by
 rcases A with _ | ad
 · have hl : bs.length = 0 := by
    rcases Nat.eq_zero_or_pos bs.length with h0 | h0
    · exact h0
    · obtain ⟨ad, h, _⟩ := h.1.2.2.2 h0
      cases h
   obtain rfl := List.eq_nil_of_length_eq_zero hl
   rw [run_convert_bytes_nil w src e hs he _ _ dst hd]
   rfl
 · have hc : ∀ j v, (bys bs)[j]? = some v → w.cell? (ad.add j) = some v := by
    intro j v hj
    rcases Nat.eq_zero_or_pos bs.length with h0 | h0
    · obtain rfl := List.eq_nil_of_length_eq_zero h0
      simp [bys] at hj
    · obtain ⟨ad', h, _, hc⟩ := h.1.2.2.2 h0
      injection h with h
      subst h
      exact hc j v hj
   have hl : (loadCells ad bs.length).run P w = .ok ((bs.map fun b : Nat => (b : Int)).map (Value.int .u8)).toArray w := by
    have := run_loadCells_list (P := P) w ad (bys bs) hc
    simpa [bys, Function.comp_def] using this
   rw [run_convert_bytes_string w src dst e _ _ c hs he hd, run_bytesToString w _ _ c _ hl, foldl_push_bytes]
   simp [strB, strOfNums, ByteArray.empty, ByteArray.emptyWithCapacity]
   rfl
end

end Go.Proofs.YtjphlimfldcifaaDoor

namespace Go.Proofs.YtjphlimfldcifaaDoor
open Go.RowKit
open Sha

theorem Fr.ofNew {w x y : World} {b F : Nat} (h : Fr b F x y) (hE : Ext w x) (hb : w.heap.size ≤ b) (hF : x.heap.size ≤ F) : Ext w y := h.ext' hE hb (Nat.le_trans hE.bsize hF)
end Go.Proofs.YtjphlimfldcifaaDoor

namespace Go.Proofs.YtjphlimfldcifaaDoor
open Go.RowKit Go.Shelf
open Sha

attribute [local go_sem] Oper.semAt_some

theorem two_at (w : World) (o1 o2 : Obj) : ((w.alloc o1).alloc o2).heap[w.heap.size]? = some o1 ∧ ((w.alloc o1).alloc o2).heap[w.heap.size + 1]? = some o2 ∧ Ext w ((w.alloc o1).alloc o2) ∧ ((w.alloc o1).alloc o2).heap.size = w.heap.size + 2 := by
 have h := heap_alloc_new (w.alloc o1) o2
 rw [World.size_alloc] at h
 exact ⟨(Ext.alloc _ _).at_ (heap_alloc_new w o1), h, (Ext.alloc _ _).trans (Ext.alloc _ _), by simp⟩
theorem one_set {w : World} {g : Nat} {x : Value} {t : TypeId} (h : w.heap[g]? = some (.cells #[x] t (0, 0))) (y : Value) : (w.setCell ⟨g, 0, none⟩ y).heap[g]? = some (.cells #[y] t (0, 0)) ∧ Just g w (w.setCell ⟨g, 0, none⟩ y) := ⟨blk_set h 0 y, (Just.refl g w).set 0 y⟩
theorem res_bool {fn : Func} {tm : Array Value} {W : World} {p : Tmp} {g : Nat} {ty : TypeId} {b : Bool} (hr : fn.results = #[.cell p 4]) (hp : tm.getD p undef = .pointer (some ⟨g, 0, none⟩)) (hg : W.heap[g]? = some (.cells #[.bool b] ty (0, 0))) : (results fn tm).run Tryd.prog W = .ok (.bool b) W := by
 have hp' : tm[p]?.getD undef = .pointer (some ⟨g, 0, none⟩) := by simpa using hp
 have hc := blk_cell hg 0
 simp only [List.getElem?_toArray, List.getElem?_cons_zero] at hc
 have hi : (isAgg 4).run Tryd.prog W = .ok false W := by kernel_rfl
 simp [results, hr, hp', asAddr, loadVar, hi, hc, go_sem]
def onlyN (R : Act → World → Prop) : Exit → Act → World → Prop
 | .normal, a, w => R a w
 | _, _, _ => False
set_option maxRecDepth 100000 in
set_option maxHeartbeats 8000000 in
theorem iter_law (A : Option Addr) (c : Nat) (bs : List Nat) (n : Int) (w : World) (hk : KW w) (hp : RB w (fun b => b < w.heap.size) A c bs) :
 Calls Tryd.prog 3 #[.slice A bs.length c, .int .i64 n] w fun e w' => e = .returned (.bool true) ∧ Ext w w' := by
 obtain ⟨hn0, hr0, hE0, hz0⟩ := two_at w (.cells #[.int .i64 n] 3) (.cells #[.bool false] 4)
 obtain ⟨W0, hW0⟩ : ∃ W, (w.alloc (.cells #[.int .i64 n] 3)).alloc (.cells #[.bool false] 4) = W := ⟨_, rfl⟩
 rw [hW0] at hn0 hr0 hE0 hz0
 obtain ⟨bn, hbn⟩ : ∃ b, w.heap.size = b := ⟨_, rfl⟩
 rw [hbn] at hn0 hr0 hz0
 have HBN := Lib.hid hbn
 have HN := Lib.hid hn0
 have HR := Lib.hid hr0
 have HE := Lib.hid hE0
 have HZ := Lib.hid hz0
 have HK := Lib.hid hk
 have HP := Lib.hid hp
 have HW := Lib.hid hW0
 have H1 := Lib.hid (begun4_any W0 (hk.ext hE0))
 clear hn0 hr0 hE0 hz0 hk hp hW0 hbn
 refine (callsIn_wide (n := 6)).1 ?_
 refine callsIn_of_wp_marks Tryd.func3 rfl trivial ?_ rfl
 simp only [Tryd.ntmps3, List.size_toArray, List.length_cons, List.length_nil, Nat.reduceAdd, Nat.reduceSub, Array.replicate_succ, Array.replicate_zero, List.push_toArray, List.append_toArray, List.nil_append, List.cons_append]
 gi_wp2
 rw [HW.out, HBN.out]
 refine ⟨trivial, (callsIn_wide.2 H1.out).mono ?_⟩
 rintro e w1 ⟨rfl, hE1⟩
 have H2 := Lib.hid (short_any _ A c bs 60 w1 (HP.out.below (HE.out.trans hE1) (fun _ h => h)) (by omega))
 replace HN := Lib.hid (hE1.at_ HN.out)
 replace HR := Lib.hid (hE1.at_ HR.out)
 replace HE := Lib.hid (HE.out.trans hE1)
 clear hE1 H1 HW
 gi_wp2
 refine ⟨trivial, (callsIn_wide.2 H2.out).mono ?_⟩
 rintro e w2 ⟨⟨c2, rfl, hr2⟩, he⟩
 obtain rfl := he
 obtain ⟨s, hs⟩ : ∃ s, bs.take 60 = s := ⟨_, rfl⟩
 have hsl : s.length ≤ 60 := by rw [← hs, List.length_take]; omega
 rw [hs] at hr2 ⊢
 have H3 := Lib.hid (new_any w1 (HK.out.ext HE.out) hr2 (fun k hk => Nat.lt_of_lt_of_le hk HE.out.bsize) (by omega))
 have HS := Lib.hid hr2
 clear hs hr2 H2 HP
 gi_wp2
 refine ⟨trivial, (callsIn_wide.2 H3.out).mono ?_⟩
 rintro e w3 ⟨pd, rfl, ld, hd, hE3⟩
 obtain ⟨k0, v0, hn0⟩ : ∃ k v, news s = (k, v) := ⟨_, _, rfl⟩
 rw [hn0] at hd
 have H4 := rnew_any w3 (HS.out.below hE3 (fun k hk => Nat.lt_of_lt_of_le hk HE.out.bsize)) (fun k hk => Nat.lt_of_lt_of_le hk (HE.out.trans hE3).bsize) (by omega)
 rw [hn0] at H4
 have HH4 := Lib.hid H4
 replace HN := Lib.hid (hE3.at_ HN.out)
 replace HR := Lib.hid (hE3.at_ HR.out)
 have HL := Lib.hid (Nat.le_trans HE.out.bsize ld)
 replace HE := Lib.hid (HE.out.trans hE3)
 have HD := Lib.hid (show DR w3 pd k0 v0 0 from hd)
 clear hd hE3 H3 ld HS hn0 H4
 gi_wp2
 refine ⟨trivial, (callsIn_wide.2 HH4.out).mono ?_⟩
 rintro e w4 ⟨pr, rfl, lr, hr, hE4⟩
 have HNE := Lib.hid (show pr ≠ pd by have := HD.out.lt; omega)
 have HLR := Lib.hid (Nat.le_trans HE.out.bsize lr)
 have HER := Lib.hid (show ER w4 pr k0 v0 0 from hr)
 replace HD := Lib.hid (HD.out.ext hE4)
 replace HN := Lib.hid (hE4.at_ HN.out)
 replace HR := Lib.hid (hE4.at_ HR.out)
 replace HE := Lib.hid (HE.out.trans hE4)
 clear hr lr hE4 HH4
 have h7 := heap_alloc_new w4 (.cells #[.pointer (some ⟨pr, 0, none⟩)] 27)
 have hE5 : Ext w4 (w4.alloc (.cells #[.pointer (some ⟨pr, 0, none⟩)] 27)) := Ext.alloc _ _
 obtain ⟨V5, hV5⟩ : ∃ W, w4.alloc (.cells #[.pointer (some ⟨pr, 0, none⟩)] 27) = W := ⟨_, rfl⟩
 obtain ⟨p7, hp7⟩ : ∃ b, w4.heap.size = b := ⟨_, rfl⟩
 rw [hV5] at h7 hE5
 rw [hp7] at h7
 have HV5 := Lib.hid hV5
 have HP7 := Lib.hid hp7
 have H7 := Lib.hid h7
 replace HER := Lib.hid (HER.out.ext hE5)
 replace HD := Lib.hid (HD.out.ext hE5)
 replace HN := Lib.hid (hE5.at_ HN.out)
 replace HR := Lib.hid (hE5.at_ HR.out)
 replace HE := Lib.hid (HE.out.trans hE5)
 clear h7 hE5 hV5 hp7
 gi_wp2
 rw [HV5.out, HP7.out]
 refine ⟨trivial, (callsIn_wide.2 (all_any (some ⟨pd, 0, none⟩) V5)).mono ?_⟩
 rintro e w6 ⟨rfl, hw6⟩
 have hb := heap_alloc_new V5 (.cells #[.pointer (some ⟨pd, 0, none⟩)] 25)
 have hE6 : Ext V5 (V5.alloc (.cells #[.pointer (some ⟨pd, 0, none⟩)] 25)) := Ext.alloc _ _
 rw [← hw6] at hb hE6
 obtain ⟨pb, hpb⟩ : ∃ b, V5.heap.size = b := ⟨_, rfl⟩
 rw [hpb] at hb ⊢
 have HB := Lib.hid hb
 replace H7 := Lib.hid (hE6.at_ H7.out)
 replace HER := Lib.hid (HER.out.ext hE6)
 replace HD := Lib.hid (HD.out.ext hE6)
 replace HN := Lib.hid (hE6.at_ HN.out)
 replace HR := Lib.hid (hE6.at_ HR.out)
 replace HE := Lib.hid (HE.out.trans hE6)
 clear hb hE6 hw6 hpb HV5 HP7
 have hnil := fun W => eql_nil4 W (.func 25) #[] #[.pointer (some ⟨pb, 0, none⟩)]
 have hnnil := fun W => neq_nil4 W (.func 25) #[] #[.pointer (some ⟨pb, 0, none⟩)]
 have cn := blk_cell HN.out 0
 have cr := blk_cell HR.out 0
 have fr := blk_free HR.out 0
 simp only [List.getElem?_toArray, List.getElem?_cons_zero] at cn cr
 by_cases hn : 1 ≤ n ∧ n ≤ 20
 · obtain ⟨hn1, hn2⟩ := hn
   obtain ⟨N, rfl⟩ : ∃ N : Nat, n = (N : Int) := ⟨n.toNat, by omega⟩
   have g1 : decide ((N : Int) < 1) = false := decide_eq_false (by omega)
   have g2 : decide ((20 : Int) < (N : Int)) = false := decide_eq_false (by omega)
   have g3 : ¬ (N : Int) < 1 := by omega
   have g4 : ¬ (20 : Int) < (N : Int) := by omega
   have h10 := heap_alloc_new w6 (.cells #[.int .i64 0] 3)
   have hE7 : Ext w6 (w6.alloc (.cells #[.int .i64 0] 3)) := Ext.alloc _ _
   gi_wp2
   clear hnil hnnil cn cr fr g1 g2 g3 g4
   obtain ⟨W7, hW7⟩ : ∃ W, w6.alloc (.cells #[.int .i64 0] 3) = W := ⟨_, rfl⟩
   obtain ⟨pk, hpk⟩ : ∃ b, w6.heap.size = b := ⟨_, rfl⟩
   rw [hW7] at h10 hE7 ⊢
   rw [hpk] at h10 ⊢
   have H0 : It w pd pr pb p7 bn (bn + 1) pk k0 v0 (N : Int) 0 0 0 W7 := ⟨HK.out.ext (HE.out.trans hE7), (show DR w6 pd k0 v0 (0 + ((0 : Nat) : Int)) from HD.out).ext hE7, (show ER w6 pr k0 v0 ((0 : Nat) : Int) from HER.out).ext hE7, hE7.at_ HB.out, hE7.at_ H7.out, hE7.at_ HN.out, hE7.at_ HR.out, h10, HE.out.trans hE7, HNE.out, by have := blk_lt HN.out; omega, HL.out, HLR.out, by have := HE.out.bsize; omega⟩
   have hzw : w.heap.size ≤ W7.heap.size := H0.e.bsize
   have Hseq := Lib.hid (all_seq pb pd k0 v0 0 N W7 (by omega) (by omega))
   have HI0 := Lib.hid H0
   clear h10 hE7 hW7 hpk H0 HB H7 HER HD HN HR HE HK HNE HL HLR
   refine' wpIn_iter (by omega) (gf := 25) (lb := #[.pointer (some ⟨pb, 0, none⟩)]) rfl (enters_of Tryd.func25 (by kernel_rfl) rfl)
    Hseq.out (fun _ _ => trivial) (fun _ _ _ _ _ _ _ _ => trivial) (td_keeps pd k0 v0 0) (Below.refl _ _) (fun _ => rfl)
    (fun k W => k < N ∧ It w pd pr pb p7 bn (bn + 1) pk k0 v0 (N : Int) k k k W) (fun k W => k < N ∧ It w pd pr pb p7 bn (bn + 1) pk k0 v0 (N : Int) (k + 1) k k W) (fun cc k W => cc = .exit 0 ∧ k = N ∧ It w pd pr pb p7 bn (bn + 1) pk k0 v0 (N : Int) N N N W)
    (fun k Z Z' row hi hg hr => ⟨hi.1, hi.2.grown hzw hg hr⟩) (fun k Z Z' row hi hg hr => ⟨hi.1, hi.2.grown hzw hg hr⟩) (fun cc k Z Z' row hi hg hr => ⟨hi.1, hi.2.1, hi.2.2.grown hzw hg hr⟩)
    (fun k W _ hi => hi.2.nd) (fun B k Z Z' _ _ hi ht => ⟨hi.1, hi.2.turn ht⟩) (fun _ W h => absurd h.1 (by omega)) ⟨by omega, HI0.out⟩ _ ?assign ?body ?done ?stop
   case assign =>
    intro l k W K hK
    gi_wp2
    exact hK
   case body =>
    rintro l k W ⟨hkN, hIt⟩ _ hz
    have hb := rbytes_any (m := 1) W hIt.r (by omega) (by omega) (by omega) (by omega)
    have c7 := blk_cell hIt.c7 0
    simp only [List.getElem?_toArray, List.getElem?_cons_zero] at c7
    have HB := Lib.hid hb
    have HI := Lib.hid hIt
    clear hb hIt HI0 Hseq
    gi_wp2
    refine ⟨trivial, (callsIn_wide.2 HB.out).mono ?_⟩
    rintro e W2 ⟨A4, c4, rfl, hr4, hd4, hf4⟩
    have hol : ((douts (dst k0 v0 k).1 (dst k0 v0 k).2 ((1 + 31) / 32)).take 1).length = 1 := by rw [List.length_take, douts_len]; rfl
    obtain ⟨ad, rfl, hc0, _⟩ := hr4.dg (i := 0) (by rw [hol]; omega)
    have hcap := hr4.cap
    have hc1 : (1 : Int) ≤ (c4 : Int) := by have := hcap.1; rw [hol] at this; omega
    have hc0 : W2.cell? (ad.add 0) = some (.int .u8 (dbt k0 v0 k : Int)) := hc0
    have hI2 := HI.out.rturn hf4 (by simpa [dst] using hd4)
    have hK2 : Keeps W7.heap.size (W7.heap.size + 2) 0 W W2 := ⟨hf4.size, fun g o _ ho hc => hf4.at_ (blk_lt ho) (fun e => by
     obtain ⟨Ak, ck, Av, cv, h1, _⟩ := HI.out.r
     rw [e, h1] at ho
     cases ho
     exact absurd hc (by simp [Obj.isCells])) ho, fun g a1 a2 _ => by omega⟩
    have fk := blk_free hI2.ck 0
    have ck := blk_cell hI2.ck 0
    simp only [List.getElem?_toArray, List.getElem?_cons_zero] at ck
    obtain ⟨x, hx⟩ : ∃ x, dbt k0 v0 k = x := ⟨_, rfl⟩
    rw [hx] at hc0
    rw [hx]
    simp [Addr.add] at hc0
    obtain ⟨k1, hk1⟩ : ∃ k1 : Nat, k + 1 = k1 := ⟨_, rfl⟩
    have hw1 : IntKind.i64.wrap ((k : Int) + 1) = (k1 : Int) := by rw [IntWalk.i64_in _ (by omega)]; omega
    rw [hk1] at hI2
    have hI3 := hI2.count k1
    have HK2 := Lib.hid (hK2.trans (Keeps.setCell (a := ⟨pk, 0, none⟩) W7.heap.size (W7.heap.size + 2) 0 W2 (by omega) (.int .i64 (k1 : Int))))
    have HI3 := Lib.hid hI3
    have HK1 := Lib.hid hk1
    clear hol hcap hr4 hd4 hf4 hI2 hI3 hK2 HB HI hx hk1 c7
    gi_upto_region 17 with fail
    generalize W2.setCell ⟨pk, 0, none⟩ (.int .i64 (k1 : Int)) = W3 at *
    clear ck fk hc0
    have ck := blk_cell HI3.out.ck 0
    have cn := blk_cell HI3.out.cn 0
    simp only [List.getElem?_toArray, List.getElem?_cons_zero] at ck cn
    by_cases hkn : k1 = N
    · subst hkn
      gi_wp2
      exact ⟨HK2.out, rfl, HK1.out, HI3.out⟩
    · have e1 : ¬ (k1 : Int) = (N : Int) := by omega
      gi_wp2
      exact ⟨HK2.out, trivial, by have := HK1.out; omega, by rw [HK1.out]; exact HI3.out⟩
   case done => exact fun D Z _ h => absurd h.1 (by omega)
   case stop =>
    rintro D cc k U hD _ hk ⟨rfl, hkN, hl⟩ hKD
    clear hkN hk HI0 Hseq
    have ck := blk_cell hl.ck 0
    have cn := blk_cell hl.cn 0
    have c7 := blk_cell hl.c7 0
    simp only [List.getElem?_toArray, List.getElem?_cons_zero] at ck cn c7
    obtain ⟨o, ho⟩ : ∃ o, (douts (dst k0 v0 N).1 (dst k0 v0 N).2 ((9 + 31) / 32)).take 9 = o := ⟨_, rfl⟩
    have hol : o.length = 9 := by rw [← ho, List.length_take, douts_len]; rfl
    have HL := Lib.hid hl
    have HKD := Lib.hid hKD
    have ndD : D ≠ pd := fun e => by obtain ⟨_, _, _, _, h1, _⟩ := hl.d; rw [← e, hKD] at h1; cases h1
    have ndR : D ≠ pr := fun e => by obtain ⟨_, _, _, _, h1, _⟩ := hl.r; rw [← e, hKD] at h1; cases h1
    have ndB : D ≠ bn + 1 := fun e => by have h1 := hl.cr; rw [← e, hKD] at h1; cases h1
    have HB5 : Hid (∀ X, Ext U X → Calls Tryd.prog 13 #[.pointer (some ⟨pd, 0, none⟩), .int .i64 9] X fun e w' => ∃ A c, e = .returned (.slice A 9 c) ∧ RB w' (fun g => g < w'.heap.size) A c o ∧ Fr pd U.heap.size U w' ∧ w'.cell? ⟨p7, 0, none⟩ = some (.pointer (some ⟨pr, 0, none⟩))) := Lib.hid (fun X hX => (dbytes_any (m := 9) X (HL.out.kw.ext hX) (HL.out.d.ext hX) (by omega) (by omega) (by omega) (by omega)).mono fun e w' h => by
     obtain ⟨A, c, he, hr, _, hf⟩ := h
     have hF := (Fr.below (b := pd) hX (Nat.le_refl _)).trans (hf.mono hX.bsize)
     exact ⟨A, c, he, by rw [← ho]; exact hr.mono (fun g hg => hg.2), hF, blk_cell (hF.at_ (blk_lt HL.out.c7) (HL.out.d.ne_ptr HL.out.c7) HL.out.c7) 0⟩)
    have HC5 : Hid (∀ X A6 c6, Fr pd U.heap.size U X → RB X (fun g => g < X.heap.size) A6 c6 o → Calls Tryd.prog 12 #[.pointer (some ⟨pr, 0, none⟩), .int .i64 9] X fun e w' => ∃ A c, e = .returned (.slice A 9 c) ∧ RB w' (fun g => g < w'.heap.size) A c o ∧ RB w' (fun g => g < w'.heap.size) A6 c6 o ∧ Hid (w'.heap[bn + 1]? = some (.cells #[.bool false] 4 (0, 0))) ∧ Hid (w'.heap[D]? = some (.deferred (some []))) ∧ Hid (Ext w w')) := Lib.hid (fun X A6 c6 hX hR6 => by
     have hrX := HL.out.r.frd hX HL.out.d HL.out.ne
     refine (rbytes_any (m := 9) X hrX (by omega) (by omega) (by omega) (by omega)).mono fun e w' h => ?_
     obtain ⟨A, c, he, hr, _, hf⟩ := h
     have hcrX := hX.at_ (blk_lt HL.out.cr) (HL.out.d.ne_ptr HL.out.cr) HL.out.cr
     exact ⟨A, c, he, by rw [← ho]; exact hr.mono (fun g hg => hg.2), hR6.er' hrX hf, Lib.hid (hf.at_ (blk_lt hcrX) (hrX.ne_ptr hcrX) hcrX), Lib.hid (hf.at_ (by have := blk_lt HKD.out; have := hX.size; omega) ndR (hX.at_ (blk_lt HKD.out) ndD HKD.out)), Lib.hid (hf.ofNew (hX.ofNew HL.out.e HL.out.ld (Nat.le_refl _)) HL.out.lr (Nat.le_refl _))⟩)
    have HO := Lib.hid hol
    have HBN1 := Lib.hid (show w.heap.size ≤ bn + 1 by have := HBN.out; omega)
    have HDw := Lib.hid (show w.heap.size ≤ D by omega)
    have HND := Lib.hid ndB
    clear hl hKD ho hol ndD ndR ndB hzw hD
    gi_upto_region 18 with fail
    refine wpIn_wide.2 ?_
    refine Code.wp_mono (Q := onlyN fun a' w' => a'.defers = [{ target := .collected D, args := #[] }] ∧ a'.tmps.getD 4 undef = .pointer (some ⟨bn + 1, 0, none⟩) ∧ Hid (w'.heap[bn + 1]? = some (.cells #[.bool true] 4 (0, 0))) ∧ Hid (w'.heap[D]? = some (.deferred (some []))) ∧ Hid (Ext w w')) ?post ?walk
    case post =>
     rintro e ⟨tm, df⟩ w9 he
     cases e
     case normal =>
      obtain ⟨rfl, htm, hres, hKY, hEY⟩ := he
      gi_wp2
      have hres' : (w9.putObj D (.deferred none)).heap[bn + 1]? = some (.cells #[.bool true] 4 (0, 0)) := (World.putObj_heap_other (fun e => HND.out e.symm)).trans hres.out
      exact ⟨by simp, .inl ⟨_, _, rfl, run_takeDeferred hKY.out, _, res_bool rfl htm hres', by simp, Below.trans hEY.out (belowK_b (w := w) (Nat.le_refl _) w9 D _ _ HDw.out hKY.out rfl rfl)⟩⟩
     all_goals exact he.elim
    go_region_with (first
     | (go_at_call 12; refine (HC5.out _ A6 c6 hf6 hr6).mono ?_; rintro e w7 ⟨A7, c7', rfl, hr7, hr6', HCR, HKD7, HE7⟩; have st7 := hr7.str (P := Tryd.prog) 22 5 9 Tryd.underlying22 Tryd.underlying5 Tryd.underlying9; have st6' := hr6'.str (P := Tryd.prog) 22 5 9 Tryd.underlying22 Tryd.underlying5 Tryd.underlying9; rw [HO.out] at st7 st6'; have cr7 := blk_cell HCR.out 0; have fr7 := blk_free HCR.out 0; simp only [List.getElem?_toArray, List.getElem?_cons_zero] at cr7)
     | (go_at_call 13; refine (HB5.out _ (by first | exact Ext.refl _ | exact Ext.drew _ | exact Ext.drewN _ _)).mono ?_; rintro e w6' ⟨A6, c6, rfl, hr6, hf6, c76⟩; have st6 := hr6.str (P := Tryd.prog) 22 5 9 Tryd.underlying22 Tryd.underlying5 Tryd.underlying9; rw [HO.out] at st6))
    all_goals
     have hj := one_set HCR.out (.bool true)
     exact ⟨rfl, rfl, Lib.hid hj.1, Lib.hid (hj.2.at_ HND.out HKD7.out), Lib.hid (hj.2.ext HE7.out HBN1.out)⟩
 · have hj := one_set HR.out (.bool true)
   have hres := hj.1
   have hEY : Ext w (w6.setCell ⟨bn + 1, 0, none⟩ (.bool true)) := hj.2.ext HE.out (by have := HBN.out; omega)
   clear hj
   rcases (show n < 1 ∨ (¬ n < 1 ∧ 20 < n) by omega) with h1 | ⟨h1, h2⟩
   all_goals
    gi_wp2
    exact ⟨_, res_bool rfl rfl hres, by simp, hEY⟩
end Go.Proofs.YtjphlimfldcifaaDoor

namespace Go.Proofs.YtjphlimfldcifaaDoor
open Go.ChangeShapes Go.WideShapes Go.ChangeAt Go.RowKit
open Sha

theorem gK : Tryd.prog.globalNamed "bailey/hashes.k" = some 3 := by kernel_rfl
theorem tK : (Tryd.prog.globals[3]?).map (·.type) = some 132 := by kernel_rfl
def kOk (n : Nat) (i : Nat) : Bool := decide (n < 18446744073709551616 ∧ n / 4294967296 = (wd kk i).toNat)
theorem k_all : (List.range 64).all (fun i => match (Rows.laid_bailey_hashes_k (H := Unit)) with | .agg l => (match l[i]? with | some (.lit (.int .u64 n)) => decide (0 ≤ n) && kOk n.toNat i | _ => false) | _ => false) = true := by decide +kernel
theorem of_laid {W : World} (h : laidMetH Tryd.prog [("bailey/hashes.k", Rows.laid_bailey_hashes_k)] W) : KW W := by
 rw [MakeChecks.laidMetH_plain _ _ _ (by kernel_rfl)] at h
 obtain ⟨ps, ⟨g0, t0, cs0, f0, p0, q0, hg0, ht0, hv0, hd0, _⟩, _, _⟩ := h
 obtain rfl := Option.some.inj (gK.symm.trans hg0)
 obtain rfl := Option.some.inj (tK.symm.trans ht0)
 obtain ⟨xs, m, rfl, hx, hlen, hn, hel⟩ := DataW.trod_array Tryd.underlying132 hd0
 have c1 : Tryd.prog.cellsOf 51 = 1 := by kernel_rfl
 intro i hi
 have hi80 : i < xs.length := by omega
 have h0 := hel i (by omega)
 rw [List.getElem?_eq_getElem hi80] at h0
 obtain ⟨k, e1, e2, _⟩ := DataW.trod_int Tryd.underlying51 h0
 rw [c1, Nat.mul_one] at e1
 have hall := List.all_eq_true.1 k_all i (List.mem_range.2 hi)
 have hx1 := congrArg (fun z : DataW Unit × List MemPlace => z.1) hx
 simp only at hx1
 rw [hx1] at hall
 simp only [List.getElem?_map, List.getElem?_eq_getElem hi80, Option.map_some, e2, Bool.and_eq_true, kOk, decide_eq_true_eq] at hall
 obtain ⟨k0, k1, k2⟩ := hall
 have hc : cs0[i]? = some (.int .u64 k) := by
  have : (cs0.toList.drop i)[0]? = some (Value.int .u64 k) := by
   have h2 := congrArg (fun l : List Value => l[0]?) e1
   simpa using h2
  simpa using this
 refine ⟨k.toNat, ?_, k1, k2⟩
 rw [World.var?_cell hg0 hv0 i, hc, Int.toNat_of_nonneg k0]
theorem door_met (os : Os) (args : Array Value) : laidMetH Tryd.prog [("bailey/hashes.k", Rows.laid_bailey_hashes_k)] ((World.doorLaid Tryd.prog 14 os).forCall (fun _ _ => 0) ⟨#[], args, []⟩).memory :=
 laidMetH_of_parts3 (fuel := 8) (laidMet_of_run' 8 (by kernel_rfl) (by kernel_rfl)) (by kernel_rfl) (by kernel_rfl)
end Go.Proofs.YtjphlimfldcifaaDoor

namespace Go.Proofs.YtjphlimfldcifaaDoor.drbgIter
open Go.ChangeShapes Go.WideShapes Go.ChangeAt Go.RowKit

theorem own : ownKnob Tryd.prog.godebug = none := by kernel_rfl
theorem laidOut : laidOutB Tryd.prog = true := by kernel_rfl

set_option maxRecDepth 100000 in
theorem lifted (os : Os) (started : os.Started) (H : Type) (enc : TypeId × Value → H) :
 ReturnsInHanded {} Tryd.checked os 3 .any (fun w args => (Rows.drbgIterSpec.pre enc Tryd.prog Tryd.f3 Rows.drbgIterRow.domain false w args ∧ laidMetH Tryd.prog [("bailey/hashes.k", Rows.laid_bailey_hashes_k)] w) ∧ sizedMet enc Tryd.prog Tryd.f3 (OpenSpec.ofChange Rows.drbgIterSpec) false w args) (Rows.drbgIterSpec.post enc Tryd.prog Tryd.f3 false true false false) := by
 refine returnsInHanded_of_change_and (C := Tryd.checked) (X := fun w _ => laidMetH Tryd.prog [("bailey/hashes.k", Rows.laid_bailey_hashes_k)] w) (fun _ _ _ hh h => h.of_heap hh) own started (by kernel_rfl) Tryd.func3
  (ChangeSpec.witness_shaped (enc := enc) (C := Tryd.checked) (os := os) (X := fun w _ => laidMetH Tryd.prog [("bailey/hashes.k", Rows.laid_bailey_hashes_k)] w) false (World.doorLaid Tryd.prog 14 os) #[.slice none 0 0, .int .i64 0] 8 rfl (World.shaped_of_RefB (by kernel_rfl) (by kernel_rfl)) (by kernel_rfl) (by kernel_rfl) (by kernel_rfl) (door_met os _)) ?_
 intro W base args ds gs before hval0 hW hcnd hsz0 hL _
 have hk : KW W := of_laid hL
 have hval : ∀ (j : Nat) t v, Tryd.f3.params[j]? = some t → args[j]? = some v → Value.okWide Tryd.prog W .any base t v := hval0
 have hsz : (DataW.weightsEach Tryd.prog (Tryd.f3.params.toList ++ Rows.drbgIterSpec.plain.varTypes Tryd.prog) (ds ++ gs)).all (· ≤ reachBytes) = true := hsz0
 have hW' := hW
 obtain ⟨p, q, hA0, hV, rfl, hfz, hnd⟩ := hW
 have hA : DataW.TrodAll enc Tryd.prog W 0 (fun _ => true) true Tryd.f3.params.toList args.toList ds p := hA0
 rw [Tryd.params3] at hA hval hsz
 obtain ⟨v0, vs0, d0, ds0, p0, q0, hargs, rfl, rfl, h0, r0⟩ := trodAll_cons hA
 obtain ⟨v1, vs1, d1, ds1, p1, q1, rfl, rfl, rfl, h1, r1⟩ := trodAll_cons r0
 obtain ⟨rfl, rfl, rfl⟩ := trodAll_nil r1
 obtain rfl : args = #[v0, v1] := by cases args; simp_all
 obtain ⟨rfl, rfl⟩ := trodVars_none hV
 have k0 := h0
 have lt0 : ∀ x ∈ p0, x.block < W.heap.size := by obtain ⟨m, hm⟩ := k0; exact DataW.trod_lt m _ _ _ hm
 have k1 := h1
 have lt1 : ∀ x ∈ p1, x.block < W.heap.size := by obtain ⟨m, hm⟩ := k1; exact DataW.trod_lt m _ _ _ hm
 have fit : ∀ (j : Nat) (t : TypeId) (d : DataW H), [22, 3][j]? = some t → [d0, d1][j]? = some d → Fits t d := fun j t d ht hd k hk => by
  have := List.all_eq_true.1 hsz k (DataW.weights_mem_each (ts := [22, 3]) (ds := [d0, d1]) ht hd k hk)
  simpa using this
 obtain ⟨a0, len0, cap0, e0⟩ := okWide_slice Tryd.underlying22 (hval 0 22 v0 rfl rfl)
 obtain ⟨A0, c0, l0, hv0, hR0⟩ : ∃ A c l, v0 = .slice A (List.length l) c ∧ RB W (fun b => b < W.heap.size) A c l := by
  obtain ⟨fuel, hf⟩ := h0
  rw [e0] at hf ⊢
  exact open_bytes hf (fit 0 _ _ rfl rfl)
 obtain ⟨n1, hv1, _, _, wf1⟩ := open_int Tryd.underlying3 (hval 1 3 v1 rfl rfl) h1
 clear hA0 hval0
 subst hv0 hv1
 refine (iter_law A0 c0 l0 n1 W hk hR0).mono fun e W' ⟨he, bel⟩ => ?_
 subst he
 exact ⟨_, rfl, _, _, _, [], _, [], hW', trodAll_mk1 (shut_bool Tryd.underlying4 _), (trodAll_cons_mk (Below.trod laidOut (by kernel_rfl) (of_decide_eq_true (by kernel_rfl)) k0 bel lt0) (trodAll_cons_mk (Below.trod laidOut (by kernel_rfl) (of_decide_eq_true (by kernel_rfl)) k1 bel lt1) trodAll_mk0)), rfl, bel.frame _, fun h => by cases h⟩

theorem over : Rows.drbgIterRow.holds Tryd.pinned (OpenSpec.ofChange Rows.drbgIterSpec) :=
 OpenClaim.holds_of_wide 3 Tryd.f3 rfl rfl rfl rfl rfl rfl rfl ⟨rfl, rfl, rfl, rfl, rfl⟩ rfl rfl rfl rfl rfl (by kernel_rfl) Tryd.func3 (by kernel_rfl)
  (of_decide_eq_true (by kernel_rfl)) (by unfold Func.isWrapper; first | (rw [if_pos (by decide +kernel)]; kernel_rfl) | (rw [if_neg (by decide +kernel)]; exact ⟨rfl, rfl⟩))
  (fun os started H enc _ => lifted os started H enc)

theorem proved : Rows.DrbgIterCardSaid :=
 Claim7.holds_tied_plain_at .later [] [.data] true (true, "3a377e8ca52d66c03c4166ec134ee19690ca3a488116915b06703020fb15e33e") false over (fun _ h => by cases h) (by kernel_rfl) (fun _ h => by cases h) drbgIter_row_tie rfl ⟨rfl, rfl⟩ (by kernel_rfl) rfl
  (fun f fn hf hfn => by
   obtain rfl : f = 3 := Option.some.inj ((show Tryd.prog.funcNamed "bailey/baileylaw4.DrbgIter" = some 3 by kernel_rfl).symm.trans hf) |>.symm
   obtain rfl : fn = Tryd.f3 := (Option.some.inj (Tryd.func3.symm.trans hfn)).symm
   exact ⟨by kernel_rfl, fun j t ht => by
    rw [Tryd.params3] at ht
    have hm : t ∈ [22, 3] := by simpa using Array.mem_of_getElem? ht
    have hall : ([22, 3].all fun u => !Tryd.prog.wantsStandIn u) = true := by kernel_rfl
    exact (show Tryd.prog.wantsStandIn t = false by simpa using List.all_eq_true.1 hall t hm)⟩)
  (by kernel_rfl)
#print axioms proved
end Go.Proofs.YtjphlimfldcifaaDoor.drbgIter
