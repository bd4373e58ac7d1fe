/- AttrLists: values are got, put and matched as the document says, in any list: the walk of the law. -/
import Derived.Test.YtpikikaoelnheaaCode
namespace Go.Proofs.Ytpikikaoelnheaa
open Go.RowKit

theorem RA.drewN {w : World} {P : Nat → Prop} {A : Option Addr} {c : Nat} {l : List (Int × List Nat)} (h : RA w P A c l) (n : Nat) : RA (w.drewN n) P A c l := h

theorem eq_same (P P' : Nat → Prop) (A A' : Option Addr) (c c' : Nat) (l : List (Int × List Nat)) (w : World) (hv : RA w P A c l) (hv' : RA w P' A' c' l) :
    Calls Try.prog 38 #[.slice A l.length c, .slice A' l.length c'] w fun e w' => e = .returned (.bool true) ∧ ∃ n, w' = w.drewN n := by
  have h := eq_any P P' A A' c c' l l w hv hv'
  rwa [show decide (l = l) = true by simp] at h

set_option maxRecDepth 100000 in
set_option maxHeartbeats 4000000 in
theorem lists_any (P P' P'' : Nat → Prop) (A A' A'' : Option Addr) (c c' c'' : Nat) (l t : List (Int × List Nat)) (a : Int × List Nat) (w : World) (hv : RA w P A c l) (hP : ∀ b, P b → b < w.heap.size) (hv' : RA w P' A' c' t) (hP' : ∀ b, P' b → b < w.heap.size) (ha : RB w P'' A'' c'' a.2) (hP'' : ∀ b, P'' b → b < w.heap.size) :
    Calls Try.prog 8 #[.slice A l.length c, .slice A' t.length c', .agg #[.int .i64 a.1, .slice A'' a.2.length c'']] w fun e w' => e = .returned (.bool true) ∧ Below w.heap.size w w' := by
  go_enter Try.func8, Try.ntmps8
  go_wp2_with fail
  obtain ⟨W0, hW0⟩ : ∃ W0, w.alloc (.cells #[.int .i64 a.1, .slice A'' a.2.length c''] 48) = W0 := ⟨_, rfl⟩
  have hz0 : W0.heap.size = w.heap.size + 1 := by rw [← hW0]; simp
  have hbx : W0.heap[w.heap.size]? = some (.cells #[.int .i64 a.1, .slice A'' a.2.length c''] 48 (0, 0)) := by rw [← hW0]; exact heap_alloc_new w _
  have hB0 : Below w.heap.size w W0 := by rw [← hW0]; exact (Below.refl _ w).alloc (Nat.le_refl _) _
  rw [hW0]
  have Hz0 := Lib.hid hz0
  clear hW0 hz0
  refine (begun_any _).mono ?_
  rintro e w1 ⟨rfl, hB1⟩
  have hs1 := hB1.size
  have hl1 : w.heap.size < W0.heap.size := by have := Hz0.out; omega
  have hw1 : Below w.heap.size w w1 := hB0.trans (hB1.mono (by omega))
  go_wp2_with fail
  refine (cut_any P A c l 12 30 _ (hv.below hw1 hP) (fun b hb => by have := hP b hb; omega) (by omega) (by omega)).mono ?_
  rintro e w2 ⟨A2, c2, cs2, rfl, hO2, hB2⟩
  have hs2 := hB2.size
  have hlL : (cutOf l 12 30).length ≤ 12 := by rw [cutOf_length]; omega
  obtain ⟨L, hL⟩ : ∃ L, cutOf l 12 30 = L := ⟨_, rfl⟩
  rw [hL] at hO2 hlL ⊢
  have hw2 : Below w.heap.size w w2 := hw1.trans (hB2.mono (by omega))
  go_wp2_with fail
  refine (cut_any P' A' c' t 4 30 _ (hv'.below hw2 hP') (fun b hb => by have := hP' b hb; omega) (by omega) (by omega)).mono ?_
  rintro e w3 ⟨A3, c3, cs3, rfl, hO3, hB3⟩
  have hs3 := hB3.size
  obtain ⟨T, hT⟩ : ∃ T, cutOf t 4 30 = T := ⟨_, rfl⟩
  rw [hT] at hO3 ⊢
  have hw3 : Below w.heap.size w w3 := hw2.trans (hB3.mono (by omega))
  have hb03 : Below W0.heap.size W0 w3 := (hB1.trans (hB2.mono hs1)).trans (hB3.mono (by omega))
  have hbx3 := (hb03.block w.heap.size hl1).trans hbx
  have x0 := blk_cell hbx3 0
  have x1 := blk_cell hbx3 1
  simp at x0 x1
  have hL3 : RA w3 (fun b => b < w3.heap.size) A2 c2 L := (hO2.ra.below hB3 fun b hb => hb.2).mono fun b hb => by have := hb.2; omega
  have hT3 : RA w3 (fun b => b < w3.heap.size) A3 c3 T := hO3.ra.mono fun b hb => hb.2
  have ha3 : RB w3 P'' A'' c'' a.2 := ha.below hw3 hP''
  have hP3 : ∀ b, P'' b → b < w3.heap.size := fun b hb => by have := hP'' b hb; omega
  have hl3 : w.heap.size < w3.heap.size := by omega
  clear hB0 hB1 hB2 hB3 hO2 hO3 hL hT hw1 hw2 hb03 hbx hl1
  go_wp2_with fail
  refine (get_any _ A2 c2 L a.1 w3 hL3 (fun b hb => hb)).mono ?_
  rintro e w4 ⟨A4, c4, rfl, hr4, hB4⟩
  have hs4 := hB4.size
  have hbx4 := (hB4.block w.heap.size hl3).trans hbx3
  have y0 := blk_cell hbx4 0
  have y1 := blk_cell hbx4 1
  simp at y0 y1
  go_wp2_with fail
  refine (refGet_any _ A2 c2 L a.1 w4 (hL3.below hB4 fun b hb => hb)).mono ?_
  rintro e w4' ⟨A5, c5, rfl, hr5, rfl⟩
  go_wp2_with fail
  refine (int_any _ A2 c2 L a.1 w4 (hL3.below hB4 fun b hb => hb) (fun b hb => by omega)).mono ?_
  rintro e w5 ⟨rfl, hB5⟩
  have hs5 := hB5.size
  have hbx5 := (hB5.block w.heap.size (by omega)).trans hbx4
  have z0 := blk_cell hbx5 0
  have z1 := blk_cell hbx5 1
  simp at z0 z1
  have hB35 := hB4.trans (hB5.mono hs4)
  have hL5 := hL3.below hB35 fun b hb => hb
  go_wp2_with fail
  refine (refInt_any _ A2 c2 L a.1 w5 hL5).mono ?_
  rintro e w5' ⟨rfl, q, rfl⟩
  go_wp2_with fail
  refine (put_any (fun b => b < w3.heap.size ∨ P'' b) A2 c2 L a A'' c'' (w5.drewN q) ((hL5.drewN q).mono fun b hb => .inl hb) (((ha3.below hB35 hP3).drewN q).mono fun b hb => .inr hb) (fun b hb => by show b < w5.heap.size; rcases hb with hb | hb; omega; have := hP3 b hb; omega) (by omega)).mono ?_
  rintro e w6 ⟨A6, c6, cs6, rfl, hO6, hB6'⟩
  have hB6 : Below w5.heap.size w5 w6 := ⟨hB6'.os, hB6'.tape, hB6'.output, hB6'.size, hB6'.block⟩
  have hO6' : RA w6 (fun b => b < w6.heap.size) A6 c6 (putOf L a) := hO6.ra.mono fun b hb => hb.2
  have hs6 := hB6.size
  have hB36 := hB35.trans (hB6.mono (by omega))
  have hbx6 := (hB6.block w.heap.size (by omega)).trans hbx5
  have u0 := blk_cell hbx6 0
  have u1 := blk_cell hbx6 1
  simp at u0 u1
  have hL6 := hL3.below hB36 fun b hb => hb
  have hT6 := hT3.below hB36 fun b hb => hb
  have ha6 := ha3.below hB36 hP3
  have hr46 : RB w6 (In w3.heap.size w4.heap.size) A4 c4 _ := (hr4.below hB5 fun b hb => hb.2).below hB6 fun b hb => by have := hb.2; omega
  have hr56 : RB w6 (fun b => b < w3.heap.size) A5 c5 _ := (hr5.below hB5 fun b hb => by omega).below hB6 fun b hb => by omega
  obtain ⟨v, hvv⟩ : ∃ v, (seek L a.1).getD [] = v := ⟨_, rfl⟩
  rw [hvv] at hr46 hr56 ⊢
  have hS : ∀ W, Below w6.heap.size w6 W → W.cell? ⟨w.heap.size, 0, none⟩ = some (.int .i64 a.1) ∧ W.cell? ⟨w.heap.size, 1, none⟩ = some (.slice A'' a.2.length c'') ∧
      (convert 46 9 (.slice A4 v.length c4)).run Try.prog W = .ok (.string (strB v)) W ∧ (convert 46 9 (.slice A5 v.length c5)).run Try.prog W = .ok (.string (strB v)) W := fun W hW =>
    ⟨(hW.cell (p := ⟨w.heap.size, 0, none⟩) (by show w.heap.size < w6.heap.size; omega)).trans u0, (hW.cell (p := ⟨w.heap.size, 1, none⟩) (by show w.heap.size < w6.heap.size; omega)).trans u1,
      (hr46.below hW fun b hb => by have := hb.2; omega).str 46 5 9 Try.underlying46 Try.underlying5 Try.underlying9,
      (hr56.below hW fun b hb => by omega).str 46 5 9 Try.underlying46 Try.underlying5 Try.underlying9⟩
  have HS := Lib.hid hS
  have hw6 : Below w.heap.size w w6 := hw3.trans (hB36.mono (by omega))
  clear hB4 hB5 hB6 hB6' hB35 hB36 hL3 hT3 ha3 hr4 hr5 hL5 hO6 hr46 hr56 hbx3 hbx4 hbx5 hbx6 x0 x1 y0 y1 z0 z1 hw3 hvv hS
  have hlt6 : w.heap.size < w6.heap.size := by omega
  obtain ⟨_, _, s4, s5⟩ := HS.out w6 (Below.refl _ _)
  have hcmp : ((strB v).toList == (strB v).toList) = true := by simp
  go_wp2_with fail
  go_region_held3 (fun w' => w'.cell? ⟨w.heap.size, 0, none⟩ = some (.int .i64 a.1) ∧ w'.cell? ⟨w.heap.size, 1, none⟩ = some (.slice A'' a.2.length c'') ∧
      (convert 46 9 (.slice A4 v.length c4)).run Try.prog w' = .ok (.string (strB v)) w' ∧ (convert 46 9 (.slice A5 v.length c5)).run Try.prog w' = .ok (.string (strB v)) w')
    (first
      | exact HS.out _ ((Below.refl _ w6).drew)
      | exact HS.out _ (Below.refl _ w6)
      | exact HS.out _ hB7
      | exact HS.out _ hB68
      | exact HS.out _ (below_drewN hB68 _)
      | exact HS.out _ hB610
      | exact HS.out _ (below_drewN hB610 _))
    (first
      | (go_at_call 37; refine (flag_any (fun b => b < w3.heap.size) A2 c2 L a.1 _ (by exact hL6) (fun b hb => by show b < w6.heap.size; omega)).mono ?_; rintro e w7 ⟨rfl, hB7'⟩; have hB7 : Below w6.heap.size w6 w7 := ⟨hB7'.os, hB7'.tape, hB7'.output, hB7'.size, hB7'.block⟩; have hs7 := hB7.size; have hL7 := hL6.below hB7 fun b hb => by omega)
      | (go_at_call 13; refine (refFlag_any (fun b => b < w3.heap.size) A2 c2 L a.1 _ (by exact hL7)).mono ?_; rintro e w7' ⟨rfl, rfl⟩)
      | (go_at_call 39; refine (refPut_any (fun b => b < w3.heap.size ∨ P'' b) A2 c2 L a A'' c'' _ (by exact hL7.mono fun b hb => .inl hb) (by exact (ha6.below hB7 fun b hb => by have := hP3 b hb; omega).mono fun b hb => .inr hb) (fun b hb => by show b < w7.heap.size; rcases hb with hb | hb; omega; have := hP3 b hb; omega) (by omega)).mono ?_; rintro e w8 ⟨A8, c8, cs8, rfl, hO8, hB8⟩; have hs8 := hB8.size; have hB68 := hB7.trans (hB8.mono hs7))
      | (go_at_call 38; refine (eq_same _ _ A6 A8 c6 c8 (putOf L a) _ (by exact (hO6'.below hB7 fun b hb => hb).below hB8 fun b hb => by show b < w7.heap.size; omega) (by exact hO8.ra)).mono ?_; rintro e w9 ⟨rfl, q9, rfl⟩)
      | (go_at_call 40; refine (match_any (fun b => b < w3.heap.size) (fun b => b < w3.heap.size) A2 A3 c2 c3 L T _ (by exact (hL7.below hB8 fun b hb => by show b < w7.heap.size; omega).drewN _) (fun b hb => by show b < w8.heap.size; omega) (by exact ((hT6.below hB7 fun b hb => by omega).below hB8 fun b hb => by show b < w7.heap.size; omega).drewN _) (fun b hb => by show b < w8.heap.size; omega)).mono ?_; rintro e w10 ⟨rfl, hB10⟩; have hB610 : Below w6.heap.size w6 w10 := hB68.trans (Below.mono (B' := w6.heap.size) (⟨hB10.os, hB10.tape, hB10.output, hB10.size, hB10.block⟩ : Below w8.heap.size w8 w10) (by omega)))
      | (go_at_call 15; refine (refMatch_any (fun b => b < w3.heap.size) (fun b => b < w3.heap.size) A2 A3 c2 c3 L T _ (by exact (hL6.below hB610 fun b hb => by omega)) (by exact hT6.below hB610 fun b hb => by omega)).mono ?_; rintro e w11 ⟨rfl, q11, rfl⟩))
  go_wp2
  go_ret
  exact ⟨by simp, hw6.trans ((below_drewN hB610 q11).mono hw6.size)⟩
end Go.Proofs.Ytpikikaoelnheaa
