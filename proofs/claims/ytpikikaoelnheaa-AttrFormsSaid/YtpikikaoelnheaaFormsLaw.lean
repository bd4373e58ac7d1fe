/- AttrForms: every type has its form, and values are fine just if they are of it: the walk of the law. -/
import Derived.Test.YtpikikaoelnheaaUp
import Derived.Deep.DeepCutAuto
import Derived.Deep.RegionHeld3
import Derived.Deep.DrawnRows
namespace Go.Proofs.Ytpikikaoelnheaa
open Go.RowKit

set_option maxRecDepth 100000 in
set_option maxHeartbeats 8000000 in
theorem forms_any (P : Nat → Prop) (A : Option Addr) (c : Nat) (t : Int) (bs : List Nat) (v : Int) (w : World) (ha : RB w P A c bs) (hP : ∀ b, P b → b < w.heap.size) :
    Calls Try.prog 6 #[.agg #[.int .i64 t, .slice A bs.length c], .int .i64 v] w fun e w' => e = .returned (.bool true) ∧ Below w.heap.size w w' := by
  have hcap := ha.cap
  go_enter Try.func6, Try.ntmps6
  go_wp2_with fail
  refine (begun_any _).mono ?_
  rintro e w1 ⟨rfl, hB1⟩
  have hz1 := hB1.size
  simp at hz1
  have hbx := (hB1.block w.heap.size (by simp)).trans (heap_alloc_new w _)
  have hw1 : Below w.heap.size w w1 := ((Below.refl _ w).alloc (Nat.le_refl _) _).trans (hB1.mono (by simp))
  have x0 := blk_cell hbx 0
  have x1 := blk_cell hbx 1
  have f0 := blk_free hbx 0
  have f1 := blk_free hbx 1
  simp at x0 x1
  have hr1 : RB w1 P A c bs := ha.below hw1 hP
  clear hB1
  go_upto_if 14 with fail
  go_cut [2, 5] (fun s2 s5 wx => ∃ bs', s2 = .pointer (some ⟨w.heap.size, 0, none⟩) ∧ s5 = .bool true ∧ Boxed1 w wx P A c t bs')
  case first =>
    by_cases hlong : 20000 < bs.length
    · have hb20 : (20000 : Int) ≤ (bs.length : Int) := by omega
      have hl : (bs.take 20000).length = 20000 := by simp; omega
      have Hl := Lib.hid hl
      clear hl
      go_wp2_with fail
      go_meet
      case rel =>
        refine ⟨bs.take 20000, rfl, rfl, ?_, ?_, ?_⟩
        · rw [Hl.out]
          exact blk_set hbx 1 _
        · exact (hr1.take 20000).below ((Below.refl w.heap.size w1).setCell (p := ⟨w.heap.size, 1, none⟩) (Nat.le_refl _) _) hP
        · exact hw1.setCell (p := ⟨w.heap.size, 1, none⟩) (Nat.le_refl _) _
    · go_wp2_with fail
      go_meet
      case rel => exact ⟨bs, rfl, rfl, hbx, hr1, hw1⟩
  case rest =>
    obtain ⟨bs', rfl, rfl, hbW, hRW, hBW⟩ := hcut
    clear hcap hz1 hbx hw1 x0 x1 f0 f1 hr1 ha
    obtain ⟨W, rfl⟩ : ∃ W, W = wc := ⟨_, rfl⟩
    have hzW : w.heap.size < W.heap.size := blk_lt hbW
    have y0 := blk_cell hbW 0
    simp at y0
    go_wp2_with fail
    refine (bool_any t (v.tmod 2 == 0) _).mono ?_
    rintro e w3 ⟨A3, c3, rfl, hr3, hB3⟩
    have hs3 := hB3.size
    have hb3 := (hB3.block w.heap.size hzW).trans hbW
    have y0 := blk_cell hb3 0
    simp at y0
    have hz3 : w.heap.size < w3.heap.size := by omega
    go_wp2_with fail
    refine (num_any t v _).mono ?_
    rintro e w4 ⟨A4, c4, rfl, hr4, hB4⟩
    have hs4 := hB4.size
    simp at hs4
    have hb4 := (hB4.block w.heap.size (by simp; omega)).trans ((Below.heap_alloc w3 _ _ hz3).trans hb3)
    have k4 := (hB4.block w3.heap.size (by simp)).trans (heap_alloc_new w3 _)
    have u0 := blk_cell hb4 0
    have u1 := blk_cell hb4 1
    simp at u0 u1
    have hz4 : w.heap.size < w4.heap.size := by omega
    go_upto_region 6 with fail
    obtain ⟨W5, hW5⟩ : ∃ W5, w4.alloc (.cells #[.int .i64 t, .slice A4 (num4 v).length c4] 48) = W5 := ⟨_, rfl⟩
    have hz5 : W5.heap.size = w4.heap.size + 1 := by rw [← hW5]; simp
    have hb5 : W5.heap[w.heap.size]? = some (.cells #[.int .i64 t, .slice A bs'.length c] 48 (0, 0)) := by rw [← hW5]; exact (Below.heap_alloc w4 _ _ hz4).trans hb4
    have k5 : W5.heap[w3.heap.size]? = some (.cells #[.int .i64 t, .slice A3 1 c3] 48 (0, 0)) := by rw [← hW5]; exact (Below.heap_alloc w4 _ _ (by omega)).trans k4
    have m5 : W5.heap[w4.heap.size]? = some (.cells #[.int .i64 t, .slice A4 (num4 v).length c4] 48 (0, 0)) := by rw [← hW5]; exact heap_alloc_new w4 _
    have z0 := blk_cell hb5 0
    simp at z0
    rw [hW5]
    have hB45 : Below w4.heap.size w4 W5 := by rw [← hW5]; exact (Below.refl _ w4).alloc (Nat.le_refl _) _
    have hB35 : Below w3.heap.size w3 W5 := ((Below.refl _ w3).alloc (Nat.le_refl _) _).trans ((hB4.mono (by simp)).trans (hB45.mono (by omega)))
    have hW35 : Below W.heap.size W W5 := hB3.trans (hB35.mono hs3)
    have hr3' := hr3.below hB35 (fun b hb => hb.2)
    have hr4' := hr4.below hB45 (fun b hb => hb.2)
    have hRW5 : RB W5 P A c bs' := hRW.below hW35 (fun b hb => by have := hP b hb; omega)
    have hBw5 : Below w.heap.size w W5 := hBW.trans (hW35.mono (by omega))
    have Hz5 := Lib.hid hz5
    have hlt5 : w.heap.size < W5.heap.size := by omega
    clear hz5
    have HU : ∀ V, Up W5 V → Up W5 V ∧ V.cell? ⟨w.heap.size, 0, none⟩ = some (.int .i64 t) := fun V hV => ⟨hV, hV.cell (by exact hlt5) z0⟩
    have HU := Lib.hid HU
    clear hB3 hB4 hB45 hB35 hW35 hW5 hRW hbW hzW hr3 hr4 hb3 hb4 k4 u0 u1 hBW
    go_cut [2, 5, 6, 7, 8, 9] (fun s2 s5 s6 s7 s8 s9 wx => ∃ p8 p9 A6 A7 c6 c7, s2 = .pointer (some ⟨w.heap.size, 0, none⟩) ∧ s5 = .bool true ∧ s6 = .pointer (some ⟨w3.heap.size, 0, none⟩) ∧ s7 = .pointer (some ⟨w4.heap.size, 0, none⟩) ∧ s8 = .pointer (some ⟨p8, 0, none⟩) ∧ s9 = .pointer (some ⟨p9, 0, none⟩) ∧ Boxed2 W5 wx t [(v.tmod 2 == 0).toNat] (num4 v) p8 p9 A6 A7 c6 c7)
    case first =>
      clear hP hRW5 hBw5 hb5 k5 m5 hr3' hr4' hz3 hz4 hs3 hs4 y0
      go_region_held3 (fun w' => Up W5 w' ∧ w'.cell? ⟨w.heap.size, 0, none⟩ = some (.int .i64 t))
        (exact HU.out _ (by repeat (first | assumption | (apply And.left; assumption) | exact Up.refl _ | apply Up.alloc | apply Up.drew | apply Up.drewN | (refine Up.set ?_ _ _ (by first | (simp; done) | (simp; omega) | omega)) | (refine Up.call ?_ (by assumption)))))
        (first
          | (go_at_call 25; refine (refBool_any t (v.tmod 2 == 0) _).mono ?_; rintro e w6 ⟨A6, c6, rfl, hr6, hB6⟩; have hs6 := hB6.size; try simp at hs6
             first
             | (have e8 := blk_below hB6 (blk_alloc (heap_alloc_new _ _)); have e9 := blk_below hB6 (heap_alloc_new _ _); simp at e9; have i0 := blk_cell e8 0; have i1 := blk_cell e8 1; have i2 := blk_cell e9 0; have i3 := blk_cell e9 1; have j0 := blk_free e8 0; have j1 := blk_free e8 1; have lte8 := blk_lt e8; have j2 := blk_free e9 0; have j3 := blk_free e9 1; have lte9 := blk_lt e9; simp at i0 i1 i2 i3 e8)
             | (have e8 := blk_below hB6 (heap_alloc_new _ _); have i0 := blk_cell e8 0; have i1 := blk_cell e8 1; have j0 := blk_free e8 0; have j1 := blk_free e8 1; have lte8 := blk_lt e8; simp at i0 i1 e8)
             | skip)
          | (go_at_call 26; refine (refNum_any t v _).mono ?_; rintro e w7 ⟨A7, c7, rfl, hr7, hB7⟩; have hs7 := hB7.size; try simp at hs7
             try (have d8 := blk_below hB7 (by first | exact e8 | exact blk_alloc e8 | exact blk_alloc (blk_alloc e8)); have k0 := blk_cell d8 0; have k1 := blk_cell d8 1; have l0 := blk_free d8 0; have l1 := blk_free d8 1; have ltd8 := blk_lt d8; simp at k0 k1)
             try (have d9 := blk_below hB7 (by first | exact e9 | exact blk_alloc e9 | exact blk_alloc (blk_alloc e9)); have k2 := blk_cell d9 0; have k3 := blk_cell d9 1; have l2 := blk_free d9 0; have l3 := blk_free d9 1; have ltd9 := blk_lt d9; simp at k2 k3)
             first
             | (have n8 := blk_below hB7 (blk_alloc (heap_alloc_new _ _)); have n9 := blk_below hB7 (heap_alloc_new _ _); simp at n9; have u0 := blk_cell n8 0; have u1 := blk_cell n8 1; have u2 := blk_cell n9 0; have u3 := blk_cell n9 1; have v0 := blk_free n8 0; have v1 := blk_free n8 1; have ltn8 := blk_lt n8; have v2 := blk_free n9 0; have v3 := blk_free n9 1; have ltn9 := blk_lt n9; simp at u0 u1 u2 u3 n8)
             | (have n8 := blk_below hB7 (heap_alloc_new _ _); have u0 := blk_cell n8 0; have u1 := blk_cell n8 1; have v0 := blk_free n8 0; have v1 := blk_free n8 1; have ltn8 := blk_lt n8; simp at u0 u1 n8)
             | skip))
      all_goals
        go_wp2_with fail
        go_meet
      all_goals
        refine ⟨_, _, A6, A7, c6, c7, rfl, rfl, rfl, rfl, rfl, rfl, ?_, ?_, ?_, ?_, ?_, ?_⟩
        · first | assumption | (apply And.left; assumption)
        · go_simp
        · go_simp
        · go_simp
        · go_simp
        apply Exists.intro
        apply Exists.intro
        apply And.intro
        · repeat (first | with_reducible exact hr6 | with_reducible apply RB.setCell | with_reducible apply RB.alloc_ | with_reducible apply RB.below (hb := hB7))
          all_goals first | (intro b hb; have h1 := hb.1; have h2 := hb.2; simp at h1 h2 ⊢ <;> omega) | (intro hb; have h1 := hb.1; have h2 := hb.2; simp at h1 h2 <;> omega)
        apply And.intro
        · repeat (first | with_reducible exact hr7 | with_reducible apply RB.setCell | with_reducible apply RB.alloc_)
          all_goals first | (intro b hb; have h1 := hb.1; have h2 := hb.2; simp at h1 h2 ⊢ <;> omega) | (intro hb; have h1 := hb.1; have h2 := hb.2; simp at h1 h2 <;> omega)
        refine ⟨?_, ?_, ?_, ?_⟩
        · intro b hb; have := hb.2; simp at this ⊢ <;> omega
        · intro b hb; have := hb.2; simp at this ⊢ <;> omega
        · simp; try omega
        · simp; try omega
    case rest =>
      obtain ⟨p8, p9, A6, A7, c6, c7, rfl, rfl, rfl, rfl, rfl, rfl, hU, q0, q1, q2, q3, P6, P7, hr6, hr7, hP6, hP7, hl8, hl9⟩ := hcut
      obtain ⟨V, rfl⟩ : ∃ V, V = wc := ⟨_, rfl⟩
      have hzV : W5.heap.size ≤ V.heap.size := Below.size hU
      have hbV := (hU.block w.heap.size hlt5).trans hb5
      have kV := (hU.block w3.heap.size (by have := Hz5.out; omega)).trans k5
      have mV := (hU.block w4.heap.size (by have := Hz5.out; omega)).trans m5
      have a0 := blk_cell hbV 0
      have a1 := blk_cell hbV 1
      have b0 := blk_cell kV 0
      have b1 := blk_cell kV 1
      have n0 := blk_cell mV 0
      have n1 := blk_cell mV 1
      simp at a0 a1 b0 b1 n0 n1
      have hraV : RB V P A c bs' := hRW5.below hU (fun b hb => by have := hP b hb; omega)
      have hr3V := hr3'.below hU (fun b hb => by have := hb.2; have := Hz5.out; omega)
      have hr4V := hr4'.below hU (fun b hb => by have := hb.2; have := Hz5.out; omega)
      have hPV : ∀ b, P b → b < V.heap.size := fun b hb => by have := hP b hb; omega
      have hS : ∀ X, Below V.heap.size V X → X.cell? ⟨w.heap.size, 0, none⟩ = some (.int .i64 t) ∧ X.cell? ⟨w.heap.size, 1, none⟩ = some (.slice A bs'.length c) ∧
          X.cell? ⟨w3.heap.size, 0, none⟩ = some (.int .i64 t) ∧ X.cell? ⟨w3.heap.size, 1, none⟩ = some (.slice A3 1 c3) ∧
          X.cell? ⟨w4.heap.size, 0, none⟩ = some (.int .i64 t) ∧ X.cell? ⟨w4.heap.size, 1, none⟩ = some (.slice A4 (num4 v).length c4) ∧
          X.cell? ⟨p8, 0, none⟩ = some (.int .i64 t) ∧ X.cell? ⟨p8, 1, none⟩ = some (.slice A6 1 c6) ∧
          X.cell? ⟨p9, 0, none⟩ = some (.int .i64 t) ∧ X.cell? ⟨p9, 1, none⟩ = some (.slice A7 (num4 v).length c7) ∧
          (convert 46 9 (.slice A3 1 c3)).run Try.prog X = .ok (.string (strB [(v.tmod 2 == 0).toNat])) X ∧ (convert 46 9 (.slice A6 1 c6)).run Try.prog X = .ok (.string (strB [(v.tmod 2 == 0).toNat])) X ∧
          (convert 46 9 (.slice A4 (num4 v).length c4)).run Try.prog X = .ok (.string (strB (num4 v))) X ∧ (convert 46 9 (.slice A7 (num4 v).length c7)).run Try.prog X = .ok (.string (strB (num4 v))) X := fun X hX =>
        ⟨cell_some hX (blk_lt hbV) a0, cell_some hX (blk_lt hbV) a1, cell_some hX (blk_lt kV) b0, cell_some hX (blk_lt kV) b1, cell_some hX (blk_lt mV) n0, cell_some hX (blk_lt mV) n1, cell_some hX hl8 q0, cell_some hX hl8 q1, cell_some hX hl9 q2, cell_some hX hl9 q3,
          (hr3V.below hX fun b hb => by have := hb.2; have := Hz5.out; omega).str 46 5 9 Try.underlying46 Try.underlying5 Try.underlying9,
          (hr6.below hX hP6).str 46 5 9 Try.underlying46 Try.underlying5 Try.underlying9,
          (hr4V.below hX fun b hb => by have := hb.2; have := Hz5.out; omega).str 46 5 9 Try.underlying46 Try.underlying5 Try.underlying9,
          (hr7.below hX hP7).str 46 5 9 Try.underlying46 Try.underlying5 Try.underlying9⟩
      have HS := Lib.hid hS
      clear hS
      have hx1 : ((strB [(v.tmod 2 == 0).toNat]).toList == (strB [(v.tmod 2 == 0).toNat]).toList) = true := by simp
      have hx2 : ((strB (num4 v)).toList == (strB (num4 v)).toList) = true := by simp
      clear hr6 hr7 hP6 hP7 hr3V hr4V hr3' hr4' hbV kV mV hb5 k5 m5 HU z0 y0 hz3 hz4 hs3 hs4 hRW5 hzV
      go_wp2_with fail
      go_region_held3 (fun X => X.cell? ⟨w.heap.size, 0, none⟩ = some (.int .i64 t) ∧ X.cell? ⟨w.heap.size, 1, none⟩ = some (.slice A bs'.length c) ∧
          X.cell? ⟨w3.heap.size, 0, none⟩ = some (.int .i64 t) ∧ X.cell? ⟨w3.heap.size, 1, none⟩ = some (.slice A3 1 c3) ∧
          X.cell? ⟨w4.heap.size, 0, none⟩ = some (.int .i64 t) ∧ X.cell? ⟨w4.heap.size, 1, none⟩ = some (.slice A4 (num4 v).length c4) ∧
          X.cell? ⟨p8, 0, none⟩ = some (.int .i64 t) ∧ X.cell? ⟨p8, 1, none⟩ = some (.slice A6 1 c6) ∧
          X.cell? ⟨p9, 0, none⟩ = some (.int .i64 t) ∧ X.cell? ⟨p9, 1, none⟩ = some (.slice A7 (num4 v).length c7) ∧
          (convert 46 9 (.slice A3 1 c3)).run Try.prog X = .ok (.string (strB [(v.tmod 2 == 0).toNat])) X ∧ (convert 46 9 (.slice A6 1 c6)).run Try.prog X = .ok (.string (strB [(v.tmod 2 == 0).toNat])) X ∧
          (convert 46 9 (.slice A4 (num4 v).length c4)).run Try.prog X = .ok (.string (strB (num4 v))) X ∧ (convert 46 9 (.slice A7 (num4 v).length c7)).run Try.prog X = .ok (.string (strB (num4 v))) X)
        (first
          | exact HS.out _ ((Below.refl _ V).drew)
          | exact HS.out _ (Below.refl _ V)
          | exact HS.out _ hB7
          | exact HS.out _ hB78)
        (first
          | (go_at_call 27; refine (form_any t _).mono ?_; rintro e w7' ⟨rfl, rfl⟩)
          | (go_at_call 28; refine (refForm_any t _).mono ?_; rintro e w7' ⟨rfl, rfl⟩)
          | (go_at_call 29; refine (fine_any P (t, bs') A c _ (by exact hraV) (by exact hPV)).mono ?_; rintro e w7 ⟨rfl, hB7'⟩; have hB7 : Below V.heap.size V w7 := ⟨hB7'.os, hB7'.tape, hB7'.output, hB7'.size, hB7'.block⟩; have hs7 := hB7.size)
          | (go_at_call 30; refine (refFine_any P (t, bs') A c _ (by exact hraV.below hB7 hPV) (by intro b hb; have := hPV b hb; omega)).mono ?_; rintro e w8 ⟨rfl, hB8⟩; have hB78 := hB7.trans (hB8.mono hs7)))
      go_wp2
      go_ret
      exact ⟨by simp, hBw5.trans ((Below.trans hU (hB78.mono (Below.size hU))).mono (by omega))⟩
end Go.Proofs.Ytpikikaoelnheaa
