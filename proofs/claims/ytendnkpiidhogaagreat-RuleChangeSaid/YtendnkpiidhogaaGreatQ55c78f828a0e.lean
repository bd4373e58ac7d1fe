/- Whether an object has an attribute: the reference's answer, the program's. Whether an object has an attribute: the program's answer. Plain: a template's faults, found row by row; lists of attributes that are the front of another, or were just laid. What stands in cells stands when memory grows and no cells are touched. Whether an attribute is secret, and hidden. Get: attributes are told, but for those that are hidden or not there. -/
import Derived.Test.YtendnkpiidhogaaGreatQdcb0f488b0bd
namespace Go.Proofs.YtendnkpiidhogaaGreat.At
open Go.RowKit Go.Shelf

theorem among_b (P : Nat → Prop) (A : Option Addr) (c : Nat) (l : List Int) (n : Nat) (t : Int) (b : Bool) (w : World) (hb : decide (t ∈ l) = b) (hn : l.length = n) (h : RI w P A c l) :
 Calls Tryz.prog 39 #[.int .i64 t, .slice A n c] w fun e w' => e = .returned (.bool b) ∧ ∃ d, w' = w.drewN d := by
 subst hb hn; exact among_any P A c l t w h
theorem among_r {w0 X : World} (cs : Array Value) (ty : TypeId) (l : List Int) (n : Nat) (t : Int) (b : Bool) (hB : Below w0.heap.size w0 X) (hb : decide (t ∈ l) = b) (hn : l.length = n) (hcs : cs.toList = its l) (hs : n ≤ 1000) :
 Calls Tryz.prog 39 #[.int .i64 t, .slice (some ⟨X.heap.size, 0, none⟩) n n] (X.alloc (.cells cs ty)) fun e w' => e = .returned (.bool b) ∧ Below w0.heap.size w0 w' := by
 refine (among_b (fun _ => True) _ n l n t b _ hb hn (RI.fresh X cs ty l n hcs hn hs trivial)).mono ?_
 rintro e w1 ⟨rfl, d, rfl⟩
 exact ⟨rfl, below_drewN (hB.alloc hB.size _) d⟩
theorem of_b {p : Prop} [Decidable p] {b : Bool} (h : Hid (decide p = b)) : p ↔ b = true := by rw [← h.out]; simp

set_option maxRecDepth 100000 in
set_option maxHeartbeats 2000000 in
theorem refHas_c0 (k t : Int) (w : World) (HW : Hid (together 0 k = true)) : Calls Tryz.prog 11 #[.int .i64 0, .int .i64 k, .int .i64 t] w fun e w' => e = .returned (.bool (refHasOf 0 k t)) ∧ Below w.heap.size w w' := by
 obtain ⟨bA, hA⟩ : ∃ b, decide (t ∈ ([0, 1, 2, 3, 368, 369] : List Int)) = b := ⟨_, rfl⟩
 have HA := Lib.hid hA
 clear hA
 obtain ⟨X0, hX0⟩ : ∃ X0, X0 = w := ⟨_, rfl⟩
 have hB0 : Below w.heap.size w X0 := by rw [hX0]; exact Below.refl _ w
 rw [show Calls Tryz.prog 11 #[.int .i64 0, .int .i64 k, .int .i64 t] w = Calls Tryz.prog 11 #[.int .i64 0, .int .i64 k, .int .i64 t] X0 by rw [hX0]]
 clear hX0
 go_enter Tryz.func11, Tryz.ntmps11
 go_wp2_with fail
 refine (refTogether_any _ _ X0).mono ?_
 rw [HW.out]
 rintro e w1 ⟨rfl, rfl⟩
 go_wp2_with fail
 refine (among_r _ _ [0, 1, 2, 3, 368, 369] 6 t bA hB0 HA.out rfl rfl (by omega)).mono ?_
 rintro e X1 ⟨rfl, hB1⟩
 cases bA
 rotate_left
 · go_wp2
   go_ret
   exact ⟨ret_bool (by simp [HW.out, refHasOf, of_b HA]), hB1⟩
 go_wp2
 go_ret
 exact ⟨ret_bool (by simp [HW.out, refHasOf, eq_comm, of_b HA]), hB1⟩
set_option maxRecDepth 100000 in
set_option maxHeartbeats 2000000 in
theorem refHas_c4 (k t : Int) (w : World) (HW : Hid (together 4 k = true)) : Calls Tryz.prog 11 #[.int .i64 4, .int .i64 k, .int .i64 t] w fun e w' => e = .returned (.bool (refHasOf 4 k t)) ∧ Below w.heap.size w w' := by
 obtain ⟨bA, hA⟩ : ∃ b, decide (t ∈ ([0, 1, 2, 3, 368, 369] : List Int)) = b := ⟨_, rfl⟩
 have HA := Lib.hid hA
 clear hA
 obtain ⟨bB, hB⟩ : ∃ b, decide (t ∈ ([256, 258, 355] : List Int)) = b := ⟨_, rfl⟩
 have HB := Lib.hid hB
 clear hB
 obtain ⟨bS, hS⟩ : ∃ b, decide (t ∈ ([17, 353, 259, 354, 357, 356, 260, 261, 264, 266, 262, 263, 268] : List Int)) = b := ⟨_, rfl⟩
 have HS := Lib.hid hS
 clear hS
 obtain ⟨X0, hX0⟩ : ∃ X0, X0 = w := ⟨_, rfl⟩
 have hB0 : Below w.heap.size w X0 := by rw [hX0]; exact Below.refl _ w
 rw [show Calls Tryz.prog 11 #[.int .i64 4, .int .i64 k, .int .i64 t] w = Calls Tryz.prog 11 #[.int .i64 4, .int .i64 k, .int .i64 t] X0 by rw [hX0]]
 clear hX0
 go_enter Tryz.func11, Tryz.ntmps11
 go_wp2_with fail
 refine (refTogether_any _ _ X0).mono ?_
 rw [HW.out]
 rintro e w1 ⟨rfl, rfl⟩
 go_wp2_with fail
 refine (among_r _ _ [0, 1, 2, 3, 368, 369] 6 t bA hB0 HA.out rfl rfl (by omega)).mono ?_
 rintro e X1 ⟨rfl, hB1⟩
 cases bA
 rotate_left
 · go_wp2
   go_ret
   exact ⟨ret_bool (by simp [HW.out, refHasOf, of_b HA]), hB1⟩
 go_wp2_with fail
 refine (among_r _ _ [256, 258, 355] 3 t bB hB1 HB.out rfl rfl (by omega)).mono ?_
 rintro e X2 ⟨rfl, hB2⟩
 cases bB
 rotate_left
 · go_wp2
   go_ret
   exact ⟨ret_bool (by simp [HW.out, refHasOf, of_b HA, of_b HB]), hB2⟩
 go_wp2_with fail
 refine (among_r _ _ [17, 353, 259, 354, 357, 356, 260, 261, 264, 266, 262, 263, 268] 13 t bS hB2 HS.out rfl rfl (by omega)).mono ?_
 rintro e X3 ⟨rfl, hB3⟩
 go_wp2
 go_ret
 exact ⟨ret_bool (by simp [HW.out, refHasOf, of_b HA, of_b HB, of_b HS]), hB3⟩
set_option maxRecDepth 100000 in
set_option maxHeartbeats 2000000 in
theorem refHas_c20 (t : Int) (w : World) (HW : Hid (together 2 0 = true)) : Calls Tryz.prog 11 #[.int .i64 2, .int .i64 0, .int .i64 t] w fun e w' => e = .returned (.bool (refHasOf 2 0 t)) ∧ Below w.heap.size w w' := by
 obtain ⟨bA, hA⟩ : ∃ b, decide (t ∈ ([0, 1, 2, 3, 368, 369] : List Int)) = b := ⟨_, rfl⟩
 have HA := Lib.hid hA
 clear hA
 obtain ⟨bB, hB⟩ : ∃ b, decide (t ∈ ([256, 258, 355] : List Int)) = b := ⟨_, rfl⟩
 have HB := Lib.hid hB
 clear hB
 obtain ⟨bC, hC⟩ : ∃ b, decide (t ∈ ([260, 266, 262] : List Int)) = b := ⟨_, rfl⟩
 have HC := Lib.hid hC
 clear hC
 obtain ⟨bP, hP⟩ : ∃ b, decide (t ∈ ([288, 289, 290] : List Int)) = b := ⟨_, rfl⟩
 have HP := Lib.hid hP
 clear hP
 obtain ⟨X0, hX0⟩ : ∃ X0, X0 = w := ⟨_, rfl⟩
 have hB0 : Below w.heap.size w X0 := by rw [hX0]; exact Below.refl _ w
 rw [show Calls Tryz.prog 11 #[.int .i64 2, .int .i64 0, .int .i64 t] w = Calls Tryz.prog 11 #[.int .i64 2, .int .i64 0, .int .i64 t] X0 by rw [hX0]]
 clear hX0
 go_enter Tryz.func11, Tryz.ntmps11
 go_wp2_with fail
 refine (refTogether_any _ _ X0).mono ?_
 rw [HW.out]
 rintro e w1 ⟨rfl, rfl⟩
 go_wp2_with fail
 refine (among_r _ _ [0, 1, 2, 3, 368, 369] 6 t bA hB0 HA.out rfl rfl (by omega)).mono ?_
 rintro e X1 ⟨rfl, hB1⟩
 cases bA
 rotate_left
 · go_wp2
   go_ret
   exact ⟨ret_bool (by simp [HW.out, refHasOf, of_b HA]), hB1⟩
 go_wp2_with fail
 refine (among_r _ _ [256, 258, 355] 3 t bB hB1 HB.out rfl rfl (by omega)).mono ?_
 rintro e X2 ⟨rfl, hB2⟩
 cases bB
 rotate_left
 · go_wp2
   go_ret
   exact ⟨ret_bool (by simp [HW.out, refHasOf, of_b HA, of_b HB]), hB2⟩
 go_wp2_with fail
 refine (among_r _ _ [260, 266, 262] 3 t bC hB2 HC.out rfl rfl (by omega)).mono ?_
 rintro e X3 ⟨rfl, hB3⟩
 cases bC
 rotate_left
 · go_wp2
   go_ret
   exact ⟨ret_bool (by simp [HW.out, refHasOf, of_b HA, of_b HB, of_b HC]), hB3⟩
 go_wp2_with fail
 refine (among_r _ _ [288, 289, 290] 3 t bP hB3 HP.out rfl rfl (by omega)).mono ?_
 rintro e X4 ⟨rfl, hB4⟩
 go_wp2
 go_ret
 exact ⟨ret_bool (by simp [HW.out, refHasOf, of_b HA, of_b HB, of_b HC, of_b HP]), hB4⟩
set_option maxRecDepth 100000 in
set_option maxHeartbeats 2000000 in
theorem refHas_c2 (k t : Int) (w : World) (Hk : Hid (¬ k = 0)) (HW : Hid (together 2 k = true)) : Calls Tryz.prog 11 #[.int .i64 2, .int .i64 k, .int .i64 t] w fun e w' => e = .returned (.bool (refHasOf 2 k t)) ∧ Below w.heap.size w w' := by
 obtain ⟨bA, hA⟩ : ∃ b, decide (t ∈ ([0, 1, 2, 3, 368, 369] : List Int)) = b := ⟨_, rfl⟩
 have HA := Lib.hid hA
 clear hA
 obtain ⟨bB, hB⟩ : ∃ b, decide (t ∈ ([256, 258, 355] : List Int)) = b := ⟨_, rfl⟩
 have HB := Lib.hid hB
 clear hB
 obtain ⟨bC, hC⟩ : ∃ b, decide (t ∈ ([260, 266, 262] : List Int)) = b := ⟨_, rfl⟩
 have HC := Lib.hid hC
 clear hC
 obtain ⟨bQ, hQ⟩ : ∃ b, decide (t ∈ ([384, 385] : List Int)) = b := ⟨_, rfl⟩
 have HQ := Lib.hid hQ
 clear hQ
 have hk : (k == 0) = false := by simpa using Hk.out
 obtain ⟨X0, hX0⟩ : ∃ X0, X0 = w := ⟨_, rfl⟩
 have hB0 : Below w.heap.size w X0 := by rw [hX0]; exact Below.refl _ w
 rw [show Calls Tryz.prog 11 #[.int .i64 2, .int .i64 k, .int .i64 t] w = Calls Tryz.prog 11 #[.int .i64 2, .int .i64 k, .int .i64 t] X0 by rw [hX0]]
 clear hX0
 go_enter Tryz.func11, Tryz.ntmps11
 go_wp2_with fail
 refine (refTogether_any _ _ X0).mono ?_
 rw [HW.out]
 rintro e w1 ⟨rfl, rfl⟩
 go_wp2_with fail
 refine (among_r _ _ [0, 1, 2, 3, 368, 369] 6 t bA hB0 HA.out rfl rfl (by omega)).mono ?_
 rintro e X1 ⟨rfl, hB1⟩
 cases bA
 rotate_left
 · go_wp2
   go_ret
   exact ⟨ret_bool (by simp [HW.out, refHasOf, of_b HA]), hB1⟩
 go_wp2_with fail
 refine (among_r _ _ [256, 258, 355] 3 t bB hB1 HB.out rfl rfl (by omega)).mono ?_
 rintro e X2 ⟨rfl, hB2⟩
 cases bB
 rotate_left
 · go_wp2
   go_ret
   exact ⟨ret_bool (by simp [HW.out, refHasOf, of_b HA, of_b HB]), hB2⟩
 go_wp2_with fail
 refine (among_r _ _ [260, 266, 262] 3 t bC hB2 HC.out rfl rfl (by omega)).mono ?_
 rintro e X3 ⟨rfl, hB3⟩
 cases bC
 rotate_left
 · go_wp2
   go_ret
   exact ⟨ret_bool (by simp [HW.out, refHasOf, of_b HA, of_b HB, of_b HC]), hB3⟩
 go_wp2_with fail
 refine (among_r _ _ [384, 385] 2 t bQ hB3 HQ.out rfl rfl (by omega)).mono ?_
 rintro e X4 ⟨rfl, hB4⟩
 go_wp2
 go_ret
 exact ⟨ret_bool (by simp [HW.out, refHasOf, Hk.out, of_b HA, of_b HB, of_b HC, of_b HQ]), hB4⟩
set_option maxRecDepth 100000 in
set_option maxHeartbeats 2000000 in
theorem refHas_c30 (t : Int) (w : World) (HW : Hid (together 3 0 = true)) : Calls Tryz.prog 11 #[.int .i64 3, .int .i64 0, .int .i64 t] w fun e w' => e = .returned (.bool (refHasOf 3 0 t)) ∧ Below w.heap.size w w' := by
 obtain ⟨bA, hA⟩ : ∃ b, decide (t ∈ ([0, 1, 2, 3, 368, 369] : List Int)) = b := ⟨_, rfl⟩
 have HA := Lib.hid hA
 clear hA
 obtain ⟨bB, hB⟩ : ∃ b, decide (t ∈ ([256, 258, 355] : List Int)) = b := ⟨_, rfl⟩
 have HB := Lib.hid hB
 clear hB
 obtain ⟨bD, hD⟩ : ∃ b, decide (t ∈ ([259, 354, 357, 356, 261, 264, 263, 268] : List Int)) = b := ⟨_, rfl⟩
 have HD := Lib.hid hD
 clear hD
 obtain ⟨bF, hF⟩ : ∃ b, decide (t ∈ ([288, 290, 291, 292, 293] : List Int)) = b := ⟨_, rfl⟩
 have HF := Lib.hid hF
 clear hF
 obtain ⟨X0, hX0⟩ : ∃ X0, X0 = w := ⟨_, rfl⟩
 have hB0 : Below w.heap.size w X0 := by rw [hX0]; exact Below.refl _ w
 rw [show Calls Tryz.prog 11 #[.int .i64 3, .int .i64 0, .int .i64 t] w = Calls Tryz.prog 11 #[.int .i64 3, .int .i64 0, .int .i64 t] X0 by rw [hX0]]
 clear hX0
 go_enter Tryz.func11, Tryz.ntmps11
 go_wp2_with fail
 refine (refTogether_any _ _ X0).mono ?_
 rw [HW.out]
 rintro e w1 ⟨rfl, rfl⟩
 go_wp2_with fail
 refine (among_r _ _ [0, 1, 2, 3, 368, 369] 6 t bA hB0 HA.out rfl rfl (by omega)).mono ?_
 rintro e X1 ⟨rfl, hB1⟩
 cases bA
 rotate_left
 · go_wp2
   go_ret
   exact ⟨ret_bool (by simp [HW.out, refHasOf, of_b HA]), hB1⟩
 go_wp2_with fail
 refine (among_r _ _ [256, 258, 355] 3 t bB hB1 HB.out rfl rfl (by omega)).mono ?_
 rintro e X2 ⟨rfl, hB2⟩
 cases bB
 rotate_left
 · go_wp2
   go_ret
   exact ⟨ret_bool (by simp [HW.out, refHasOf, of_b HA, of_b HB]), hB2⟩
 go_wp2_with fail
 refine (among_r _ _ [259, 354, 357, 356, 261, 264, 263, 268] 8 t bD hB2 HD.out rfl rfl (by omega)).mono ?_
 rintro e X3 ⟨rfl, hB3⟩
 cases bD
 rotate_left
 · go_wp2
   go_ret
   exact ⟨ret_bool (by simp [HW.out, refHasOf, of_b HA, of_b HB, of_b HD]), hB3⟩
 go_wp2_with fail
 refine (among_r _ _ [288, 290, 291, 292, 293] 5 t bF hB3 HF.out rfl rfl (by omega)).mono ?_
 rintro e X4 ⟨rfl, hB4⟩
 go_wp2
 go_ret
 exact ⟨ret_bool (by simp [HW.out, refHasOf, of_b HA, of_b HB, of_b HD, of_b HF]), hB4⟩
set_option maxRecDepth 100000 in
set_option maxHeartbeats 2000000 in
theorem refHas_c3 (k t : Int) (w : World) (Hk : Hid (¬ k = 0)) (HW : Hid (together 3 k = true)) : Calls Tryz.prog 11 #[.int .i64 3, .int .i64 k, .int .i64 t] w fun e w' => e = .returned (.bool (refHasOf 3 k t)) ∧ Below w.heap.size w w' := by
 obtain ⟨bA, hA⟩ : ∃ b, decide (t ∈ ([0, 1, 2, 3, 368, 369] : List Int)) = b := ⟨_, rfl⟩
 have HA := Lib.hid hA
 clear hA
 obtain ⟨bB, hB⟩ : ∃ b, decide (t ∈ ([256, 258, 355] : List Int)) = b := ⟨_, rfl⟩
 have HB := Lib.hid hB
 clear hB
 obtain ⟨bD, hD⟩ : ∃ b, decide (t ∈ ([259, 354, 357, 356, 261, 264, 263, 268] : List Int)) = b := ⟨_, rfl⟩
 have HD := Lib.hid hD
 clear hD
 obtain ⟨bG, hG⟩ : ∃ b, decide (t ∈ ([384, 17] : List Int)) = b := ⟨_, rfl⟩
 have HG := Lib.hid hG
 clear hG
 have hk : (k == 0) = false := by simpa using Hk.out
 obtain ⟨X0, hX0⟩ : ∃ X0, X0 = w := ⟨_, rfl⟩
 have hB0 : Below w.heap.size w X0 := by rw [hX0]; exact Below.refl _ w
 rw [show Calls Tryz.prog 11 #[.int .i64 3, .int .i64 k, .int .i64 t] w = Calls Tryz.prog 11 #[.int .i64 3, .int .i64 k, .int .i64 t] X0 by rw [hX0]]
 clear hX0
 go_enter Tryz.func11, Tryz.ntmps11
 go_wp2_with fail
 refine (refTogether_any _ _ X0).mono ?_
 rw [HW.out]
 rintro e w1 ⟨rfl, rfl⟩
 go_wp2_with fail
 refine (among_r _ _ [0, 1, 2, 3, 368, 369] 6 t bA hB0 HA.out rfl rfl (by omega)).mono ?_
 rintro e X1 ⟨rfl, hB1⟩
 cases bA
 rotate_left
 · go_wp2
   go_ret
   exact ⟨ret_bool (by simp [HW.out, refHasOf, of_b HA]), hB1⟩
 go_wp2_with fail
 refine (among_r _ _ [256, 258, 355] 3 t bB hB1 HB.out rfl rfl (by omega)).mono ?_
 rintro e X2 ⟨rfl, hB2⟩
 cases bB
 rotate_left
 · go_wp2
   go_ret
   exact ⟨ret_bool (by simp [HW.out, refHasOf, of_b HA, of_b HB]), hB2⟩
 go_wp2_with fail
 refine (among_r _ _ [259, 354, 357, 356, 261, 264, 263, 268] 8 t bD hB2 HD.out rfl rfl (by omega)).mono ?_
 rintro e X3 ⟨rfl, hB3⟩
 cases bD
 rotate_left
 · go_wp2
   go_ret
   exact ⟨ret_bool (by simp [HW.out, refHasOf, of_b HA, of_b HB, of_b HD]), hB3⟩
 go_wp2_with fail
 refine (among_r _ _ [384, 17] 2 t bG hB3 HG.out rfl rfl (by omega)).mono ?_
 rintro e X4 ⟨rfl, hB4⟩
 go_wp2
 go_ret
 exact ⟨ret_bool (by simp [HW.out, refHasOf, Hk.out, of_b HA, of_b HB, of_b HD, of_b HG]), hB4⟩

theorem refHas_any (c k t : Int) (w : World) : Calls Tryz.prog 11 #[.int .i64 c, .int .i64 k, .int .i64 t] w fun e w' => e = .returned (.bool (hasOf c k t)) ∧ Below w.heap.size w w' := by
 rw [← refHas_eq]
 by_cases hw : together c k = false
 · have hr := Lib.hid (show refHasOf c k t = false by simp [refHasOf, hw])
   have HW := Lib.hid hw
   clear hw
   go_enter Tryz.func11, Tryz.ntmps11
   go_wp2_with fail
   refine (refTogether_any _ _ w).mono ?_
   rw [HW.out]
   rintro e w1 ⟨rfl, rfl⟩
   go_wp2
   go_ret
   exact ⟨ret_bool (by rw [hr.out]), Below.refl _ _⟩
 · rw [Bool.not_eq_false] at hw
   have hc : c = 0 ∨ c = 4 ∨ c = 2 ∨ c = 3 := by unfold together at hw; split at hw <;> (try split at hw) <;> (try split at hw) <;> simp_all
   rcases hc with rfl | rfl | rfl | rfl
   · exact refHas_c0 k t w (Lib.hid hw)
   · exact refHas_c4 k t w (Lib.hid hw)
   · by_cases hk : k = 0
     · subst hk; exact refHas_c20 t w (Lib.hid hw)
     · exact refHas_c2 k t w (Lib.hid hk) (Lib.hid hw)
   · by_cases hk : k = 0
     · subst hk; exact refHas_c30 t w (Lib.hid hw)
     · exact refHas_c3 k t w (Lib.hid hk) (Lib.hid hw)
end Go.Proofs.YtendnkpiidhogaaGreat.At

namespace Go.Proofs.YtendnkpiidhogaaGreat.At
open Go.RowKit Go.Shelf

attribute [local go_sem] Oper.semAt_some

theorem cell_putObj {W : World} {l : Nat} {o o' : Obj} (h : W.heap[l]? = some o) (ho : o.isCells = false) (ho' : o'.isCells = false) (p : Addr) : (W.putObj l o').cell? p = W.cell? p := by
 by_cases hp : p.block = l
 · have h1 : (W.putObj l o').heap[p.block]? = some o' := by rw [hp]; exact World.putObj_heap_same (Array.getElem?_eq_some_iff.1 h).1
   have h2 : W.heap[p.block]? = some o := by rw [hp]; exact h
   cases o <;> cases o' <;> simp_all [World.cell?, Obj.isCells]
 · exact World.cell?_of_block (World.putObj_heap_other hp)
theorem own_box {β : Type} (g : Nat) (cs : Array Value) (t : TypeId) : Own (fun (_ : β) W => W.heap[g]? = some (.cells cs t (0, 0))) := fun _ _ _ _ hs hg hr => (grownBy_keeps_cells hg hr hs rfl).trans hs
theorem rowIs_putObj {c k : Int} (j : Nat) (W : World) (v : Array Value) (l : Nat) (o o' : Obj) (hv : rowIs c k j W v) (h : W.heap[l]? = some o) (ho : o.isCells = false) (ho' : o'.isCells = false) : rowIs c k j (W.putObj l o') v := by
 obtain ⟨A, n, cc, rfl, hn, hr⟩ := hv
 exact ⟨A, n, cc, rfl, hn, (hr.keep fun p _ => cell_putObj h ho ho' p).mono fun b hb => by simpa using hb⟩
theorem bset {w : World} {g : Nat} {t : TypeId} {cs : Array Value} (h : w.heap[g]? = some (.cells cs t (0, 0))) (i : Nat) (u : Value) : (w.setCell ⟨g, i, none⟩ u).heap[g]? = some (.cells (cs.setIfInBounds i u) t (0, 0)) := by
 simp [World.setCell, Array.getElem?_modify, h]
def noRow (c k t : Int) (j : Nat) : Prop := ∀ i, i < j → t ∉ (rowsOf c k).getD i []
theorem noRow_succ {c k t : Int} {j : Nat} (h : noRow c k t j) (hn : t ∉ (rowsOf c k).getD j []) : noRow c k t (j + 1) := fun i hi => by
 rcases Nat.lt_or_ge i j with h1 | h1
 · exact h i h1
 · obtain rfl : i = j := by omega
   exact hn
theorem noRow_all {c k t : Int} (h : noRow c k t (rowsOf c k).length) : hasOf c k t = false := by
 unfold hasOf
 rw [List.any_eq_false]
 intro r hr
 obtain ⟨i, hi, he⟩ := List.getElem_of_mem hr
 have := h i hi
 rw [List.getD_eq_getElem?_getD, List.getElem?_eq_getElem hi] at this
 simp at this ⊢
 rwa [← he]
theorem row_hit {c k t : Int} {j : Nat} (hj : j < (rowsOf c k).length) (h : t ∈ (rowsOf c k).getD j []) : hasOf c k t = true := by
 rw [List.getD_eq_getElem?_getD, List.getElem?_eq_getElem hj] at h
 unfold hasOf
 rw [List.any_eq_true]
 exact ⟨_, List.getElem_mem hj, by simpa using h⟩

theorem contains_b (P : Nat → Prop) (A : Option Addr) (c n : Nat) (l : List Int) (t : Int) (b : Bool) (w : World) (h : RI w P A c l) (hn : n = l.length) (hb : decide (t ∈ l) = b) :
 Calls Tryz.prog 37 #[.slice A n c, .int .i64 t] w fun e w' => e = .returned (.bool b) ∧ ∃ d, w' = w.drewN d := by
 subst hn hb; exact contains_any P A c l t w h

set_option maxRecDepth 100000 in
set_option maxHeartbeats 4000000 in
theorem has_any (c k t : Int) (w : World) : Calls Tryz.prog 10 #[.int .i64 c, .int .i64 k, .int .i64 t] w fun e w' => e = .returned (.bool (hasOf c k t)) ∧ Below w.heap.size w w' := by
 refine (callsIn_wide (n := 6)).1 ?_
 refine callsIn_of_wp_marks Tryz.func10 rfl trivial ?_ rfl
 simp only [Tryz.ntmps10, List.size_toArray, List.length_cons, List.length_nil, Nat.reduceAdd, Nat.reduceSub, Array.replicate_succ, Array.replicate_zero, List.push_toArray, List.append_toArray, List.nil_append, List.cons_append]
 gi_wp2
 obtain ⟨s, hs⟩ : ∃ s, w.heap.size = s := ⟨_, rfl⟩
 have hw0 : Below s w ((w.alloc (.cells #[.int .i64 t] 3)).alloc (.cells #[.bool false] 4)) := ((Below.refl _ w).alloc (by omega) _).alloc (by simp; omega) _
 have hm0 : ((w.alloc (.cells #[.int .i64 t] 3)).alloc (.cells #[.bool false] 4)).heap[s]? = some (.cells #[.int .i64 t] 3 (0, 0)) := by
  rw [← hs]; exact (Below.heap_alloc _ _ _ (by simp)).trans (heap_alloc_new w _)
 have hr0 : ((w.alloc (.cells #[.int .i64 t] 3)).alloc (.cells #[.bool false] 4)).heap[s + 1]? = some (.cells #[.bool false] 4 (0, 0)) := by
  have := heap_alloc_new (w.alloc (.cells #[.int .i64 t] 3)) (.cells #[.bool false] 4)
  rw [← hs]; simpa using this
 have hz0 : ((w.alloc (.cells #[.int .i64 t] 3)).alloc (.cells #[.bool false] 4)).heap.size = s + 2 := by simp; omega
 rw [hs]
 generalize ((w.alloc (.cells #[.int .i64 t] 3)).alloc (.cells #[.bool false] 4)) = W0 at *
 refine ⟨trivial, (callsIn_wide.2 (has_of c k W0)).mono ?_⟩
 rintro e W1 ⟨rfl, hW1⟩
 have hw1 : Below s w W1 := by rw [hW1]; exact (hw0.alloc (by omega) _).alloc (by simp; omega) _
 have hm1 : W1.heap[s]? = some (.cells #[.int .i64 t] 3 (0, 0)) := by
  rw [hW1]; exact (Below.heap_alloc _ _ _ (by simp; omega)).trans ((Below.heap_alloc _ _ _ (by omega)).trans hm0)
 have hr1 : W1.heap[s + 1]? = some (.cells #[.bool false] 4 (0, 0)) := by
  rw [hW1]; exact (Below.heap_alloc _ _ _ (by simp; omega)).trans ((Below.heap_alloc _ _ _ (by omega)).trans hr0)
 have hc1 : W1.heap[s + 2]? = some (.cells #[.int .i64 c] 3 (0, 0)) := by
  rw [hW1]; exact (Below.heap_alloc _ _ _ (by simp; omega)).trans (by have := heap_alloc_new W0 (.cells #[.int .i64 c] 3); rwa [hz0] at this)
 have hk1 : W1.heap[s + 2 + 1]? = some (.cells #[.int .i64 k] 3 (0, 0)) := by
  rw [hW1]; have := heap_alloc_new (W0.alloc (.cells #[.int .i64 c] 3)) (.cells #[.int .i64 k] 3); rwa [World.size_alloc, hz0] at this
 have hz1 : W1.heap.size = s + 4 := by rw [hW1]; simp; omega
 rw [hz0]
 clear hW1 hw0 hm0 hr0 hz0
 have c1 := blk_cell hc1 0
 have c2 := blk_cell hk1 0
 simp only [List.getElem?_toArray, List.getElem?_cons_zero] at c1 c2
 have hseq := has_seq (s + 2) (s + 4) c k W1 (by omega) (by omega) c1 c2
 have Hseq := Lib.hid hseq
 have Hs := Lib.hid hs
 have Hz1 := Lib.hid hz1
 clear hseq hs hz1 c1 c2 hc1 hk1
 gi_wp2
 refine' wpIn_iterR (by omega) (gf := 76) (lb := #[.pointer (some ⟨s + 2, 0, none⟩), .pointer (some ⟨s + 2 + 1, 0, none⟩)]) rfl (enters_of Tryz.func76 (by kernel_rfl) rfl)
  Hseq.out (fun h1 h2 => Below.trans h1 h2) (fun W l o o' hl h h1 h2 => belowK_b (n₀ := s + 4) (w := W1) (by rw [Hz1.out]; omega) W l o o' hl h h1 h2) tplain_keeps (Below.refl _ _) (fun _ _ _ h => by obtain ⟨A, n, cc, rfl, _⟩ := h; rfl) rowIs_putObj
  (fun j W => (W.heap[s]? = some (.cells #[.int .i64 t] 3 (0, 0)) ∧ W.heap[s + 1]? = some (.cells #[.bool false] 4 (0, 0)) ∧ noRow c k t j) ∧ Below s w W)
  (fun j W => (W.heap[s]? = some (.cells #[.int .i64 t] 3 (0, 0)) ∧ W.heap[s + 1]? = some (.cells #[.bool false] 4 (0, 0)) ∧ noRow c k t j) ∧ Below s w W)
  (fun cd _ W => (cd = .ret ∧ W.heap[s + 1]? = some (.cells #[.bool true] 4 (0, 0)) ∧ hasOf c k t = true) ∧ Below s w W)
  ?hI ?hI ?hIx (fun _ _ _ _ => trivial) (fun B j A C _ _ hi ht => ?hIT) (fun h => by cases h) ⟨⟨hm1, hr1, fun i hi => absurd hi (by omega)⟩, hw1⟩ ?round ?done ?stop
 case hI => exact OwnFrom.and (Own.from (fun j A B row hs hg hr => ⟨own_box _ _ _ j A B row hs.1 hg hr, own_box _ _ _ j A B row hs.2.1 hg hr, hs.2.2⟩) _) (ownFrom_below (Nat.le_of_eq Hs.out.symm) (by rw [Hz1.out]; omega))
 case hIx => exact fun cd => OwnFrom.and (Own.from (fun j A B row hs hg hr => ⟨hs.1, own_box _ _ _ j A B row hs.2.1 hg hr, hs.2.2⟩) _) (ownFrom_below (Nat.le_of_eq Hs.out.symm) (by rw [Hz1.out]; omega))
 case hIT =>
  refine ownFrom_plain (I := fun j W => (W.heap[s]? = some (.cells #[.int .i64 t] 3 (0, 0)) ∧ W.heap[s + 1]? = some (.cells #[.bool false] 4 (0, 0)) ∧ noRow c k t j) ∧ Below s w W) (B := W1.heap.size) ?_ hi ht
  exact OwnFrom.and (Own.from (fun j A B row hs hg hr => ⟨own_box _ _ _ j A B row hs.1 hg hr, own_box _ _ _ j A B row hs.2.1 hg hr, hs.2.2⟩) _) (ownFrom_below (Nat.le_of_eq Hs.out.symm) (by rw [Hz1.out]; omega))
 case round =>
  rintro l j v W0 ⟨A, n, cc, rfl, -, -⟩
  refine' Exists.intro _ (And.intro ?asg ?bd)
  case asg =>
   intro W K hK
   gi_wp2
   exact hK
  rintro W ⟨⟨hm, hr, hno⟩, hB⟩ ⟨A', n', cc', e, hn, hRI⟩ hlt hz
  injection e with e
  injection e with e _
  injection e with e1 e2 e3
  subst e1 e2 e3
  have m0 := blk_cell hm 0
  have r0 := blk_cell hr 0
  have r1 := blk_free hr 0
  simp only [List.getElem?_toArray, List.getElem?_cons_zero] at m0 r0
  obtain ⟨b, hb⟩ : ∃ b, decide (t ∈ (rowsOf c k).getD j []) = b := ⟨_, rfl⟩
  have Hc := Lib.hid (contains_b _ A cc n _ t b W hRI hn hb)
  have Hb := Lib.hid hb
  have Hlt := Lib.hid hlt
  have HR := Lib.hid hr
  have HM := Lib.hid hm
  clear hb hlt hRI hn hm hr
  gi_wp2
  refine ⟨trivial, (callsIn_wide.2 Hc.out).mono ?_⟩
  rintro e w' ⟨rfl, d, rfl⟩
  cases b
  · gi_wp2
    refine ⟨Keeps.drewN _ _ _ W d, below_drewN (Below.refl _ W) d, ⟨HM.out, HR.out, noRow_succ hno (by simpa using Hb.out)⟩, below_drewN hB d⟩
  · gi_wp2
    refine ⟨(Keeps.drewN _ _ _ W d).trans (Keeps.setCell _ _ 0 _ (.inl (by have := Hz1.out; show s + 1 < _; omega)) _), ⟨rfl, by simpa using bset (show (W.drewN d).heap[s + 1]? = _ from HR.out) 0 (.bool true), row_hit Hlt.out (by simpa using Hb.out)⟩, (below_drewN hB d).setCell (p := ⟨s + 1, 0, none⟩) (by simp) _⟩
 case done =>
  rintro D W hD ⟨⟨hm, hr, hno⟩, hB⟩ hK
  have r0 := blk_cell hr 0
  have r1 := blk_free hr 0
  simp only [List.getElem?_toArray, List.getElem?_cons_zero] at r0
  have hh := noRow_all hno
  have Hh := Lib.hid hh
  clear hh
  gi_wp2
  have hK' := (KeepsOthers.setCell W ⟨s + 1, 0, none⟩ (.bool false)).same D _ hK rfl
  have hc4 : (W.setCell ⟨s + 1, 0, none⟩ (.bool false)).cell? ⟨s + 1, 0, none⟩ = some (.bool false) := World.cell?_setCell_same' W ⟨s + 1, 0, none⟩ (.bool false) (by rw [r0]; rfl)
  have hc5 := cell_kept hc4 (grownBy_putObj' _ D (.deferred none)) (fun r e => by cases e; exact ⟨_, hK', rfl⟩)
  refine ⟨by simp, .inl ⟨_, _, rfl, run_takeDeferred hK', .bool false, ?_, by rw [Hh.out], ?_⟩⟩
  · simp [results, Tryz.f10, go_sem, hc5]
  · have := (hB.setCell (p := ⟨s + 1, 0, none⟩) (by simp) (.bool false)).trans (belowK_b (n₀ := s) (w := W1) (by rw [Hz1.out]; omega) _ D _ (.deferred none) hD hK' rfl rfl)
    rw [Hs.out]; exact this
 case stop =>
  rintro D cd j W hD _ _ ⟨⟨rfl, hr, hh⟩, hB⟩ hK
  have hc1 := blk_cell hr 0
  simp only [List.getElem?_toArray, List.getElem?_cons_zero] at hc1
  gi_wp2
  have hc5 := cell_kept hc1 (grownBy_putObj' _ D (.deferred none)) (fun r e => by cases e; exact ⟨_, hK, rfl⟩)
  refine ⟨by simp, .inl ⟨_, _, rfl, run_takeDeferred hK, .bool true, ?_, by rw [hh], ?_⟩⟩
  · simp [results, Tryz.f10, go_sem, hc5]
  · have := hB.trans (belowK_b (n₀ := s) (w := W1) (by rw [Hz1.out]; omega) W D _ (.deferred none) hD hK rfl rfl)
    rw [Hs.out]; exact this
end Go.Proofs.YtendnkpiidhogaaGreat.At

namespace Go.Proofs.YtendnkpiidhogaaGreat.At
open Go.RowKit

theorem ret_3 {k1 k2 k3 : IntKind} {a b c a' b' c' : Int} (h : (a, b, c) = (a', b', c')) : Ending.returned (.tuple #[.int k1 a, .int k2 b, .int k3 c]) = .returned (.tuple #[.int k1 a', .int k2 b', .int k3 c']) := by cases h; rfl

theorem any_no {p : Int × List Nat → Bool} {l : Attrs} (h : ∀ j (hj : j < l.length), p l[j] = false) : l.any p = false := by
 rw [List.any_eq_false]
 intro x hx
 obtain ⟨i, hi, rfl⟩ := List.getElem_of_mem hx
 simp [h i hi]
theorem any_yes {p : Int × List Nat → Bool} {l : Attrs} {j : Nat} (hj : j < l.length) (h : p l[j] = true) : l.any p = true := List.any_eq_true.2 ⟨_, List.getElem_mem hj, h⟩
theorem twice_no : ∀ (l p : Attrs), (∀ j (h : j < l.length), came (p ++ l.take j) l[j].1 = false) → twice p l = false
  | [], _, _ => rfl
  | x :: r, p, h => by
    have h0 := h 0 (by simp)
    simp at h0
    have h1 := twice_no r (p ++ [x]) fun j hj => by
      have := h (j + 1) (by simp; omega)
      simpa using this
    simp [twice, h0, h1]
theorem twice_yes : ∀ (l p : Attrs) (j : Nat) (h : j < l.length), came (p ++ l.take j) l[j].1 = true → twice p l = true
  | [], _, j, h, _ => by simp at h
  | x :: r, p, 0, _, hc => by simp at hc; simp [twice, hc]
  | x :: r, p, j + 1, h, hc => by
    have := twice_yes r (p ++ [x]) j (by simpa using h) (by simpa using hc)
    simp [twice, this]

def badAt (row : Int) (l : Attrs) (x : Int × List Nat) (k : Nat) : Bool := if row = 0 then formOf x.1 == 0 else if row = 1 then came (l.take k) x.1 else if row = 2 then !fineOf x else false
def cleanTo (row : Int) (l : Attrs) (k : Nat) : Prop := ∀ j (h : j < l.length), j < k → badAt row l l[j] j = false
theorem cleanTo_zero (row : Int) (l : Attrs) : cleanTo row l 0 := fun _ _ h => absurd h (by omega)
theorem cleanTo_succ {row : Int} {l : Attrs} {k : Nat} (h : cleanTo row l k) (hk : k < l.length) (he : badAt row l l[k] k = false) : cleanTo row l (k + 1) := fun j hj hlt => by
 rcases Nat.lt_or_ge j k with h1 | h1
 · exact h j hj h1
 · obtain rfl : j = k := by omega
   exact he
def cleanRows (l : Attrs) (r : Nat) : Prop := ∀ j, j < r → cleanTo j l l.length
theorem cleanRows_succ {l : Attrs} {r : Nat} (h : cleanRows l r) (hn : cleanTo r l l.length) : cleanRows l (r + 1) := fun j hj => by
 rcases Nat.lt_or_ge j r with h1 | h1
 · exact h j h1
 · obtain rfl : j = r := by omega
   exact hn
theorem no0 {l : Attrs} (h : cleanTo 0 l l.length) : l.any (fun x => formOf x.1 == 0) = false := any_no fun j hj => by simpa [badAt] using h j hj hj
theorem no1 {l : Attrs} (h : cleanTo 1 l l.length) : twice [] l = false := twice_no l [] fun j hj => by simpa [badAt] using h j hj hj
theorem no2 {l : Attrs} (h : cleanTo 2 l l.length) : l.any (fun x => !fineOf x) = false := any_no fun j hj => by simpa [badAt] using h j hj hj
theorem forms_clean {l : Attrs} (h : cleanRows l 3) : formsOf l = 0 := by simp [formsOf, no0 (h 0 (by omega)), no1 (h 1 (by omega)), no2 (h 2 (by omega))]
theorem forms_hit0 {l : Attrs} {j : Nat} (hj : j < l.length) (h : badAt 0 l l[j] j = true) : formsOf l = 18 := by
 have : l.any (fun x => formOf x.1 == 0) = true := any_yes hj (by simpa [badAt] using h)
 simp [formsOf, this]
theorem forms_hit1 {l : Attrs} {j : Nat} (hr : cleanRows l 1) (hj : j < l.length) (h : badAt 1 l l[j] j = true) : formsOf l = 209 := by
 have : twice [] l = true := twice_yes l [] j hj (by simpa [badAt] using h)
 simp [formsOf, no0 (hr 0 (by omega)), this]
theorem forms_hit2 {l : Attrs} {j : Nat} (hr : cleanRows l 2) (hj : j < l.length) (h : badAt 2 l l[j] j = true) : formsOf l = 19 := by
 have : l.any (fun x => !fineOf x) = true := any_yes hj (by simpa [badAt] using h)
 simp [formsOf, no0 (hr 0 (by omega)), no1 (hr 1 (by omega)), this]

def lastOf (how c k : Int) (l : Attrs) : Int := if l.any (fun x => !hasOf c k x.1) then 209 else if l.any (fun x => unreadOf how c x.1) then 16 else 0
def badC (how c k : Int) (row : Int) (t : Int) : Bool := if row = 0 then !hasOf c k t else if row = 1 then unreadOf how c t else false
def cleanC (how c k row : Int) (l : Attrs) (n : Nat) : Prop := ∀ j (h : j < l.length), j < n → badC how c k row l[j].1 = false
theorem cleanC_zero (how c k row : Int) (l : Attrs) : cleanC how c k row l 0 := fun _ _ h => absurd h (by omega)
theorem cleanC_succ {how c k row : Int} {l : Attrs} {n : Nat} (h : cleanC how c k row l n) (hk : n < l.length) (he : badC how c k row l[n].1 = false) : cleanC how c k row l (n + 1) := fun j hj hlt => by
 rcases Nat.lt_or_ge j n with h1 | h1
 · exact h j hj h1
 · obtain rfl : j = n := by omega
   exact he
def cleanCs (how c k : Int) (l : Attrs) (r : Nat) : Prop := ∀ j, j < r → cleanC how c k j l l.length
theorem cleanCs_succ {how c k : Int} {l : Attrs} {r : Nat} (h : cleanCs how c k l r) (hn : cleanC how c k r l l.length) : cleanCs how c k l (r + 1) := fun j hj => by
 rcases Nat.lt_or_ge j r with h1 | h1
 · exact h j h1
 · obtain rfl : j = r := by omega
   exact hn
theorem last_clean {how c k : Int} {l : Attrs} (h : cleanCs how c k l 2) : lastOf how c k l = 0 := by
 have h0 : l.any (fun x => !hasOf c k x.1) = false := any_no fun j hj => by simpa [badC] using h 0 (by omega) j hj hj
 have h1 : l.any (fun x => unreadOf how c x.1) = false := any_no fun j hj => by simpa [badC] using h 1 (by omega) j hj hj
 simp [lastOf, h0, h1]
theorem last_hit0 {how c k : Int} {l : Attrs} {j : Nat} (hj : j < l.length) (h : badC how c k 0 l[j].1 = true) : lastOf how c k l = 209 := by
 have : l.any (fun x => !hasOf c k x.1) = true := any_yes hj (by simpa [badC] using h)
 simp [lastOf, this]
theorem last_hit1 {how c k : Int} {l : Attrs} {j : Nat} (hr : cleanCs how c k l 1) (hj : j < l.length) (h : badC how c k 1 l[j].1 = true) : lastOf how c k l = 16 := by
 have h0 : l.any (fun x => !hasOf c k x.1) = false := any_no fun j hj => by simpa [badC] using hr 0 (by omega) j hj hj
 have : l.any (fun x => unreadOf how c x.1) = true := any_yes hj (by simpa [badC] using h)
 simp [lastOf, h0, this]
theorem check_last {how : Int} {l : Attrs} {class_ key : Int} (hh : ¬ (how < 1 ∨ 4 < how)) (hf : formsOf l = 0) (hk : (kindsOf l class_ key).2.2 = 0) : checkOf how l class_ key = lastOf how (kindsOf l class_ key).1 (kindsOf l class_ key).2.1 l := by
 simp [checkOf, if_neg hh, hf, hk, lastOf]

theorem RA.take {w : World} {P : Nat → Prop} {A : Option Addr} {c : Nat} {l : Attrs} (h : RA w P A c l) {m : Nat} (hm : m ≤ l.length) : RA w P A c (l.take m) := by
 obtain ⟨cs, h1, h2⟩ := h
 refine ⟨cs.take (m * 2), by rw [List.length_take, Nat.min_eq_left hm]; exact h1.pre hm, fun j x hx => ?_⟩
 rw [List.getElem?_take] at hx
 split at hx
 · rw [List.getElem?_take, List.getElem?_take, if_pos (by omega), if_pos (by omega)]
   exact h2 j x hx
 · cases hx
theorem RA.lit {w : World} {V P : Nat → Prop} (cs : Array Value) (t : TypeId) (l : Attrs) (n H : Nat) (h : CA w V l cs.toList) (hn : l.length = n) (hc : cs.size = n * 2) (hs : n ≤ 1000) (hH : w.heap.size = H) (hV : ∀ b, V b → b < H) (hP : P H) (hVP : ∀ b, V b → P b) :
 RA (w.alloc (.cells cs t)) P (some ⟨H, 0, none⟩) n l := by
 subst hn hH
 refine ⟨cs.toList, RS.fresh cs t 2 l.length hc (by unfold maxLen; omega) hP, fun j x hx => ?_⟩
 obtain ⟨h1, A', c', h2, h3⟩ := h j x hx
 exact ⟨h1, A', c', h2, (h3.keep fun p hp => World.cell?_alloc_lt w _ p (hV _ hp)).mono hVP⟩
end Go.Proofs.YtendnkpiidhogaaGreat.At

namespace Go.Proofs.YtendnkpiidhogaaGreat.At
open Go.RowKit Go.Shelf

section
variable {W W' : World} {row : Option Nat} {P : Nat → Prop} {A : Option Addr} {c : Nat}
theorem RS.grown {size n : Nat} {cs : List Value} (h : RS W P size A n c cs) (hg : W.grownBy W' row) (hr : ∀ r, row = some r → ∃ o : Obj, W.heap[r]? = some o ∧ o.isCells = false) : RS W' P size A n c cs := by
 obtain ⟨h1, h2, h3, h4⟩ := h
 refine ⟨h1, h2, h3, fun hn => ?_⟩
 obtain ⟨ad, e, hp, hc⟩ := h4 hn
 exact ⟨ad, e, hp, fun j u hu => cell_kept (hc j u hu) hg hr⟩
theorem RB.grown {bs : List Nat} (h : RB W P A c bs) (hg : W.grownBy W' row) (hr : ∀ r, row = some r → ∃ o : Obj, W.heap[r]? = some o ∧ o.isCells = false) : RB W' P A c bs := ⟨RS.grown h.1 hg hr, h.2⟩
theorem RA.grown {l : Attrs} (h : RA W P A c l) (hg : W.grownBy W' row) (hr : ∀ r, row = some r → ∃ o : Obj, W.heap[r]? = some o ∧ o.isCells = false) : RA W' P A c l := by
 obtain ⟨cs, h1, h2⟩ := h
 exact ⟨cs, RS.grown h1 hg hr, fun j x hx => let ⟨h3, A', c', h4, h5⟩ := h2 j x hx; ⟨h3, A', c', h4, RB.grown h5 hg hr⟩⟩
theorem OA.grown {base : Nat} {l : Attrs} {cs : List Value} (h : OA W base A c l cs) (hg : W.grownBy W' row) (hr : ∀ r, row = some r → ∃ o : Obj, W.heap[r]? = some o ∧ o.isCells = false) : OA W' base A c l cs := by
 obtain ⟨h1, h2⟩ := h
 refine ⟨h1.kept hg ?_, fun j x hx => let ⟨h3, A', c', h4, h5⟩ := h2 j x hx; ⟨h3, A', c', h4, (RB.grown h5 hg hr).mono fun b hb => ⟨hb.1, Nat.lt_of_lt_of_le hb.2.1 hg.size, hb.2.2⟩⟩⟩
 rcases h1.2 with ⟨e, _⟩ | ⟨g, cap, cur, e, _, hh, _⟩
 · rw [e]; exact .inl rfl
 · refine .inr fun e' => ?_
   rw [e] at e'
   simp [Value.ownBlock] at e'
   obtain ⟨o, ho, hc⟩ := hr g e'.symm
   rw [hh] at ho
   cases ho
   cases hc
end
def tys : List Int := (List.range (cnt 386)).map fun k => (tyAt k : Int)
theorem tys_get {k : Nat} (h : k < cnt 386) : tys.drop k = (tyAt k : Int) :: tys.drop (k + 1) := by
 rw [List.drop_eq_getElem_cons (by simp [tys]; exact h)]
 simp [tys]
set_option maxHeartbeats 400000 in
theorem types_any (w : World) : Calls Tryz.prog 50 #[] w fun e w' => e = .returned (.func (.func 87) #[] #[]) ∧ w = w' := by
 go_enter Tryz.func50, Tryz.ntmps50
 go_wp2
 go_ret
 exact ⟨rfl, rfl⟩
end Go.Proofs.YtendnkpiidhogaaGreat.At

namespace Go.Proofs.YtendnkpiidhogaaGreat.At
open Go.RowKit Go.Shelf

def hidF (cl : Nat) (b1 b2 : Bool) (t : Int) : Bool :=
 if t = 17 then (if cl ≠ 4 ∧ cl ≠ 3 then false else b1 || !b2)
 else if t = 291 ∨ t = 292 ∨ t = 293 then (if cl ≠ 3 then false else b1 || !b2)
 else false
theorem hidden_eq (l : Attrs) (t : Int) : hiddenOf l t = hidF ((intOf' l 0).getD 0) (flagOf l 259) (flagOf l 354) t := rfl

set_option maxRecDepth 100000 in
set_option maxHeartbeats 4000000 in
theorem hidden_any (P : Nat → Prop) (A : Option Addr) (c : Nat) (l : Attrs) (t : Int) (w : World) (hv : RA w P A c l) (hP : ∀ b, P b → b < w.heap.size) :
    Calls Tryz.prog 16 #[.slice A l.length c, .int .i64 t] w fun e w' => e = .returned (.bool (hiddenOf l t)) ∧ Below w.heap.size w w' := by
  rw [hidden_eq]
  have i1 := int_any P A c l 0 w hv hP
  have f1 := flag_any P A c l 259
  have f2 := flag_any P A c l 354
  obtain ⟨o, ho⟩ : ∃ o, intOf' l 0 = o := ⟨_, rfl⟩
  obtain ⟨cl, hcl⟩ : ∃ cl, o.getD 0 = cl := ⟨_, rfl⟩
  obtain ⟨b1, hb1⟩ : ∃ b, flagOf l 259 = b := ⟨_, rfl⟩
  obtain ⟨b2, hb2⟩ : ∃ b, flagOf l 354 = b := ⟨_, rfl⟩
  rw [ho, hcl] at i1
  rw [hb1] at f1
  rw [hb2] at f2
  rw [ho, hcl, hb1, hb2]
  obtain ⟨s, hs⟩ : ∃ s, o.isSome = s := ⟨_, rfl⟩
  rw [hs] at i1
  have I1 := Lib.hid i1
  have F1 := Lib.hid f1
  have F2 := Lib.hid f2
  clear ho hcl hb1 hb2 hs i1 f1 f2
  go_enter Tryz.func16, Tryz.ntmps16
  go_wp2_with fail
  refine I1.out.mono ?_
  rintro e w1 ⟨rfl, hB1⟩
  have hv1 := hv.below hB1 hP
  have hP1 : ∀ b, P b → b < w1.heap.size := fun b hb => Nat.lt_of_lt_of_le (hP b hb) hB1.size
  have hs1 := hB1.size
  have f1 := F1.out w1 hv1 hP1
  have F1' := Lib.hid f1
  have HV := Lib.hid hv1
  have HP := Lib.hid hP1
  have HB1 := Lib.hid hB1
  clear f1 hv1 hP1 hB1 hv hP I1 F1
  cases b1
  · go_wp2_with fail
    all_goals first
      | (go_ret; exact ⟨ret_bool (by first | (simp_all [hidF]; done) | (simp_all [hidF]; intros; omega)), HB1.out⟩)
      | (refine F1'.out.mono ?_
         rintro e w2 ⟨rfl, hB2⟩
         go_wp2_with fail
         refine (F2.out w2 (HV.out.below hB2 HP.out) (fun b hb => Nat.lt_of_lt_of_le (HP.out b hb) hB2.size)).mono ?_
         rintro e w3 ⟨rfl, hB3⟩
         have hB : Hid (Below w.heap.size w w3) := Lib.hid (HB1.out.trans ((hB2.mono hs1).trans (hB3.mono (Nat.le_trans hs1 hB2.size))))
         clear hB2 hB3
         go_wp2
         go_ret
         exact ⟨ret_bool (by first | (simp_all [hidF]; done) | (simp_all [hidF]; intros; omega)), hB.out⟩)
  · go_wp2_with fail
    all_goals first
      | (go_ret; exact ⟨ret_bool (by first | (simp_all [hidF]; done) | (simp_all [hidF]; intros; omega)), HB1.out⟩)
      | (refine F1'.out.mono ?_
         rintro e w2 ⟨rfl, hB2⟩
         have hB : Hid (Below w.heap.size w w2) := Lib.hid (HB1.out.trans (hB2.mono hs1))
         clear hB2
         go_wp2
         go_ret
         exact ⟨ret_bool (by first | (simp_all [hidF]; done) | (simp_all [hidF]; intros; omega)), hB.out⟩)
end Go.Proofs.YtendnkpiidhogaaGreat.At

namespace Go.Proofs.YtendnkpiidhogaaGreat.At
open Go.RowKit Go.Shelf

def rowF : Option (List Nat) → Bool → List Nat × Int
 | none, _ => ([], 18)
 | some _, true => ([], 17)
 | some b, false => (b, 0)
def getRow (o : Attrs) (t : Int) : List Nat × Int := rowF (seek o t) (hiddenOf o t)
def getOn (o : Attrs) : Attrs → Int → List Int → Attrs × Int
 | out, rv, [] => (out, rv)
 | out, rv, t :: r => getOn o (out ++ [(t, (getRow o t).1)]) (if rv = 0 then (getRow o t).2 else rv) r
def getOf (o : Attrs) (ts : List Int) : Attrs × Int := getOn o [] 0 ts

theorem OA.put0 {w : World} {base : Nat} {A : Option Addr} {c : Nat} {l : Attrs} {cs : List Value} {p : Addr} (h : OA w base A c l cs) (hp : p.block < base) (u : Value) : OA (w.setCell p u) base A c l cs :=
 ⟨ownsRow_setCell_below h.1 hp u, fun j x hx => let ⟨h1, A', c', h2, h3⟩ := h.2 j x hx; ⟨h1, A', c', h2, (h3.setCell (fun hb => by have := hb.1; omega) u).mono fun b hb => ⟨hb.1, by simpa using hb.2.1, hb.2.2⟩⟩⟩
theorem OA.snoc2 {W2 W3 : World} {base : Nat} {A A' : Option Addr} {c c' : Nat} {l : Attrs} {cs : List Value} {m : Nat} (h : OA W2 base A c l cs) (hm : l.length = m) {t : Int} {v : List Nat} {n : Nat} (hn : v.length = n) {Au : Option Addr} {cu : Nat}
 (hu : RB W2 (fun b => base ≤ b ∧ b < W2.heap.size ∧ (Value.slice A m c).ownBlock ≠ some b) Au cu v)
 (hown : W3.ownsRow base 37 2 (.slice A' (m + 1) c') (m + 1) (cs ++ [.int .i64 t, .slice Au n cu])) (hg : W2.grownBy W3 (Value.slice A m c).ownBlock)
 (hor : (Value.slice A' (m + 1) c').ownBlock = (Value.slice A m c).ownBlock ∨ (Value.slice A' (m + 1) c').ownBlock = some W2.heap.size) :
 OA W3 base A' c' (l ++ [(t, v)]) (cs ++ [.int .i64 t, .slice Au n cu]) := by
 subst hm hn
 have hl := h.1.1
 have hs' := hg.size
 have eown : (Value.slice A' (l.length + 1) c').ownBlock = (Value.slice A' (l ++ [(t, v)]).length c').ownBlock := by cases A' <;> rfl
 rw [eown] at hor
 have kept : ∀ (b : Nat), b < W2.heap.size → (Value.slice A l.length c).ownBlock ≠ some b → W3.heap[b]? = W2.heap[b]? := fun b h1 h2 => hg.block b h1 (fun e => h2 e.symm)
 have far : ∀ b, (base ≤ b ∧ b < W2.heap.size ∧ (Value.slice A l.length c).ownBlock ≠ some b) → base ≤ b ∧ b < W3.heap.size ∧ (Value.slice A' (l ++ [(t, v)]).length c').ownBlock ≠ some b := fun b hp => by
  refine ⟨hp.1, by omega, ?_⟩
  rcases hor with e | e
  · rw [e]; exact hp.2.2
  · rw [e]; intro e'; injection e' with e'; omega
 refine ⟨by simpa using hown, fun j y hy => ?_⟩
 rcases Nat.lt_or_ge j l.length with hj | hj
 · rw [List.getElem?_append_left hj] at hy
   obtain ⟨h1, A1, c1, h2, h3⟩ := h.2 j y hy
   rw [List.getElem?_append_left (by omega), List.getElem?_append_left (by omega)]
   exact ⟨h1, A1, c1, h2, (h3.keep fun p hp => World.cell?_of_block (kept _ hp.2.1 hp.2.2)).mono far⟩
 · have hjl : j = l.length := by
    have := (List.getElem?_eq_some_iff.1 hy).1
    simp at this
    omega
   subst hjl
   simp at hy
   subst hy
   rw [List.getElem?_append_right (by omega), List.getElem?_append_right (by omega), hl]
   exact ⟨by simp, Au, cu, by simp, (hu.keep fun p hp => World.cell?_of_block (kept _ hp.2.1 hp.2.2)).mono far⟩

set_option maxHeartbeats 1000000 in
theorem first_any (e rv : Int) (g : Nat) (w : World) (h : w.heap[g]? = some (.cells #[.int .i64 rv] 27 (0, 0))) :
 Calls Tryz.prog 41 #[.int .i64 e, .pointer (some ⟨g, 0, none⟩)] w fun en w' => (∃ v, en = .returned v) ∧ w'.heap[g]? = some (.cells #[.int .i64 (if rv = 0 then e else rv)] 27 (0, 0)) ∧ (w' = w ∨ ∃ u, w' = w.setCell ⟨g, 0, none⟩ u) := by
 have x0 := blk_cell h 0
 have f0 := blk_free h 0
 simp at x0
 by_cases h0 : rv = 0
 · subst h0
   have hb := bset h 0 (.int .i64 e)
   go_enter Tryz.func41, Tryz.ntmps41
   go_wp2
   refine bodyPost_end (results_none rfl _ _ _) rfl ?_
   exact ⟨⟨_, rfl⟩, by simpa using hb, .inr ⟨_, rfl⟩⟩
 · have h0' : (rv == 0) = false := by simpa using h0
   have hh := Lib.hid h
   go_enter Tryz.func41, Tryz.ntmps41
   go_wp2
   refine bodyPost_end (results_none rfl _ _ _) rfl ?_
   exact ⟨⟨_, rfl⟩, by simpa [h0] using hh.out, .inl rfl⟩

set_option maxRecDepth 100000 in
set_option maxHeartbeats 4000000 in
theorem rget_any (P P' : Nat → Prop) (A A' : Option Addr) (c c' : Nat) (l : Attrs) (ts : List Int) (w : World) (hv : RA w P A c l) (hP : ∀ b, P b → b < w.heap.size) (hv' : RI w P' A' c' ts) (hP' : ∀ b, P' b → b < w.heap.size) (hl : ts.length ≤ 1000) :
    Calls Tryz.prog 13 #[.slice A l.length c, .slice A' ts.length c'] w fun e w' => ∃ A1 c1, e = .returned (.tuple #[.slice A1 (getOf l ts).1.length c1, .int .i64 (getOf l ts).2]) ∧ RA w' (In w.heap.size w'.heap.size) A1 c1 (getOf l ts).1 ∧ Below w.heap.size w w' := by
  obtain ⟨G, hG⟩ : ∃ G, getOf l ts = G := ⟨_, rfl⟩
  rw [hG]
  have HG := Lib.hid hG
  clear hG
  obtain ⟨hlc, hc⟩ := hv.cap
  obtain ⟨hlc', hc'⟩ := hv'.cap
  have hb0 := heap_alloc_new w (.cells #[.int .i64 0] 27)
  have hB0 : Below w.heap.size w (w.alloc (.cells #[.int .i64 0] 27)) := (Below.refl _ w).alloc (Nat.le_refl _) _
  have HB0 := Lib.hid hB0
  have Hb0 := Lib.hid hb0
  clear hB0 hb0
  go_enter Tryz.func13, Tryz.ntmps13
  go_wp2
  go_loopw [6, 16] (fun v i wr => ∃ (k : Nat) (out : Attrs) (rv : Int) (A1 : Option Addr) (c1 : Nat) (cs : List Value), k ≤ ts.length ∧ i = .int .i64 k ∧ v = .slice A1 k c1 ∧ out.length = k ∧ getOn l out rv (ts.drop k) = G ∧ OA wr (w.heap.size + 1) A1 c1 out cs ∧ wr.heap[w.heap.size]? = some (.cells #[.int .i64 rv] 27 (0, 0)) ∧ Below w.heap.size w wr) (fun _ i _ => ts.length - (intOf i).toNat)
  case atStart => exact ⟨0, [], 0, none, 0, [], Nat.zero_le _, rfl, rfl, rfl, by simpa [getOf] using HG.out, OA.nil_ _ _, by simpa using Hb0.out, by simpa using HB0.out⟩
  case round =>
    clear HB0 Hb0 HG
    obtain ⟨k, out, rv, A1, c1, cs, hk, rfl, rfl, hol, hGk, hO, hbx, hB⟩ := hrel
    have hs := hB.size
    have hzr := blk_lt hbx
    by_cases hlt : k < ts.length
    · have hvr := hv.below hB hP
      obtain ⟨ad, rfl, hb, hx⟩ := (hv'.below hB hP').at_ hlt
      obtain ⟨t, ht⟩ : ∃ t, ts.getD k 0 = t := ⟨_, rfl⟩
      rw [ht] at hx
      have hst : getOn l out rv (ts.drop k) = getOn l (out ++ [(t, (getRow l t).1)]) (if rv = 0 then (getRow l t).2 else rv) (ts.drop (k + 1)) := by
        rw [List.drop_eq_getElem_cons hlt, show ts[k] = t by rw [← ht, List.getD_eq_getElem?_getD, List.getElem?_eq_getElem hlt]; rfl, getOn]
      rw [hst] at hGk
      obtain ⟨row, hrow⟩ : ∃ r, getRow l t = r := ⟨_, rfl⟩
      rw [hrow] at hGk
      have hP1 : ∀ b, P b → b < wr.heap.size := fun b hb => Nat.lt_of_lt_of_le (hP b hb) hs
      have hlt1 := fun g e => (hO.1.lt g e).2
      rw [hol] at hlt1
      have HLT := Lib.hid hlt1
      have hg := get_any P A c l t wr hvr hP1
      have hh := fun w => hidden_any P A c l t w
      obtain ⟨o, ho⟩ : ∃ o, seek l t = o := ⟨_, rfl⟩
      obtain ⟨hd, hhd⟩ : ∃ b, hiddenOf l t = b := ⟨_, rfl⟩
      rw [ho] at hg
      simp only [hhd] at hh
      have hrw : row = rowF o hd := by rw [← hrow, getRow, ho, hhd]
      have HR := Lib.hid hrw
      have HGK := Lib.hid hGk
      have HGE := Lib.hid hg
      have HH := Lib.hid hh
      have HO := Lib.hid hO
      have HV := Lib.hid hvr
      have HBX := Lib.hid hbx
      have HHB := Lib.hid hB
      have Hol := Lib.hid hol
      have hk1 : (k : Int) < 1000 := by omega
      clear ht hst hGk hrow hg hh ho hhd hrw hO hvr hbx hB hol hlt1
      go_wp2_with fail
      refine HGE.out.mono ?_
      rintro e w1 ⟨A3, c3, rfl, hr3, hB3⟩
      have hs3 := hB3.size
      have hbx3 : w1.heap[w.heap.size]? = some (.cells #[.int .i64 rv] 27 (0, 0)) := (hB3.block _ hzr).trans HBX.out
      have HB3 := Lib.hid (HHB.out.trans (hB3.mono hs))
      have HO3 := Lib.hid (HO.out.below hB3)
      have HV3 := Lib.hid (HV.out.below hB3 hP1)
      have Hr3 := Lib.hid hr3
      have Hb3 := Lib.hid hbx3
      clear hr3 hbx3 HGE HO HV HBX HHB hB3
      cases o with
      | none =>
        go_wp2_with fail
        refine (first_any 18 rv w.heap.size w1 Hb3.out).mono ?_
        rintro e w4 ⟨⟨u, rfl⟩, hb4, hw4⟩
        have hz4 : w4.heap.size = w1.heap.size := by rcases hw4 with rfl | ⟨u, rfl⟩ <;> simp
        have HB4 : Hid (Below w.heap.size w w4) := Lib.hid (by rcases hw4 with rfl | ⟨u, rfl⟩; exact HB3.out; exact HB3.out.setCell (p := ⟨w.heap.size, 0, none⟩) (by simp) u)
        have HO4 : Hid (OA w4 (w.heap.size + 1) A1 c1 out cs) := Lib.hid (by rcases hw4 with rfl | ⟨u, rfl⟩; exact HO3.out; exact HO3.out.put0 (p := ⟨w.heap.size, 0, none⟩) (by simp) u)
        have Hb4 := Lib.hid hb4
        have Hz4 := Lib.hid hz4
        clear hb4 hw4 hz4 HB3 HO3 Hb3
        have hzx : w.heap.size + 1 ≤ w4.heap.size := by have := Hz4.out; omega
        have hown := HO4.out.1
        rw [Hol.out] at hown
        have Hown := Lib.hid hown
        clear hown
        go_wp2_with (at_builtin; refine app48one (w0 := w4) rfl (.tmp 37) (.tmp 41) rfl (w.heap.size + 1) (.slice A1 k c1) k cs rfl Hown.out 0 rfl rfl ⟨rfl, rfl⟩ (by omega) hzx ?_; intro A9 c9 w9 hown9 hg9 hor9)
        have hB9 : Below w4.heap.size w4 (w4.alloc (.cells #[.int .i64 t, .slice none 0 0] 37)) := (Below.refl _ _).alloc (Nat.le_refl _) _
        have HO9 := Lib.hid (OA.snoc2 (t := t) (v := []) (n := 0) (HO4.out.below hB9) Hol.out rfl (RB.nil_ _ _) hown9 hg9 hor9)
        have hlt9 := fun g e => (Hown.out.lt g e).1
        have HB9 := Lib.hid ((HB4.out.alloc (by omega) (.cells #[.int .i64 t, .slice none 0 0] 37)).grown hg9 (by simp; omega) (fun g e => by have := hlt9 g e; omega))
        have Hb9 := Lib.hid ((hg9.block w.heap.size (by simp; omega) (fun e => by have := hlt9 _ e.symm; omega)).trans ((hB9.block _ (by omega)).trans Hb4.out))
        clear hown9 hg9 hor9 hB9 hlt9 Hown
        go_wp2
        go_roundw
        case rel => exact ⟨k + 1, out ++ [(t, [])], (if rv = 0 then 18 else rv), A9, c9, _, by omega, by go_num, rfl, by simp [Hol.out], by have := HGK.out; rw [HR.out] at this; have e0 : (if rv = 0 then (0 : Int) else rv) = rv := (by split <;> omega); simpa [rowF, e0] using this, HO9.out, Hb9.out, HB9.out⟩
        case measure => simp [intOf]; omega
      | some b =>
        go_wp2_with fail
        refine (HH.out w1 HV3.out (fun b hb => Nat.lt_of_lt_of_le (hP1 b hb) hs3)).mono ?_
        rintro e w2 ⟨rfl, hB2⟩
        have hs2 := hB2.size
        have Hb2 := Lib.hid ((hB2.block _ (by omega)).trans Hb3.out)
        have HB2 := Lib.hid (HB3.out.trans (hB2.mono (by omega)))
        have HO2 := Lib.hid (HO3.out.below hB2)
        have Hr2 := Lib.hid (Hr3.out.below hB2 fun b hb => hb.2)
        clear hB2 HO3 HB3 Hb3 Hr3 HV3 HH
        cases hd
        · skip
          have hzx : w.heap.size + 1 ≤ w2.heap.size := by omega
          have hown := HO2.out.1
          rw [Hol.out] at hown
          have Hown := Lib.hid hown
          clear hown
          go_wp2_with (at_builtin; refine app48one (w0 := w2) rfl (.tmp 37) (.tmp 41) rfl (w.heap.size + 1) (.slice A1 k c1) k cs rfl Hown.out 0 rfl rfl ⟨rfl, rfl⟩ (by omega) hzx ?_; intro A9 c9 w9 hown9 hg9 hor9)
          have hB9 : Below w2.heap.size w2 (w2.alloc (.cells #[.int .i64 t, .slice A3 b.length c3] 37)) := (Below.refl _ _).alloc (Nat.le_refl _) _
          have HO9 := Lib.hid (OA.snoc2 (t := t) (v := b) (n := b.length) (HO2.out.below hB9) Hol.out rfl ((Hr2.out.below hB9 (fun q hq => by have := hq.2; omega)).mono (fun q hq => ⟨by have := hq.1; omega, by have := hq.2; simp; omega, fun e => by have := HLT.out _ e; have := hq.1; omega⟩)) hown9 hg9 hor9)
          have hlt9 := fun g e => (Hown.out.lt g e).1
          have HB9 := Lib.hid ((HB2.out.alloc (by omega) (.cells #[.int .i64 t, .slice A3 b.length c3] 37)).grown hg9 (by simp; omega) (fun g e => by have := hlt9 g e; omega))
          have Hb9 := Lib.hid ((hg9.block w.heap.size (by simp; omega) (fun e => by have := hlt9 _ e.symm; omega)).trans ((hB9.block _ (by omega)).trans Hb2.out))
          clear hown9 hg9 hor9 hB9 hlt9 Hown
          go_wp2
          go_roundw
          case rel => exact ⟨k + 1, out ++ [(t, b)], rv, A9, c9, _, by omega, by go_num, rfl, by simp [Hol.out], by have := HGK.out; rw [HR.out] at this; have e0 : (if rv = 0 then (0 : Int) else rv) = rv := (by split <;> omega); simpa [rowF, e0] using this, HO9.out, Hb9.out, HB9.out⟩
          case measure => simp [intOf]; omega
        · go_wp2_with fail
          refine (first_any 17 rv w.heap.size w2 Hb2.out).mono ?_
          rintro e w4 ⟨⟨u, rfl⟩, hb4, hw4⟩
          have hz4 : w4.heap.size = w2.heap.size := by rcases hw4 with rfl | ⟨u, rfl⟩ <;> simp
          have HB4 : Hid (Below w.heap.size w w4) := Lib.hid (by rcases hw4 with rfl | ⟨u, rfl⟩; exact HB2.out; exact HB2.out.setCell (p := ⟨w.heap.size, 0, none⟩) (by simp) u)
          have HO4 : Hid (OA w4 (w.heap.size + 1) A1 c1 out cs) := Lib.hid (by rcases hw4 with rfl | ⟨u, rfl⟩; exact HO2.out; exact HO2.out.put0 (p := ⟨w.heap.size, 0, none⟩) (by simp) u)
          have Hb4 := Lib.hid hb4
          have Hz4 := Lib.hid hz4
          clear hb4 hw4 hz4 HB2 HO2 Hb2
          have hzx : w.heap.size + 1 ≤ w4.heap.size := by have := Hz4.out; omega
          have hown := HO4.out.1
          rw [Hol.out] at hown
          have Hown := Lib.hid hown
          clear hown
          go_wp2_with (at_builtin; refine app48one (w0 := w4) rfl (.tmp 37) (.tmp 41) rfl (w.heap.size + 1) (.slice A1 k c1) k cs rfl Hown.out 0 rfl rfl ⟨rfl, rfl⟩ (by omega) hzx ?_; intro A9 c9 w9 hown9 hg9 hor9)
          have hB9 : Below w4.heap.size w4 (w4.alloc (.cells #[.int .i64 t, .slice none 0 0] 37)) := (Below.refl _ _).alloc (Nat.le_refl _) _
          have HO9 := Lib.hid (OA.snoc2 (t := t) (v := []) (n := 0) (HO4.out.below hB9) Hol.out rfl (RB.nil_ _ _) hown9 hg9 hor9)
          have hlt9 := fun g e => (Hown.out.lt g e).1
          have HB9 := Lib.hid ((HB4.out.alloc (by omega) (.cells #[.int .i64 t, .slice none 0 0] 37)).grown hg9 (by simp; omega) (fun g e => by have := hlt9 g e; omega))
          have Hb9 := Lib.hid ((hg9.block w.heap.size (by simp; omega) (fun e => by have := hlt9 _ e.symm; omega)).trans ((hB9.block _ (by omega)).trans Hb4.out))
          clear hown9 hg9 hor9 hB9 hlt9 Hown
          go_wp2
          go_roundw
          case rel => exact ⟨k + 1, out ++ [(t, [])], (if rv = 0 then 17 else rv), A9, c9, _, by omega, by go_num, rfl, by simp [Hol.out], by have := HGK.out; rw [HR.out] at this; have e0 : (if rv = 0 then (0 : Int) else rv) = rv := (by split <;> omega); simpa [rowF, e0] using this, HO9.out, Hb9.out, HB9.out⟩
          case measure => simp [intOf]; omega
    · obtain rfl : k = ts.length := by omega
      have hGe : (out, rv) = G := by rw [← hGk]; simp [getOn]
      subst hGe
      have x0 := blk_cell hbx 0
      simp at x0
      have HO := Lib.hid hO.ra
      have Hol := Lib.hid hol
      clear hO hGk hol hbx
      go_wp2
      go_quiet (fail)
      go_wp2
      go_ret2
      refine ⟨A1, c1, by simp [Hol.out], ?_, ?_⟩
      · exact (HO.out.mono (fun b hb => (⟨by have := hb.1; omega, hb.2⟩ : In w.heap.size _ b))).keep (fun _ _ => rfl)
      · exact below_drewN hB _
end Go.Proofs.YtendnkpiidhogaaGreat.At
