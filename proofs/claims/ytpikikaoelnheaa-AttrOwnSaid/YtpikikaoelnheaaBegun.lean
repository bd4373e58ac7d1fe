/- baileylaw17.begun: one list is told: true. -/
import Derived.Test.YtpikikaoelnheaaDec2
namespace Go.Proofs.Ytpikikaoelnheaa
open Go.RowKit

/-- The list of begun, and its bytes. -/
def bgL : List (Int × List Nat) := [(0, [0, 0, 0, 4]), (1, [1])]
def bgB : List Nat := [0, 0, 0, 4, 0, 0, 0, 4, 0, 1, 0, 1, 1]
theorem bg_put1 : putOf [] (0, num4 4) = [(0, [0, 0, 0, 4])] := by decide
theorem bg_put2 : putOf [(0, [0, 0, 0, 4])] (1, [true.toNat]) = bgL := by decide
theorem bg_int : intOf' bgL 0 = some 4 := by decide
theorem bg_enc : encOf bgL = some bgB := by decide
theorem bg_dec : decOf bgB = some bgL := by
  simp [decOf, bgB]
  rw [decW]; simp
  rw [decW]; simp
  rw [decW]; simp [bgL]
theorem bg_get : seek bgL 1 = some [1] := by decide
theorem bg_flag : flagOf bgL 1 = true := by decide
theorem bg_match : matchOf bgL bgL = true := by decide
theorem bg_form : formOf 3 = 3 := by decide
theorem bg_fine : fineOf (0, [0, 0, 0, 4]) = true := by decide

theorem neq_nil (w : World) (f : Fn) (a b : Array Value) : (binOp .neq 31 (.func f a b) .nilFunc).run Try.prog w = .ok (.bool true) w := by kernel_rfl
theorem eql_nil (w : World) (f : Fn) (a b : Array Value) : (binOp .eql 31 (.func f a b) .nilFunc).run Try.prog w = .ok (.bool false) w := by kernel_rfl

set_option maxHeartbeats 400000 in
theorem types_any (w : World) : Calls Try.prog 31 #[] w fun e w' => e = .returned (.func (.func 51) #[] #[]) ∧ w = w' := by
  go_enter Try.func31, Try.ntmps31
  go_wp2
  go_ret
  exact ⟨rfl, rfl⟩

set_option maxRecDepth 100000 in
set_option maxHeartbeats 2000000 in
theorem begun_any (w : World) : Calls Try.prog 22 #[] w fun e w' => e = .returned (.bool true) ∧ Below w.heap.size w w' := by
  go_enter Try.func22, Try.ntmps22
  go_wp2_with fail
  refine (num_any 0 4 _).mono ?_
  rintro e w1 ⟨A1, c1, rfl, hr1, hB1⟩
  have hs1 := hB1.size
  go_wp2_with fail
  refine (put_any (In w.heap.size w1.heap.size) none 0 [] (0, num4 4) A1 c1 _ (RA.nil_ _ _) hr1 (fun b hb => hb.2) (by simp)).mono ?_
  rintro e w2 ⟨A2, c2, cs2, rfl, hO2, hB2⟩
  rw [bg_put1] at hO2 ⊢
  have hs2 := hB2.size
  go_wp2_with fail
  refine (bool_any 1 true _).mono ?_
  rintro e w3 ⟨A3, c3, rfl, hr3, hB3⟩
  have hs3 := hB3.size
  go_wp2_with fail
  refine (put_any (fun b => b < w3.heap.size) A2 c2 [(0, [0, 0, 0, 4])] (1, [true.toNat]) A3 c3 _ ((hO2.ra.below hB3 fun b hb => hb.2).mono fun b hb => by have := hb.2; omega) (hr3.mono fun b hb => hb.2) (fun b hb => hb) (by simp)).mono ?_
  rintro e w4 ⟨A4, c4, cs4, rfl, hO4, hB4⟩
  rw [bg_put2] at hO4 ⊢
  have hs4 := hB4.size
  have hw4 : Below w.heap.size w w4 := ((hB1.trans (hB2.mono hs1)).trans (hB3.mono (by omega))).trans (hB4.mono (by omega))
  have hL4 : RA w4 (fun b => b < w4.heap.size) A4 c4 bgL := hO4.ra.mono fun b hb => hb.2
  clear hB1 hB2 hB3 hB4 hr1 hr3 hO2 hO4
  go_wp2_with fail
  refine (int_any _ A4 c4 bgL 0 w4 hL4 (fun b hb => hb)).mono ?_
  rw [bg_int]
  rintro e w5 ⟨rfl, hB5⟩
  have hs5 := hB5.size
  have hL5 := hL4.below hB5 fun b hb => hb
  go_wp2_with fail
  refine (enc_any _ A4 c4 bgL w5 hL5 (fun b hb => by omega)).mono ?_
  rintro e w6 ⟨A6, c6, rfl, hr6, hB6⟩
  rw [bg_enc] at hr6 ⊢
  have hs6 := hB6.size
  have hL6 := hL5.below hB6 fun b hb => by omega
  go_wp2_with fail
  refine (dec_any _ A6 c6 bgB w6 hr6 (fun b hb => hb.2)).mono ?_
  rintro e w7 ⟨A7, c7, cs7, rfl, hO7, hB7⟩
  rw [bg_dec] at hO7 ⊢
  have hs7 := hB7.size
  have hL7 := hL6.below hB7 fun b hb => by omega
  have hM7 : RA w7 (fun b => b < w7.heap.size) A7 c7 bgL := hO7.ra.mono fun b hb => hb.2
  go_wp2_with fail
  refine (get_any _ A4 c4 bgL 1 w7 hL7 (fun b hb => by omega)).mono ?_
  rw [bg_get]
  rintro e w8 ⟨A8, c8, rfl, hr8, hB8⟩
  have hs8 := hB8.size
  have hL8 := hL7.below hB8 fun b hb => by omega
  have hM8 := hM7.below hB8 fun b hb => hb
  go_wp2_with fail
  refine (types_any w8).mono ?_
  rintro e w9 ⟨rfl, rfl⟩
  have hnn := fun w => neq_nil w (.func 51) #[] #[]
  obtain ⟨ad8, rfl, _, k8, _⟩ := hr8.at_ (i := 0) (by simp)
  have hl2 : bgL.length = 2 := rfl
  go_wp2_with fail
  refine (show Calls Try.prog 37 #[.slice A4 2 c4, .int .i64 1] w8 _ from flag_any _ A4 c4 bgL 1 w8 hL8 (fun b hb => by omega)).mono ?_
  rw [bg_flag]
  rintro e w10 ⟨rfl, hB10⟩
  have hs10 := hB10.size
  have hL10 := hL8.below hB10 fun b hb => by omega
  have hM10 := hM8.below hB10 fun b hb => by omega
  go_wp2_with fail
  refine (show Calls Try.prog 40 #[.slice A4 2 c4, .slice A7 2 c7] w10 _ from match_any _ _ A4 A7 c4 c7 bgL bgL w10 hL10 (fun b hb => by omega) hM10 (fun b hb => by omega)).mono ?_
  rw [bg_match]
  rintro e w11 ⟨rfl, hB11⟩
  have hs11 := hB11.size
  have hM11 := hM10.below hB11 fun b hb => by omega
  have hfrm := form_any 3 w11
  rw [bg_form] at hfrm
  have Hfrm := Lib.hid hfrm
  clear hfrm
  go_wp2_with fail
  refine Hfrm.out.mono ?_
  rintro e w12 ⟨rfl, rfl⟩
  obtain ⟨ad, Av, cv, rfl, hpd, q0, q1, hrv⟩ := hM11.at_ (i := 0) (by decide)
  simp [Addr.add, bgL] at q0 q1
  go_wp2_with fail
  refine (show Calls Try.prog 29 #[.agg #[.int .i64 0, .slice Av 4 cv]] w11 _ from fine_any _ (0, [0, 0, 0, 4]) Av cv w11 hrv (fun b hb => by omega)).mono ?_
  rw [bg_fine]
  rintro e w13 ⟨rfl, hB13⟩
  go_wp2
  go_ret
  exact ⟨rfl, hw4.trans ((((((((hB5.mono (by omega)).trans (hB6.mono (by omega))).trans (hB7.mono (by omega))).trans (hB8.mono (by omega))).trans (hB10.mono (by omega))).trans (hB11.mono (by omega))).trans (hB13.mono (by omega))).mono (Nat.le_refl _))⟩
end Go.Proofs.Ytpikikaoelnheaa
