/- LimbQuo: division gives quotient and remainder, and nothing by 0: the walk of the law. -/
import Derived.Test.YtnniellajmjmnaaQuoAll
import Derived.Test.YtnniellajmjmnaaOpen
namespace Go.Proofs.Ytnniellajmjmnaa
open Go.RowKit

/-- Division, whatever the divisor (but 0). -/
theorem quo_any (P P' : Nat → Prop) (A A' : Option Addr) (c c' : Nat) (a b : List Nat) (w : World) (h : RN w P A c a) (h' : RN w P' A' c' b) (hP : ∀ b, P b → b < w.heap.size) (hP' : ∀ b, P' b → b < w.heap.size) (hl : a.length < 90000) (hl' : b.length < 90000) (h0 : 0 < val 18446744073709551616 b) :
    Calls Try.prog 16 #[.slice A a.length c, .slice A' b.length c'] w fun e w' => ∃ A1 c1 A2 c2, e = .returned (.tuple #[.slice A1 (digs 18446744073709551616 (val 18446744073709551616 a / val 18446744073709551616 b)).length c1, .slice A2 (digs 18446744073709551616 (val 18446744073709551616 a % val 18446744073709551616 b)).length c2, .bool true]) ∧
      OB w' w.heap.size A1 c1 (digs 18446744073709551616 (val 18446744073709551616 a / val 18446744073709551616 b)) ∧ OB w' w.heap.size A2 c2 (digs 18446744073709551616 (val 18446744073709551616 a % val 18446744073709551616 b)) ∧ Below w.heap.size w w' := by
  rcases Nat.lt_or_ge (val 18446744073709551616 a) (val 18446744073709551616 b) with hlt | hge
  · have hq := quo_lt P P' A A' c c' a b w h h' hlt
    rw [Nat.div_eq_of_lt hlt, Nat.mod_eq_of_lt hlt, digs_zero]
    refine hq.mono ?_
    rintro e w' ⟨A1, c1, rfl, hO, hB⟩
    exact ⟨none, 0, A1, c1, rfl, OB.nil_ _ _, hO, hB⟩
  · rcases Nat.lt_or_ge (val 18446744073709551616 b) 18446744073709551616 with h1 | h1
    · exact quo_one P P' A A' c c' a b w h h' hP (by omega) hge h0 h1
    · exact quo_big P P' A A' c c' a b w h h' hP hP' hl hl' hge h1

set_option maxRecDepth 100000 in
set_option maxHeartbeats 4000000 in
theorem quoLaw_any (P P' : Nat → Prop) (A A' : Option Addr) (c c' : Nat) (l m : List Nat) (w : World) (h : RL w P A c l) (h' : RL w P' A' c' m) (hP : ∀ b, P b → b < w.heap.size) (hP' : ∀ b, P' b → b < w.heap.size) :
    Calls Try.prog 3 #[.slice A l.length c, .slice A' m.length c'] w fun e w' => e = .returned (.bool true) ∧ Below w.heap.size w w' := by
  have hla : (l.take 20).length ≤ 20 := by rw [List.length_take]; omega
  have hlb : (m.take 20).length ≤ 20 := by rw [List.length_take]; omega
  have fa := fun w h => few_any P A c l w h
  have fb := fun w h => few_any P' A' c' m w h
  generalize l.take 20 = a at *
  generalize m.take 20 = b at *
  have Fa := Lib.hid fa
  have Fb := Lib.hid fb
  clear fa fb
  go_enter Try.func3, Try.ntmps3
  go_wp2_with fail
  refine (begun_any _).mono ?_
  rintro e w1 ⟨rfl, hB1⟩
  go_wp2_with fail
  refine (Fa.out w1 (h.below hB1 hP)).mono ?_
  rintro e w2 ⟨A2, c2, rfl, hO2, hB2⟩
  have hw2 := hB1.trans (hB2.mono hB1.size)
  go_wp2_with fail
  refine (Fb.out w2 (h'.below hw2 hP')).mono ?_
  rintro e w3 ⟨A3, c3, rfl, hO3, hB3⟩
  have hw3 := hw2.trans (hB3.mono hw2.size)
  have ra := hO2.ru.up hB3
  have rb := hO3.ru
  have lx := digs32_len ra.2 hla
  have ly := digs32_len rb.2 hlb
  clear hB1 hB2 hB3 hO2 hO3 hw2 h h' hP hP' Fa Fb
  go_wp2_with fail
  refine (from_any _ A2 c2 a w3 ra lt_self (by omega)).mono ?_
  rintro e w4 ⟨A4, c4, rfl, hO4, hB4⟩
  have hw4 := hw3.trans (hB4.mono hw3.size)
  replace ra := ra.up hB4
  replace rb := rb.up hB4
  have rx := hO4.ru
  clear hw3 hO4 hB4
  go_wp2_with fail
  refine (from_any _ A3 c3 b w4 rb lt_self (by omega)).mono ?_
  rintro e w5 ⟨A5, c5, rfl, hO5, hB5⟩
  have hw5 := hw4.trans (hB5.mono hw4.size)
  replace ra := ra.up hB5
  replace rb := rb.up hB5
  replace rx := rx.up hB5
  have ry := hO5.ru
  clear hw4 hO5 hB5
  rcases Nat.eq_zero_or_pos (val 18446744073709551616 b) with h0 | h0
  · have hq := Lib.hid (quo_zero _ _ A2 A3 c2 c3 a b w5 ra rb h0)
    have hly : ((digs 4294967296 (val 18446744073709551616 b)).length : Int) = 0 := by rw [h0, digs_zero]; rfl
    have hly2 : (digs 4294967296 (val 18446744073709551616 b)).length = 0 := by rw [h0, digs_zero]; rfl
    clear h0 lx ly
    go_wp2_with fail
    refine hq.out.mono ?_
    rintro e w6 ⟨rfl, rfl⟩
    go_wp2
    go_ret
    exact ⟨by simp, hw5⟩
  · have hq := Lib.hid (quo_any _ _ A2 A3 c2 c3 a b w5 ra rb lt_self lt_self (by omega) (by omega) h0)
    have hyne : (((digs 4294967296 (val 18446744073709551616 b)).length : Int) == 0) = false := eqB (by rw [digs_pos (by omega) h0]; simp; omega)
    have hdm := Nat.div_add_mod (val 18446744073709551616 a) (val 18446744073709551616 b)
    rw [Nat.mul_comm] at hdm
    have hml := Nat.mod_lt (val 18446744073709551616 a) h0
    have l64 := Nat.le_trans (digs_length_le (B := 18446744073709551616) (by omega) ra.2.1) hla
    generalize val 18446744073709551616 a = x at *
    generalize val 18446744073709551616 b = y at *
    have lq : (digs 4294967296 (x / y)).length ≤ 2 * 20 := Nat.le_trans (digs_length_mono (by omega) (Nat.div_le_self x y)) lx
    have hq64 : (digs 18446744073709551616 (x / y)).length < 100000 := Nat.lt_of_le_of_lt (digs_length_mono (by omega) (Nat.div_le_self x y)) (by omega)
    have hr64 : (digs 18446744073709551616 (x % y)).length < 100000 := Nat.lt_of_le_of_lt (digs_length_mono (by omega) (Nat.mod_le x y)) (by omega)
    have lr : (digs 4294967296 (x % y)).length ≤ 2 * 20 := Nat.le_trans (digs_length_mono (by omega) (Nat.mod_le x y)) lx
    generalize x / y = q at *
    generalize x % y = r at *
    have lp : (digs 4294967296 (q * y)).length ≤ 2 * 20 := Nat.le_trans (digs_length_mono (by omega) (by omega)) lx
    have hcy := cmpV_lt hml
    have Hdm := Lib.hid hdm
    have Hcy := Lib.hid hcy
    clear hdm hcy hml h0
    go_wp2_with fail
    refine hq.out.mono ?_
    rintro e w6 ⟨A6, c6, A7, c7, rfl, hO6, hO7, hB6⟩
    have hw6 := hw5.trans (hB6.mono hw5.size)
    replace rx := rx.up hB6
    replace ry := ry.up hB6
    have rq := hO6.ru
    have rr := hO7.ru
    have hfq := fun w h => from_any (fun b => b < w.heap.size) A6 c6 (digs 18446744073709551616 q) w h lt_self
    have hfr := fun w h => from_any (fun b => b < w.heap.size) A7 c7 (digs 18446744073709551616 r) w h lt_self
    rw [val_digs (by omega)] at hfq hfr
    have Hfq := Lib.hid hfq
    have Hfr := Lib.hid hfr
    clear hfq hfr hw5 hO6 hO7 hB6 hq ra rb
    go_wp2_with fail
    refine (Hfq.out w6 rq hq64).mono ?_
    rintro e w8 ⟨A8, c8, rfl, hO8, hB8⟩
    have hw8 := hw6.trans (hB8.mono hw6.size)
    replace rx := rx.up hB8
    replace ry := ry.up hB8
    replace rq := rq.up hB8
    replace rr := rr.up hB8
    have ru := hO8.ru
    clear hw6 hO8 hB8
    go_wp2_with fail
    refine (Hfr.out w8 rr hr64).mono ?_
    rintro e w9 ⟨A9, c9, rfl, hO9, hB9⟩
    have hw9 := hw8.trans (hB9.mono hw8.size)
    replace rx := rx.up hB9
    replace ry := ry.up hB9
    replace rq := rq.up hB9
    replace rr := rr.up hB9
    replace ru := ru.up hB9
    have rv := hO9.ru
    clear hw8 hO9 hB9
    go_wp2_with fail
    refine (refMul_any _ _ A8 A5 c8 c5 q y w9 ru ry lt_self lt_self (by omega) (by omega)).mono ?_
    rintro e w10 ⟨A10, c10, rfl, hO10, hB10⟩
    have hw10 := hw9.trans (hB10.mono hw9.size)
    replace rx := rx.up hB10
    replace ry := ry.up hB10
    replace rq := rq.up hB10
    replace rr := rr.up hB10
    replace ru := ru.up hB10
    replace rv := rv.up hB10
    have rp := hO10.ru
    clear hw9 hO10 hB10
    go_wp2_with fail
    refine (refAdd_any _ _ A10 A9 c10 c9 (q * y) r w10 rp rv lt_self lt_self (by omega) (by omega)).mono ?_
    rintro e w11 ⟨A11, c11, rfl, hO11, hB11⟩
    have hw11 := hw10.trans (hB11.mono hw10.size)
    replace rx := rx.up hB11
    replace ry := ry.up hB11
    replace rq := rq.up hB11
    replace rr := rr.up hB11
    replace ru := ru.up hB11
    replace rv := rv.up hB11
    have rs := hO11.ru
    rw [Hdm.out] at rs ⊢
    clear hw10 hO11 hB11 rp
    have hc1 := refCmp_any _ _ A11 A4 c11 c4 x x w11 rs rx
    rw [cmpV_eq] at hc1
    go_wp2_with fail
    refine hc1.mono ?_
    rintro e w12 ⟨rfl, n1, rfl⟩
    have hc2 := refCmp_any _ _ A9 A5 c9 c5 r y (w11.drewN n1) (rv.ud n1) (ry.ud n1)
    rw [Hcy.out] at hc2
    clear hc1
    go_wp2_with fail
    refine hc2.mono ?_
    rintro e w13 ⟨rfl, n2, rfl⟩
    rw [drewN_add]
    go_wp2_with fail
    refine (is_yes _ _ A6 A8 c6 c8 q _ (rq.ud (n1 + n2)) (ru.ud (n1 + n2)) lt_self lt_self).mono ?_
    rintro e w14 ⟨rfl, hB14⟩
    replace hB14 := below_undraw hB14
    have hw14 := hw11.trans (hB14.mono hw11.size)
    replace rr := rr.up hB14
    replace rv := rv.up hB14
    clear hw11 hB14 hc2
    go_wp2_with fail
    refine (is_yes _ _ A7 A9 c7 c9 r _ rr rv lt_self lt_self).mono ?_
    rintro e w15 ⟨rfl, hB15⟩
    go_wp2
    go_ret
    exact ⟨by simp, hw14.trans (hB15.mono hw14.size)⟩
end Go.Proofs.Ytnniellajmjmnaa
