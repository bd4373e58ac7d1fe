/- LimbSums: sums, differences, products and orders of natural numbers are right: the walk of the law. -/
import Derived.Test.YtnniellajmjmnaaBegun
namespace Go.Proofs.Ytnniellajmjmnaa
open Go.RowKit

/-- The slice reads as the limbs l, in whatever block there is. -/
abbrev RU (w : World) (A : Option Addr) (c : Nat) (l : List Nat) : Prop := RN w (fun b => b < w.heap.size) A c l
theorem RN.up {w w' : World} {A : Option Addr} {c : Nat} {l : List Nat} (h : RU w A c l) (hB : Below w.heap.size w w') : RU w' A c l :=
  (h.below hB fun _ hb => hb).mono fun _ hb => Nat.lt_of_lt_of_le hb hB.size
theorem OB.ru {w : World} {base : Nat} {A : Option Addr} {c : Nat} {l : List Nat} (h : OB w base A c l) : RU w A c l := h.rn.mono fun _ hb => hb.2
theorem RN.ud {w : World} {A : Option Addr} {c : Nat} {l : List Nat} (h : RU w A c l) (n : Nat) : RU (w.drewN n) A c l := h
theorem below_undraw {w w' : World} {B n : Nat} (h : Below B (w.drewN n) w') : Below B w w' := ⟨h.os, h.tape, h.output, h.size, h.block⟩
theorem digs32_len {a : List Nat} {n : Nat} (h : Lim a) (hn : a.length ≤ n) : (digs 4294967296 (val 18446744073709551616 a)).length ≤ 2 * n := by
  apply digs_length_of_lt (by omega)
  rw [pow_two_mul]
  exact Nat.lt_of_lt_of_le (val_lt h.1) (Nat.pow_le_pow_right (by omega) hn)
theorem lt_self {w : World} : ∀ b, b < w.heap.size → b < w.heap.size := fun _ h => h

set_option maxRecDepth 100000 in
set_option maxHeartbeats 4000000 in
theorem sums_any (P P' : Nat → Prop) (A A' : Option Addr) (c c' : Nat) (l m : List Nat) (w : World) (h : RL w P A c l) (h' : RL w P' A' c' m) (hP : ∀ b, P b → b < w.heap.size) (hP' : ∀ b, P' b → b < w.heap.size) :
    Calls Try.prog 7 #[.slice A l.length c, .slice A' m.length c'] w fun e w' => e = .returned (.bool true) ∧ Below w.heap.size w w' := by
  have hla : (l.take 20).length ≤ 20 := by rw [List.length_take]; omega
  have hlb : (m.take 20).length ≤ 20 := by rw [List.length_take]; omega
  have fa := fun w h => few_any P A c l w h
  have fb := fun w h => few_any P' A' c' m w h
  generalize l.take 20 = a at *
  generalize m.take 20 = b at *
  have Fa := Lib.hid fa
  have Fb := Lib.hid fb
  clear fa fb
  go_enter Try.func7, Try.ntmps7
  go_wp2_with fail
  refine (begun_any _).mono ?_
  rintro e w1 ⟨rfl, hB1⟩
  go_wp2_with fail
  refine (Fa.out w1 (h.below hB1 hP)).mono ?_
  rintro e w2 ⟨A2, c2, rfl, hO2, hB2⟩
  have hw2 := hB1.trans (hB2.mono hB1.size)
  go_wp2_with fail
  refine (Fb.out w2 (h'.below hw2 hP')).mono ?_
  rintro e w3 ⟨A3, c3, rfl, hO3, hB3⟩
  have hw3 := hw2.trans (hB3.mono hw2.size)
  have ra := hO2.ru.up hB3
  have rb := hO3.ru
  have lx := digs32_len ra.2 hla
  have ly := digs32_len rb.2 hlb
  clear hB1 hB2 hB3 hO2 hO3 hw2 h h' hP hP' Fa Fb
  go_wp2_with fail
  refine (from_any _ A2 c2 a w3 ra lt_self (by omega)).mono ?_
  rintro e w4 ⟨A4, c4, rfl, hO4, hB4⟩
  have hw4 := hw3.trans (hB4.mono hw3.size)
  replace ra := ra.up hB4
  replace rb := rb.up hB4
  have rx := hO4.ru
  clear hw3 hO4 hB4
  go_wp2_with fail
  refine (from_any _ A3 c3 b w4 rb lt_self (by omega)).mono ?_
  rintro e w5 ⟨A5, c5, rfl, hO5, hB5⟩
  have hw5 := hw4.trans (hB5.mono hw4.size)
  replace ra := ra.up hB5
  replace rb := rb.up hB5
  replace rx := rx.up hB5
  have ry := hO5.ru
  clear hw4 hO5 hB5
  -- the sum
  go_wp2_with fail
  refine (add_any _ _ A2 A3 c2 c3 a b w5 ra rb lt_self lt_self (by omega) (by omega)).mono ?_
  rintro e w6 ⟨A6, c6, rfl, hO6, hB6⟩
  have hw6 := hw5.trans (hB6.mono hw5.size)
  replace ra := ra.up hB6
  replace rb := rb.up hB6
  replace rx := rx.up hB6
  replace ry := ry.up hB6
  have rz := hO6.ru
  clear hw5 hO6 hB6
  go_wp2_with fail
  refine (refAdd_any _ _ A4 A5 c4 c5 _ _ w6 rx ry lt_self lt_self (by omega) (by omega)).mono ?_
  rintro e w7 ⟨A7, c7, rfl, hO7, hB7⟩
  have hw7 := hw6.trans (hB7.mono hw6.size)
  replace ra := ra.up hB7
  replace rb := rb.up hB7
  replace rx := rx.up hB7
  replace ry := ry.up hB7
  replace rz := rz.up hB7
  have ru := hO7.ru
  clear hw6 hO7 hB7
  go_wp2_with fail
  refine (is_yes _ _ A6 A7 c6 c7 _ w7 rz ru lt_self lt_self).mono ?_
  rintro e w8 ⟨rfl, hB8⟩
  have hw8 := hw7.trans (hB8.mono hw7.size)
  replace ra := ra.up hB8
  replace rb := rb.up hB8
  replace rx := rx.up hB8
  replace ry := ry.up hB8
  clear hw7 hB8 rz ru
  -- the product
  go_wp2_with fail
  refine (mul_any _ _ A2 A3 c2 c3 a b w8 ra rb lt_self lt_self (by omega) (by omega)).mono ?_
  rintro e w9 ⟨A9, c9, rfl, hO9, hB9⟩
  have hw9 := hw8.trans (hB9.mono hw8.size)
  replace ra := ra.up hB9
  replace rb := rb.up hB9
  replace rx := rx.up hB9
  replace ry := ry.up hB9
  have rz := hO9.ru
  clear hw8 hO9 hB9
  go_wp2_with fail
  refine (refMul_any _ _ A4 A5 c4 c5 _ _ w9 rx ry lt_self lt_self (by omega) (by omega)).mono ?_
  rintro e w10 ⟨A10, c10, rfl, hO10, hB10⟩
  have hw10 := hw9.trans (hB10.mono hw9.size)
  replace ra := ra.up hB10
  replace rb := rb.up hB10
  replace rx := rx.up hB10
  replace ry := ry.up hB10
  replace rz := rz.up hB10
  have ru := hO10.ru
  clear hw9 hO10 hB10
  go_wp2_with fail
  refine (is_yes _ _ A9 A10 c9 c10 _ w10 rz ru lt_self lt_self).mono ?_
  rintro e w11 ⟨rfl, hB11⟩
  have hw11 := hw10.trans (hB11.mono hw10.size)
  replace ra := ra.up hB11
  replace rb := rb.up hB11
  replace rx := rx.up hB11
  replace ry := ry.up hB11
  clear hw10 hB11 rz ru
  -- the normal form
  go_wp2_with fail
  refine (norm_any _ A2 c2 a w11 ra).mono ?_
  rintro e w12 ⟨A12, c12, rfl, hO12, hB12⟩
  have hw12 := hw11.trans (hB12.mono hw11.size)
  replace ra := ra.up hB12
  replace rb := rb.up hB12
  replace rx := rx.up hB12
  replace ry := ry.up hB12
  have rz := hO12.ru
  clear hw11 hO12 hB12
  go_wp2_with fail
  refine (is_yes _ _ A12 A4 c12 c4 _ w12 rz rx lt_self lt_self).mono ?_
  rintro e w13 ⟨rfl, hB13⟩
  have hw13 := hw12.trans (hB13.mono hw12.size)
  replace ra := ra.up hB13
  replace rb := rb.up hB13
  replace rx := rx.up hB13
  replace ry := ry.up hB13
  clear hw12 hB13 rz
  -- the difference and the order
  by_cases hlt : val 18446744073709551616 a < val 18446744073709551616 b
  · have hsub := Lib.hid (sub_no _ _ A2 A3 c2 c3 a b w13 ra rb hlt)
    have hrc := fun n => refCmp_any _ _ A4 A5 c4 c5 _ _ (w13.drewN n) (rx.ud n) (ry.ud n)
    have hpc := fun n => cmp_any _ _ A2 A3 c2 c3 a b (w13.drewN n) (ra.ud n) (rb.ud n)
    rw [cmpV_lt hlt] at hrc hpc
    have Hrc := Lib.hid hrc
    have Hpc := Lib.hid hpc
    clear hrc hpc hlt
    go_wp2_with fail
    refine hsub.out.mono ?_
    rintro e w14 ⟨rfl, n1, rfl⟩
    go_wp2_with fail
    refine (Hrc.out n1).mono ?_
    rintro e w15 ⟨rfl, n2, rfl⟩
    rw [drewN_add]
    go_wp2_with fail
    refine (Hpc.out _).mono ?_
    rintro e w16 ⟨rfl, n3, rfl⟩
    rw [drewN_add]
    go_wp2
    go_ret
    exact ⟨rfl, below_drewN hw13 _⟩
  · have hge : val 18446744073709551616 b ≤ val 18446744073709551616 a := by omega
    have hsub := Lib.hid (sub_yes _ _ A2 A3 c2 c3 a b w13 ra rb lt_self lt_self (by omega) hge)
    go_wp2_with fail
    refine hsub.out.mono ?_
    rintro e w14 ⟨A14, c14, rfl, hO14, hB14⟩
    have hw14 := hw13.trans (hB14.mono hw13.size)
    replace ra := ra.up hB14
    replace rb := rb.up hB14
    replace rx := rx.up hB14
    replace ry := ry.up hB14
    have rz := hO14.ru
    clear hw13 hO14 hB14 hsub
    have hpc := fun w (h : RU w A2 c2 a) (h' : RU w A3 c3 b) => cmp_any _ _ A2 A3 c2 c3 a b w h h'
    generalize val 18446744073709551616 a = x at *
    generalize val 18446744073709551616 b = y at *
    have hrc := fun w (h : RU w A4 c4 _) (h' : RU w A5 c5 _) => refCmp_any _ _ A4 A5 c4 c5 x y w h h'
    have hcv : 0 ≤ cmpV x y := by rcases cmpV_cases x y with h | h | h <;> omega
    generalize cmpV x y = v at hcv hrc hpc
    have Hrc := Lib.hid hrc
    have Hpc := Lib.hid hpc
    clear hrc hpc
    go_wp2_with fail
    refine (Hrc.out w14 rx ry).mono ?_
    rintro e w15 ⟨rfl, n1, rfl⟩
    have hvb : (v == v) = true := by simp
    go_wp2_with fail
    refine (refSub_any _ _ A4 A5 c4 c5 x y (w14.drewN n1) (rx.ud n1) (ry.ud n1) lt_self lt_self (by omega) hge).mono ?_
    rintro e w16 ⟨A16, c16, rfl, hO16, hB16⟩
    replace hB16 := below_undraw hB16
    have hw16 := hw14.trans (hB16.mono hw14.size)
    replace ra := ra.up hB16
    replace rb := rb.up hB16
    replace rx := rx.up hB16
    replace ry := ry.up hB16
    replace rz := rz.up hB16
    have ru := hO16.ru
    clear hw14 hO16 hB16
    go_wp2_with fail
    refine (is_yes _ _ A14 A16 c14 c16 _ w16 rz ru lt_self lt_self).mono ?_
    rintro e w17 ⟨rfl, hB17⟩
    have hw17 := hw16.trans (hB17.mono hw16.size)
    replace ra := ra.up hB17
    replace rb := rb.up hB17
    replace rx := rx.up hB17
    replace ry := ry.up hB17
    clear hw16 hB17 rz ru
    go_wp2_with fail
    refine (Hpc.out w17 ra rb).mono ?_
    rintro e w18 ⟨rfl, n2, rfl⟩
    go_wp2_with fail
    refine (Hrc.out (w17.drewN n2) (rx.ud n2) (ry.ud n2)).mono ?_
    rintro e w19 ⟨rfl, n3, rfl⟩
    rw [drewN_add]
    go_wp2
    go_ret
    exact ⟨by simp, below_drewN hw17 _⟩
end Go.Proofs.Ytnniellajmjmnaa
