/- ModInverse: inverses and greatest common divisors are right: the walk of the law. -/
import Derived.Test.YtnniellajmjmnaaModRef
import Derived.Test.YtnniellajmjmnaaBegun2
import Derived.Test.YtnniellajmjmnaaOpen
namespace Go.Proofs.Ytnniellajmjmnaa
open Go.RowKit

set_option maxRecDepth 100000 in
set_option maxHeartbeats 1000000 in
theorem few2_any (P : Nat → Prop) (A : Option Addr) (c : Nat) (l : List Nat) (n : Nat) (w : World) (h : RL w P A c l) (hn : n ≤ 100000) :
    Calls Try.prog 41 #[.slice A l.length c, .int .i64 (n : Int)] w fun e w' => ∃ A1 c1, e = .returned (.slice A1 (l.take n).length c1) ∧ OB w' w.heap.size A1 c1 (l.take n) ∧ Below w.heap.size w w' := by
  have hc := Lib.hid (cut_any P A c l n w h hn)
  generalize l.take n = d at *
  go_enter Try.func41, Try.ntmps41
  go_wp2_with fail
  refine hc.out.mono ?_
  rintro e w1 ⟨A1, c1, rfl, hO, hB⟩
  go_wp2
  go_ret
  exact ⟨A1, c1, rfl, hO, hB⟩
theorem nbits_len {w : World} {P : Nat → Prop} {A : Option Addr} {c : Nat} {l : List Nat} (h : RN w P A c l) {n : Nat} (hl : l.length ≤ n) : nbits (val 18446744073709551616 l) ≤ 64 * n := by
  refine nbits_le ?_
  have h1 := val_lt h.2.1
  have h2 : 18446744073709551616 ^ l.length ≤ 18446744073709551616 ^ n := Nat.pow_le_pow_right (by omega) hl
  rw [Nat.pow_mul]
  exact Nat.lt_of_lt_of_le h1 h2
theorem invNum_no {x m : Nat} (h : (invNum x m).2 = false) : (invNum x m).1 = 0 := by
  unfold invNum at *
  split at h
  · cases h
  · rw [if_neg (by assumption)]

set_option maxRecDepth 100000 in
set_option maxHeartbeats 4000000 in
theorem modInverse_any (P P' : Nat → Prop) (A A' : Option Addr) (c c' : Nat) (l m : List Nat) (w : World) (h : RL w P A c l) (h' : RL w P' A' c' m) (hP : ∀ b, P b → b < w.heap.size) (hP' : ∀ b, P' b → b < w.heap.size) :
    Calls Try.prog 8 #[.slice A l.length c, .slice A' m.length c'] w fun e w' => e = .returned (.bool true) ∧ Below w.heap.size w w' := by
  have hla : (l.take 6).length ≤ 6 := by rw [List.length_take]; omega
  have hlb : (m.take 6).length ≤ 6 := by rw [List.length_take]; omega
  have fa := fun w h => few2_any P A c l 6 w h (by omega)
  have fb := fun w h => few2_any P' A' c' m 6 w h (by omega)
  generalize l.take 6 = a at *
  generalize m.take 6 = b at *
  have Fa := Lib.hid fa
  have Fb := Lib.hid fb
  clear fa fb
  go_enter Try.func8, Try.ntmps8
  go_wp2_with fail
  refine (begun2_any _).mono ?_
  rintro e w1 ⟨rfl, hB1⟩
  go_wp2_with fail
  refine (Fa.out w1 (h.below hB1 hP)).mono ?_
  rintro e w2 ⟨A2, c2, rfl, hO2, hB2⟩
  have hw2 := hB1.trans (hB2.mono hB1.size)
  go_wp2_with fail
  refine (Fb.out w2 (h'.below hw2 hP')).mono ?_
  rintro e w3 ⟨A3, c3, rfl, hO3, hB3⟩
  have hw3 := hw2.trans (hB3.mono hw2.size)
  have ra := hO2.ru.up hB3
  have rb := hO3.ru
  have lx := digs32_len ra.2 hla
  have ly := digs32_len rb.2 hlb
  have na := nbits_len ra hla
  have nb := nbits_len rb hlb
  clear hB1 hB2 hB3 hO2 hO3 hw2 h h' hP hP' Fa Fb
  go_wp2_with fail
  refine (from_any _ A2 c2 a w3 ra lt_self (by omega)).mono ?_
  rintro e w4 ⟨A4, c4, rfl, hO4, hB4⟩
  have hw4 := hw3.trans (hB4.mono hw3.size)
  replace ra := ra.up hB4
  replace rb := rb.up hB4
  have rx := hO4.ru
  clear hw3 hO4 hB4
  go_wp2_with fail
  refine (from_any _ A3 c3 b w4 rb lt_self (by omega)).mono ?_
  rintro e w5 ⟨A5, c5, rfl, hO5, hB5⟩
  have hw5 := hw4.trans (hB5.mono hw4.size)
  replace ra := ra.up hB5
  replace rb := rb.up hB5
  replace rx := rx.up hB5
  have ry := hO5.ru
  clear hw4 hO5 hB5
  obtain ⟨X, hX⟩ : ∃ X, val 18446744073709551616 a = X := ⟨_, rfl⟩
  obtain ⟨M, hM⟩ : ∃ M, val 18446744073709551616 b = M := ⟨_, rfl⟩
  rw [hX] at lx na rx ⊢
  rw [hM] at ly nb ry ⊢
  have hg := gcd_any _ _ A2 A3 c2 c3 a b w5 ra rb lt_self lt_self (by omega) (by omega)
  rw [hX, hM] at hg
  have Hg := Lib.hid hg
  clear hg
  go_wp2_with fail
  refine Hg.out.mono ?_
  rintro e w6 ⟨A6, c6, rfl, hO6, hB6⟩
  have hw6 := hw5.trans (hB6.mono hw5.size)
  replace ra := ra.up hB6
  replace rb := rb.up hB6
  replace rx := rx.up hB6
  replace ry := ry.up hB6
  have rg := hO6.ru
  clear hw5 hO6 hB6 Hg
  go_wp2_with fail
  refine (refGcd_any A4 A5 c4 c5 X M w6 rx ry (by omega) (by omega)).mono ?_
  rintro e w7 ⟨A7, c7, rfl, rh, hB7⟩
  have hw7 := hw6.trans (hB7.mono hw6.size)
  replace ra := ra.up hB7
  replace rb := rb.up hB7
  replace rx := rx.up hB7
  replace ry := ry.up hB7
  replace rg := rg.up hB7
  clear hw6 hB7
  go_wp2_with fail
  refine (is_yes _ _ A6 A7 c6 c7 _ w7 rg rh lt_self lt_self).mono ?_
  rintro e w8 ⟨rfl, hB8⟩
  have hw8 := hw7.trans (hB8.mono hw7.size)
  replace ra := ra.up hB8
  replace rb := rb.up hB8
  replace rx := rx.up hB8
  replace ry := ry.up hB8
  clear hw7 hB8 rg rh
  rcases Nat.lt_or_ge M 2 with h2 | h2
  · have hi := Lib.hid (inverse_small (fun _ => True) _ A2 A3 c2 c3 a b w8 rb (by rw [hM]; exact h2))
    have hcv : cmpV M 2 = -1 := cmpV_lt h2
    have Hcv := Lib.hid hcv
    clear hcv
    go_wp2_with fail
    refine hi.out.mono ?_
    rintro e w9 ⟨rfl, rfl⟩
    go_wp2_with fail
    refine (refOf_any 2 w8 (by omega)).mono ?_
    rintro e w9 ⟨A9, c9, rfl, hO9, hB9⟩
    have hw9 := hw8.trans (hB9.mono hw8.size)
    have hc := refCmp_any _ _ A5 A9 c5 c9 M 2 w9 (ry.up hB9) hO9.ru
    rw [Hcv.out] at hc
    go_wp2_with fail
    refine hc.mono ?_
    rintro e w10 ⟨rfl, n1, rfl⟩
    go_wp2
    go_ret
    exact ⟨by simp, below_drewN hw9 n1⟩
  · have hi := inverse_yes _ _ A2 A3 c2 c3 a b X M w8 ra rb lt_self lt_self hX hM h2 (by omega) (by omega) ⟨by omega, by omega⟩
    rw [invAns_num] at hi
    have Hi := Lib.hid hi
    have hcv : ¬ cmpV M 2 < 0 := by rcases cmpV_cases M 2 with h | h | h <;> omega
    obtain ⟨cv, hcve⟩ : ∃ cv, cmpV M 2 = cv := ⟨_, rfl⟩
    rw [hcve] at hcv
    have Hcv := Lib.hid hcve
    have Hno := Lib.hid (@invNum_no X M)
    clear hi hcve
    have Hri := Lib.hid fun W A4 c4 A5 c5 rx ry => refInverse_any A4 A5 c4 c5 X M W rx ry (by omega) (by omega) h2
    generalize invNum X M = iv at *
    obtain ⟨v, ok⟩ := iv
    dsimp only at Hi Hri Hno
    go_wp2_with fail
    refine Hi.out.mono ?_
    rintro e w9 ⟨A9, c9, rfl, hO9, hB9⟩
    have hw9 := hw8.trans (hB9.mono hw8.size)
    replace rx := rx.up hB9
    replace ry := ry.up hB9
    have ri := hO9.ru
    clear Hi hw8 hO9 hB9 ra rb
    go_wp2_with fail
    refine (refOf_any 2 w9 (by omega)).mono ?_
    rintro e w10 ⟨A10, c10, rfl, hO10, hB10⟩
    have hw10 := hw9.trans (hB10.mono hw9.size)
    replace rx := rx.up hB10
    replace ry := ry.up hB10
    replace ri := ri.up hB10
    have hc := refCmp_any _ _ A5 A10 c5 c10 M 2 w10 ry hO10.ru
    rw [Hcv.out] at hc
    have Hc := Lib.hid hc
    clear hc hw9 hO10 hB10
    go_wp2_with fail
    refine Hc.out.mono ?_
    rintro e w11 ⟨rfl, n1, rfl⟩
    have Hri2 := Lib.hid (Hri.out (w10.drewN n1) A4 c4 A5 c5 (rx.ud n1) (ry.ud n1))
    replace ri := ri.ud n1
    have hw11 := below_drewN hw10 n1
    clear Hc Hri hw10 rx ry
    go_wp2_with fail
    refine Hri2.out.mono ?_
    rintro e w12 ⟨A12, c12, rfl, ry, hB12⟩
    have hw12 := hw11.trans (hB12.mono hw11.size)
    replace ri := ri.up hB12
    cases ok
    · have hv := Hno.out rfl
      subst hv
      rw [digs_zero] at *
      go_wp2
      go_ret
      exact ⟨by simp [digs_zero], hw12⟩
    · go_wp2_with fail
      refine (is_yes _ _ A9 A12 c9 c12 v _ ri ry lt_self lt_self).mono ?_
      rintro e w13 ⟨rfl, hB13⟩
      go_wp2
      go_ret
      exact ⟨by simp, hw12.trans (hB13.mono hw12.size)⟩
end Go.Proofs.Ytnniellajmjmnaa
