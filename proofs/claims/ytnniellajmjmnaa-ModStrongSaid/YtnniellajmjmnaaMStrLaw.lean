/- ModStrong: the test of Miller and Rabin is passed as it should be: the walk of the law. -/
import Derived.Test.YtnniellajmjmnaaRefStrong2
import Derived.Test.YtnniellajmjmnaaMInvLaw
namespace Go.Proofs.Ytnniellajmjmnaa
open Go.RowKit

set_option maxRecDepth 100000 in
set_option maxHeartbeats 1000000 in
theorem refStrong_any (A A' : Option Addr) (c c' N W : Nat) (w : World) (h : RU w A c (digs 4294967296 N)) (h' : RU w A' c' (digs 4294967296 W)) (hl : (digs 4294967296 N).length < 20000) (hlW : (digs 4294967296 W).length < 40000) (hmay : nbits N ≤ 4096) :
    Calls Try.prog 48 #[.slice A (digs 4294967296 N).length c, .slice A' (digs 4294967296 W).length c'] w fun e w' => e = .returned (.bool (strongB N W)) ∧ Below w.heap.size w w' := by
  by_cases hno : N % 2 = 0 ∨ N < 2
  · exact refStrong_no A A' c c' N W w h hno
  · exact refStrong_odd A A' c c' N W w h h' hl hlW (by omega) (by omega) hmay
theorem strong_any (A A' : Option Addr) (c c' : Nat) (a b : List Nat) (N W : Nat) (w : World) (h : RU w A c a) (h' : RU w A' c' b) (hN : val 18446744073709551616 a = N) (hW : val 18446744073709551616 b = W) (hmay : nbits N ≤ 4096) (hla : a.length < 40000) (hlb : b.length < 40000) :
    Calls Try.prog 47 #[.slice A a.length c, .slice A' b.length c'] w fun e w' => e = .returned (.bool (strongB N W)) ∧ Below w.heap.size w w' := by
  by_cases hno : N % 2 = 0 ∨ N < 2
  · exact strong_no _ (fun _ => True) A A' c c' a b N W w h lt_self hN hno
  · exact strong_fine _ _ A A' c c' a b N W w h h' lt_self lt_self hN hW (by omega) (by omega) hmay hla hlb

set_option maxRecDepth 100000 in
set_option maxHeartbeats 4000000 in
theorem modStrong_any (P P' : Nat → Prop) (A A' : Option Addr) (c c' : Nat) (l m : List Nat) (w : World) (h : RL w P A c l) (h' : RL w P' A' c' m) (hP : ∀ b, P b → b < w.heap.size) (hP' : ∀ b, P' b → b < w.heap.size) :
    Calls Try.prog 9 #[.slice A l.length c, .slice A' m.length c'] w fun e w' => e = .returned (.bool true) ∧ Below w.heap.size w w' := by
  have hla : (l.take 3).length ≤ 3 := by rw [List.length_take]; omega
  have hlb : (m.take 3).length ≤ 3 := by rw [List.length_take]; omega
  have fa := fun w h => few2_any P A c l 3 w h (by omega)
  have fb := fun w h => few2_any P' A' c' m 3 w h (by omega)
  generalize l.take 3 = a at *
  generalize m.take 3 = b at *
  have Fa := Lib.hid fa
  have Fb := Lib.hid fb
  clear fa fb
  go_enter Try.func9, Try.ntmps9
  go_wp2_with fail
  refine (begun2_any _).mono ?_
  rintro e w1 ⟨rfl, hB1⟩
  go_wp2_with fail
  refine (Fa.out w1 (h.below hB1 hP)).mono ?_
  rintro e w2 ⟨A2, c2, rfl, hO2, hB2⟩
  have hw2 := hB1.trans (hB2.mono hB1.size)
  go_wp2_with fail
  refine (Fb.out w2 (h'.below hw2 hP')).mono ?_
  rintro e w3 ⟨A3, c3, rfl, hO3, hB3⟩
  have hw3 := hw2.trans (hB3.mono hw2.size)
  have ra := hO2.ru.up hB3
  have rb := hO3.ru
  have lx := digs32_len ra.2 hla
  have ly := digs32_len rb.2 hlb
  have na := nbits_len ra hla
  obtain ⟨X, hX⟩ : ∃ X, val 18446744073709551616 a = X := ⟨_, rfl⟩
  obtain ⟨Y, hY⟩ : ∃ Y, val 18446744073709551616 b = Y := ⟨_, rfl⟩
  rw [hX] at lx na
  rw [hY] at ly
  have hst := strong_any A2 A3 c2 c3 a b X Y w3 ra rb hX hY (by omega) (by omega) (by omega)
  obtain ⟨B, hB⟩ : ∃ B, strongB X Y = B := ⟨_, rfl⟩
  rw [hB] at hst
  have Hst := Lib.hid hst
  have HB := Lib.hid hB
  clear hB1 hB2 hB3 hO2 hO3 hw2 h h' hP hP' Fa Fb hst hB
  go_wp2_with fail
  refine Hst.out.mono ?_
  rintro e w4 ⟨rfl, hB4⟩
  have hw4 := hw3.trans (hB4.mono hw3.size)
  replace ra := ra.up hB4
  replace rb := rb.up hB4
  have hf := from_any _ A2 c2 a w4 ra lt_self (by omega)
  rw [hX] at hf
  have Hf := Lib.hid hf
  clear hw3 hB4 Hst hf
  go_wp2_with fail
  refine Hf.out.mono ?_
  rintro e w5 ⟨A5, c5, rfl, hO5, hB5⟩
  have hw5 := hw4.trans (hB5.mono hw4.size)
  replace rb := rb.up hB5
  have rx := hO5.ru
  have hf := from_any _ A3 c3 b w5 rb lt_self (by omega)
  rw [hY] at hf
  have Hf2 := Lib.hid hf
  clear hw4 hB5 Hf hf ra hO5
  go_wp2_with fail
  refine Hf2.out.mono ?_
  rintro e w6 ⟨A6, c6, rfl, hO6, hB6⟩
  have hw6 := hw5.trans (hB6.mono hw5.size)
  replace rx := rx.up hB6
  have ry := hO6.ru
  have hr := refStrong_any A5 A6 c5 c6 X Y w6 rx ry (by omega) (by omega) (by omega)
  rw [HB.out] at hr
  have Hr := Lib.hid hr
  clear hw5 hB6 Hf2 hr rx ry hO6 rb
  go_wp2_with fail
  refine Hr.out.mono ?_
  rintro e w7 ⟨rfl, hB7⟩
  go_wp2
  go_ret
  exact ⟨by simp, hw6.trans (hB7.mono hw6.size)⟩
end Go.Proofs.Ytnniellajmjmnaa
