/- LimbBytes: numbers go to bytes and back: the walk of the law. -/
import Derived.Test.YtnniellajmjmnaaRefBits
namespace Go.Proofs.Ytnniellajmjmnaa
open Go.RowKit

abbrev RBU (w : World) (A : Option Addr) (c : Nat) (l : List Nat) : Prop := RB w (fun b => b < w.heap.size) A c l
theorem RB.up {w w' : World} {A : Option Addr} {c : Nat} {l : List Nat} (h : RBU w A c l) (hB : Below w.heap.size w w') : RBU w' A c l :=
  (h.below hB fun _ hb => hb).mono fun _ hb => Nat.lt_of_lt_of_le hb hB.size
theorem RB.take {w : World} {P : Nat → Prop} {A : Option Addr} {c : Nat} {bs : List Nat} (h : RB w P A c bs) (n : Nat) : RB w P A c (bs.take n) := by
  by_cases hn : n ≤ bs.length
  · have := h.1.pre hn
    rw [Nat.mul_one] at this
    refine ⟨?_, fun b hb => h.2.1 b (List.mem_of_mem_take hb), by rw [List.length_take]; have := h.2.2; omega⟩
    rw [List.length_take, Nat.min_eq_left hn]
    have e : bys (bs.take n) = (bys bs).take n := by simp [bys]
    rw [e]; exact this
  · rw [List.take_of_length_le (by omega)]; exact h

set_option maxRecDepth 100000 in
set_option maxHeartbeats 4000000 in
theorem bytesLaw_any (P P' : Nat → Prop) (A A' : Option Addr) (c c' : Nat) (l bs : List Nat) (n : Int) (w : World) (h : RL w P A c l) (h' : RB w P' A' c' bs) (hP : ∀ b, P b → b < w.heap.size) (hP' : ∀ b, P' b → b < w.heap.size) :
    Calls Try.prog 5 #[.slice A l.length c, .int .i64 n, .slice A' bs.length c'] w fun e w' => e = .returned (.bool true) ∧ Below w.heap.size w w' := by
  have hla : (l.take 20).length ≤ 20 := by rw [List.length_take]; omega
  have fa := fun w h => few_any P A c l w h
  have hcb := h'.cap
  generalize l.take 20 = a at *
  have Fa := Lib.hid fa
  clear fa
  go_enter Try.func5, Try.ntmps5
  go_wp2_with fail
  refine (begun_any _).mono ?_
  rintro e w1 ⟨rfl, hB1⟩
  go_wp2_with fail
  refine (Fa.out w1 (h.below hB1 hP)).mono ?_
  rintro e w2 ⟨A2, c2, rfl, hO2, hB2⟩
  have hw2 := hB1.trans (hB2.mono hB1.size)
  have ra := hO2.ru
  have lx := digs32_len ra.2 hla
  clear hB1 hB2 hO2 h hP Fa
  go_wp2_with fail
  refine (from_any _ A2 c2 a w2 ra lt_self (by omega)).mono ?_
  rintro e w3 ⟨A3, c3, rfl, hO3, hB3⟩
  have hw3 := hw2.trans (hB3.mono hw2.size)
  replace ra := ra.up hB3
  have rx := hO3.ru
  have rb0 : RBU w3 A' c' bs := (h'.below hw3 hP').mono fun b hb => Nat.lt_of_lt_of_le (hP' b hb) hw3.size
  clear hw2 hO3 hB3 h' hP'
  go_upto_if 21 with fail
  go_cut [2] (fun s2 wx => ∃ bs', s2 = .slice A' bs'.length c' ∧ RBU w3 A' c' bs' ∧ bs'.length ≤ 300 ∧ w3 = wx)
  case first =>
    by_cases hlong : 300 < bs.length
    · have hl : (bs.take 300).length = 300 := by simp; omega
      have Hl := Lib.hid hl
      have k1 : (300 : Int) ≤ (bs.length : Int) := by omega
      clear hl
      go_wp2_with fail
      go_meet
      case rel => exact ⟨bs.take 300, by rw [Hl.out], rb0.take 300, by rw [Hl.out]; omega, rfl⟩
    · go_wp2_with fail
      go_meet
      case rel => exact ⟨bs, rfl, rb0, by omega, rfl⟩
  case rest =>
    clear rb0 hcb
    obtain ⟨bb, rfl, rb, hbl, rfl⟩ := hcut
    have hx64 : val 18446744073709551616 a < 18446744073709551616 ^ 20 := Nat.lt_of_lt_of_le (val_lt ra.2.1) (Nat.pow_le_pow_right (by omega) hla)
    by_cases hbad : n < 0 ∨ 65536 < n ∨ 8 * n < (nbits (val 18446744073709551616 a) : Int)
    · have hp := Lib.hid (bytes_no _ A2 c2 a n w3 ra hbad)
      have hr := Lib.hid (refBytes_no _ A3 c3 _ n w3 rx hbad)
      clear hbad hx64
      have s1 : ∀ w : World, (convert 47 9 (.slice none 0 0)).run Try.prog w = .ok (.string (strB [])) w := fun w => (RB.nil_ w (fun _ => True)).str 47 5 9 Try.underlying47 Try.underlying5 Try.underlying9
      have s2 : ((strB []).toList == (strB []).toList) = true := by simp
      go_wp2_with fail
      refine hp.out.mono ?_
      rintro e w4 ⟨rfl, rfl⟩
      go_wp2_with fail
      refine hr.out.mono ?_
      rintro e w4 ⟨rfl, rfl⟩
      go_wp2_with fail
      refine (fromBytes_any _ A' c' bb w3 rb lt_self (by omega)).mono ?_
      rintro e w5 ⟨A5, c5, rfl, hO5, hB5⟩
      have hw5 := hw3.trans (hB5.mono hw3.size)
      replace rb := rb.up hB5
      have r5 := hO5.ru
      clear hB5 hO5
      go_wp2_with fail
      refine (refFromBytes_any _ A' c' bb w5 rb lt_self (by omega)).mono ?_
      rintro e w6 ⟨A6, c6, rfl, hO6, hB6⟩
      have hw6 := hw5.trans (hB6.mono hw5.size)
      replace r5 := r5.up hB6
      have r6 := hO6.ru
      clear hB6 hO6
      go_wp2_with fail
      refine (is_yes _ _ A5 A6 c5 c6 _ w6 r5 r6 lt_self lt_self).mono ?_
      rintro e w7 ⟨rfl, hB7⟩
      have hw7 := hw6.trans (hB7.mono hw6.size)
      go_wp2
      go_ret
      exact ⟨by simp, hw7⟩
    · obtain ⟨m, rfl⟩ : ∃ m : Nat, n = (m : Int) := ⟨n.toNat, by omega⟩
      have hm : m ≤ 65536 := by omega
      have hm2 : nbits (val 18446744073709551616 a) ≤ 8 * m := by omega
      have hxm := lt_of_nbits hm2
      have hp := Lib.hid (bytes_yes _ A2 c2 a m w3 ra lt_self hm hm2)
      have hr := fun w h => refBytes_yes _ A3 c3 (val 18446744073709551616 a) m w h lt_self hm hm2
      have hfb := fun A c w P h hP => fromBytes_any P A c (bytesOf (val 18446744073709551616 a) m) w h hP (by rw [bytesOf_length]; omega)
      simp only [bytesOf_length, numOf_bytesOf hxm] at hfb
      have Hr := Lib.hid hr
      have Hfb := Lib.hid hfb
      have hbl2 := bytesOf_length (val 18446744073709551616 a) m
      clear hr hfb hbad hx64 hm2 hxm
      go_wp2_with fail
      refine hp.out.mono ?_
      rintro e w4 ⟨A4, rfl, r4, hB4⟩
      have hw4 := hw3.trans (hB4.mono hw3.size)
      replace rx := rx.up hB4
      replace rb := rb.up hB4
      replace r4 := r4.mono (P' := fun b => b < w4.heap.size) fun b hb => hb.2
      clear hw3 hB4 hp ra
      go_wp2_with fail
      refine (Hr.out w4 rx).mono ?_
      rintro e w5 ⟨A5, rfl, r5, hB5⟩
      have hw5 := hw4.trans (hB5.mono hw4.size)
      replace rx := rx.up hB5
      replace rb := rb.up hB5
      replace r4 := r4.up hB5
      replace r5 := r5.mono (P' := fun b => b < w5.heap.size) fun b hb => hb.2
      clear hw4 hB5 Hr
      go_wp2_with fail
      refine (Hfb.out A4 m w5 _ r4 lt_self).mono ?_
      rintro e w6 ⟨A6, c6, rfl, hO6, hB6⟩
      have hw6 := hw5.trans (hB6.mono hw5.size)
      replace rx := rx.up hB6
      replace rb := rb.up hB6
      replace r4 := r4.up hB6
      replace r5 := r5.up hB6
      have r6 := hO6.ru
      clear hw5 hB6 Hfb hO6
      go_wp2_with fail
      refine (is_yes _ _ A6 A3 c6 c3 _ w6 r6 rx lt_self lt_self).mono ?_
      rintro e w7 ⟨rfl, hB7⟩
      have hw7 := hw6.trans (hB7.mono hw6.size)
      replace rb := rb.up hB7
      replace r4 := r4.up hB7
      replace r5 := r5.up hB7
      clear hw6 hB7 r6 rx
      have s1 := r4.str 47 5 9 Try.underlying47 Try.underlying5 Try.underlying9
      have s2 := r5.str 47 5 9 Try.underlying47 Try.underlying5 Try.underlying9
      rw [hbl2] at s1 s2
      generalize bytesOf (val 18446744073709551616 a) m = Bs at *
      have s3 : ((strB Bs).toList == (strB Bs).toList) = true := by simp
      clear r4 r5 hbl2
      go_wp2_with fail
      refine (fromBytes_any _ A' c' bb w7 rb lt_self (by omega)).mono ?_
      rintro e w8 ⟨A8, c8, rfl, hO8, hB8⟩
      have hw8 := hw7.trans (hB8.mono hw7.size)
      replace rb := rb.up hB8
      have r8 := hO8.ru
      clear hB8 hO8
      go_wp2_with fail
      refine (refFromBytes_any _ A' c' bb w8 rb lt_self (by omega)).mono ?_
      rintro e w9 ⟨A9, c9, rfl, hO9, hB9⟩
      have hw9 := hw8.trans (hB9.mono hw8.size)
      replace r8 := r8.up hB9
      have r9 := hO9.ru
      clear hB9 hO9
      go_wp2_with fail
      refine (is_yes _ _ A8 A9 c8 c9 _ w9 r8 r9 lt_self lt_self).mono ?_
      rintro e w10 ⟨rfl, hB10⟩
      have hw10 := hw9.trans (hB10.mono hw9.size)
      go_wp2
      go_ret
      exact ⟨by simp, hw10⟩
end Go.Proofs.Ytnniellajmjmnaa
