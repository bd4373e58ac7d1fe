/- ModPowers: remainders, products and powers modulo a number are right: the walk of the law. -/
import Derived.Test.YtnniellajmjmnaaModOps
import Derived.Test.YtnniellajmjmnaaMInvLaw
import Derived.Test.YtnniellajmjmnaaRefStrong
namespace Go.Proofs.Ytnniellajmjmnaa
open Go.RowKit

/-- What Mod, Mul and Exp give where the numbers are not too great: y modulo M, or nothing modulo 0. -/
def ModAns (base M y : Nat) (e : Ending) (w' : World) : Prop := (M = 0 ∧ e = .returned (.tuple #[.slice none 0 0, .bool false])) ∨ (0 < M ∧ ∃ A1 c1, e = .returned (.tuple #[.slice A1 (digs 18446744073709551616 (y % M)).length c1, .bool true]) ∧ OB w' base A1 c1 (digs 18446744073709551616 (y % M)))
theorem pow_mod (A A' : Option Addr) (c c' : Nat) (a b : List Nat) (X M : Nat) (w : World) (h : RU w A c a) (h' : RU w A' c' b) (hX : val 18446744073709551616 a = X) (hM : val 18446744073709551616 b = M) (hla : a.length < 40000) (hlb : b.length < 40000) (h1 : nbits X ≤ 4096) (h2 : nbits M ≤ 4096) :
    Calls Try.prog 51 #[.slice A a.length c, .slice A' b.length c'] w fun e w' => ModAns w.heap.size M X e w' ∧ Below w.heap.size w w' := by
  refine (mod_any A A' c c' a b X M w h h' hX hM (by omega) (by omega)).mono ?_
  rintro e w' ⟨hB, ⟨hno, rfl⟩ | ⟨h0, _, _, A1, c1, rfl, hO⟩⟩
  · exact ⟨.inl ⟨by omega, rfl⟩, hB⟩
  · exact ⟨.inr ⟨h0, A1, c1, rfl, hO⟩, hB⟩
theorem pow_mul (A A' A'' : Option Addr) (c c' c'' : Nat) (a d b : List Nat) (X Y M : Nat) (w : World) (h : RU w A c a) (hd : RU w A'' c'' d) (h' : RU w A' c' b) (hX : val 18446744073709551616 a = X) (hY : val 18446744073709551616 d = Y) (hM : val 18446744073709551616 b = M) (hla : a.length < 40000) (hld : d.length < 40000) (hlb : b.length < 40000) (h1 : nbits X ≤ 4096) (h3 : nbits Y ≤ 4096) (h2 : nbits M ≤ 4096) :
    Calls Try.prog 53 #[.slice A a.length c, .slice A'' d.length c'', .slice A' b.length c'] w fun e w' => ModAns w.heap.size M (X * Y) e w' ∧ Below w.heap.size w w' := by
  refine (mmod_any A A' A'' c c' c'' a d b X Y M w h hd h' hX hY hM hla hld hlb).mono ?_
  rintro e w' ⟨hB, ⟨hno, rfl⟩ | ⟨h0, _, _, _, A1, c1, rfl, hO⟩⟩
  · exact ⟨.inl ⟨by omega, rfl⟩, hB⟩
  · exact ⟨.inr ⟨h0, A1, c1, rfl, hO⟩, hB⟩
theorem pow_exp (A A' A'' : Option Addr) (c c' c'' : Nat) (a d b : List Nat) (X E M : Nat) (w : World) (h : RU w A c a) (hd : RU w A'' c'' d) (h' : RU w A' c' b) (hX : val 18446744073709551616 a = X) (hE : val 18446744073709551616 d = E) (hM : val 18446744073709551616 b = M) (hla : a.length < 40000) (hlb : b.length < 40000) (h1 : nbits X ≤ 4096) (h3 : nbits E ≤ 4096) (h2 : nbits M ≤ 4096) :
    Calls Try.prog 52 #[.slice A a.length c, .slice A'' d.length c'', .slice A' b.length c'] w fun e w' => ModAns w.heap.size M (X ^ E) e w' ∧ Below w.heap.size w w' := by
  rcases Nat.eq_zero_or_pos M with h0 | h0
  · refine (exp_no A A'' A' c c'' c' a d b X E M w h hd h' hX hE hM (by omega)).mono ?_
    rintro e w' ⟨rfl, hB⟩
    exact ⟨.inl ⟨h0, rfl⟩, hB⟩
  · by_cases ho : M % 2 = 0 ∨ M = 1
    · refine (exp_even _ _ _ A A'' A' c c'' c' a d b X E M w h hd h' lt_self lt_self lt_self hX hE hM h0 ho hla hlb ⟨h1, h3, h2⟩).mono ?_
      rintro e w' ⟨A1, c1, rfl, hO, hB⟩
      exact ⟨.inr ⟨h0, A1, c1, rfl, hO⟩, hB⟩
    · refine (exp_odd _ _ _ A A'' A' c c'' c' a d b X E M w h hd h' lt_self lt_self lt_self hX hE hM (by omega) (by omega) hla hlb ⟨h1, h3, h2⟩).mono ?_
      rintro e w' ⟨A1, c1, rfl, hO, hB⟩
      exact ⟨.inr ⟨h0, A1, c1, rfl, hO⟩, hB⟩

set_option maxRecDepth 100000 in
set_option maxHeartbeats 4000000 in
theorem modPowers_any (A A' A'' : Option Addr) (c c' c'' : Nat) (l m k : List Nat) (w : World) (h : RL w (fun b => b < w.heap.size) A c l) (h' : RL w (fun b => b < w.heap.size) A' c' m) (h'' : RL w (fun b => b < w.heap.size) A'' c'' k) :
    Calls Try.prog 12 #[.slice A l.length c, .slice A' m.length c', .slice A'' k.length c''] w fun e w' => e = .returned (.bool true) ∧ Below w.heap.size w w' := by
  have hla : (l.take 5).length ≤ 5 := by rw [List.length_take]; omega
  have hlb : (m.take 2).length ≤ 2 := by rw [List.length_take]; omega
  have hlc : (k.take 4).length ≤ 4 := by rw [List.length_take]; omega
  have fa := fun w P h => few2_any P A c l 5 w h (by omega)
  have fb := fun w P h => few2_any P A' c' m 2 w h (by omega)
  have fc := fun w P h => few2_any P A'' c'' k 4 w h (by omega)
  generalize l.take 5 = a at *
  generalize m.take 2 = d at *
  generalize k.take 4 = b at *
  have Fa := Lib.hid fa
  have Fb := Lib.hid fb
  have Fc := Lib.hid fc
  clear fa fb fc
  go_enter Try.func12, Try.ntmps12
  go_wp2_with fail
  refine (begun2_any _).mono ?_
  rintro e w1 ⟨rfl, hB1⟩
  go_wp2_with fail
  refine (Fa.out w1 _ (h.below hB1 lt_self)).mono ?_
  rintro e w2 ⟨A1, c1, rfl, hO1, hB2⟩
  have hw2 := hB1.trans (hB2.mono hB1.size)
  go_wp2_with fail
  refine (Fb.out w2 _ (h'.below hw2 lt_self)).mono ?_
  rintro e w3 ⟨A2, c2, rfl, hO2, hB3⟩
  have hw3 := hw2.trans (hB3.mono hw2.size)
  go_wp2_with fail
  refine (Fc.out w3 _ (h''.below hw3 lt_self)).mono ?_
  rintro e w4 ⟨A3, c3, rfl, hO3, hB4⟩
  have hw4 := hw3.trans (hB4.mono hw3.size)
  have ra := (hO1.ru.up hB3).up hB4
  have rd := hO2.ru.up hB4
  have rb := hO3.ru
  have lx := digs32_len ra.2 hla
  have ly := digs32_len rd.2 hlb
  have ln := digs32_len rb.2 hlc
  have na := nbits_len ra hla
  have ne := nbits_len rd hlb
  have nm := nbits_len rb hlc
  obtain ⟨X, hX⟩ : ∃ X, val 18446744073709551616 a = X := ⟨_, rfl⟩
  obtain ⟨E, hE⟩ : ∃ E, val 18446744073709551616 d = E := ⟨_, rfl⟩
  obtain ⟨M, hM⟩ : ∃ M, val 18446744073709551616 b = M := ⟨_, rfl⟩
  rw [hX] at lx na
  rw [hE] at ly ne
  rw [hM] at ln nm
  have gx := fun w h => from_any _ A1 c1 a w h lt_self (by omega)
  have gy := fun w h => from_any _ A2 c2 d w h lt_self (by omega)
  have gn := fun w h => from_any _ A3 c3 b w h lt_self (by omega)
  rw [hX] at gx
  rw [hE] at gy
  rw [hM] at gn
  have Gx := Lib.hid gx
  have Gy := Lib.hid gy
  have Gn := Lib.hid gn
  have HX := Lib.hid hX
  have HE := Lib.hid hE
  have HM := Lib.hid hM
  clear hB1 hB2 hB3 hB4 hO1 hO2 hO3 hw2 hw3 h h' h'' Fa Fb Fc gx gy gn hX hE hM
  go_wp2_with fail
  refine (Gx.out w4 ra).mono ?_
  rintro e w5 ⟨A5, c5, rfl, hO5, hB5⟩
  have hw5 := hw4.trans (hB5.mono hw4.size)
  replace ra := ra.up hB5
  replace rd := rd.up hB5
  replace rb := rb.up hB5
  have rx := hO5.ru
  clear hw4 hO5 hB5 Gx
  go_wp2_with fail
  refine (Gy.out w5 rd).mono ?_
  rintro e w6 ⟨A6, c6, rfl, hO6, hB6⟩
  have hw6 := hw5.trans (hB6.mono hw5.size)
  replace ra := ra.up hB6
  replace rd := rd.up hB6
  replace rb := rb.up hB6
  replace rx := rx.up hB6
  have ry := hO6.ru
  clear hw5 hO6 hB6 Gy
  go_wp2_with fail
  refine (Gn.out w6 rb).mono ?_
  rintro e w7 ⟨A7, c7, rfl, hO7, hB7⟩
  have hw7 := hw6.trans (hB7.mono hw6.size)
  replace ra := ra.up hB7
  replace rd := rd.up hB7
  replace rb := rb.up hB7
  replace rx := rx.up hB7
  replace ry := ry.up hB7
  have rn := hO7.ru
  clear hw6 hO7 hB7 Gn
  have Hr := Lib.hid (pow_mod A1 A3 c1 c3 a b X M w7 ra rb HX.out HM.out (by omega) (by omega) (by omega) (by omega))
  rcases Nat.eq_zero_or_pos M with h0 | h0
  · have H0 := Lib.hid h0
    clear h0
    go_wp2_with fail
    refine Hr.out.mono ?_
    rintro e w8 ⟨⟨hz, rfl⟩ | ⟨h1, _⟩, hB8⟩
    rotate_left
    · have := H0.out; omega
    clear hz
    have hw8 := hw7.trans (hB8.mono hw7.size)
    replace ra := ra.up hB8
    replace rd := rd.up hB8
    replace rb := rb.up hB8
    have Hp := Lib.hid (pow_mul A1 A3 A2 c1 c3 c2 a d b X E M w8 ra rd rb HX.out HE.out HM.out (by omega) (by omega) (by omega) (by omega) (by omega) (by omega))
    clear hw7 hB8 Hr rx ry rn
    go_wp2_with fail
    refine Hp.out.mono ?_
    rintro e w9 ⟨⟨hz, rfl⟩ | ⟨h1, _⟩, hB9⟩
    rotate_left
    · have := H0.out; omega
    clear hz
    have hw9 := hw8.trans (hB9.mono hw8.size)
    replace ra := ra.up hB9
    replace rd := rd.up hB9
    replace rb := rb.up hB9
    have Hq := Lib.hid (pow_exp A1 A3 A2 c1 c3 c2 a d b X E M w9 ra rd rb HX.out HE.out HM.out (by omega) (by omega) (by omega) (by omega) (by omega))
    clear hw8 hB9 Hp
    go_wp2_with fail
    refine Hq.out.mono ?_
    rintro e w10 ⟨⟨hz, rfl⟩ | ⟨h1, _⟩, hB10⟩
    rotate_left
    · have := H0.out; omega
    clear hz
    have hw10 := hw9.trans (hB10.mono hw9.size)
    have hly : ((digs 4294967296 M).length : Int) = 0 := by rw [H0.out, digs_zero]; rfl
    have hly2 : (digs 4294967296 M).length = 0 := by rw [H0.out, digs_zero]; rfl
    clear Hq hw9 hB10 ra rd rb ln nm
    go_wp2
    go_ret
    exact ⟨by simp, hw10⟩
  · have hyne : (((digs 4294967296 M).length : Int) == 0) = false := eqB (by rw [digs_pos (by omega) h0]; simp; omega)
    have H0 := Lib.hid h0
    go_wp2_with fail
    refine Hr.out.mono ?_
    rintro e w8 ⟨⟨h1, _⟩ | ⟨_, A8, c8, rfl, hO8⟩, hB8⟩
    · omega
    have hw8 := hw7.trans (hB8.mono hw7.size)
    replace ra := ra.up hB8
    replace rd := rd.up hB8
    replace rb := rb.up hB8
    replace rx := rx.up hB8
    replace ry := ry.up hB8
    replace rn := rn.up hB8
    have rr := hO8.ru
    have Hp := Lib.hid (pow_mul A1 A3 A2 c1 c3 c2 a d b X E M w8 ra rd rb HX.out HE.out HM.out (by omega) (by omega) (by omega) (by omega) (by omega) (by omega))
    clear hw7 hB8 Hr hO8
    go_wp2_with fail
    refine Hp.out.mono ?_
    rintro e w9 ⟨⟨h1, _⟩ | ⟨_, A9, c9, rfl, hO9⟩, hB9⟩
    · omega
    have hw9 := hw8.trans (hB9.mono hw8.size)
    replace ra := ra.up hB9
    replace rd := rd.up hB9
    replace rb := rb.up hB9
    replace rx := rx.up hB9
    replace ry := ry.up hB9
    replace rn := rn.up hB9
    replace rr := rr.up hB9
    have rp := hO9.ru
    have Hq := Lib.hid (pow_exp A1 A3 A2 c1 c3 c2 a d b X E M w9 ra rd rb HX.out HE.out HM.out (by omega) (by omega) (by omega) (by omega) (by omega))
    clear hw8 hB9 Hp hO9
    go_wp2_with fail
    refine Hq.out.mono ?_
    rintro e w10 ⟨⟨h1, _⟩ | ⟨_, A10, c10, rfl, hO10⟩, hB10⟩
    · omega
    have hw10 := hw9.trans (hB10.mono hw9.size)
    replace rx := rx.up hB10
    replace ry := ry.up hB10
    replace rn := rn.up hB10
    replace rr := rr.up hB10
    replace rp := rp.up hB10
    have rq := hO10.ru
    clear hw9 hB10 Hq hO10 ra rd rb HX HE HM
    obtain ⟨R1, hR1⟩ : ∃ R1, X % M = R1 := ⟨_, rfl⟩
    obtain ⟨R2, hR2⟩ : ∃ R2, X * E % M = R2 := ⟨_, rfl⟩
    obtain ⟨R3, hR3⟩ : ∃ R3, X ^ E % M = R3 := ⟨_, rfl⟩
    have f1 := fun w rx rn => refMod_any A5 A7 c5 c7 X M w rx rn (by omega) h0
    have f2 := fun w rx ry rn => refMulMod_any A5 A6 A7 c5 c6 c7 X E M w rx ry rn (by omega) (by omega) h0
    have f3 := fun w rx ry rn => refExp_any A5 A6 A7 c5 c6 c7 X E M w rx ry rn (by omega) (by omega) h0 (by omega)
    rw [hR1] at f1 rr ⊢
    rw [hR2] at f2 rp ⊢
    rw [hR3] at f3 rq ⊢
    have F1 := Lib.hid f1
    have F2 := Lib.hid f2
    have F3 := Lib.hid f3
    clear f1 f2 f3 hR1 hR2 hR3 h0
    go_wp2_with fail
    refine (F1.out w10 rx rn).mono ?_
    rintro e w11 ⟨A11, c11, rfl, r1, hB11⟩
    have hw11 := hw10.trans (hB11.mono hw10.size)
    replace rx := rx.up hB11
    replace ry := ry.up hB11
    replace rn := rn.up hB11
    replace rr := rr.up hB11
    replace rp := rp.up hB11
    replace rq := rq.up hB11
    clear hw10 hB11 F1
    go_wp2_with fail
    refine (is_yes _ _ A8 A11 c8 c11 R1 w11 rr r1 lt_self lt_self).mono ?_
    rintro e w12 ⟨rfl, hB12⟩
    have hw12 := hw11.trans (hB12.mono hw11.size)
    replace rx := rx.up hB12
    replace ry := ry.up hB12
    replace rn := rn.up hB12
    replace rp := rp.up hB12
    replace rq := rq.up hB12
    clear hw11 hB12 rr r1
    go_wp2_with fail
    refine (F2.out w12 rx ry rn).mono ?_
    rintro e w13 ⟨A13, c13, rfl, r2, hB13⟩
    have hw13 := hw12.trans (hB13.mono hw12.size)
    replace rx := rx.up hB13
    replace ry := ry.up hB13
    replace rn := rn.up hB13
    replace rp := rp.up hB13
    replace rq := rq.up hB13
    clear hw12 hB13 F2
    go_wp2_with fail
    refine (is_yes _ _ A9 A13 c9 c13 R2 w13 rp r2 lt_self lt_self).mono ?_
    rintro e w14 ⟨rfl, hB14⟩
    have hw14 := hw13.trans (hB14.mono hw13.size)
    replace rx := rx.up hB14
    replace ry := ry.up hB14
    replace rn := rn.up hB14
    replace rq := rq.up hB14
    clear hw13 hB14 rp r2
    go_wp2_with fail
    refine (F3.out w14 rx ry rn).mono ?_
    rintro e w15 ⟨A15, c15, rfl, r3, hB15⟩
    have hw15 := hw14.trans (hB15.mono hw14.size)
    replace rq := rq.up hB15
    clear hw14 hB15 F3 rx ry rn
    go_wp2_with fail
    refine (is_yes _ _ A10 A15 c10 c15 R3 w15 rq r3 lt_self lt_self).mono ?_
    rintro e w16 ⟨rfl, hB16⟩
    go_wp2
    go_ret
    exact ⟨by simp, hw15.trans (hB16.mono hw15.size)⟩
end Go.Proofs.Ytnniellajmjmnaa
