/- What baileyref2's Exp and Strong compute. -/
import Derived.Test.YtnniellajmjmnaaModRef
import Derived.Test.YtnniellajmjmnaaRefBits
import Derived.Test.YtnniellajmjmnaaStrong
namespace Go.Proofs.Ytnniellajmjmnaa
open Go.RowKit

set_option maxRecDepth 100000 in
set_option maxHeartbeats 1000000 in
theorem refOdd_any (A : Option Addr) (c x : Nat) (w : World) (h : RU w A c (digs 4294967296 x)) :
    Calls Try.prog 86 #[.slice A (digs 4294967296 x).length c] w fun e w' => e = .returned (.bool (decide (x % 2 = 1))) ∧ w = w' := by
  have hb := refBit_any _ A c x 0 w h (by omega)
  rw [bitOf_zero] at hb
  have hlt := Nat.mod_lt x (show 0 < 2 by omega)
  generalize x % 2 = y at *
  have Hb := Lib.hid hb
  have he : ((y : Int) == 1) = decide (y = 1) := by
    rw [Bool.eq_iff_iff]; simp; omega
  clear hb
  go_enter Try.func86, Try.ntmps86
  go_wp2_with fail
  refine Hb.out.mono ?_
  rintro e w1 ⟨rfl, rfl⟩
  go_wp2
  go_ret
  exact ⟨by simp, rfl⟩

theorem pow_half {X E j M v : Nat} (hv : X ^ (E / 2 ^ (j + 1)) % M = v) (hb : E / 2 ^ j % 2 = 0) : X ^ (E / 2 ^ j) % M = v * v % M := by
  have e : E / 2 ^ j = E / 2 ^ (j + 1) + E / 2 ^ (j + 1) := by
    rw [Nat.pow_succ, ← Nat.div_div_eq_div_mul]; omega
  rw [← hv, ← Nat.mul_mod, ← Nat.pow_add, ← e]
theorem pow_half1 {X E j M v : Nat} (hv : X ^ (E / 2 ^ (j + 1)) % M = v) (hb : E / 2 ^ j % 2 = 1) : X ^ (E / 2 ^ j) % M = v * v % M * (X % M) % M := by
  have e : E / 2 ^ j = E / 2 ^ (j + 1) + E / 2 ^ (j + 1) + 1 := by
    rw [Nat.pow_succ, ← Nat.div_div_eq_div_mul]; omega
  rw [← hv, e, Nat.pow_succ, Nat.pow_add, Nat.mul_mod, Nat.mul_mod (X ^ (E / 2 ^ (j + 1))) (X ^ (E / 2 ^ (j + 1)))]

set_option maxRecDepth 100000 in
set_option maxHeartbeats 2000000 in
theorem refExp_any (A Ae Am : Option Addr) (c ce cm X E M : Nat) (w : World) (h : RU w A c (digs 4294967296 X)) (he : RU w Ae ce (digs 4294967296 E)) (hm : RU w Am cm (digs 4294967296 M)) (hl : (digs 4294967296 X).length < 40000) (hlM : (digs 4294967296 M).length < 40000) (h0 : 0 < M) (hn : nbits E ≤ 1000000) :
    Calls Try.prog 56 #[.slice A (digs 4294967296 X).length c, .slice Ae (digs 4294967296 E).length ce, .slice Am (digs 4294967296 M).length cm] w fun e w' => ∃ A1 c1, e = .returned (.slice A1 (digs 4294967296 (X ^ E % M)).length c1) ∧ RU w' A1 c1 (digs 4294967296 (X ^ E % M)) ∧ Below w.heap.size w w' := by
  have HlM := Lib.hid hlM
  obtain ⟨nb, hnb⟩ : ∃ nb, nbits E = nb := ⟨_, rfl⟩
  have Hst := Lib.hid (Below1.start nb)
  have Hv0 := Lib.hid (show X ^ (E / 2 ^ nb) % M = 1 % M by rw [Nat.div_eq_of_lt (lt_of_nbits (Nat.le_of_eq hnb)), Nat.pow_zero])
  have lm : ∀ v, v < M → (digs 4294967296 v).length < 40000 := fun v hv => Nat.lt_of_le_of_lt (digs_length_mono (by omega) (Nat.le_of_lt hv)) hlM
  have Hlm := Lib.hid lm
  obtain ⟨R, hR⟩ : ∃ R, X ^ E % M = R := ⟨_, rfl⟩
  rw [hR]
  have HR := Lib.hid hR
  have hof := Lib.hid (refOf_any 1 w (by omega))
  have h1M := Lib.hid (Nat.mod_lt 1 h0)
  clear hR lm
  go_enter Try.func56, Try.ntmps56
  go_wp2_with fail
  refine hof.out.mono ?_
  rintro e w1 ⟨A1, c1, rfl, hO1, hB1⟩
  have hm1 := Lib.hid (refMod_any A1 Am c1 cm 1 M w1 hO1.ru (hm.up hB1) (by rw [digs_pos (by omega) (by omega)]; simp [digs_zero]) h0)
  go_wp2_with fail
  refine hm1.out.mono ?_
  rintro e w2 ⟨A2, c2, rfl, hR2, hB2⟩
  have hB02 := hB1.trans (hB2.mono hB1.size)
  have hm2 := Lib.hid (refMod_any A Am c cm X M w2 (h.up hB02) (hm.up hB02) (by omega) h0)
  go_wp2_with fail
  refine hm2.out.mono ?_
  rintro e w3 ⟨A3, c3, rfl, hR3, hB3⟩
  have hB03 := hB02.trans (hB3.mono hB02.size)
  replace hR2 := hR2.up hB3
  have zm := hm.up hB03
  have ze := he.up hB03
  have hbi := refBits_any _ Ae ce E w3 ze
  rw [hnb] at hbi
  have Hbi := Lib.hid hbi
  have hXM := Lib.hid (Nat.mod_lt X h0)
  obtain ⟨Y, hY⟩ : ∃ Y, X % M = Y := ⟨_, rfl⟩
  rw [hY] at hR3 hXM ⊢
  have HY := Lib.hid hY
  clear hbi hof hm1 hm2 hO1 hB1 hB2 hB3 hB02 h he hm hY
  go_wp2_with fail
  refine Hbi.out.mono ?_
  rintro e w4 ⟨rfl, rfl⟩
  have hs3 := hB03.size
  go_wp2
  go_loopw [7, 8] (fun xv iv wr => ∃ (k v : Nat) (z : Int) (A1 : Option Addr) (c1 : Nat), iv = .int .i64 z ∧ Below1 k z ∧ xv = .slice A1 (digs 4294967296 v).length c1 ∧ k ≤ nb ∧ Hid (X ^ (E / 2 ^ k) % M = v) ∧ v < M ∧ RU wr A1 c1 (digs 4294967296 v) ∧ Below w3.heap.size w3 wr) (fun _ iv _ => (intOf iv + 1).toNat)
  case atStart => exact ⟨nb, 1 % M, _, A2, c2, rfl, Hst.out, rfl, Nat.le_refl _, Hv0, h1M.out, hR2, Below.refl _ _⟩
  case round =>
    obtain ⟨k, v, z, A1, c1, rfl, hz, rfl, hk, hv, hvM, hx, hB⟩ := hrel
    rcases hz with ⟨rfl, rfl⟩ | ⟨j, rfl, rfl⟩
    · have hvR : v = R := by have := hv.out; have := HR.out; rw [Nat.pow_zero, Nat.div_one] at *; omega
      subst hvR
      go_wp2
      go_ret
      exact ⟨A1, c1, rfl, hx, hB03.trans (hB.mono hs3)⟩
    · have hlv := Hlm.out v hvM
      have hsq := Lib.hid (refMulMod_any A1 A1 Am c1 c1 cm v v M wr hx hx (zm.up hB) hlv hlv h0)
      have Hs' := Lib.hid (Below1.start j)
      have hvv := Lib.hid (Nat.mod_lt (v * v) h0)
      obtain ⟨u, hu⟩ : ∃ u, v * v % M = u := ⟨_, rfl⟩
      rw [hu] at hsq hvv
      have hbt : E / 2 ^ j % 2 = 0 ∨ E / 2 ^ j % 2 = 1 := by have := Nat.mod_lt (E / 2 ^ j) (show 0 < 2 by omega); omega
      have Hu := Lib.hid hu
      clear hu hlv
      go_wp2_with fail
      refine hsq.out.mono ?_
      rintro e w5 ⟨A5, c5, rfl, hR5, hB5⟩
      have hB35 := hB.trans (hB5.mono hB.size)
      have hbit := refBit_any _ Ae ce E (j : Int) w5 (ze.up hB35) (by omega)
      rw [show bitOf E (j : Int) = E / 2 ^ j % 2 by rw [bitOf, if_neg (by omega), Int.toNat_natCast]] at hbit
      rcases hbt with h0b | h1b
      · rw [h0b] at hbit
        have Hbit := Lib.hid hbit
        have hp := Lib.hid ((pow_half hv.out h0b).trans Hu.out)
        clear hbit h0b hv
        go_wp2_with fail
        refine Hbit.out.mono ?_
        rintro e w6 ⟨rfl, rfl⟩
        go_wp2
        go_roundw
        case rel => exact ⟨j, u, _, A5, c5, rfl, Hs'.out, rfl, by omega, hp, hvv.out, hR5, hB35⟩
        case measure => simp [intOf]
      · rw [h1b] at hbit
        have Hbit := Lib.hid hbit
        have hp := pow_half1 hv.out h1b
        rw [Hu.out, HY.out] at hp
        have hlu := Hlm.out u hvv.out
        have hlY := Hlm.out Y hXM.out
        have hmu := Lib.hid (refMulMod_any A5 A3 Am c5 c3 cm u Y M w5 hR5 (hR3.up hB35) (zm.up hB35) hlu hlY h0)
        have huY := Lib.hid (Nat.mod_lt (u * Y) h0)
        obtain ⟨t, ht⟩ : ∃ t, u * Y % M = t := ⟨_, rfl⟩
        rw [ht] at hmu huY hp
        have Hp := Lib.hid hp
        clear hbit h1b hv hp ht hlu hlY
        go_wp2_with fail
        refine Hbit.out.mono ?_
        rintro e w6 ⟨rfl, rfl⟩
        go_wp2_with fail
        refine hmu.out.mono ?_
        rintro e w7 ⟨A7, c7, rfl, hR7, hB7⟩
        have hB37 := hB35.trans (hB7.mono hB35.size)
        go_wp2
        go_roundw
        case rel => exact ⟨j, t, _, A7, c7, rfl, Hs'.out, rfl, by omega, Hp, huY.out, hR7, hB37⟩
        case measure => simp [intOf]
end Go.Proofs.Ytnniellajmjmnaa
