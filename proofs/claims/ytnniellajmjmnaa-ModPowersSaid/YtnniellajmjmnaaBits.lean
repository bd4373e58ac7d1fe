/- What limb.Bits, Bit and Bytes compute. -/
import Derived.Test.YtnniellajmjmnaaQuo
import Derived.Test.YtnniellajmjmnaaBitN
namespace Go.Proofs.Ytnniellajmjmnaa
open Go.RowKit

theorem dg_last_pos {x : Nat} (hx : 0 < x) : 0 < dg (digs 18446744073709551616 x) ((digs 18446744073709551616 x).length - 1) := by
  have hne : digs 18446744073709551616 x ≠ [] := by rw [digs_pos (by omega) hx]; simp
  have h := digs_last (B := 18446744073709551616) (by omega) x hne
  have hpos := List.length_pos_iff.2 hne
  rw [List.getLast_eq_getElem] at h
  rw [dg, getD_eq' (by omega)]
  omega
theorem nbits_limbs {x : Nat} (hx : 0 < x) : nbits x = 64 * ((digs 18446744073709551616 x).length - 1) + Lib.bitLen (dg (digs 18446744073709551616 x) ((digs 18446744073709551616 x).length - 1)) := by
  have h0 := dg_last_pos hx
  have h1 := getD_lt (B := 18446744073709551616) (by omega) (digs_lt (by omega) x) ((digs 18446744073709551616 x).length - 1)
  have h2 := Lib.bitLenAux_bounds 64 _ h1 (by omega)
  have h3 := nbits_top (m := 64) (by omega) hx (k := Lib.bitLen (dg (digs 18446744073709551616 x) ((digs 18446744073709551616 x).length - 1))) h2.1 h2.2.1 h2.2.2
  exact h3

set_option maxRecDepth 100000 in
set_option maxHeartbeats 1000000 in
theorem bits_any (P : Nat → Prop) (A : Option Addr) (c : Nat) (a : List Nat) (w : World) (h : RN w P A c a) :
    Calls Try.prog 28 #[.slice A a.length c] w fun e w' => e = .returned (.int .i64 (nbits (val 18446744073709551616 a) : Int)) ∧ w = w' := by
  have ta := trim_any P A c a w h
  replace h := h.trim
  generalize val 18446744073709551616 a = x at *
  rcases Nat.eq_zero_or_pos x with rfl | hx
  · rw [digs_zero] at ta
    have Ta := Lib.hid ta
    clear ta
    go_enter Try.func28, Try.ntmps28
    go_wp2_with fail
    refine Ta.out.mono ?_
    rintro e w1 ⟨rfl, rfl⟩
    go_wp2
    go_ret
    exact ⟨rfl, rfl⟩
  · have hb := nbits_limbs hx
    have hlt := h.2.dgLt
    obtain ⟨h1, h2, h3⟩ := h.cap
    have hne : 0 < (digs 18446744073709551616 x).length := by rw [digs_pos (by omega) hx]; simp
    generalize digs 18446744073709551616 x = l at *
    obtain ⟨n, hn⟩ : ∃ n, l.length = n + 1 := ⟨l.length - 1, by omega⟩
    obtain ⟨ad, rfl, _, q1⟩ := h.at_ (i := n) (by omega)
    rw [hn, Nat.add_sub_cancel] at hb
    have hl := hlt n
    have hbl : Lib.bitLen (dg l n) ≤ 64 := Lib.bitLen_le _ 64 (by omega) hl
    have hlen := Try.bits_Len64 (dg l n : Int) w (by omega) (by omega)
    rw [Int.toNat_natCast] at hlen
    generalize Lib.bitLen (dg l n) = k at *
    have Hlen := Lib.hid hlen
    have Hb := Lib.hid hb
    rw [hn] at ta h1 h3
    have Ta := Lib.hid ta
    clear ta hb hlen hl hlt hne hx hn h
    go_enter Try.func28, Try.ntmps28
    go_wp2_with fail
    refine Ta.out.mono ?_
    rintro e w1 ⟨rfl, rfl⟩
    go_wp2_with fail
    refine Hlen.out.mono ?_
    rintro e w1 ⟨rfl, rfl⟩
    go_wp2
    go_ret
    exact ⟨ret_int (by rw [Hb.out]; simp), rfl⟩

/-- One bit of a number; none below 0. -/
def bitOf (x : Nat) (i : Int) : Nat := if i < 0 then 0 else x / 2 ^ i.toNat % 2
theorem mask1 (x : Nat) : x &&& 1 = x % 2 := Nat.and_one_is_mod x
theorem and_one (d j : Nat) (hd : d < 18446744073709551616) : bits .and .u64 ((d : Int) / 2 ^ j) 1 = ((d / 2 ^ j % 2 : Nat) : Int) := by
  have h0 : d / 2 ^ j ≤ d := Nat.div_le_self d _
  have h := bits_and_u64_nat (d / 2 ^ j) 1 (by omega) (by omega)
  rw [mask1] at h
  rw [← h]
  simp

set_option maxRecDepth 100000 in
set_option maxHeartbeats 1000000 in
theorem bit_any (P : Nat → Prop) (A : Option Addr) (c : Nat) (a : List Nat) (i : Int) (w : World) (h : RN w P A c a) (hi : i ≤ 9223372036854775807) :
    Calls Try.prog 29 #[.slice A a.length c, .int .i64 i] w fun e w' => e = .returned (.int .u64 (bitOf (val 18446744073709551616 a) i : Int)) ∧ w = w' := by
  obtain ⟨h1, h2, h3⟩ := h.cap
  by_cases h0 : i < 0
  · have hb := Lib.hid (show bitOf (val 18446744073709551616 a) i = 0 by simp [bitOf, h0])
    go_enter Try.func29, Try.ntmps29
    go_wp2
    go_ret
    rw [hb.out]
    exact ⟨rfl, rfl⟩
  · obtain ⟨n, rfl⟩ : ∃ n : Nat, i = (n : Int) := ⟨i.toNat, by omega⟩
    obtain ⟨k, j, hj, hn⟩ : ∃ k j, j < 64 ∧ n = 64 * k + j := ⟨n / 64, n % 64, by omega, by omega⟩
    have hb : bitOf (val 18446744073709551616 a) (n : Int) = dg a k / 2 ^ j % 2 := by
      have := val_bit (m := 64) a h.2.1 k j hj
      rw [bitOf, if_neg h0, Int.toNat_natCast, hn]
      exact this
    have e1 : (n : Int) / 64 = (k : Int) := by omega
    have e2 : (n : Int) % 64 = (j : Int) := by omega
    have e4 : IntKind.i64.wrap ((n : Int) / 64) = (k : Int) := by rw [e1]; exact IntWalk.i64_in _ (by omega)
    by_cases hk : k < a.length
    · obtain ⟨ad, rfl, _, q1⟩ := h.at_ hk
      have hd := h.2.dgLt k
      have e3 := and_one (dg a k) j hd
      have hj' : (j : Int) < 64 := by omega
      have hk' : (k : Int) < (a.length : Int) := by omega
      have Hb := Lib.hid hb
      clear hb hn hd h hi
      go_enter Try.func29, Try.ntmps29
      go_wp2
      go_ret
      exact ⟨ret_int (by rw [Hb.out]; simp), rfl⟩
    · have hd : dg a k = 0 := dg_none (by omega)
      rw [hd, Nat.zero_div] at hb
      have Hb := Lib.hid hb
      have hk' : ¬ (k : Int) < (a.length : Int) := by omega
      have hk2 : (a.length : Int) ≤ (k : Int) := by omega
      have hkb : (k : Int) ≤ 144115188075855871 := by omega
      clear hb hn hd h hi
      go_enter Try.func29, Try.ntmps29
      go_wp2
      go_ret
      rw [Hb.out]
      exact ⟨rfl, rfl⟩
end Go.Proofs.Ytnniellajmjmnaa
