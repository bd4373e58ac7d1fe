/- The test of Miller and Rabin: the plain law. modarith: Strong. -/
import Derived.Test.YtnniellajmjmnaaCand
import Derived.Test.YtnniellajmjmnaaShift
import Derived.Test.YtnniellajmjmnaaMExp
namespace Go.Proofs.Ytnniellajmjmnaa

/-- How often 2 divides a number (f: an upper bound). -/
def twosF : Nat → Nat → Nat
  | 0, _ => 0
  | f + 1, x => if x % 2 = 0 then twosF f (x / 2) + 1 else 0
def twos (x : Nat) : Nat := twosF x x
theorem twosF_low : ∀ (f x k : Nat), k < twosF f x → x / 2 ^ k % 2 = 0
  | 0, _, _, h => by simp [twosF] at h
  | f + 1, x, k, h => by
    by_cases h0 : x % 2 = 0
    · simp only [twosF, h0, if_true] at h
      match k, h with
      | 0, _ => simpa using h0
      | k + 1, h =>
        have := twosF_low f (x / 2) k (by omega)
        rwa [Nat.div_div_eq_div_mul, ← Nat.pow_succ', ] at this
    · simp [twosF, h0] at h
theorem twosF_top : ∀ (f x : Nat), 0 < x → x ≤ f → x / 2 ^ twosF f x % 2 = 1
  | 0, _, h, h' => by omega
  | f + 1, x, h, h' => by
    by_cases h0 : x % 2 = 0
    · simp only [twosF, h0, if_true]
      have := twosF_top f (x / 2) (by omega) (by omega)
      rwa [Nat.div_div_eq_div_mul, ← Nat.pow_succ'] at this
    · simp only [twosF, h0, if_false, Nat.pow_zero, Nat.div_one]
      omega
theorem twos_low {x k : Nat} (h : k < twos x) : x / 2 ^ k % 2 = 0 := twosF_low x x k h
theorem twos_top {x : Nat} (h : 0 < x) : x / 2 ^ twos x % 2 = 1 := twosF_top x x h (Nat.le_refl _)
theorem twos_pow {x : Nat} (h : 0 < x) : 2 ^ twos x ≤ x := by
  have h1 := twos_top h
  rcases Nat.lt_or_ge x (2 ^ twos x) with h2 | h2
  · rw [Nat.div_eq_of_lt h2] at h1; omega
  · exact h2
theorem twos_even {x : Nat} (h0 : 0 < x) (h : x % 2 = 0) : 0 < twos x := by
  rcases Nat.eq_zero_or_pos (twos x) with h1 | h1
  · have := twos_top h0; rw [h1] at this; simp at this; omega
  · exact h1

/-- What stands at the test's k-th look. -/
def lookAt (N W k : Nat) : Nat := (W % N) ^ ((N - 1) / 2 ^ twos (N - 1) * 2 ^ k) % N
/-- Is the k-th look a yes? -/
def lookYes (N W k : Nat) : Bool := decide (lookAt N W k = N - 1) || (decide (k = 0) && decide (lookAt N W k = 1))
def strongB (N W : Nat) : Bool :=
  if N % 2 = 0 ∨ N < 2 then decide (N = 2) else if 4096 < nbits N then false else if W % N = 0 then true else (List.range (twos (N - 1))).any (lookYes N W)
theorem lookAt_succ (N W k : Nat) : lookAt N W (k + 1) = lookAt N W k * lookAt N W k % N := by
  unfold lookAt
  rw [← Nat.mul_mod, ← Nat.pow_add, Nat.pow_succ, ← Nat.mul_assoc]
  congr 2
  omega
theorem any_range_step (f : Nat → Bool) {n k : Nat} (h : k < n) : (List.range' k (n - k)).any f = (f k || (List.range' (k + 1) (n - (k + 1))).any f) := by
  rw [show n - k = (n - (k + 1)) + 1 by omega, List.range'_succ, List.any_cons]
theorem any_range (f : Nat → Bool) (n : Nat) : (List.range n).any f = (List.range' 0 (n - 0)).any f := by
  rw [List.range_eq_range', Nat.sub_zero]
theorem any_range_end (f : Nat → Bool) (n : Nat) : (List.range' n (n - n)).any f = false := by simp
theorem strong_even {N : Nat} (W : Nat) (h : N % 2 = 0 ∨ N < 2) : strongB N W = decide (N = 2) := by simp only [strongB, h, if_true]
theorem strong_odd {N W : Nat} (h : N % 2 = 1) (h1 : 1 < N) (h2 : nbits N ≤ 4096) : strongB N W = if W % N = 0 then true else (List.range (twos (N - 1))).any (lookYes N W) := by
  simp only [strongB, show ¬ (N % 2 = 0 ∨ N < 2) by omega, show ¬ 4096 < nbits N by omega, if_false]
theorem strong_big {N W : Nat} (h : N % 2 = 1) (h1 : 1 < N) (h2 : 4096 < nbits N) : strongB N W = false := by
  simp only [strongB, show ¬ (N % 2 = 0 ∨ N < 2) by omega, h2, if_false, if_true]
theorem pow_bound {a b x : Nat} (h : 2 ^ a ≤ x) (h' : x < 2 ^ b) : a ≤ b := by
  rcases Nat.lt_or_ge b a with h5 | h5
  · have : 2 ^ b ≤ 2 ^ a := Nat.pow_le_pow_right (by omega) (by omega)
    omega
  · exact h5
theorem twos_nbits {N K : Nat} (h : 1 < N) (h2 : nbits N ≤ K) : twos (N - 1) ≤ K :=
  pow_bound (twos_pow (x := N - 1) (by omega)) (Nat.lt_of_le_of_lt (Nat.sub_le N 1) (lt_of_nbits h2))
theorem twos_le {N : Nat} (h : 1 < N) (h2 : nbits N ≤ 4096) : twos (N - 1) ≤ 4096 := twos_nbits h h2
end Go.Proofs.Ytnniellajmjmnaa

namespace Go.Proofs.Ytnniellajmjmnaa
open Go.RowKit

section
variable {w : World} {P : Nat → Prop} {g M inv : Nat} {Am Ao Ar : Option Addr} {cm co cr : Nat} {ol rl : List Nat}
theorem mmulz (hZ : ZM w P g M inv Am Ao Ar cm co cr ol rl) (hP : ∀ b, P b → b < w.heap.size) (Pa Pb : Nat → Prop) (Aa Ab : Option Addr) (ca cb : Nat) (a b : List Nat) (X Y : Nat)
    (ha : RN w Pa Aa ca a) (hPa : ∀ b, Pa b → b < w.heap.size) (hla : a.length = (digs 18446744073709551616 M).length) (hx : val 18446744073709551616 a = X * RM M % M)
    (hb : RN w Pb Ab cb b) (hPb : ∀ b, Pb b → b < w.heap.size) (hlb : b.length = (digs 18446744073709551616 M).length) (hy : val 18446744073709551616 b = Y * RM M % M) :
    Calls Try.prog 85 #[.pointer (some ⟨g, 0, none⟩), .slice Aa (digs 18446744073709551616 M).length ca, .slice Ab (digs 18446744073709551616 M).length cb] w fun e w' => ∃ A' c' o, e = .returned (.slice A' (digs 18446744073709551616 M).length c') ∧ o.length = (digs 18446744073709551616 M).length ∧ OB w' w.heap.size A' c' o ∧
      val 18446744073709551616 o = X * Y * RM M % M ∧ Below w.heap.size w w' := by
  have hbig := hZ.big
  have hm := mmul_any P Pa Pb Am Aa Ab cm ca cb g inv (digs 18446744073709551616 M) a b w (by have := blk_cell hZ.blk 0; simpa using this) (by have := blk_cell hZ.blk 1; simpa using this) (blk_lt hZ.blk) hZ.m hP ha hPa hb hPb hla hlb (by rw [val_digs (by omega)]; omega) (by rw [val_digs (by omega), hy]; exact Nat.mod_lt _ (by omega)) hZ.invLt (by rw [val_digs (by omega)]; exact hZ.invV) hZ.small
  rw [hla, hlb, val_digs (by omega)] at hm
  refine hm.mono ?_
  rintro e w' ⟨A', c', o, rfl, hl, hO, hlt, hv, hB⟩
  exact ⟨A', c', o, rfl, hl, hO, mul_form hZ.invV hlt hv hx hy, hB⟩
end

set_option maxRecDepth 100000 in
set_option maxHeartbeats 1000000 in
theorem strong_no (P _P' : Nat → Prop) (A A' : Option Addr) (c c' : Nat) (a b : List Nat) (N W : Nat) (w : World) (h : RN w P A c a) (hP : ∀ b, P b → b < w.heap.size) (hN : val 18446744073709551616 a = N) (hno : N % 2 = 0 ∨ N < 2) :
    Calls Try.prog 47 #[.slice A a.length c, .slice A' b.length c'] w fun e w' => e = .returned (.bool (strongB N W)) ∧ Below w.heap.size w w' := by
  have hc := Lib.hid (candidate_no P A c a N w h hP hN hno)
  have hs := Lib.hid (strong_even W hno)
  clear hno hN
  go_enter Try.func47, Try.ntmps47
  go_wp2_with fail
  refine hc.out.mono ?_
  rintro e w' ⟨rfl, hB⟩
  go_wp2
  go_ret
  exact ⟨by rw [hs.out]; rfl, hB⟩

set_option maxRecDepth 100000 in
set_option maxHeartbeats 1000000 in
theorem strong_much (P _P' : Nat → Prop) (A A' : Option Addr) (c c' : Nat) (a b : List Nat) (N W : Nat) (w : World) (h : RN w P A c a) (hP : ∀ b, P b → b < w.heap.size) (hN : val 18446744073709551616 a = N) (hodd : N % 2 = 1) (hgt : 1 < N) (hbig : 4096 < nbits N) :
    Calls Try.prog 47 #[.slice A a.length c, .slice A' b.length c'] w fun e w' => e = .returned (.bool (strongB N W)) ∧ Below w.heap.size w w' := by
  have hc := candidate_odd P A c a N w h hP hN hodd hgt
  rw [decide_eq_false (by omega : ¬ nbits N ≤ 4096)] at hc
  have Hc := Lib.hid hc
  have hs := Lib.hid (strong_big (W := W) hodd hgt hbig)
  clear hc hodd hN hbig hgt
  go_enter Try.func47, Try.ntmps47
  go_wp2_with fail
  refine Hc.out.mono ?_
  rintro e w' ⟨rfl, hB⟩
  go_wp2
  go_ret
  exact ⟨by rw [hs.out]; rfl, hB⟩

set_option maxRecDepth 100000 in
set_option maxHeartbeats 4000000 in
theorem strong_fine (P P' : Nat → Prop) (A A' : Option Addr) (c c' : Nat) (a b : List Nat) (N W : Nat) (w : World) (h : RN w P A c a) (h' : RN w P' A' c' b) (hP : ∀ b, P b → b < w.heap.size) (hP' : ∀ b, P' b → b < w.heap.size) (hN : val 18446744073709551616 a = N) (hW : val 18446744073709551616 b = W)
    (hodd : N % 2 = 1) (hgt : 1 < N) (hmay : nbits N ≤ 4096) (hla : a.length < 40000) (hlb : b.length < 40000) :
    Calls Try.prog 47 #[.slice A a.length c, .slice A' b.length c'] w fun e w' => e = .returned (.bool (strongB N W)) ∧ Below w.heap.size w w' := by
  have hc := candidate_odd P A c a N w h hP hN hodd hgt
  rw [decide_eq_true hmay] at hc
  have Hc := Lib.hid hc
  have hst := strong_odd (W := W) hodd hgt hmay
  have Hst := Lib.hid hst
  have Htw := Lib.hid (twos_le hgt hmay)
  have Hodd := Lib.hid hodd
  have hlM : (digs 18446744073709551616 N).length ≤ 40000 := by have := digs_length_le (B := 18446744073709551616) (by omega) h.2.1; rw [hN] at this; omega
  have vd := fun v => val_digs (B := 18446744073709551616) (by omega) v
  clear hc hst hodd hmay
  go_enter Try.func47, Try.ntmps47
  go_wp2_with fail
  refine Hc.out.mono ?_
  rintro e w1 ⟨rfl, hB1⟩
  have zW1 := hB1.size
  have hr := rest_any P' P A' A c' c b a w1 (h'.below hB1 hP') (h.below hB1 hP) (fun b hb => by have := hP' b hb; omega) (fun b hb => by have := hP b hb; omega) (by omega) (by omega) (by omega)
  rw [hN, hW] at hr
  have Hr := Lib.hid hr
  clear hr
  go_wp2_with fail
  refine Hr.out.mono ?_
  rintro e w2 ⟨A2, c2, rfl, hO2, hB2⟩
  have hB02 := hB1.trans (hB2.mono zW1)
  have zW2 := hB2.size
  clear Hr Hc
  by_cases h0 : W % N = 0
  · have hs0 := Hst.out
    rw [if_pos h0] at hs0
    have Hs0 := Lib.hid hs0
    rw [h0, digs_zero]
    clear Hst hs0 h0
    simp only [List.length_nil]
    go_wp2
    go_ret
    exact ⟨by rw [Hs0.out]; rfl, hB02⟩
  have hs1 := Hst.out
  rw [if_neg h0, any_range] at hs1
  have Hs1 := Lib.hid hs1
  have hWN := Nat.mod_lt W (show 0 < N by omega)
  generalize hR : W % N = R at *
  have hla2 : ∀ k, lookAt N W k = R ^ ((N - 1) / 2 ^ twos (N - 1) * 2 ^ k) % N := fun k => by rw [lookAt, hR]
  have Hla2 := Lib.hid hla2
  have hrlM : (digs 18446744073709551616 R).length ≤ (digs 18446744073709551616 N).length := digs_length_mono (by omega) (by omega)
  have hrl0 : 0 < (digs 18446744073709551616 R).length := by rw [digs_pos (by omega) (by omega)]; simp
  generalize hrl : (digs 18446744073709551616 R).length = rl at *
  have hng : ((rl : Int) == 0) = false := by simpa using (by omega : ¬ rl = 0)
  have hof := Lib.hid (of_any 1 w2 (by omega))
  have Hrl := Lib.hid hrl
  clear Hst hs1 hla2 hR hrl h0
  go_wp2_with fail
  refine hof.out.mono ?_
  rintro e w3 ⟨A3, c3, rfl, hO3, hB3⟩
  have hB03 := hB02.trans (hB3.mono (by omega))
  have zW3 := hB3.size
  have hsb := sub_yes _ _ A A3 c c3 a _ w3 (h.below hB03 hP) hO3.rn (fun b hb => by have := hP b hb; omega) (fun b hb => hb.2) (by omega) (by rw [vd, hN]; omega)
  rw [vd, hN] at hsb
  have Hsb := Lib.hid hsb
  clear hsb hof hO3
  go_wp2_with fail
  refine Hsb.out.mono ?_
  rintro e w4 ⟨A4, c4, rfl, hO4, hB4⟩
  have hB04 := hB03.trans (hB4.mono (by omega))
  have zW4 := hB4.size
  have hrd : RN w4 _ A4 c4 _ := hO4.rn
  have hbit := fun (k : Nat) (hk : k ≤ 4096) => bit_any _ A4 c4 _ (k : Int) w4 hrd (by omega)
  simp only [vd] at hbit
  have hbv := fun k : Nat => (show bitOf (N - 1) (k : Int) = (N - 1) / 2 ^ k % 2 by simp [bitOf, show ¬ (k : Int) < 0 by omega])
  simp only [hbv] at hbit
  have Hbit := Lib.hid hbit
  have hO2' := hO2.below (hB3.trans (hB4.mono zW3)) (Nat.le_refl _)
  have Hgt := Lib.hid hgt
  have Htl : Hid (∀ k, k < twos (N - 1) → (N - 1) / 2 ^ k % 2 = 0) := Lib.hid fun k hk => twos_low hk
  have Htt : Hid ((N - 1) / 2 ^ twos (N - 1) % 2 = 1) := Lib.hid (twos_top (by omega))
  obtain ⟨lN, hlN⟩ : ∃ lN, (digs 18446744073709551616 (N - 1)).length = lN := ⟨_, rfl⟩
  have hlN2 : lN ≤ 40000 := by rw [← hlN]; exact dig_len (Nat.sub_le N 1) hlM
  have Hx1 : Hid (∀ x, x = N - 1 ↔ x + 1 = N) := Lib.hid fun x => by omega
  rw [hlN] at Hbit
  generalize hs : twos (N - 1) = s at *
  clear Hsb hbit hbv hs hO2
  go_wp2_with fail
  go_loopw [9] (fun sv wr => ∃ k : Nat, sv = .int .i64 (k : Int) ∧ k ≤ s ∧ w4 = wr) (fun sv _ => s - (intOf sv).toNat)
  case atStart => exact ⟨0, rfl, Nat.zero_le _, rfl⟩
  case round =>
    obtain ⟨k, rfl, hk, rfl⟩ := hrel
    have hs4 := Htw.out
    by_cases hks : k < s
    · have hb1 := Hbit.out k (by omega)
      rw [Htl.out k hks] at hb1
      have Hb1 := Lib.hid hb1
      clear hb1
      go_wp2_with fail
      refine Hb1.out.mono ?_
      rintro e w' ⟨rfl, rfl⟩
      go_wp2
      go_roundw
      case rel => exact ⟨k + 1, by go_num, by omega, by first | rfl | trivial⟩
      case measure => simp [intOf]; omega
    · obtain rfl : k = s := by omega
      have hb1 := Hbit.out k (by omega)
      rw [Htt.out] at hb1
      have Hb1 := Lib.hid hb1
      clear hb1
      have ltm : ∀ X : World, Below w.heap.size w X → ∀ b, P b → b < X.heap.size := fun X hX b hb => by have := hP b hb; have := hX.size; omega
      have Hnew := Lib.hid (mnew_any P A c a N w4 (h.below hB04 hP) (ltm w4 hB04) hN Hgt.out Hodd.out hla)
      go_wp2_with fail
      refine Hb1.out.mono ?_
      rintro e w' ⟨rfl, rfl⟩
      go_wp2_with fail
      refine Hnew.out.mono ?_
      rintro e w5 ⟨g, inv, Am, Ao, Ar, cm, co, cr, ol, zl, rfl, hg, hZ, hB5⟩
      have hg5 := blk_lt hZ.blk
      have hB05 := hB04.trans (hB5.mono (by omega))
      have hO25 := hO2'.below hB5 (by omega)
      have hto := mto_any hZ (fun b hb => hb.2) _ _ _ _ hO25.rn (fun b hb => hb.2) (by rw [Hrl.out]; exact hrlM)
      rw [vd, Hrl.out] at hto
      have Hto := Lib.hid hto
      clear hto Hnew hO2' Hb1 Hbit
      go_wp2_with fail
      refine Hto.out.mono ?_
      rintro e w6 ⟨A6, c6, o6, rfl, hl6, hO6, hv6, hB6⟩
      have zW6 := hB6.size
      have zW5 := hB5.size
      have hB06 := hB05.trans (hB6.mono (by omega))
      have hB46 := hB5.trans (hB6.mono (by omega))
      have hO46 := hO4.below hB46 (Nat.le_refl _)
      have hsh := shr_any _ A4 c4 _ k w6 hO46.rn (fun b hb => hb.2) (by omega) (by omega)
      rw [vd, hlN] at hsh
      have Hsh := Lib.hid hsh
      clear hsh Hto
      go_wp2_with fail
      refine Hsh.out.mono ?_
      rintro e w7 ⟨A7, c7, rfl, hO7, hB7⟩
      have zW7 := hB7.size
      have hB57 := hB6.trans (hB7.mono (by omega))
      have hZ7 := hZ.below hB57 (fun b hb => hb.2) hg5
      have hB07 := hB06.trans (hB7.mono (by omega))
      have hO67 := hO6.below hB7 (Nat.le_refl _)
      have hex := mexp_any hZ7 (fun b hb => by have := hb.2; omega) _ _ A6 A7 c6 c7 o6 _ R _ hO67.rn (fun b hb => hb.2) hl6 hv6 hO7.rn (fun b hb => hb.2) rfl
      rw [hl6, vd] at hex
      obtain ⟨E, hE⟩ : ∃ E, (N - 1) / 2 ^ k = E := ⟨_, rfl⟩
      rw [hE] at Hla2 hex ⊢
      have Hex := Lib.hid hex
      clear hex Hsh Htt Htl hO67 hO6 hl6 hv6
      go_wp2_with fail
      refine Hex.out.mono ?_
      rintro e w8 ⟨A8, c8, o8, rfl, hl8, hO8, hv8, hB8⟩
      have zW8 := hB8.size
      have hB58 := hB57.trans (hB8.mono (by omega))
      have hZ8 := hZ.below hB58 (fun b hb => hb.2) hg5
      have hB08 := hB07.trans (hB8.mono (by omega))
      have hO48 := hO46.below (hB7.trans (hB8.mono zW7)) (by omega)
      obtain ⟨nN, hnN⟩ : ∃ nN, (digs 18446744073709551616 N).length = nN := ⟨_, rfl⟩
      have HnN := Lib.hid hnN
      rw [hnN] at hl8 ⊢
      have H8 : Hid (R ^ E % N = lookAt N W 0) := Lib.hid (by rw [Hla2.out, Nat.pow_zero, Nat.mul_one])
      have hZw := Lib.hid (fun X (hX : Below w8.heap.size w8 X) => (⟨hZ8.below hX (fun b hb => by have := hb.2; omega) (by omega), hO48.below hX (by omega)⟩ : _ ∧ _))
      have Hl8 := Lib.hid hl8
      have HlN := Lib.hid hlN
      clear Hex hO7 hO46 hZ7 hnN hl8 hlN hE hZ
      go_wp2_with fail
      go_loopw [11, 51] (fun vv iv wr => ∃ (j : Nat) (A1 : Option Addr) (c1 : Nat) (o : List Nat) (X : Nat), vv = .slice A1 nN c1 ∧ iv = .int .i64 (j : Int) ∧ j ≤ k ∧ o.length = nN ∧ val 18446744073709551616 o = X * RM N % N ∧ Hid (X % N = lookAt N W j) ∧ OB wr w7.heap.size A1 c1 o ∧
          Hid (strongB N W = (List.range' j (k - j)).any (lookYes N W)) ∧ Below w8.heap.size w8 wr) (fun _ iv _ => k - (intOf iv).toNat)
      case atStart => exact ⟨0, A8, c8, o8, R ^ E, rfl, rfl, Nat.zero_le _, Hl8.out, hv8, H8, hO8, Hs1, Below.refl _ _⟩
      case round =>
        obtain ⟨j, A1, c1, o, X, rfl, rfl, hj, ho, hv, hX, hO, hany, hBr⟩ := hrel
        have zwr := hBr.size
        have hB0r := hB08.trans (hBr.mono (by omega))
        by_cases hjk : j < k
        · obtain ⟨hZr, hOr4⟩ := hZw.out wr hBr
          have hany2 := hany.out
          rw [any_range_step _ hjk] at hany2
          have hlk : lookYes N W j = (decide (lookAt N W j = N - 1) || (decide (j = 0) && decide (lookAt N W j = 1))) := rfl
          have hfr := mfrom_any hZr (fun b hb => by have := hb.2; omega) _ A1 c1 o X hO.rn (fun b hb => hb.2) (ho.trans HnN.out.symm) hv
          rw [ho, hX.out] at hfr
          generalize hL : lookAt N W j = L at *
          have hLlt : L < N := by rw [← hL]; exact Nat.mod_lt _ (by omega)
          have HL := Lib.hid hL
          have Hfr := Lib.hid hfr
          have HX := hX
          have Hlk := Lib.hid hlk
          have Hany2 := Lib.hid hany2
          have Hv := Lib.hid hv
          have Ho := Lib.hid ho
          clear hfr hany hany2 hlk hX hL hv ho
          go_wp2_with fail
          refine Hfr.out.mono ?_
          rintro e w9 ⟨A9, c9, rfl, hO9, hB9⟩
          have zw9 := hB9.size
          have hcm := cmp_any _ _ A9 A4 c9 c4 _ _ w9 hO9.rn (hOr4.below hB9 (by omega)).rn
          rw [vd, vd, HlN.out] at hcm
          have hbs := fun n => bits_any _ A9 c9 _ (w9.drewN n) (hO9.rn.drewN n)
          simp only [vd] at hbs
          have Hbs := Lib.hid hbs
          have hB9r := hBr.trans (hB9.mono (by omega))
          clear hbs
          by_cases heq : L = N - 1
          · have hyes : strongB N W = true := by rw [Hany2.out, Hlk.out, decide_eq_true heq]; rfl
            have Hyes := Lib.hid hyes
            rw [heq, cmpV_eq] at hcm
            rw [heq] at *
            have Hcm := Lib.hid hcm
            clear hyes hcm
            go_wp2_with fail
            refine Hcm.out.mono ?_
            rintro e w10 ⟨rfl, n10, rfl⟩
            go_wp2
            go_ret
            exact ⟨by rw [Hyes.out]; rfl, below_drewN (hB08.trans (hB9r.mono (by omega))) n10⟩
          · have hne : (cmpV L (N - 1) == 0) = false := by
              rcases cmpV_cases L (N - 1) with ⟨_, h2⟩ | ⟨h1, _⟩ | ⟨_, h2⟩
              · rw [h2]; rfl
              · exact absurd h1 heq
              · rw [h2]; rfl
            generalize cmpV L (N - 1) = cz at *
            have Hcm := Lib.hid hcm
            have hB10 := fun n => below_drewN hB9r n
            obtain ⟨HZ10, _⟩ := hZw.out w9 hB9r
            have hml := fun n => mmulz ((hZw.out (w9.drewN n) (hB10 n)).1) (fun b hb => by have := hb.2; show b < w9.heap.size; omega) _ _ A1 A1 c1 c1 o o X X ((hO.below hB9 (Nat.le_refl _)).rn.drewN n) (fun b hb => hb.2) (Ho.out.trans HnN.out.symm) Hv.out ((hO.below hB9 (Nat.le_refl _)).rn.drewN n) (fun b hb => hb.2) (Ho.out.trans HnN.out.symm) Hv.out
            simp only [HnN.out] at hml
            have Hml := Lib.hid hml
            have Hsucc : Hid (X * X % N = lookAt N W (j + 1)) := Lib.hid (by rw [lookAt_succ, HL.out, ← HX.out, ← Nat.mul_mod])
            clear hcm hml
            by_cases hj0 : j = 0
            · subst hj0
              by_cases hL1 : L = 1
              · have hyes : strongB N W = true := by rw [Hany2.out, Hlk.out, decide_eq_true hL1, decide_eq_true rfl]; simp
                have Hyes := Lib.hid hyes
                have hb1 : nbits L = 1 := by rw [hL1]; rfl
                rw [hb1] at Hbs
                clear hyes hb1 Hml Hsucc Hany2 Hlk hL1
                go_wp2_with fail
                refine Hcm.out.mono ?_
                rintro e w10 ⟨rfl, n10, rfl⟩
                go_wp2_with fail
                refine (Hbs.out n10).mono ?_
                rintro e w11 ⟨rfl, rfl⟩
                go_wp2
                go_ret
                exact ⟨by rw [Hyes.out]; rfl, below_drewN (hB08.trans (hB9r.mono (by omega))) n10⟩
              · have hno : strongB N W = (List.range' (0 + 1) (k - (0 + 1))).any (lookYes N W) := by rw [Hany2.out, Hlk.out, decide_eq_false hL1, decide_eq_false heq]; simp
                have Hno := Lib.hid hno
                have hnb1 : ((nbits L : Int) == 1) = false := by
                  have : nbits L ≠ 1 := fun h1 => by
                    have h2 := lt_of_nbits (x := L) (k := 1) (by omega)
                    rcases Nat.eq_zero_or_pos L with h3 | h3
                    · subst h3; rw [nbits_zero] at h1; omega
                    · omega
                  simpa using (show ¬ (nbits L : Int) = 1 by omega)
                generalize nbits L = nb at *
                clear hno Hany2 Hlk hL1
                go_wp2_with fail
                refine Hcm.out.mono ?_
                rintro e w10 ⟨rfl, n10, rfl⟩
                go_wp2_with fail
                refine (Hbs.out n10).mono ?_
                rintro e w11 ⟨rfl, rfl⟩
                have Hm := Lib.hid (Hml.out n10)
                clear Hml
                go_wp2_with fail
                refine Hm.out.mono ?_
                rintro e w12 ⟨A12, c12, o12, rfl, hl12, hO12, hv12, hB12⟩
                have hBr12 := (hB10 n10).trans (hB12.mono (by show w8.heap.size ≤ w9.heap.size; omega))
                have hO12' : OB w12 w7.heap.size A12 c12 o12 := hO12.mono (by show w7.heap.size ≤ w9.heap.size; omega)
                go_wp2
                go_roundw
                case rel => exact ⟨1, A12, c12, o12, X * X, rfl, by first | rfl | go_num, by omega, hl12, hv12, Hsucc, hO12', Hno, hBr12⟩
                case measure => simp [intOf]; omega
            · have hno : strongB N W = (List.range' (j + 1) (k - (j + 1))).any (lookYes N W) := by rw [Hany2.out, Hlk.out, decide_eq_false hj0, decide_eq_false heq]; simp
              have Hno := Lib.hid hno
              have tj : ((j : Int) == 0) = false := by simpa using hj0
              clear hno Hany2 Hlk
              go_wp2_with fail
              refine Hcm.out.mono ?_
              rintro e w10 ⟨rfl, n10, rfl⟩
              have Hm := Lib.hid (Hml.out n10)
              clear Hml
              go_wp2_with fail
              refine Hm.out.mono ?_
              rintro e w12 ⟨A12, c12, o12, rfl, hl12, hO12, hv12, hB12⟩
              have hBr12 := (hB10 n10).trans (hB12.mono (by show w8.heap.size ≤ w9.heap.size; omega))
              have hO12' : OB w12 w7.heap.size A12 c12 o12 := hO12.mono (by show w7.heap.size ≤ w9.heap.size; omega)
              go_wp2
              go_roundw
              case rel => exact ⟨j + 1, A12, c12, o12, X * X, rfl, by go_num, by omega, hl12, hv12, Hsucc, hO12', Hno, hBr12⟩
              case measure => simp [intOf]; omega
        · obtain rfl : j = k := by omega
          have hend := hany.out
          rw [any_range_end] at hend
          have Hend := Lib.hid hend
          clear hend hany hX
          go_wp2
          go_ret
          exact ⟨by rw [Hend.out]; rfl, hB0r⟩
end Go.Proofs.Ytnniellajmjmnaa
