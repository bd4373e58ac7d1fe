/- The test of Miller and Rabin: the plain law. modarith: Strong. modarith.Few: the first twelve primes, each a slice of its own. modarith.Probable over Few's witnesses. modarith.Next behind 8, with e 3: it is 11. modarith.parted: of a number of one limb. modarith.Next: behind an odd number of one limb, with e 3: the first candidate that holds. Primes: Fermat's little theorem, and that a number is prime by a prime part of its predecessor (Pocklington). Nothing here speaks of the program. The first number that rsa.Primes seeks, of 64 bits, off the empty tape: reckoned. rsa.Primes: the iterator hands over a prime of 64 bits, off the empty tape. -/
import Derived.Test.YtlaphnlolgokiaaGreatDoorQ1c655cdf1f59
import Derived.TacticsInMore
import Derived.LoopNIn
import Derived.LoopIn
import Derived.Laws.EntriesVeiled
namespace Go.Proofs.YtlaphnlolgokiaaGreatDoor

def twosF : Nat → Nat → Nat
 | 0, _ => 0
 | f + 1, x => if x % 2 = 0 then twosF f (x / 2) + 1 else 0
def twos (x : Nat) : Nat := twosF x x
theorem twosF_low : ∀ (f x k : Nat), k < twosF f x → x / 2 ^ k % 2 = 0
  | 0, _, _, h => by simp [twosF] at h
  | f + 1, x, k, h => by
    by_cases h0 : x % 2 = 0
    · simp only [twosF, h0, if_true] at h
      match k, h with
      | 0, _ => simpa using h0
      | k + 1, h =>
        have := twosF_low f (x / 2) k (by omega)
        rwa [Nat.div_div_eq_div_mul, ← Nat.pow_succ', ] at this
    · simp [twosF, h0] at h
theorem twosF_top : ∀ (f x : Nat), 0 < x → x ≤ f → x / 2 ^ twosF f x % 2 = 1
  | 0, _, h, h' => by omega
  | f + 1, x, h, h' => by
    by_cases h0 : x % 2 = 0
    · simp only [twosF, h0, if_true]
      have := twosF_top f (x / 2) (by omega) (by omega)
      rwa [Nat.div_div_eq_div_mul, ← Nat.pow_succ'] at this
    · simp only [twosF, h0, if_false, Nat.pow_zero, Nat.div_one]
      omega
theorem twos_low {x k : Nat} (h : k < twos x) : x / 2 ^ k % 2 = 0 := twosF_low x x k h
theorem twos_top {x : Nat} (h : 0 < x) : x / 2 ^ twos x % 2 = 1 := twosF_top x x h (Nat.le_refl _)
theorem twos_pow {x : Nat} (h : 0 < x) : 2 ^ twos x ≤ x := by
 have h1 := twos_top h
 rcases Nat.lt_or_ge x (2 ^ twos x) with h2 | h2
 · rw [Nat.div_eq_of_lt h2] at h1; omega
 · exact h2
theorem twos_even {x : Nat} (h0 : 0 < x) (h : x % 2 = 0) : 0 < twos x := by
 rcases Nat.eq_zero_or_pos (twos x) with h1 | h1
 · have := twos_top h0; rw [h1] at this; simp at this; omega
 · exact h1

def lookAt (N W k : Nat) : Nat := (W % N) ^ ((N - 1) / 2 ^ twos (N - 1) * 2 ^ k) % N
def lookYes (N W k : Nat) : Bool := decide (lookAt N W k = N - 1) || (decide (k = 0) && decide (lookAt N W k = 1))
def strongB (N W : Nat) : Bool :=
 if N % 2 = 0 ∨ N < 2 then decide (N = 2) else if 4096 < nbits N then false else if W % N = 0 then true else (List.range (twos (N - 1))).any (lookYes N W)
theorem lookAt_succ (N W k : Nat) : lookAt N W (k + 1) = lookAt N W k * lookAt N W k % N := by
 unfold lookAt
 rw [← Nat.mul_mod, ← Nat.pow_add, Nat.pow_succ, ← Nat.mul_assoc]
 congr 2
 omega
theorem any_range_step (f : Nat → Bool) {n k : Nat} (h : k < n) : (List.range' k (n - k)).any f = (f k || (List.range' (k + 1) (n - (k + 1))).any f) := by
 rw [show n - k = (n - (k + 1)) + 1 by omega, List.range'_succ, List.any_cons]
theorem any_range (f : Nat → Bool) (n : Nat) : (List.range n).any f = (List.range' 0 (n - 0)).any f := by
 rw [List.range_eq_range', Nat.sub_zero]
theorem any_range_end (f : Nat → Bool) (n : Nat) : (List.range' n (n - n)).any f = false := by simp
theorem strong_even {N : Nat} (W : Nat) (h : N % 2 = 0 ∨ N < 2) : strongB N W = decide (N = 2) := by simp only [strongB, h, if_true]
theorem strong_odd {N W : Nat} (h : N % 2 = 1) (h1 : 1 < N) (h2 : nbits N ≤ 4096) : strongB N W = if W % N = 0 then true else (List.range (twos (N - 1))).any (lookYes N W) := by
 simp only [strongB, show ¬ (N % 2 = 0 ∨ N < 2) by omega, show ¬ 4096 < nbits N by omega, if_false]
theorem pow_bound {a b x : Nat} (h : 2 ^ a ≤ x) (h' : x < 2 ^ b) : a ≤ b := by
 rcases Nat.lt_or_ge b a with h5 | h5
 · have : 2 ^ b ≤ 2 ^ a := Nat.pow_le_pow_right (by omega) (by omega)
   omega
 · exact h5
theorem twos_nbits {N K : Nat} (h : 1 < N) (h2 : nbits N ≤ K) : twos (N - 1) ≤ K :=
 pow_bound (twos_pow (x := N - 1) (by omega)) (Nat.lt_of_le_of_lt (Nat.sub_le N 1) (lt_of_nbits h2))
theorem twos_le {N : Nat} (h : 1 < N) (h2 : nbits N ≤ 4096) : twos (N - 1) ≤ 4096 := twos_nbits h h2
end Go.Proofs.YtlaphnlolgokiaaGreatDoor

namespace Go.Proofs.YtlaphnlolgokiaaGreatDoor
open Go.RowKit

section
variable {w : World} {P : Nat → Prop} {g M inv : Nat} {Am Ao Ar : Option Addr} {cm co cr : Nat} {ol rl : List Nat}
theorem mmulz (hZ : ZM w P g M inv Am Ao Ar cm co cr ol rl) (hP : ∀ b, P b → b < w.heap.size) (Pa Pb : Nat → Prop) (Aa Ab : Option Addr) (ca cb : Nat) (a b : List Nat) (X Y : Nat)
 (ha : RN w Pa Aa ca a) (hPa : ∀ b, Pa b → b < w.heap.size) (hla : a.length = (digs 18446744073709551616 M).length) (hx : val 18446744073709551616 a = X * RM M % M)
 (hb : RN w Pb Ab cb b) (hPb : ∀ b, Pb b → b < w.heap.size) (hlb : b.length = (digs 18446744073709551616 M).length) (hy : val 18446744073709551616 b = Y * RM M % M) :
 Calls Tryz.prog 70 #[.pointer (some ⟨g, 0, none⟩), .slice Aa (digs 18446744073709551616 M).length ca, .slice Ab (digs 18446744073709551616 M).length cb] w fun e w' => ∃ A' c' o, e = .returned (.slice A' (digs 18446744073709551616 M).length c') ∧ o.length = (digs 18446744073709551616 M).length ∧ OB w' w.heap.size A' c' o ∧
  val 18446744073709551616 o = X * Y * RM M % M ∧ Below w.heap.size w w' := by
 have hbig := hZ.big
 have hm := mmul_any P Pa Pb Am Aa Ab cm ca cb g inv (digs 18446744073709551616 M) a b w (by have := blk_cell hZ.blk 0; simpa using this) (by have := blk_cell hZ.blk 1; simpa using this) (blk_lt hZ.blk) hZ.m hP ha hPa hb hPb hla hlb (by rw [val_digs (by omega)]; omega) (by rw [val_digs (by omega), hy]; exact Nat.mod_lt _ (by omega)) hZ.invLt (by rw [val_digs (by omega)]; exact hZ.invV) hZ.small
 rw [hla, hlb, val_digs (by omega)] at hm
 refine hm.mono ?_
 rintro e w' ⟨A', c', o, rfl, hl, hO, hlt, hv, hB⟩
 exact ⟨A', c', o, rfl, hl, hO, mul_form hZ.invV hlt hv hx hy, hB⟩
end

set_option maxRecDepth 100000 in
set_option maxHeartbeats 4000000 in
theorem strong_fine (P P' : Nat → Prop) (A A' : Option Addr) (c c' : Nat) (a b : List Nat) (N W : Nat) (w : World) (h : RN w P A c a) (h' : RN w P' A' c' b) (hP : ∀ b, P b → b < w.heap.size) (hP' : ∀ b, P' b → b < w.heap.size) (hN : val 18446744073709551616 a = N) (hW : val 18446744073709551616 b = W)
 (hodd : N % 2 = 1) (hgt : 1 < N) (hmay : nbits N ≤ 4096) (hla : a.length < 40000) (hlb : b.length < 40000) :
 Calls Tryz.prog 45 #[.slice A a.length c, .slice A' b.length c'] w fun e w' => e = .returned (.bool (strongB N W)) ∧ Below w.heap.size w w' := by
 have hc := candidate_odd P A c a N w h hP hN hodd hgt
 rw [decide_eq_true hmay] at hc
 have Hc := Lib.hid hc
 have hst := strong_odd (W := W) hodd hgt hmay
 have Hst := Lib.hid hst
 have Htw := Lib.hid (twos_le hgt hmay)
 have Hodd := Lib.hid hodd
 have hlM : (digs 18446744073709551616 N).length ≤ 40000 := by have := digs_length_le (B := 18446744073709551616) (by omega) h.2.1; rw [hN] at this; omega
 have vd := fun v => val_digs (B := 18446744073709551616) (by omega) v
 clear hc hst hodd hmay
 go_enter Tryz.func45, Tryz.ntmps45
 go_wp2_with fail
 refine Hc.out.mono ?_
 rintro e w1 ⟨rfl, hB1⟩
 have zW1 := hB1.size
 have hr := rest_any P' P A' A c' c b a w1 (h'.below hB1 hP') (h.below hB1 hP) (fun b hb => by have := hP' b hb; omega) (fun b hb => by have := hP b hb; omega) (by omega) (by omega) (by omega)
 rw [hN, hW] at hr
 have Hr := Lib.hid hr
 clear hr
 go_wp2_with fail
 refine Hr.out.mono ?_
 rintro e w2 ⟨A2, c2, rfl, hO2, hB2⟩
 have hB02 := hB1.trans (hB2.mono zW1)
 have zW2 := hB2.size
 clear Hr Hc
 by_cases h0 : W % N = 0
 · have hs0 := Hst.out
   rw [if_pos h0] at hs0
   have Hs0 := Lib.hid hs0
   rw [h0, digs_zero]
   clear Hst hs0 h0
   simp only [List.length_nil]
   go_wp2
   go_ret
   exact ⟨by rw [Hs0.out]; rfl, hB02⟩
 have hs1 := Hst.out
 rw [if_neg h0, any_range] at hs1
 have Hs1 := Lib.hid hs1
 have hWN := Nat.mod_lt W (show 0 < N by omega)
 generalize hR : W % N = R at *
 have hla2 : ∀ k, lookAt N W k = R ^ ((N - 1) / 2 ^ twos (N - 1) * 2 ^ k) % N := fun k => by rw [lookAt, hR]
 have Hla2 := Lib.hid hla2
 have hrlM : (digs 18446744073709551616 R).length ≤ (digs 18446744073709551616 N).length := digs_length_mono (by omega) (by omega)
 have hrl0 : 0 < (digs 18446744073709551616 R).length := by rw [digs_pos (by omega) (by omega)]; simp
 generalize hrl : (digs 18446744073709551616 R).length = rl at *
 have hng : ((rl : Int) == 0) = false := by simpa using (by omega : ¬ rl = 0)
 have hof := Lib.hid (of_any 1 w2 (by omega))
 have Hrl := Lib.hid hrl
 clear Hst hs1 hla2 hR hrl h0
 go_wp2_with fail
 refine hof.out.mono ?_
 rintro e w3 ⟨A3, c3, rfl, hO3, hB3⟩
 have hB03 := hB02.trans (hB3.mono (by omega))
 have zW3 := hB3.size
 have hsb := sub_yes _ _ A A3 c c3 a _ w3 (h.below hB03 hP) hO3.rn (fun b hb => by have := hP b hb; omega) (fun b hb => hb.2) (by omega) (by rw [vd, hN]; omega)
 rw [vd, hN] at hsb
 have Hsb := Lib.hid hsb
 clear hsb hof hO3
 go_wp2_with fail
 refine Hsb.out.mono ?_
 rintro e w4 ⟨A4, c4, rfl, hO4, hB4⟩
 have hB04 := hB03.trans (hB4.mono (by omega))
 have zW4 := hB4.size
 have hrd : RN w4 _ A4 c4 _ := hO4.rn
 have hbit := fun (k : Nat) (hk : k ≤ 4096) => bit_any _ A4 c4 _ (k : Int) w4 hrd (by omega)
 simp only [vd] at hbit
 have hbv := fun k : Nat => (show bitOf (N - 1) (k : Int) = (N - 1) / 2 ^ k % 2 by simp [bitOf, show ¬ (k : Int) < 0 by omega])
 simp only [hbv] at hbit
 have Hbit := Lib.hid hbit
 have hO2' := hO2.below (hB3.trans (hB4.mono zW3)) (Nat.le_refl _)
 have Hgt := Lib.hid hgt
 have Htl : Hid (∀ k, k < twos (N - 1) → (N - 1) / 2 ^ k % 2 = 0) := Lib.hid fun k hk => twos_low hk
 have Htt : Hid ((N - 1) / 2 ^ twos (N - 1) % 2 = 1) := Lib.hid (twos_top (by omega))
 obtain ⟨lN, hlN⟩ : ∃ lN, (digs 18446744073709551616 (N - 1)).length = lN := ⟨_, rfl⟩
 have hlN2 : lN ≤ 40000 := by rw [← hlN]; exact dig_len (Nat.sub_le N 1) hlM
 have Hx1 : Hid (∀ x, x = N - 1 ↔ x + 1 = N) := Lib.hid fun x => by omega
 rw [hlN] at Hbit
 generalize hs : twos (N - 1) = s at *
 clear Hsb hbit hbv hs hO2
 go_wp2_with fail
 go_loopw [9] (fun sv wr => ∃ k : Nat, sv = .int .i64 (k : Int) ∧ k ≤ s ∧ w4 = wr) (fun sv _ => s - (intOf sv).toNat)
 case atStart => exact ⟨0, rfl, Nat.zero_le _, rfl⟩
 case round =>
  obtain ⟨k, rfl, hk, rfl⟩ := hrel
  have hs4 := Htw.out
  by_cases hks : k < s
  · have hb1 := Hbit.out k (by omega)
    rw [Htl.out k hks] at hb1
    have Hb1 := Lib.hid hb1
    clear hb1
    go_wp2_with fail
    refine Hb1.out.mono ?_
    rintro e w' ⟨rfl, rfl⟩
    go_wp2
    go_roundw
    case rel => exact ⟨k + 1, by go_num, by omega, by first | rfl | trivial⟩
    case measure => simp [intOf]; omega
  · obtain rfl : k = s := by omega
    have hb1 := Hbit.out k (by omega)
    rw [Htt.out] at hb1
    have Hb1 := Lib.hid hb1
    clear hb1
    have ltm : ∀ X : World, Below w.heap.size w X → ∀ b, P b → b < X.heap.size := fun X hX b hb => by have := hP b hb; have := hX.size; omega
    have Hnew := Lib.hid (mnew_any P A c a N w4 (h.below hB04 hP) (ltm w4 hB04) hN Hgt.out Hodd.out hla)
    go_wp2_with fail
    refine Hb1.out.mono ?_
    rintro e w' ⟨rfl, rfl⟩
    go_wp2_with fail
    refine Hnew.out.mono ?_
    rintro e w5 ⟨g, inv, Am, Ao, Ar, cm, co, cr, ol, zl, rfl, hg, hZ, hB5⟩
    have hg5 := blk_lt hZ.blk
    have hB05 := hB04.trans (hB5.mono (by omega))
    have hO25 := hO2'.below hB5 (by omega)
    have hto := mto_any hZ (fun b hb => hb.2) _ _ _ _ hO25.rn (fun b hb => hb.2) (by rw [Hrl.out]; exact hrlM)
    rw [vd, Hrl.out] at hto
    have Hto := Lib.hid hto
    clear hto Hnew hO2' Hb1 Hbit
    go_wp2_with fail
    refine Hto.out.mono ?_
    rintro e w6 ⟨A6, c6, o6, rfl, hl6, hO6, hv6, hB6⟩
    have zW6 := hB6.size
    have zW5 := hB5.size
    have hB06 := hB05.trans (hB6.mono (by omega))
    have hB46 := hB5.trans (hB6.mono (by omega))
    have hO46 := hO4.below hB46 (Nat.le_refl _)
    have hsh := shr_any _ A4 c4 _ k w6 hO46.rn (fun b hb => hb.2) (by omega) (by omega)
    rw [vd, hlN] at hsh
    have Hsh := Lib.hid hsh
    clear hsh Hto
    go_wp2_with fail
    refine Hsh.out.mono ?_
    rintro e w7 ⟨A7, c7, rfl, hO7, hB7⟩
    have zW7 := hB7.size
    have hB57 := hB6.trans (hB7.mono (by omega))
    have hZ7 := hZ.below hB57 (fun b hb => hb.2) hg5
    have hB07 := hB06.trans (hB7.mono (by omega))
    have hO67 := hO6.below hB7 (Nat.le_refl _)
    have hex := mexp_any hZ7 (fun b hb => by have := hb.2; omega) _ _ A6 A7 c6 c7 o6 _ R _ hO67.rn (fun b hb => hb.2) hl6 hv6 hO7.rn (fun b hb => hb.2) rfl
    rw [hl6, vd] at hex
    obtain ⟨E, hE⟩ : ∃ E, (N - 1) / 2 ^ k = E := ⟨_, rfl⟩
    rw [hE] at Hla2 hex ⊢
    have Hex := Lib.hid hex
    clear hex Hsh Htt Htl hO67 hO6 hl6 hv6
    go_wp2_with fail
    refine Hex.out.mono ?_
    rintro e w8 ⟨A8, c8, o8, rfl, hl8, hO8, hv8, hB8⟩
    have zW8 := hB8.size
    have hB58 := hB57.trans (hB8.mono (by omega))
    have hZ8 := hZ.below hB58 (fun b hb => hb.2) hg5
    have hB08 := hB07.trans (hB8.mono (by omega))
    have hO48 := hO46.below (hB7.trans (hB8.mono zW7)) (by omega)
    obtain ⟨nN, hnN⟩ : ∃ nN, (digs 18446744073709551616 N).length = nN := ⟨_, rfl⟩
    have HnN := Lib.hid hnN
    rw [hnN] at hl8 ⊢
    have H8 : Hid (R ^ E % N = lookAt N W 0) := Lib.hid (by rw [Hla2.out, Nat.pow_zero, Nat.mul_one])
    have hZw := Lib.hid (fun X (hX : Below w8.heap.size w8 X) => (⟨hZ8.below hX (fun b hb => by have := hb.2; omega) (by omega), hO48.below hX (by omega)⟩ : _ ∧ _))
    have Hl8 := Lib.hid hl8
    have HlN := Lib.hid hlN
    clear Hex hO7 hO46 hZ7 hnN hl8 hlN hE hZ
    go_wp2_with fail
    go_loopw [11, 51] (fun vv iv wr => ∃ (j : Nat) (A1 : Option Addr) (c1 : Nat) (o : List Nat) (X : Nat), vv = .slice A1 nN c1 ∧ iv = .int .i64 (j : Int) ∧ j ≤ k ∧ o.length = nN ∧ val 18446744073709551616 o = X * RM N % N ∧ Hid (X % N = lookAt N W j) ∧ OB wr w7.heap.size A1 c1 o ∧
     Hid (strongB N W = (List.range' j (k - j)).any (lookYes N W)) ∧ Below w8.heap.size w8 wr) (fun _ iv _ => k - (intOf iv).toNat)
    case atStart => exact ⟨0, A8, c8, o8, R ^ E, rfl, rfl, Nat.zero_le _, Hl8.out, hv8, H8, hO8, Hs1, Below.refl _ _⟩
    case round =>
     obtain ⟨j, A1, c1, o, X, rfl, rfl, hj, ho, hv, hX, hO, hany, hBr⟩ := hrel
     have zwr := hBr.size
     have hB0r := hB08.trans (hBr.mono (by omega))
     by_cases hjk : j < k
     · obtain ⟨hZr, hOr4⟩ := hZw.out wr hBr
       have hany2 := hany.out
       rw [any_range_step _ hjk] at hany2
       have hlk : lookYes N W j = (decide (lookAt N W j = N - 1) || (decide (j = 0) && decide (lookAt N W j = 1))) := rfl
       have hfr := mfrom_any hZr (fun b hb => by have := hb.2; omega) _ A1 c1 o X hO.rn (fun b hb => hb.2) (ho.trans HnN.out.symm) hv
       rw [ho, hX.out] at hfr
       generalize hL : lookAt N W j = L at *
       have hLlt : L < N := by rw [← hL]; exact Nat.mod_lt _ (by omega)
       have HL := Lib.hid hL
       have Hfr := Lib.hid hfr
       have HX := hX
       have Hlk := Lib.hid hlk
       have Hany2 := Lib.hid hany2
       have Hv := Lib.hid hv
       have Ho := Lib.hid ho
       clear hfr hany hany2 hlk hX hL hv ho
       go_wp2_with fail
       refine Hfr.out.mono ?_
       rintro e w9 ⟨A9, c9, rfl, hO9, hB9⟩
       have zw9 := hB9.size
       have hcm := cmp_any _ _ A9 A4 c9 c4 _ _ w9 hO9.rn (hOr4.below hB9 (by omega)).rn
       rw [vd, vd, HlN.out] at hcm
       have hbs := fun n => bits_any _ A9 c9 _ (w9.drewN n) (hO9.rn.drewN n)
       simp only [vd] at hbs
       have Hbs := Lib.hid hbs
       have hB9r := hBr.trans (hB9.mono (by omega))
       clear hbs
       by_cases heq : L = N - 1
       · have hyes : strongB N W = true := by rw [Hany2.out, Hlk.out, decide_eq_true heq]; rfl
         have Hyes := Lib.hid hyes
         rw [heq, cmpV_eq] at hcm
         rw [heq] at *
         have Hcm := Lib.hid hcm
         clear hyes hcm
         go_wp2_with fail
         refine Hcm.out.mono ?_
         rintro e w10 ⟨rfl, n10, rfl⟩
         go_wp2
         go_ret
         exact ⟨by rw [Hyes.out]; rfl, below_drewN (hB08.trans (hB9r.mono (by omega))) n10⟩
       · have hne : (cmpV L (N - 1) == 0) = false := by
          rcases cmpV_cases L (N - 1) with ⟨_, h2⟩ | ⟨h1, _⟩ | ⟨_, h2⟩
          · rw [h2]; rfl
          · exact absurd h1 heq
          · rw [h2]; rfl
         generalize cmpV L (N - 1) = cz at *
         have Hcm := Lib.hid hcm
         have hB10 := fun n => below_drewN hB9r n
         obtain ⟨HZ10, _⟩ := hZw.out w9 hB9r
         have hml := fun n => mmulz ((hZw.out (w9.drewN n) (hB10 n)).1) (fun b hb => by have := hb.2; show b < w9.heap.size; omega) _ _ A1 A1 c1 c1 o o X X ((hO.below hB9 (Nat.le_refl _)).rn.drewN n) (fun b hb => hb.2) (Ho.out.trans HnN.out.symm) Hv.out ((hO.below hB9 (Nat.le_refl _)).rn.drewN n) (fun b hb => hb.2) (Ho.out.trans HnN.out.symm) Hv.out
         simp only [HnN.out] at hml
         have Hml := Lib.hid hml
         have Hsucc : Hid (X * X % N = lookAt N W (j + 1)) := Lib.hid (by rw [lookAt_succ, HL.out, ← HX.out, ← Nat.mul_mod])
         clear hcm hml
         by_cases hj0 : j = 0
         · subst hj0
           by_cases hL1 : L = 1
           · have hyes : strongB N W = true := by rw [Hany2.out, Hlk.out, decide_eq_true hL1, decide_eq_true rfl]; simp
             have Hyes := Lib.hid hyes
             have hb1 : nbits L = 1 := by rw [hL1]; rfl
             rw [hb1] at Hbs
             clear hyes hb1 Hml Hsucc Hany2 Hlk hL1
             go_wp2_with fail
             refine Hcm.out.mono ?_
             rintro e w10 ⟨rfl, n10, rfl⟩
             go_wp2_with fail
             refine (Hbs.out n10).mono ?_
             rintro e w11 ⟨rfl, rfl⟩
             go_wp2
             go_ret
             exact ⟨by rw [Hyes.out]; rfl, below_drewN (hB08.trans (hB9r.mono (by omega))) n10⟩
           · have hno : strongB N W = (List.range' (0 + 1) (k - (0 + 1))).any (lookYes N W) := by rw [Hany2.out, Hlk.out, decide_eq_false hL1, decide_eq_false heq]; simp
             have Hno := Lib.hid hno
             have hnb1 : ((nbits L : Int) == 1) = false := by
              have : nbits L ≠ 1 := fun h1 => by
               have h2 := lt_of_nbits (x := L) (k := 1) (by omega)
               rcases Nat.eq_zero_or_pos L with h3 | h3
               · subst h3; rw [nbits_zero] at h1; omega
               · omega
              simpa using (show ¬ (nbits L : Int) = 1 by omega)
             generalize nbits L = nb at *
             clear hno Hany2 Hlk hL1
             go_wp2_with fail
             refine Hcm.out.mono ?_
             rintro e w10 ⟨rfl, n10, rfl⟩
             go_wp2_with fail
             refine (Hbs.out n10).mono ?_
             rintro e w11 ⟨rfl, rfl⟩
             have Hm := Lib.hid (Hml.out n10)
             clear Hml
             go_wp2_with fail
             refine Hm.out.mono ?_
             rintro e w12 ⟨A12, c12, o12, rfl, hl12, hO12, hv12, hB12⟩
             have hBr12 := (hB10 n10).trans (hB12.mono (by show w8.heap.size ≤ w9.heap.size; omega))
             have hO12' : OB w12 w7.heap.size A12 c12 o12 := hO12.mono (by show w7.heap.size ≤ w9.heap.size; omega)
             go_wp2
             go_roundw
             case rel => exact ⟨1, A12, c12, o12, X * X, rfl, by first | rfl | go_num, by omega, hl12, hv12, Hsucc, hO12', Hno, hBr12⟩
             case measure => simp [intOf]; omega
         · have hno : strongB N W = (List.range' (j + 1) (k - (j + 1))).any (lookYes N W) := by rw [Hany2.out, Hlk.out, decide_eq_false hj0, decide_eq_false heq]; simp
           have Hno := Lib.hid hno
           have tj : ((j : Int) == 0) = false := by simpa using hj0
           clear hno Hany2 Hlk
           go_wp2_with fail
           refine Hcm.out.mono ?_
           rintro e w10 ⟨rfl, n10, rfl⟩
           have Hm := Lib.hid (Hml.out n10)
           clear Hml
           go_wp2_with fail
           refine Hm.out.mono ?_
           rintro e w12 ⟨A12, c12, o12, rfl, hl12, hO12, hv12, hB12⟩
           have hBr12 := (hB10 n10).trans (hB12.mono (by show w8.heap.size ≤ w9.heap.size; omega))
           have hO12' : OB w12 w7.heap.size A12 c12 o12 := hO12.mono (by show w7.heap.size ≤ w9.heap.size; omega)
           go_wp2
           go_roundw
           case rel => exact ⟨j + 1, A12, c12, o12, X * X, rfl, by go_num, by omega, hl12, hv12, Hsucc, hO12', Hno, hBr12⟩
           case measure => simp [intOf]; omega
     · obtain rfl : j = k := by omega
       have hend := hany.out
       rw [any_range_end] at hend
       have Hend := Lib.hid hend
       clear hend hany hX
       go_wp2
       go_ret
       exact ⟨by rw [Hend.out]; rfl, hB0r⟩
end Go.Proofs.YtlaphnlolgokiaaGreatDoor

namespace Go.Proofs.YtlaphnlolgokiaaGreatDoor
open Go.RowKit

attribute [local go_sem] Oper.semAt_some

def fewL : List Nat := [2, 3, 5, 7, 11, 13, 17, 19, 23, 29, 31, 37]
def FewV (base k : Nat) (b : Option Addr × Nat) (W : World) : Prop := OB W base b.1 b.2 [fewL.getD k 0]
def fewX (_ : Nat) (b : Option Addr × Nat) : Array Value := #[.slice b.1 1 b.2]
theorem few_lt {k : Nat} (h : k < 12) : 0 < fewL.getD k 0 ∧ fewL.getD k 0 < 18446744073709551616 ∧ digs 18446744073709551616 (fewL.getD k 0) = [fewL.getD k 0] := by
 have h1 : 0 < fewL.getD k 0 ∧ fewL.getD k 0 < 100 := by
  match k, h with
  | 0, _ | 1, _ | 2, _ | 3, _ | 4, _ | 5, _ | 6, _ | 7, _ | 8, _ | 9, _ | 10, _ | 11, _ => decide
 refine ⟨h1.1, by omega, ?_⟩
 rw [digs_pos (by omega) (by omega), Nat.mod_eq_of_lt (by omega), Nat.div_eq_of_lt (by omega), digs_zero]

set_option maxRecDepth 100000 in
set_option maxHeartbeats 1000000 in
theorem few_at (w : World) (t : Nat) (h : t < 12) : Sem.run Tryz.prog (Instr.index 76 (.agg #[.int .u64 2, .int .u64 3, .int .u64 5, .int .u64 7, .int .u64 11, .int .u64 13, .int .u64 17, .int .u64 19, .int .u64 23, .int .u64 29, .int .u64 31, .int .u64 37]) (.int .i64 (t : Int))) w = .ok (.int .u64 (fewL.getD t 0 : Int)) w := by
 match t, h with
 | 0, _ | 1, _ | 2, _ | 3, _ | 4, _ | 5, _ | 6, _ | 7, _ | 8, _ | 9, _ | 10, _ | 11, _ => rfl

set_option maxRecDepth 100000 in
set_option maxHeartbeats 2000000 in
theorem few_seq (w : World) : SeqAtV Tryz.prog 46 #[] fewX (FewV w.heap.size) NoNeed TPlain (fun _ _ => True) 0 12 true w := by
 intro n l J J' Jx W _ hW _ hJ hJ' hJx _ hT _ hY h0
 have HT := Lib.hid hT
 have HY := Lib.hid hY
 have zW := hW.size
 clear hT hY
 refine callsIn_of_wp Tryz.func46 rfl trivial ?_ rfl
 simp only [Tryz.ntmps46, List.size_toArray, List.length_cons, List.length_nil, Nat.reduceAdd, Nat.reduceSub, Array.replicate_succ, Array.replicate_zero, List.push_toArray, List.append_toArray, List.nil_append, List.cons_append]
 gi_wp2
 gi_loopw [5] (fun i wr => ∃ t : Nat, t ≤ 12 ∧ i = .int .i64 (t : Int) ∧ J t wr ∧ W.heap.size ≤ wr.heap.size) (fun i _ => 12 - (intOf i).toNat)
 case atStart => exact ⟨0, by omega, rfl, h0, Nat.le_refl _⟩
 case round =>
  obtain ⟨t, ht, rfl, hj, hz⟩ := hrel
  by_cases hlt : t < 12
  · have hof := of_any (fewL.getD t 0) wr (few_lt hlt).2.1
    rw [(few_lt hlt).2.2] at hof
    have Hof := Lib.hid ((callsIn_wide (n := n - 1)).2 hof)
    clear hof
    have hix := few_at wr t hlt
    have HFv : Hid (∀ A c X, OB X wr.heap.size A c [fewL.getD t 0] → FewV w.heap.size t (A, c) X) := Lib.hid fun A c X h => h.mono (by omega)
    generalize hp : fewL.getD t 0 = p at *
    clear hp
    gi_wp2
    refine ⟨trivial, Hof.out.mono ?_⟩
    rintro e w1 ⟨A1, c1, rfl, hO1, hB1⟩
    have hj1 := HT.out t wr w1 ht hj ⟨hB1.os, hB1.tape, hB1.output, hB1.size, fun b hb _ => hB1.block b hb⟩
    have zw1 := hB1.size
    obtain ⟨fn, tmps, assign, body, hy, hRo⟩ := HY.out t _ w1 hj1 (HFv.out A1 c1 w1 hO1) hlt (by omega)
    simp only [List.length_cons, List.length_nil, Nat.zero_add]
    dsimp only [fewX] at hy
    gi_wp2
    refine hRo.mono ?_
    rintro e W3 (⟨rfl, hJ3, _, hz3⟩ | ⟨rfl, hJx3, _⟩)
    · have zW3 := hz3.size
      gi_wp2
      go_roundw
      case rel => exact ⟨t + 1, by omega, by go_num, hJ3, by omega⟩
      case measure => simp [intOf]; omega
    · gi_wp2
      refine bodyPost_ret (results_none rfl _ _ _) rfl ?_
      exact ⟨⟨_, rfl⟩, .inr ⟨t + 1, by omega, by omega, hJx3⟩⟩
  · obtain rfl : t = 12 := by omega
    have hjn := HT.out 12 _ _ (Nat.le_refl _) hj (World.grownBy.refl wr none)
    gi_wp2
    go_end0
    exact ⟨⟨_, rfl⟩, .inl hjn⟩
end Go.Proofs.YtlaphnlolgokiaaGreatDoor

namespace Go.Proofs.YtlaphnlolgokiaaGreatDoor
open Go.RowKit

attribute [local go_sem] Oper.semAt_some

theorem seqNil (w : World) (f : Fn) (a b : Array Value) : (binOp .eql 38 (.func f a b) .nilFunc).run Tryz.prog w = .ok (.bool false) w := by kernel_rfl
def fewTo (N k : Nat) : Bool := (List.range k).all fun i => strongB N (fewL.getD i 0)
theorem fewTo_succ (N k : Nat) : fewTo N (k + 1) = (fewTo N k && strongB N (fewL.getD k 0)) := by
 rw [fewTo, List.range_succ, List.all_append, List.all_cons, List.all_nil, Bool.and_true]; rfl
theorem fewTo_false {N k : Nat} (h : fewTo N k = false) : ∀ {m}, k ≤ m → fewTo N m = false
  | 0, hm => by obtain rfl : k = 0 := by omega
                exact h
  | m + 1, hm => by
    rcases Nat.lt_or_ge m k with h1 | h1
    · obtain rfl : k = m + 1 := by omega
      exact h
    · rw [fewTo_succ, fewTo_false h h1, Bool.false_and]

set_option maxRecDepth 100000 in
set_option maxHeartbeats 4000000 in
theorem prob_few (P : Nat → Prop) (A : Option Addr) (c : Nat) (a : List Nat) (N : Nat) (w : World) (h : RN w P A c a) (hP : ∀ b, P b → b < w.heap.size) (hN : val 18446744073709551616 a = N)
 (hodd : N % 2 = 1) (hgt : 1 < N) (hmay : nbits N ≤ 4096) (hla : a.length < 40000) :
 Calls Tryz.prog 19 #[.slice A a.length c, .func (.func 46) #[] #[]] w fun e w' => e = .returned (.bool (fewTo N 12)) ∧ Below w.heap.size w w' := by
 obtain ⟨s, hs⟩ : ∃ s, w.heap.size = s := ⟨_, rfl⟩
 have m0 := heap_alloc_new w (.cells #[.slice A a.length c] 23)
 have hB0 : Below w.heap.size w (w.alloc (.cells #[.slice A a.length c] 23)) := (Below.refl _ w).alloc (Nat.le_refl _) _
 have hz0 : (w.alloc (.cells #[.slice A a.length c] 23)).heap.size = s + 1 := by simp [hs]
 rw [hs] at m0 hB0 hP ⊢
 have hnil := fun w => seqNil w (.func 46) #[] #[]
 have Hmay := Lib.hid hmay
 have Hodd := Lib.hid hodd
 have Hgt := Lib.hid hgt
 clear hodd hgt hmay
 refine (callsIn_wide (n := 6)).1 ?_
 refine callsIn_of_wp_marks Tryz.func19 rfl trivial ?_ rfl
 simp only [Tryz.ntmps19, List.size_toArray, List.length_cons, List.length_nil, Nat.reduceAdd, Nat.reduceSub, Array.replicate_succ, Array.replicate_zero, List.push_toArray, List.append_toArray, List.nil_append, List.cons_append]
 have d0 := blk_cell m0 0
 simp only [List.getElem?_toArray, List.getElem?_cons_zero] at d0
 have hc := fun (V : World) (hV : RN V P A c a) (hs : ∀ b, P b → b < V.heap.size) => candidate_odd P A c a N V hV hs hN Hodd.out Hgt.out
 rw [decide_eq_true Hmay.out] at hc
 have Hc := Lib.hid hc
 have ha0 := h.below hB0 hP
 have hP0 : ∀ b, P b → b < (w.alloc (.cells #[.slice A a.length c] 23)).heap.size := fun b hb => by have := hP b hb; omega
 clear hc
 gi_wp2
 refine wpIn_wide.2 ?_
 go_step3
 generalize w.alloc (.cells #[.slice A a.length c] 23) = W0 at *
 go_wp2_with fail
 refine (Hc.out _ ha0 hP0).mono ?_
 rintro e' W1 ⟨rfl, hB1⟩
 rw [hz0] at hB1
 have hB01 := hB0.trans (hB1.mono (by omega))
 have zW1 := hB1.size
 obtain ⟨q, hq⟩ : ∃ q, W1.heap.size = q := ⟨_, rfl⟩
 have n0 := (hB1.block s (by omega)).trans m0
 have b1 := heap_alloc_new W1 (.cells #[.bool true] 4)
 have hB2 : Below q W1 (W1.alloc (.cells #[.bool true] 4)) := by rw [← hq]; exact (Below.refl _ W1).alloc (Nat.le_refl _) _
 have hz2 : (W1.alloc (.cells #[.bool true] 4)).heap.size = q + 1 := by simp [hq]
 rw [hq] at b1
 have n2 := (hB2.block s (by omega)).trans n0
 clear Hc d0 n0
 go_wp2
 go_step3
 go_wp2
 generalize W1.alloc (.cells #[.bool true] 4) = W2 at *
 have hBw2 := hB01.trans (hB2.mono (by omega))
 have zq : s + 1 ≤ q := by omega
 have Hq := Lib.hid hq
 have hseq := few_seq W2
 rw [hz2] at hseq
 have Hseq := Lib.hid hseq
 have ha := fun X (hX : Below s w X) => h.below hX hP
 have HPa : Hid (∀ X : World, Below s w X → ∀ b, P b → b < X.heap.size) := Lib.hid fun X hX b hb => by have := hP b hb; have := hX.size; omega
 clear hseq hB1 zW1 m0 ha0 hP0 hB0 hz0 hq hB2 hB01
 have hInv : ∀ v : Bool, OwnFrom W2.heap.size (fun (k : Nat) X => X.heap[q]? = some (.cells #[.bool v] 4 (0, 0)) ∧ Below q W2 X ∧ Hid (fewTo N k = v)) := by
  rintro v k X X' row ⟨h1, h2, h3⟩ hg' hr
  have hr' := fun r e => (hr r e).2
  exact ⟨(grownBy_keeps_cells hg' hr' h1 rfl).trans h1, ownFrom_below (by omega) (by omega) k X X' row h2 hg' hr, h3⟩
 have HInv := Lib.hid hInv
 clear hInv
 refine (wpIn_wide (n := 6)).1 ?_
 refine' wpIn_iterV (by omega) (gf := 46) (lb := #[]) rfl (enters_of Tryz.func46 (by kernel_rfl) rfl)
  Hseq.out (fun _ _ => trivial) (fun _ _ _ _ _ _ _ _ => trivial) tplain_keeps (Below.refl _ _) (fun _ _ => rfl) (fun k b X l o o' hv hl hc => ?hVp)
  (fun k X => X.heap[q]? = some (.cells #[.bool true] 4 (0, 0)) ∧ Below q W2 X ∧ Hid (fewTo N k = true)) (fun k X => X.heap[q]? = some (.cells #[.bool true] 4 (0, 0)) ∧ Below q W2 X ∧ Hid (fewTo N k = true))
  (fun cc k X => cc = .exit 0 ∧ X.heap[q]? = some (.cells #[.bool false] 4 (0, 0)) ∧ Below q W2 X ∧ Hid (fewTo N k = false))
  (HInv.out true) (HInv.out true) (fun cc => ?hIx) (fun _ _ _ _ => trivial) (fun B k A C _ _ hi ht => ?hIT) (fun h => by cases h) ⟨b1, Below.refl _ _, Lib.hid rfl⟩ _ ?assign ?body ?done ?stop
 case hVp => exact hv.same fun b o' ho hc' => (World.putObj_heap_other (fun e => by subst e; rw [hl] at ho; cases ho; rw [hc] at hc'; cases hc')).trans ho
 case hIx => exact fun k X X' row hi hg' hr => ⟨hi.1, HInv.out false k X X' row hi.2 hg' hr⟩
 case hIT => exact ownFrom_plain (HInv.out true) hi ht
 case assign =>
  intro l k b X K hK
  dsimp only [fewX]
  gi_wp2
  exact hK
 case body =>
  rintro l k ⟨A2, c2⟩ X ⟨h1, h2, h3⟩ hv hlt hm
  have zX := h2.size
  have hO2 : OB X (q + 1) A2 c2 [fewL.getD k 0] := hv
  have hbx := hBw2.trans (h2.mono (by omega))
  have d0 := blk_cell ((h2.block s (by omega)).trans n2) 0
  simp only [List.getElem?_toArray, List.getElem?_cons_zero] at d0
  have hcl := strong_fine P _ A A2 c c2 a _ N (fewL.getD k 0) X (ha X hbx) hO2.rn (HPa.out X hbx) (fun b hb => hb.2) hN (by simp) Hodd.out Hgt.out Hmay.out hla (by simp)
  have hsucc := fewTo_succ N k
  rw [h3.out, Bool.true_and] at hsucc
  rw [← hsucc] at hcl
  simp only [List.length_cons, List.length_nil, Nat.zero_add] at hcl
  have Hcl := Lib.hid hcl
  clear hcl hsucc h3 hO2 hv
  gi_wp2
  refine ⟨trivial, (callsIn_wide.2 Hcl.out).mono ?_⟩
  rintro e' X1 ⟨rfl, hB3⟩
  have y1 := (hB3.block q (blk_lt h1)).trans h1
  have y2 := blk_cell y1 0
  simp only [List.getElem?_toArray, List.getElem?_cons_zero] at y2
  have y3 := blk_free y1 0
  have hBx1 : Below q W2 X1 := h2.trans (hB3.mono (by omega))
  have hK1 : Keeps W2.heap.size (W2.heap.size + 2) 0 X X1 := Keeps.below hB3 (Nat.le_refl _)
  have hq4 : (X1.setCell ⟨q, 0, none⟩ (.bool false)).heap[q]? = some (.cells #[.bool false] 4 (0, 0)) := by simpa using blk_set y1 0 (.bool false)
  have hB4 : Below q W2 (X1.setCell ⟨q, 0, none⟩ (.bool false)) := hBx1.setCell (p := ⟨q, 0, none⟩) (Nat.le_refl _) _
  have hK4 : Keeps W2.heap.size (W2.heap.size + 2) 0 X (X1.setCell ⟨q, 0, none⟩ (.bool false)) := hK1.trans (Keeps.setCell _ _ _ _ (.inl (by show q < _; omega)) _)
  rcases hfk : fewTo N (k + 1) with _ | _
  · have Hfk := Lib.hid hfk
    have HK4 := Lib.hid hK4
    have HB4 := Lib.hid hB4
    have Hq4 := Lib.hid hq4
    clear hfk hK4 hB4 hq4 y1 h1
    gi_wp2
    exact ⟨HK4.out, rfl, Hq4.out, HB4.out, Hfk⟩
  · have Hfk := Lib.hid hfk
    have HK1 := Lib.hid hK1
    have HB1 := Lib.hid hBx1
    have Hy1 := Lib.hid y1
    clear hfk hK4 hB4 hq4 y1 h1 hK1 hBx1
    gi_wp2
    exact ⟨HK1.out, trivial, Hy1.out, HB1.out, Hfk⟩
 case done =>
  rintro D X hD ⟨h1, h2, h3⟩ hK
  have hz := h2.size
  have d2 := blk_cell h1 0
  simp only [List.getElem?_toArray, List.getElem?_cons_zero] at d2
  have hb : Below s w (X.putObj D (.deferred none)) := (hBw2.trans (h2.mono (by omega))).trans ⟨rfl, rfl, rfl, by simp, fun b hb => World.putObj_heap_other (by omega)⟩
  clear h1 h2
  gi_wp2
  go_wp2
  rw [Exit.noGoto_ret]
  exact ⟨by simp, .inl ⟨_, _, rfl, run_takeDeferred hK, _, results_tmp rfl _ _ _, by rw [h3.out]; rfl, hb⟩⟩
 case stop =>
  rintro D cc k X hD _ hk ⟨rfl, h1, h2, h3⟩ hK
  have hz := h2.size
  have d2 := blk_cell h1 0
  simp only [List.getElem?_toArray, List.getElem?_cons_zero] at d2
  have hb : Below s w (X.putObj D (.deferred none)) := (hBw2.trans (h2.mono (by omega))).trans ⟨rfl, rfl, rfl, by simp, fun b hb => World.putObj_heap_other (by omega)⟩
  have h4 := Lib.hid (fewTo_false h3.out hk)
  clear h1 h2 h3
  gi_wp2
  go_wp2
  rw [Exit.noGoto_ret]
  exact ⟨by simp, .inl ⟨_, _, rfl, run_takeDeferred hK, _, results_tmp rfl _ _ _, by rw [h4.out]; rfl, hb⟩⟩
end Go.Proofs.YtlaphnlolgokiaaGreatDoor

namespace Go.Proofs.YtlaphnlolgokiaaGreatDoor
open Go.RowKit

theorem few_call (w : World) : Calls Tryz.prog 20 #[] w fun e w' => e = .returned (.func (.func 46) #[] #[]) ∧ w = w' := by
 go_enter Tryz.func20, Tryz.ntmps20
 go_wp2
 go_ret
 exact ⟨rfl, rfl⟩

theorem dig_small {x : Nat} (h0 : 0 < x) (h : x < 18446744073709551616) : digs 18446744073709551616 x = [x] := by
 rw [digs_pos (by omega) (by omega), Nat.mod_eq_of_lt h, Nat.div_eq_of_lt h, digs_zero]

end Go.Proofs.YtlaphnlolgokiaaGreatDoor

namespace Go.Proofs.YtlaphnlolgokiaaGreatDoor
open Go.RowKit

attribute [local go_sem] Oper.semAt_some

def oddL : List Nat := [3, 5, 7, 11, 13, 17, 19, 23, 29, 31, 37, 41, 43, 47, 53]
def partedB (v : Nat) : Bool := oddL.any fun p => v % 16294579238595022365 % p == 0
theorem odd_lt {k : Nat} (h : k < 15) : 0 < oddL.getD k 0 ∧ oddL.getD k 0 < 100 := by
 match k, h with
 | 0, _ | 1, _ | 2, _ | 3, _ | 4, _ | 5, _ | 6, _ | 7, _ | 8, _ | 9, _ | 10, _ | 11, _ | 12, _ | 13, _ | 14, _ => decide
set_option maxRecDepth 100000 in
set_option maxHeartbeats 1000000 in
theorem odd_at (w : World) (t : Nat) (h : t < 15) : Sem.run Tryz.prog (Instr.index 111 (.agg #[.int .u64 3, .int .u64 5, .int .u64 7, .int .u64 11, .int .u64 13, .int .u64 17, .int .u64 19, .int .u64 23, .int .u64 29, .int .u64 31, .int .u64 37, .int .u64 41, .int .u64 43, .int .u64 47, .int .u64 53]) (.int .i64 (t : Int))) w = .ok (.int .u64 (oddL.getD t 0 : Int)) w := by
 match t, h with
 | 0, _ | 1, _ | 2, _ | 3, _ | 4, _ | 5, _ | 6, _ | 7, _ | 8, _ | 9, _ | 10, _ | 11, _ | 12, _ | 13, _ | 14, _ => rfl
def odds (r k : Nat) : Bool := (List.range k).all fun i => r % oddL.getD i 0 != 0
theorem odds_succ (r k : Nat) : odds r (k + 1) = (odds r k && r % oddL.getD k 0 != 0) := by
 rw [odds, List.range_succ, List.all_append, List.all_cons, List.all_nil, Bool.and_true]; rfl
theorem odds_all (r : Nat) : odds r 15 = !oddL.any fun p => r % p == 0 := by
 simp [odds, oddL, List.range_succ, bne]
theorem odds_hit {r k : Nat} (h : k < 15) (h0 : r % oddL.getD k 0 = 0) : (oddL.any fun p => r % p == 0) = true := by
 rw [List.any_eq_true]
 refine ⟨oddL.getD k 0, ?_, by rw [h0]; rfl⟩
 match k, h with
 | 0, _ | 1, _ | 2, _ | 3, _ | 4, _ | 5, _ | 6, _ | 7, _ | 8, _ | 9, _ | 10, _ | 11, _ | 12, _ | 13, _ | 14, _ => decide

set_option maxRecDepth 100000 in
set_option maxHeartbeats 4000000 in
theorem parted_one (P : Nat → Prop) (A : Option Addr) (c N : Nat) (w : World) (h : RN w P A c [N]) (hP : ∀ b, P b → b < w.heap.size) (h64 : 64 ≤ N) (hr : 0 < N % 16294579238595022365) (hN : N < 18446744073709551616) :
 Calls Tryz.prog 58 #[.slice A 1 c] w fun e w' => e = .returned (.bool (partedB N)) ∧ Below w.heap.size w w' := by
 have hb := bits_any P A c [N] w h
 have hv : val 18446744073709551616 [N] = N := by simp
 rw [hv] at hb
 have h7 : 7 ≤ nbits N := by
  rcases Nat.lt_or_ge (nbits N) 7 with h0 | h0
  · have h1 := (nbits_bounds (x := N) (by omega)).2.1
    have h2 : 2 ^ nbits N ≤ 2 ^ 6 := Nat.pow_le_pow_right (by decide) (by omega)
    omega
  · exact h0
 obtain ⟨nb, hnb⟩ : ∃ nb, nbits N = nb := ⟨_, rfl⟩
 rw [hnb] at hb h7
 have t1 : decide ((nb : Int) < 7) = false := decide_eq_false (by omega)
 have hof := of_any 16294579238595022365 w (by omega)
 rw [dig_small (by omega) (by omega)] at hof
 obtain ⟨r, hrr⟩ : ∃ r, N % 16294579238595022365 = r := ⟨_, rfl⟩
 have hrl : r < 18446744073709551616 := by omega
 have hre := fun (w1 : World) (A1 : Option Addr) (c1 : Nat) (hO : OB w1 w.heap.size A1 c1 [16294579238595022365]) (hB : Below w.heap.size w w1) => rest_any P _ A A1 c c1 [N] [16294579238595022365] w1 (h.below hB hP) hO.rn (fun b hb => by have := hP b hb; have := hB.size; omega) (fun b hb => hb.2) (by simp) (by simp) (by simp)
 simp only [hv, show val 18446744073709551616 [16294579238595022365] = 16294579238595022365 by simp, hrr, dig_small (x := r) (by omega) hrl, List.length_cons, List.length_nil, Nat.zero_add] at hre hof hb
 have hpb : partedB N = oddL.any fun p => r % p == 0 := by unfold partedB; rw [hrr]
 have Hpb := Lib.hid hpb
 have Hb := Lib.hid hb
 have Hof := Lib.hid hof
 have Hre := Lib.hid hre
 have Hr := Lib.hid (show 0 < r by omega)
 clear hb hof hre hrr hr hpb hv h64 hN h7 h hP hnb
 go_enter Tryz.func58, Tryz.ntmps58
 go_wp2_with fail
 refine Hb.out.mono ?_
 rintro e w' ⟨rfl, rfl⟩
 go_wp2_with fail
 refine Hof.out.mono ?_
 rintro e w1 ⟨A1, c1, rfl, hO1, hB1⟩
 have Hr1 := Lib.hid (Hre.out w1 A1 c1 hO1 hB1)
 have Hz := Lib.hid hB1
 clear hO1 hB1 Hre Hof Hb
 go_wp2_with fail
 refine Hr1.out.mono ?_
 rintro e w2 ⟨A2, c2, rfl, hO2, hB2⟩
 have HB2 := Lib.hid (Hz.out.trans (hB2.mono Hz.out.size))
 obtain ⟨g, rfl, hg, hR⟩ := hO2.row (by simp)
 have c0 := hR.cell (p := ⟨g, 0, none⟩) (f := 0) rfl (j := 0) (by simp)
 rw [show (⟨g, 0, none⟩ : Addr).add 0 = ⟨g, 0, none⟩ by rfl, show dg [r] (0 + 0) = r by rfl] at c0
 clear hO2 hB2 hg hR Hr1 Hz
 go_wp2_with fail
 clear c0 t1
 go_loopw [20] (fun iv wr => ∃ t : Nat, t ≤ 15 ∧ iv = .int .i64 (t : Int) ∧ Hid (odds r t = true) ∧ wr = w2) (fun iv _ => (15 - intOf iv).toNat)
 case atStart => exact ⟨0, by omega, rfl, Lib.hid rfl, rfl⟩
 case round =>
  obtain ⟨t, ht, rfl, hA, rfl⟩ := hrel
  by_cases hlt : t < 15
  · have hix := odd_at wr t hlt
    have hp := odd_lt hlt
    have hs := odds_succ r t
    have hh := fun h0 => odds_hit (r := r) hlt h0
    obtain ⟨p, hpp⟩ : ∃ p, oddL.getD t 0 = p := ⟨_, rfl⟩
    rw [hpp] at hix hp hs hh
    have Hs := Lib.hid hs
    have Hh := Lib.hid hh
    obtain ⟨q, hq⟩ : ∃ q, r % p = q := ⟨_, rfl⟩
    have hm : (r : Int) % (p : Int) = (q : Int) := by rw [← hq]; simp
    have hm2 : (r : Int).tmod (p : Int) = (q : Int) := by rw [← hq, Int.tmod_eq_emod_of_nonneg (by omega)]; simp
    have hp0 : ¬ (p : Int) = 0 := by have := hp.1; omega
    have Hq := Lib.hid hq
    have hl : (t : Int) < 15 := by omega
    clear hpp hs hh hq hp
    by_cases h0 : q = 0
    · have Hx := Lib.hid (Hh.out (by rw [Hq.out]; exact h0))
      subst h0
      rw [show ((0 : Nat) : Int) = 0 from rfl] at hm hm2
      go_wp2
      go_ret
      exact ⟨by rw [Hpb.out, Hx.out]; rfl, HB2.out⟩
    · have hn : ((q : Int) == 0) = false := by rw [beq_eq_false_iff_ne]; omega
      have Hx := Lib.hid (show odds r (t + 1) = true by rw [Hs.out, hA.out, Hq.out]; simpa using h0)
      have hn0 : ¬ (q : Int) = 0 := by omega
      go_wp2
      go_roundw
      case rel => exact ⟨t + 1, by omega, by go_num, Hx, trivial⟩
      case measure => simp [intOf]; omega
  · obtain rfl : t = 15 := by omega
    have hx : (oddL.any fun p => r % p == 0) = false := by have := odds_all r; rw [hA.out] at this; simpa using this.symm
    have Hx := Lib.hid hx
    clear hx
    go_wp2
    go_ret
    exact ⟨by rw [Hpb.out, Hx.out]; rfl, HB2.out⟩
end Go.Proofs.YtlaphnlolgokiaaGreatDoor

namespace Go.Proofs.YtlaphnlolgokiaaGreatDoor
open Go.RowKit

attribute [local go_sem] Oper.semAt_some

def okN (v : Nat) : Bool := !partedB v && (nbits (Nat.gcd (v - 1) 3) == 1) && fewTo v 12
set_option maxRecDepth 100000 in
set_option maxHeartbeats 4000000 in
theorem next_one (P P' : Nat → Prop) (A A' : Option Addr) (c c' x K : Nat) (w : World) (h : RN w P A c [x]) (h' : RN w P' A' c' [3]) (_hP : ∀ b, P b → b < w.heap.size) (hP' : ∀ b, P' b → b < w.heap.size)
    (hodd : x % 2 = 1) (hx : 64 ≤ x) (hK : x + 2 * K + 2 < 18446744073709551616) (hr : ∀ k, k ≤ K → 0 < (x + 2 * k) % 16294579238595022365) (hno : ∀ k, k < K → okN (x + 2 * k) = false) (hyes : okN (x + 2 * K) = true) (hor : bits .or .u64 (x : Int) 1 = (x : Int)) :
    Calls Tryz.prog 36 #[.slice A 1 c, .slice A' 1 c'] w fun e w' => ∃ A1 c1, e = .returned (.tuple #[.slice A1 1 c1, .bool true]) ∧ OB w' w.heap.size A1 c1 [x + 2 * K] ∧ Below w.heap.size w w' := by
  have hval : ∀ x : Nat, val 18446744073709551616 [x] = x := fun x => by simp
  have hd : ∀ x : Nat, 0 < x → x < 18446744073709551616 → digs 18446744073709551616 x = [x] := fun x h0 h1 => dig_small h0 h1
  have hnb : ∀ v : Nat, 64 ≤ v → v < 18446744073709551616 → 2 ≤ nbits v ∧ nbits v ≤ 64 := fun v h1 h2 => ⟨nbits_two (by omega), nbits_le (Nat.lt_of_lt_of_le h2 (by decide))⟩
  have hb := bits_any P A c [x] w h
  have hbt := bit_any P' A' c' [3] 0 w h' (by omega)
  have hn1 := norm_any P A c [x] w h
  rw [hval] at hb hn1 hbt
  rw [show bitOf 3 0 = 1 by decide] at hbt
  rw [hd x (by omega) (by omega)] at hn1
  simp only [List.length_cons, List.length_nil, Nat.zero_add] at hb hbt hn1
  obtain ⟨h2, h64⟩ := hnb x hx (by omega)
  have Hnb := Lib.hid hnb
  have Hd := Lib.hid hd
  have Hval := Lib.hid hval
  have hb1 := fun (w1 : World) (A1 : Option Addr) (c1 : Nat) (hO : OB w1 w.heap.size A1 c1 [x]) => bits_any _ A1 c1 [x] w1 hO.rn
  simp only [hval, List.length_cons, List.length_nil, Nat.zero_add] at hb1
  obtain ⟨nb, hnbx⟩ : ∃ n, nbits x = n := ⟨_, rfl⟩
  rw [hnbx] at hb h2 h64
  simp only [hnbx] at hb1
  have Hb := Lib.hid hb
  have Hbt := Lib.hid hbt
  have Hn1 := Lib.hid hn1
  have Hb1 := Lib.hid hb1
  have Hodd := Lib.hid hodd
  have Hx := Lib.hid hx
  have HK := Lib.hid hK
  have Hr := Lib.hid hr
  have Hno := Lib.hid hno
  have Hyes := Lib.hid hyes
  have Hh := Lib.hid h'
  have HP := Lib.hid hP'
  have l1 : ¬ (2048 : Int) < (nb : Int) := by omega
  have l2 : ¬ (nb : Int) < 2 := by omega
  clear hb hbt hn1 hb1 hval hd hnb hodd hx hK hr hno hyes h h' _hP hP' hnbx h2 h64
  go_enter Tryz.func36, Tryz.ntmps36
  go_wp2_with fail
  refine Hb.out.mono ?_
  rintro e w' ⟨rfl, rfl⟩
  go_wp2_with fail
  refine Hbt.out.mono ?_
  rintro e w' ⟨rfl, rfl⟩
  go_wp2_with fail
  refine Hn1.out.mono ?_
  rintro e w1 ⟨A1, c1, rfl, hO1, hB1⟩
  have Hb2 := Lib.hid (Hb1.out w1 A1 c1 hO1)
  clear Hb Hbt Hn1 Hb1
  obtain ⟨g, rfl, hg, hR⟩ := hO1.row (by simp)
  go_wp2_with fail
  refine Hb2.out.mono ?_
  rintro e w' ⟨rfl, rfl⟩
  have c0 := hR.cell (p := ⟨g, 0, none⟩) (f := 0) rfl (j := 0) (by simp)
  have f0 := hR.free (p := ⟨g, 0, none⟩) (f := 0) rfl 0
  have hRx := hR.set (p := ⟨g, 0, none⟩) (f := 0) rfl 0 x
  rw [show (⟨g, 0, none⟩ : Addr).add 0 = ⟨g, 0, none⟩ by rfl] at c0 f0 hRx
  rw [show dg [x] (0 + 0) = x by rfl] at c0
  rw [show ([x] : List Nat).set (0 + 0) x = [x] by rfl] at hRx
  have hB2 : Below w.heap.size w (w1.setCell ⟨g, 0, none⟩ (.int .u64 (x : Int))) := hB1.setCell (p := ⟨g, 0, none⟩) hg _
  obtain ⟨y1, y2, y3, y4⟩ := hO1
  have hO2 : OB (w1.setCell ⟨g, 0, none⟩ (.int .u64 (x : Int))) w.heap.size (some ⟨g, 0, none⟩) c1 [x] := hRx.ob hg ⟨by simp; have := HK.out; omega, by have := Hx.out; simp; try omega⟩ y2 y3
  have HO2 := Lib.hid hO2
  have HB2 := Lib.hid hB2
  clear hR hRx hO2 hB2 hB1 y1 y2 y3 y4 hg
  go_wp2_with fail
  generalize w1.setCell ⟨g, 0, none⟩ (.int .u64 (x : Int)) = w2 at *
  clear c0 f0 hor Hb2 l1 l2
  go_loopw [6] (fun pv wr => ∃ (A1 : Option Addr) (c1 k : Nat), pv = .slice A1 1 c1 ∧ k ≤ K ∧ Hid (OB wr w.heap.size A1 c1 [x + 2 * k]) ∧ Hid (Below w.heap.size w wr)) (fun pv wr => x + 2 * K - readLimbs wr pv)
  case atStart => exact ⟨_, c1, 0, rfl, Nat.zero_le _, HO2, HB2⟩
  case round =>
    clear HO2 HB2
    obtain ⟨A1, c1, k, rfl, hk, HO, HB⟩ := hrel
    obtain ⟨v, hv⟩ : ∃ v, x + 2 * k = v := ⟨_, rfl⟩
    have hr := Hr.out k hk
    have hno := fun hk => Hno.out k hk
    have hyes := fun hk : k = K => (show okN (x + 2 * k) = true by rw [hk]; exact Hyes.out)
    rw [hv] at hr hno hyes HO
    have hx := Hx.out
    have hK := HK.out
    have ho := Hodd.out
    have hv2 : v % 2 = 1 := by omega
    have hv64 : 64 ≤ v := by omega
    have hvl : v + 2 < 18446744073709551616 := by omega
    have hval := Hval.out
    have hd := Hd.out
    have zw := HB.out.size
    have hof := of_any 1 wr (by omega)
    rw [hd 1 (by omega) (by omega)] at hof
    have hsb := fun (w3 : World) (A3 : Option Addr) (c3 : Nat) (hO3 : OB w3 wr.heap.size A3 c3 [1]) (hB3 : Below wr.heap.size wr w3) => sub_yes _ _ A1 A3 c1 c3 [v] [1] w3 (HO.out.below hB3 (Nat.le_refl _)).rn hO3.rn (fun b hb => hb.2) (fun b hb => hb.2) (by simp) (by rw [hval, hval]; omega)
    simp only [hval, hd (v - 1) (by omega) (by omega), List.length_cons, List.length_nil, Nat.zero_add] at hof hsb
    have Hof := Lib.hid hof
    have Hsb := Lib.hid hsb
    have Hv := Lib.hid hv
    have Hrr := Lib.hid hr
    have Hn := Lib.hid hno
    have Hy := Lib.hid hyes
    have Hl := Lib.hid (And.intro hv2 (And.intro hv64 hvl))
    have Hkk := Lib.hid hk
    clear hof hsb hv hr hno hyes hx hK ho hv2 hv64 hvl hval hd hk
    go_wp2_with fail
    refine Hof.out.mono ?_
    rintro e w3 ⟨A3, c3, rfl, hO3, hB3⟩
    have Hsb3 := Lib.hid (Hsb.out w3 A3 c3 hO3 hB3)
    have zw3 := hB3.size
    clear Hsb Hof hO3
    go_wp2_with fail
    refine Hsb3.out.mono ?_
    rintro e w4 ⟨A4, c4, rfl, hO4, hB4⟩
    have hv2 := Hl.out.1
    have hv64 := Hl.out.2.1
    have hvl := Hl.out.2.2
    have hval := Hval.out
    have hd := Hd.out
    have HO1 := Lib.hid (((HO.out.below hB3 (Nat.le_refl _)).below hB4 (by omega)))
    have HB1 := Lib.hid ((HB.out.trans (hB3.mono zw)).trans (hB4.mono (by omega)))
    have hpt := parted_one _ A1 c1 v w4 HO1.out.rn (fun b hb => hb.2) hv64 Hrr.out (by omega)
    have hgc := fun (w5 : World) (hB5 : Below w4.heap.size w4 w5) => gcd_any _ P' A4 A' c4 c' [v - 1] [3] w5 (hO4.below hB5 (Nat.le_refl _)).rn (Hh.out.below (HB1.out.trans (hB5.mono (by have := hB4.size; omega))) HP.out) (fun b hb => hb.2) (fun b hb => by have := HP.out b hb; have := HB1.out.size; have := hB5.size; omega) (by simp) (by simp)
    simp only [hval] at hgc
    obtain ⟨G, hG⟩ : ∃ G, Nat.gcd (v - 1) 3 = G := ⟨_, rfl⟩
    have hG3 : 0 < G ∧ G ≤ 3 := by rw [← hG]; exact ⟨Nat.gcd_pos_of_pos_right _ (by omega), Nat.gcd_le_right _ (by omega)⟩
    simp only [hG, hd G hG3.1 (by omega), List.length_cons, List.length_nil, Nat.zero_add] at hgc
    have hok : okN v = (!partedB v && (nbits G == 1) && fewTo v 12) := by unfold okN; rw [hG]
    obtain ⟨pb, hpb⟩ : ∃ b, partedB v = b := ⟨_, rfl⟩
    obtain ⟨nG, hnG⟩ : ∃ n, nbits G = n := ⟨_, rfl⟩
    obtain ⟨fb, hfb⟩ : ∃ b, fewTo v 12 = b := ⟨_, rfl⟩
    rw [hpb, hnG, hfb] at hok
    rw [hpb] at hpt
    have hb5 := fun (w5 : World) (A5 : Option Addr) (c5 base : Nat) (hO : OB w5 base A5 c5 [G]) => bits_any _ A5 c5 [G] w5 hO.rn
    simp only [hval, hnG, List.length_cons, List.length_nil, Nat.zero_add] at hb5
    have hpr := fun (w5 : World) (base : Nat) (hO : OB w5 base A1 c1 [v]) => prob_few _ A1 c1 [v] v w5 hO.rn (fun b hb => hb.2) (hval v) hv2 (by omega) (by have := (Hnb.out v hv64 (by omega)).2; omega) (by simp)
    simp only [hfb, List.length_cons, List.length_nil, Nat.zero_add] at hpr
    have Hok := Lib.hid hok
    have Hpt := Lib.hid hpt
    have Hgc := Lib.hid hgc
    have Hb5 := Lib.hid hb5
    have Hpr := Lib.hid hpr
    have zw4 := hB4.size
    clear hpt hgc hb5 hpr hok hpb hnG hfb hG hG3 hv2 hv64 hvl hval hd hB3 hB4 hO4 Hsb3 HB
    go_wp2_with fail
    refine Hpt.out.mono ?_
    rintro e w5 ⟨rfl, hB5⟩
    replace HO1 := Lib.hid (HO1.out.below hB5 (by omega))
    replace HB1 := Lib.hid (HB1.out.trans (hB5.mono (by omega)))
    have zw5 := hB5.size
    have Hg5 := Lib.hid (Hgc.out w5 hB5)
    clear Hpt Hgc hB5
    cases pb with
    | true =>
      have Hf := Lib.hid (show okN v = false by rw [Hok.out]; rfl)
      clear Hok Hg5 Hb5 Hpr
      have hkK : k < K := by
        rcases Nat.lt_or_ge k K with h0 | h0
        · exact h0
        · have h1 := Hy.out (by have := Hkk.out; omega)
          rw [Hf.out] at h1
          cases h1
      have hof := of_any 2 w5 (by omega)
      rw [Hd.out 2 (by omega) (by omega)] at hof
      have had := fun (w8 : World) (A8 : Option Addr) (c8 : Nat) (hO8 : OB w8 w5.heap.size A8 c8 [2]) (hB8 : Below w5.heap.size w5 w8) => add_any _ _ A1 A8 c1 c8 [v] [2] w8 (HO1.out.below hB8 (by omega)).rn hO8.rn (fun b hb => hb.2) (fun b hb => hb.2) (by simp) (by simp)
      simp only [Hval.out, Hd.out (v + 2) (by omega) (by have := Hl.out; omega), List.length_cons, List.length_nil, Nat.zero_add] at hof had
      have Hof := Lib.hid hof
      have Had := Lib.hid had
      have Hk2 := Lib.hid hkK
      clear hof had hkK
      go_wp2_with fail
      refine Hof.out.mono ?_
      rintro e w8 ⟨A8, c8, rfl, hO8, hB8⟩
      have Had8 := Lib.hid (Had.out w8 A8 c8 hO8 hB8)
      have HB8 := Lib.hid (HB1.out.trans (hB8.mono (by omega)))
      have zw8 := hB8.size
      clear Hof Had hO8 hB8
      go_wp2_with fail
      refine Had8.out.mono ?_
      rintro e w9 ⟨A9, c9, rfl, hO9, hB9⟩
      have HO9 := Lib.hid (hO9.mono (base' := w.heap.size) (by omega))
      have HB9 := Lib.hid (HB8.out.trans (hB9.mono (by omega)))
      have hrd := HO9.out.rn.read
      have hrd0 := HO.out.rn.read
      rw [Hval.out] at hrd hrd0
      simp only [List.length_cons, List.length_nil, Nat.zero_add] at hrd hrd0
      have Hrd := Lib.hid hrd
      have Hrd0 := Lib.hid hrd0
      have He := Lib.hid (show x + 2 * (k + 1) = v + 2 by have := Hv.out; omega)
      clear hrd hrd0 hO9 hB9 Had8
      go_wp2
      go_roundw
      case rel => exact ⟨A9, c9, k + 1, rfl, Hk2.out, Lib.hid (by rw [He.out]; exact HO9.out), HB9⟩
      case measure => rw [Hrd.out, Hrd0.out]; have := Hv.out; have := Hk2.out; omega
    | false =>
    go_wp2_with fail
    refine Hg5.out.mono ?_
    rintro e w6 ⟨A6, c6, rfl, hO6, hB6⟩
    replace HO1 := Lib.hid (HO1.out.below hB6 (by omega))
    replace HB1 := Lib.hid (HB1.out.trans (hB6.mono (by omega)))
    have zw6 := hB6.size
    have Hb6 := Lib.hid (Hb5.out w6 A6 c6 _ hO6)
    clear Hg5 Hb5 hO6 hB6
    go_wp2_with fail
    refine Hb6.out.mono ?_
    rintro e w' ⟨rfl, rfl⟩
    clear Hb6
    by_cases hn1 : nG = 1
    rotate_left
    · have Hf := Lib.hid (show okN v = false by rw [Hok.out, beq_false_of_ne hn1]; rfl)
      have e1 : ((nG : Int) == 1) = false := by rw [beq_eq_false_iff_ne]; omega
      have e2 : ¬ (nG : Int) = 1 := by omega
      clear Hok Hpr hn1
      have hkK : k < K := by
        rcases Nat.lt_or_ge k K with h0 | h0
        · exact h0
        · have h1 := Hy.out (by have := Hkk.out; omega)
          rw [Hf.out] at h1
          cases h1
      have hof := of_any 2 w6 (by omega)
      rw [Hd.out 2 (by omega) (by omega)] at hof
      have had := fun (w8 : World) (A8 : Option Addr) (c8 : Nat) (hO8 : OB w8 w6.heap.size A8 c8 [2]) (hB8 : Below w6.heap.size w6 w8) => add_any _ _ A1 A8 c1 c8 [v] [2] w8 (HO1.out.below hB8 (by omega)).rn hO8.rn (fun b hb => hb.2) (fun b hb => hb.2) (by simp) (by simp)
      simp only [Hval.out, Hd.out (v + 2) (by omega) (by have := Hl.out; omega), List.length_cons, List.length_nil, Nat.zero_add] at hof had
      have Hof := Lib.hid hof
      have Had := Lib.hid had
      have Hk2 := Lib.hid hkK
      clear hof had hkK
      go_wp2_with fail
      refine Hof.out.mono ?_
      rintro e w8 ⟨A8, c8, rfl, hO8, hB8⟩
      have Had8 := Lib.hid (Had.out w8 A8 c8 hO8 hB8)
      have HB8 := Lib.hid (HB1.out.trans (hB8.mono (by omega)))
      have zw8 := hB8.size
      clear Hof Had hO8 hB8
      go_wp2_with fail
      refine Had8.out.mono ?_
      rintro e w9 ⟨A9, c9, rfl, hO9, hB9⟩
      have HO9 := Lib.hid (hO9.mono (base' := w.heap.size) (by omega))
      have HB9 := Lib.hid (HB8.out.trans (hB9.mono (by omega)))
      have hrd := HO9.out.rn.read
      have hrd0 := HO.out.rn.read
      rw [Hval.out] at hrd hrd0
      simp only [List.length_cons, List.length_nil, Nat.zero_add] at hrd hrd0
      have Hrd := Lib.hid hrd
      have Hrd0 := Lib.hid hrd0
      have He := Lib.hid (show x + 2 * (k + 1) = v + 2 by have := Hv.out; omega)
      clear hrd hrd0 hO9 hB9 Had8
      go_wp2
      go_roundw
      case rel => exact ⟨A9, c9, k + 1, rfl, Hk2.out, Lib.hid (by rw [He.out]; exact HO9.out), HB9⟩
      case measure => rw [Hrd.out, Hrd0.out]; have := Hv.out; have := Hk2.out; omega
    subst hn1
    have hfw := Lib.hid (few_call w6)
    have Hp6 := Lib.hid (Hpr.out w6 _ HO1.out)
    clear Hpr
    go_wp2_with fail
    refine hfw.out.mono ?_
    rintro e w' ⟨rfl, rfl⟩
    go_wp2_with fail
    refine Hp6.out.mono ?_
    rintro e w7 ⟨rfl, hB7⟩
    replace HO1 := Lib.hid (HO1.out.below hB7 (by omega))
    replace HB1 := Lib.hid (HB1.out.trans (hB7.mono (by omega)))
    have zw7 := hB7.size
    clear Hp6 hfw hB7
    cases fb with
    | false =>
      have Hf := Lib.hid (show okN v = false by rw [Hok.out]; rfl)
      clear Hok
      have hkK : k < K := by
        rcases Nat.lt_or_ge k K with h0 | h0
        · exact h0
        · have h1 := Hy.out (by have := Hkk.out; omega)
          rw [Hf.out] at h1
          cases h1
      have hof := of_any 2 w7 (by omega)
      rw [Hd.out 2 (by omega) (by omega)] at hof
      have had := fun (w8 : World) (A8 : Option Addr) (c8 : Nat) (hO8 : OB w8 w7.heap.size A8 c8 [2]) (hB8 : Below w7.heap.size w7 w8) => add_any _ _ A1 A8 c1 c8 [v] [2] w8 (HO1.out.below hB8 (by omega)).rn hO8.rn (fun b hb => hb.2) (fun b hb => hb.2) (by simp) (by simp)
      simp only [Hval.out, Hd.out (v + 2) (by omega) (by have := Hl.out; omega), List.length_cons, List.length_nil, Nat.zero_add] at hof had
      have Hof := Lib.hid hof
      have Had := Lib.hid had
      have Hk2 := Lib.hid hkK
      clear hof had hkK
      go_wp2_with fail
      refine Hof.out.mono ?_
      rintro e w8 ⟨A8, c8, rfl, hO8, hB8⟩
      have Had8 := Lib.hid (Had.out w8 A8 c8 hO8 hB8)
      have HB8 := Lib.hid (HB1.out.trans (hB8.mono (by omega)))
      have zw8 := hB8.size
      clear Hof Had hO8 hB8
      go_wp2_with fail
      refine Had8.out.mono ?_
      rintro e w9 ⟨A9, c9, rfl, hO9, hB9⟩
      have HO9 := Lib.hid (hO9.mono (base' := w.heap.size) (by omega))
      have HB9 := Lib.hid (HB8.out.trans (hB9.mono (by omega)))
      have hrd := HO9.out.rn.read
      have hrd0 := HO.out.rn.read
      rw [Hval.out] at hrd hrd0
      simp only [List.length_cons, List.length_nil, Nat.zero_add] at hrd hrd0
      have Hrd := Lib.hid hrd
      have Hrd0 := Lib.hid hrd0
      have He := Lib.hid (show x + 2 * (k + 1) = v + 2 by have := Hv.out; omega)
      clear hrd hrd0 hO9 hB9 Had8
      go_wp2
      go_roundw
      case rel => exact ⟨A9, c9, k + 1, rfl, Hk2.out, Lib.hid (by rw [He.out]; exact HO9.out), HB9⟩
      case measure => rw [Hrd.out, Hrd0.out]; have := Hv.out; have := Hk2.out; omega
    | true =>
    have hkK : k = K := by
      rcases Nat.lt_or_ge k K with h0 | h0
      · have h1 := Hn.out h0
        rw [Hok.out] at h1
        cases h1
      · have := Hkk.out; omega
    subst hkK
    go_wp2
    go_ret2
    exact ⟨A1, c1, rfl, by rw [Hv.out]; exact HO1.out, HB1.out⟩
end Go.Proofs.YtlaphnlolgokiaaGreatDoor

namespace Go.Proofs.YtlaphnlolgokiaaGreatDoor
namespace Pm

def Prime (p : Nat) : Prop := 2 ≤ p ∧ ∀ d, d ∣ p → d = 1 ∨ d = p

theorem Prime.two {p : Nat} (h : Prime p) : 2 ≤ p := h.1
theorem Prime.coprime {p a : Nat} (h : Prime p) (ha : ¬ p ∣ a) : Nat.gcd p a = 1 := by
 rcases h.2 _ (Nat.gcd_dvd_left p a) with h1 | h1
 · exact h1
 · exact absurd (h1 ▸ Nat.gcd_dvd_right p a) ha
theorem Prime.dvd_mul {p a b : Nat} (h : Prime p) (hd : p ∣ a * b) : p ∣ a ∨ p ∣ b := by
 rcases Nat.decEq (a % p) 0 with h0 | h0
 · exact Or.inr (Nat.Coprime.dvd_of_dvd_mul_left (h.coprime (fun hh => h0 (Nat.mod_eq_zero_of_dvd hh))) hd)
 · exact Or.inl (Nat.dvd_of_mod_eq_zero h0)

def ch : Nat → Nat → Nat
 | _, 0 => 1
 | 0, _ + 1 => 0
 | n + 1, k + 1 => ch n k + ch n (k + 1)
theorem ch_zero (n : Nat) : ch n 0 = 1 := by cases n <;> rfl
theorem ch_gt : ∀ {n k : Nat}, n < k → ch n k = 0
  | 0, k + 1, _ => rfl
  | n + 1, k + 1, h => by
    show ch n k + ch n (k + 1) = 0
    rw [ch_gt (by omega), ch_gt (by omega)]
theorem ch_self : ∀ n, ch n n = 1
  | 0 => rfl
  | n + 1 => by
    show ch n n + ch n (n + 1) = 1
    rw [ch_self n, ch_gt (by omega)]
theorem ch_mul : ∀ n k, (k + 1) * ch (n + 1) (k + 1) = (n + 1) * ch n k
  | 0, 0 => rfl
  | 0, k + 1 => by
    show (k + 1 + 1) * (ch 0 (k + 1) + ch 0 (k + 1 + 1)) = _
    rw [ch_gt (by omega), ch_gt (by omega)]
    simp
  | n + 1, 0 => by
    have := ch_mul n 0
    show 1 * (ch (n + 1) 0 + ch (n + 1) 1) = _
    rw [ch_zero] at *
    simp only [Nat.one_mul, Nat.mul_one] at *
    simp only [Nat.zero_add, Nat.one_mul] at this
    omega
  | n + 1, k + 1 => by
    have h1 := ch_mul n k
    have h2 := ch_mul n (k + 1)
    show (k + 1 + 1) * (ch (n + 1) (k + 1) + ch (n + 1) (k + 1 + 1)) = (n + 1 + 1) * ch (n + 1) (k + 1)
    have e : ch (n + 1) (k + 1) = ch n k + ch n (k + 1) := rfl
    rw [Nat.mul_add, h2, Nat.succ_mul (k + 1), h1, Nat.succ_mul (n + 1), e, Nat.mul_add]
    omega
def sm (f : Nat → Nat) : Nat → Nat
 | 0 => 0
 | n + 1 => sm f n + f n
theorem sm_add (f g : Nat → Nat) : ∀ n, sm (fun i => f i + g i) n = sm f n + sm g n
 | 0 => rfl
 | n + 1 => by simp only [sm]; rw [sm_add f g n]; omega
theorem sm_mul (f : Nat → Nat) (c : Nat) : ∀ n, sm (fun i => f i * c) n = sm f n * c
 | 0 => by simp [sm]
 | n + 1 => by simp only [sm]; rw [sm_mul f c n, Nat.add_mul]
theorem sm_head (f : Nat → Nat) : ∀ n, sm f (n + 1) = f 0 + sm (fun i => f (i + 1)) n
  | 0 => by simp [sm]
  | n + 1 => by
    have := sm_head f n
    simp only [sm] at *
    omega
theorem sm_congr {f g : Nat → Nat} : ∀ {n : Nat}, (∀ i, i < n → f i = g i) → sm f n = sm g n
 | 0, _ => rfl
 | n + 1, h => by simp only [sm]; rw [sm_congr (fun i hi => h i (by omega)), h n (by omega)]
theorem sm_dvd {f : Nat → Nat} {p : Nat} : ∀ {n : Nat}, (∀ i, i < n → p ∣ f i) → p ∣ sm f n
 | 0, _ => ⟨0, rfl⟩
 | n + 1, h => by simp only [sm]; exact Nat.dvd_add (sm_dvd (fun i hi => h i (by omega))) (h n (by omega))
theorem binom (a : Nat) : ∀ n, (a + 1) ^ n = sm (fun k => ch n k * a ^ k) (n + 1)
  | 0 => by simp [sm, ch]
  | n + 1 => by
    rw [Nat.pow_succ, binom a n, sm_head (fun k => ch (n + 1) k * a ^ k) (n + 1)]
    have e : sm (fun i => ch (n + 1) (i + 1) * a ^ (i + 1)) (n + 1) = sm (fun i => ch n i * a ^ i * a + ch n (i + 1) * a ^ (i + 1)) (n + 1) := by
      refine sm_congr (fun i _ => ?_)
      show (ch n i + ch n (i + 1)) * a ^ (i + 1) = _
      rw [Nat.add_mul, Nat.pow_succ a i, Nat.mul_assoc]
    rw [e, sm_add, sm_mul, Nat.mul_add, Nat.mul_one]
    have h2 := sm_head (fun k => ch n k * a ^ k) (n + 1)
    simp only [sm] at h2 ⊢
    rw [ch_gt (show n < n + 1 by omega)] at *
    rw [ch_zero] at *
    simp only [Nat.zero_mul, Nat.add_zero, Nat.pow_zero] at *
    omega
theorem ch_dvd {p k : Nat} (hp : Prime p) (h0 : 0 < k) (hk : k < p) : p ∣ ch p k := by
 obtain ⟨q, rfl⟩ : ∃ q, p = q + 1 := ⟨p - 1, by have := hp.two; omega⟩
 obtain ⟨j, rfl⟩ : ∃ j, k = j + 1 := ⟨k - 1, by omega⟩
 have h := ch_mul q j
 rcases hp.dvd_mul (a := j + 1) (b := ch (q + 1) (j + 1)) ⟨_, h⟩ with h1 | h1
 · exact absurd (Nat.le_of_dvd (by omega) h1) (by omega)
 · exact h1
theorem frob {p : Nat} (hp : Prime p) (a : Nat) : (a + 1) ^ p % p = (a ^ p + 1) % p := by
 obtain ⟨q, rfl⟩ : ∃ q, p = q + 1 := ⟨p - 1, by have := hp.two; omega⟩
 rw [binom a (q + 1), sm_head]
 show (ch (q + 1) 0 * a ^ 0 + (sm (fun i => ch (q + 1) (i + 1) * a ^ (i + 1)) q + ch (q + 1) (q + 1) * a ^ (q + 1))) % (q + 1) = _
 obtain ⟨m, hm⟩ := sm_dvd (f := fun i => ch (q + 1) (i + 1) * a ^ (i + 1)) (p := q + 1) (n := q) (fun i hi => Nat.dvd_trans (ch_dvd hp (by omega) (by omega)) (Nat.dvd_mul_right _ _))
 rw [hm, ch_zero, ch_self, Nat.pow_zero, Nat.one_mul, Nat.one_mul]
 have : 1 + ((q + 1) * m + a ^ (q + 1)) = a ^ (q + 1) + 1 + (q + 1) * m := by omega
 rw [this, Nat.add_mul_mod_self_left]
theorem fermat0 {p : Nat} (hp : Prime p) : ∀ a, a ^ p % p = a % p
 | 0 => by rw [Nat.zero_pow (by have := hp.two; omega)]
 | a + 1 => by rw [frob hp a, Nat.add_mod, fermat0 hp a, ← Nat.add_mod]
theorem mod_eq_dvd {p a b : Nat} (hle : b ≤ a) (h : a % p = b % p) : p ∣ a - b := by
 have h1 := Nat.div_add_mod a p
 have h2 := Nat.div_add_mod b p
 refine ⟨a / p - b / p, ?_⟩
 rw [Nat.mul_sub]
 omega
theorem dvd_mod_eq {p a b : Nat} (hle : b ≤ a) (h : p ∣ a - b) : a % p = b % p := by
 obtain ⟨k, hk⟩ := h
 have : a = b + p * k := by omega
 rw [this, Nat.add_mul_mod_self_left]
theorem fermat {p a : Nat} (hp : Prime p) (ha : ¬ p ∣ a) : a ^ (p - 1) % p = 1 := by
 have h2 := hp.two
 have hpos : 1 ≤ a ^ (p - 1) := Nat.pow_pos (by
  rcases Nat.eq_zero_or_pos a with h | h
  · exact absurd ⟨0, by omega⟩ ha
  · exact h)
 have h := fermat0 hp a
 have e : a ^ p = a * a ^ (p - 1) := by
  conv => lhs; rw [show p = p - 1 + 1 by omega]
  rw [Nat.pow_succ, Nat.mul_comm]
 have hd : p ∣ a * (a ^ (p - 1) - 1) := by
  rw [Nat.mul_sub, Nat.mul_one, ← e]
  refine mod_eq_dvd ?_ h
  rw [e]
  exact Nat.le_mul_of_pos_right _ hpos
 rcases hp.dvd_mul hd with h1 | h1
 · exact absurd h1 ha
 · have := dvd_mod_eq hpos h1
   rw [this, Nat.mod_eq_of_lt (by omega)]
def pw (m a : Nat) : Nat → Nat → Nat
 | 0, _ => 1 % m
 | k + 1, e => if e % 2 = 1 then pw m a k (e / 2) * pw m a k (e / 2) % m * a % m else pw m a k (e / 2) * pw m a k (e / 2) % m
theorem pw_eq {m a : Nat} : ∀ k e, e < 2 ^ k → pw m a k e = a ^ e % m
  | 0, e, h => by
    have : e = 0 := by omega
    subst this
    rfl
  | k + 1, e, h => by
    have hd : e / 2 < 2 ^ k := by rw [Nat.pow_succ] at h; omega
    have h1 := Nat.div_add_mod e 2
    simp only [pw]
    rw [pw_eq k (e / 2) hd]
    have sq : a ^ (e / 2) % m * (a ^ (e / 2) % m) % m = a ^ (2 * (e / 2)) % m := by
      rw [← Nat.mul_mod, ← Nat.pow_add]
      congr 2
      omega
    split
    · rename_i ho
      rw [sq, Nat.mod_mul_mod, ← Nat.pow_succ]
      congr 2
      omega
    · rw [sq]
      congr 2
      omega
theorem pow_gcd {r b : Nat} : ∀ (n q s : Nat), q + s ≤ n → b ^ q % r = 1 % r → b ^ s % r = 1 % r → b ^ Nat.gcd q s % r = 1 % r := by
  intro n
  induction n with
  | zero =>
    intro q s h _ hs
    have : q = 0 := by omega
    have : s = 0 := by omega
    subst q s
    rfl
  | succ n ih =>
    intro q s hn hq hs
    rcases Nat.eq_zero_or_pos q with rfl | h0
    · rw [Nat.gcd_zero_left]; exact hs
    rcases Nat.eq_zero_or_pos s with rfl | h1
    · rw [Nat.gcd_zero_right]; exact hq
    have sub : ∀ x y, x ≤ y → b ^ x % r = 1 % r → b ^ y % r = 1 % r → b ^ (y - x) % r = 1 % r := by
      intro x y hxy hx hy
      have : b ^ y = b ^ x * b ^ (y - x) := by rw [← Nat.pow_add]; congr 1; omega
      rw [this, Nat.mul_mod, hx, ← Nat.mul_mod, Nat.one_mul] at hy
      exact hy
    rcases Nat.le_total q s with hle | hle
    · have := ih q (s - q) (by omega) hq (sub q s hle hq hs)
      rwa [Nat.gcd_sub_self_right hle] at this
    · have := ih (q - s) s (by omega) (sub s q hle hs hq) hs
      rwa [Nat.gcd_sub_self_left hle] at this
theorem part {n q a r : Nat} (hn : 2 ≤ n) (hq : Prime q) (hr : Prime r) (hrn : r ∣ n) (hqn : q ∣ n - 1) (h1 : a ^ (n - 1) % n = 1) (h2 : Nat.gcd (a ^ ((n - 1) / q) % n + (n - 1)) n = 1) : q ∣ r - 1 := by
 have hr2 := hr.two
 refine Classical.byContradiction fun hno => ?_
 have hg := hq.coprime hno
 obtain ⟨m, hm⟩ := hqn
 have hm' : (n - 1) / q = m := by rw [hm]; exact Nat.mul_div_cancel_left _ (by have := hq.two; omega)
 rw [hm'] at h2
 obtain ⟨c, hc⟩ := hrn
 have h1r : a ^ (n - 1) % r = 1 % r := by
  have h : a ^ (n - 1) % n % r = 1 % r := by rw [h1]
  rwa [show a ^ (n - 1) % n % r = a ^ (n - 1) % r by rw [hc, Nat.mod_mul_right_mod]] at h
 have hbq : (a ^ m) ^ q % r = 1 % r := by rw [← Nat.pow_mul, Nat.mul_comm, ← hm]; exact h1r
 have hra : ¬ r ∣ a ^ m := by
  intro hd
  have : r ∣ (a ^ m) ^ q := by
   obtain ⟨t, rfl⟩ : ∃ t, q = t + 1 := ⟨q - 1, by have := hq.two; omega⟩
   exact Nat.dvd_trans hd (Nat.dvd_mul_left _ _)
  rw [Nat.mod_eq_zero_of_dvd this, Nat.mod_eq_of_lt (by omega)] at hbq
  omega
 have hf := fermat hr hra
 have hb := pow_gcd _ q (r - 1) (Nat.le_refl _) hbq (by rw [hf]; exact (Nat.mod_eq_of_lt (by omega)).symm)
 rw [hg, Nat.pow_one] at hb
 have hd : r ∣ a ^ m % n + (n - 1) := by
  refine Nat.dvd_of_mod_eq_zero ?_
  rw [Nat.add_mod, show a ^ m % n % r = 1 % r by rw [hc, Nat.mod_mul_right_mod]; exact hb, ← Nat.add_mod, show 1 + (n - 1) = n by omega, hc]
  exact Nat.mul_mod_right r c
 have := Nat.dvd_gcd hd ⟨c, hc⟩
 rw [h2] at this
 have := Nat.le_of_dvd (by omega) this
 omega
end Pm
end Go.Proofs.YtlaphnlolgokiaaGreatDoor

namespace Go.Proofs.YtlaphnlolgokiaaGreatDoor
open Sha

theorem first8 : (douts (news []).1 (news []).2 1).take 8 = [180, 66, 153, 144, 126, 78, 66, 170] := by decide +kernel
theorem num8 : numOf [244, 66, 153, 144, 126, 78, 66, 171] = 17600799139590718123 := by decide +kernel
theorem any_range_congr {f g : Nat → Bool} {n : Nat} (h : ∀ k, k < n → f k = g k) : (List.range n).any f = (List.range n).any g := by
 rw [Bool.eq_iff_iff, List.any_eq_true, List.any_eq_true]
 constructor
 · rintro ⟨k, hk, e⟩; exact ⟨k, hk, by rw [← h k (List.mem_range.1 hk)]; exact e⟩
 · rintro ⟨k, hk, e⟩; exact ⟨k, hk, by rw [h k (List.mem_range.1 hk)]; exact e⟩
theorem twos_eq {x s d : Nat} (h : x = 2 ^ s * d) (hd : d % 2 = 1) : twos x = s := by
 have hp : 0 < 2 ^ s := Nat.pow_pos (by decide)
 have hx : 0 < x := by rw [h]; exact Nat.mul_pos hp (by omega)
 rcases Nat.lt_trichotomy (twos x) s with h1 | h1 | h1
 · exfalso
   have h2 := twos_top hx
   obtain ⟨j, hj⟩ : ∃ j, s = twos x + 1 + j := ⟨s - twos x - 1, by omega⟩
   generalize twos x = t at *
   subst hj
   rw [h, show 2 ^ (t + 1 + j) * d = 2 ^ t * (2 * (2 ^ j * d)) by rw [Nat.pow_add, Nat.pow_succ]; simp only [Nat.mul_assoc], Nat.mul_div_cancel_left _ (Nat.pow_pos (by decide)), Nat.mul_mod_right] at h2
   omega
 · exact h1
 · exfalso
   have h2 := twos_low h1
   rw [h, Nat.mul_div_cancel_left _ hp] at h2
   omega
def strongF (N s d W : Nat) : Bool := (List.range s).any fun k => decide (Pm.pw N W 64 (d * 2 ^ k) = N - 1) || (decide (k = 0) && decide (Pm.pw N W 64 (d * 2 ^ k) = 1))
theorem strong_eq {N s d W : Nat} (h : N - 1 = 2 ^ s * d) (hd : d % 2 = 1) (hN : N % 2 = 1) (h1 : 1 < N) (hb : N < 18446744073709551616) (hW : 0 < W ∧ W < N) : strongB N W = strongF N s d W := by
 have hp : 0 < 2 ^ s := Nat.pow_pos (by decide)
 have hm : W % N = W := Nat.mod_eq_of_lt hW.2
 have hn : nbits N ≤ 4096 := Nat.le_trans (nbits_le (k := 64) (Nat.lt_of_lt_of_le hb (by decide))) (by omega)
 rw [strong_odd hN h1 hn, if_neg (by rw [hm]; omega), twos_eq h hd]
 unfold strongF
 refine any_range_congr fun k hk => ?_
 have e : lookAt N W k = Pm.pw N W 64 (d * 2 ^ k) := by
  unfold lookAt
  rw [twos_eq h hd, hm, h, Nat.mul_div_cancel_left _ hp, Pm.pw_eq 64]
  have h3 : 2 ^ k * 2 ≤ 2 ^ s := by rw [← Nat.pow_succ]; exact Nat.pow_le_pow_right (by decide) hk
  have h4 : d * 2 ^ k ≤ 2 ^ s * d := by rw [Nat.mul_comm (2 ^ s)]; exact Nat.mul_le_mul_left _ (by omega)
  exact Nat.lt_of_le_of_lt h4 (by rw [← h]; exact Nat.lt_of_le_of_lt (Nat.sub_le _ _) (Nat.lt_of_lt_of_le hb (by decide)))
 unfold lookYes
 rw [e]
theorem few_eq {N s d : Nat} (h : N - 1 = 2 ^ s * d) (hd : d % 2 = 1) (hN : N % 2 = 1) (h1 : 100 < N) (hb : N < 18446744073709551616) : ∀ {m : Nat}, m ≤ 12 → fewTo N m = (List.range m).all fun i => strongF N s d (fewL.getD i 0)
  | 0, _ => rfl
  | m + 1, hm => by
    have hw : 0 < fewL.getD m 0 ∧ fewL.getD m 0 < 100 := by
      match m, hm with
      | 0, _ | 1, _ | 2, _ | 3, _ | 4, _ | 5, _ | 6, _ | 7, _ | 8, _ | 9, _ | 10, _ | 11, _ => decide
    rw [fewTo_succ, List.range_succ, List.all_append, List.all_cons, List.all_nil, Bool.and_true, few_eq h hd hN h1 hb (Nat.le_of_succ_le hm), strong_eq h hd hN (by omega) hb ⟨hw.1, by omega⟩]
theorem ok_few {v : Nat} (h : fewTo v 1 = false) : okN v = false := by unfold okN; rw [fewTo_false h (by decide), Bool.and_false]
theorem ok_part {v : Nat} (h : (!partedB v && (nbits (Nat.gcd (v - 1) 3) == 1)) = false) : okN v = false := by unfold okN; rw [h, Bool.false_and]
theorem prime_no : ∀ k, k < 23 → okN (17600799139590718123 + 2 * k) = false := fun k hk => by
 by_cases h2 : k = 2
 · subst h2
   refine ok_few ?_
   rw [few_eq (s := 1) (d := 8800399569795359063) (by decide +kernel) (by decide) (by decide +kernel) (by decide +kernel) (by decide +kernel) (by decide)]
   decide +kernel
 by_cases h5 : k = 5
 · subst h5
   refine ok_few ?_
   rw [few_eq (s := 2) (d := 4400199784897679533) (by decide +kernel) (by decide) (by decide +kernel) (by decide +kernel) (by decide +kernel) (by decide)]
   decide +kernel
 refine ok_part ?_
 have h : ((List.range 23).all fun k => decide (k = 2) || decide (k = 5) || !(!partedB (17600799139590718123 + 2 * k) && (nbits (Nat.gcd (17600799139590718123 + 2 * k - 1) 3) == 1))) = true := by decide +kernel
 have h1 := List.all_eq_true.1 h k (List.mem_range.2 hk)
 rw [decide_eq_false h2, decide_eq_false h5, Bool.false_or, Bool.false_or, Bool.not_eq_true'] at h1
 exact h1
theorem prime_yes : okN (17600799139590718123 + 2 * 23) = true := by
 unfold okN
 rw [few_eq (s := 3) (d := 2200099892448839771) (by decide +kernel) (by decide) (by decide +kernel) (by decide +kernel) (by decide +kernel) (by decide)]
 decide +kernel
theorem prime_part : ∀ k, k ≤ 23 → 0 < (17600799139590718123 + 2 * k) % 16294579238595022365 := fun k hk => by omega
end Go.Proofs.YtlaphnlolgokiaaGreatDoor

namespace Go.Proofs.YtlaphnlolgokiaaGreatDoor
open Go.RowKit Go.Shelf
open Sha

attribute [local go_sem] Oper.semAt_some

theorem RB.setB {w : World} {P : Nat → Prop} {g c i x : Nat} {bs : List Nat} {cs : Array Value} (h : RB w P (some ⟨g, 0, none⟩) c bs) (hg : w.heap[g]? = some (.cells cs 5 (0, 0))) (hi : i < bs.length) (hx : x < 256) :
 RB (w.setCell ⟨g, i, none⟩ (.int .u8 (x : Int))) P (some ⟨g, 0, none⟩) c (bs.set i x) ∧ (w.setCell ⟨g, i, none⟩ (.int .u8 (x : Int))).heap[g]? = some (.cells (cs.setIfInBounds i (.int .u8 (x : Int))) 5 (0, 0)) := by
 have hs := blk_set hg i (.int .u8 (x : Int))
 obtain ⟨⟨h1, h2, h3, h4⟩, h5, h6⟩ := h
 obtain ⟨ad, e, hP, hc⟩ := h4 (by omega)
 cases e
 have hcell : ∀ j u, (bys bs)[j]? = some u → cs[j]? = some u := fun j u hu => by
  have := hc j u hu
  rwa [add_blk, blk_cell hg] at this
 have hlen : (bys bs).length = bs.length := by simp [bys]
 refine ⟨⟨⟨by simpa using h1, h2, by simp [bys], fun _ => ⟨_, rfl, hP, fun j u hu => ?_⟩⟩, fun b hb => ?_, by simpa using h6⟩, hs⟩
 · rw [add_blk, blk_cell hs]
   simp only [bys, List.getElem?_map, List.getElem?_set] at hu
   by_cases hij : i = j
   · subst hij
     rw [if_pos rfl, if_pos hi] at hu
     simp only [Option.map_some, Option.some.injEq] at hu
     have := hcell i (.int .u8 (bs[i] : Int)) (by simp [bys, List.getElem?_eq_getElem hi])
     obtain ⟨hlt, _⟩ := Array.getElem?_eq_some_iff.1 this
     rw [Array.getElem?_setIfInBounds_self_of_lt hlt, hu]
   · rw [if_neg hij] at hu
     rw [Array.getElem?_setIfInBounds_ne hij]
     exact hcell j u (by simpa [bys] using hu)
 · rcases List.mem_or_eq_of_mem_set hb with hb | rfl
   · exact h5 b hb
   · exact hx

theorem exponent_three {P : Nat → Prop} {A : Option Addr} {c : Nat} (w : World) (h : RN w P A c [3]) : Calls Tryz.prog 34 #[.slice A 1 c] w fun e w' => e = .returned (.bool true) ∧ w' = w := by
 have hb := bits_any P A c [3] w h
 have hbt := bit_any P A c [3] 0 w h (by omega)
 rw [show val 18446744073709551616 [3] = 3 by simp] at hb hbt
 rw [show bitOf 3 0 = 1 by decide] at hbt
 rw [show nbits 3 = 2 by decide] at hb
 simp only [List.length_cons, List.length_nil, Nat.zero_add] at hb hbt
 have Hb := Lib.hid hb
 have Hbt := Lib.hid hbt
 clear hb hbt
 go_enter Tryz.func34, Tryz.ntmps34
 go_wp2_with fail
 refine Hbt.out.mono ?_
 rintro e w' ⟨rfl, rfl⟩
 go_wp2_with fail
 refine Hb.out.mono ?_
 rintro e w' ⟨rfl, rfl⟩
 go_wp2
 go_ret
 exact ⟨rfl, rfl⟩

theorem cell_lt {w : World} {b o : Nat} {v : Value} (h : w.cell? ⟨b, o, none⟩ = some v) : b < w.heap.size := by
 unfold World.cell? at h
 split at h
 · rename_i cs T fr hc
   exact blk_lt hc
 all_goals cases h
def NdP (pb pe pd D : Nat) (k : Nat) (W : World) : Prop := (∃ cs, W.heap[D]? = some (.cells cs 68 (0, 0))) ∧ (k = 0 → (pb ≠ D ∧ pe ≠ D) ∧ KW W ∧ DR W D (news []).1 (news []).2 0 ∧ W.cell? ⟨pb, 0, none⟩ = some (.int .i64 64) ∧ (∃ A c, W.cell? ⟨pe, 0, none⟩ = some (.slice A 1 c) ∧ RN W (fun b => b < W.heap.size ∧ b ≠ D) A c [3]) ∧ W.cell? ⟨pd, 0, none⟩ = some (.pointer (some ⟨D, 0, none⟩)))
def TP (D : Nat) (_B _k : Nat) (W W' : World) : Prop := Fr D W.heap.size W W' ∧ ∃ cs, W.heap[D]? = some (.cells cs 68 (0, 0))
theorem tp_keeps (D : Nat) : ∀ B j W1 W2, TP D B j W1 W2 → W1.heap.size ≤ W2.heap.size ∧ ∀ (b : Nat) (o : Obj), b < B → W1.heap[b]? = some o → o.isCells = false → W2.heap[b]? = some o := fun _ _ _ _ h => ⟨h.1.size, fun b o _ ho hc => h.1.at_ (blk_lt ho) (fun e => by
 obtain ⟨_, cs, h1⟩ := h
 rw [e, h1] at ho
 cases ho
 exact absurd hc (by simp [Obj.isCells])) ho⟩
set_option maxRecDepth 100000 in
set_option maxHeartbeats 4000000 in
theorem primes_seq (pb pe pd D : Nat) (w : World) :
 SeqAtV Tryz.prog 33 #[.pointer (some ⟨pb, 0, none⟩), .pointer (some ⟨pe, 0, none⟩), .pointer (some ⟨pd, 0, none⟩)] (fun _ (b : Option Addr × Nat) => #[.slice b.1 1 b.2]) (fun _ _ _ => True) (NdP pb pe pd D) (TP D) (fun _ _ => True) 0 1 false w := by
 intro n l J J' Jx W hn hW _ _ _ _ hNd hT hfin hY h0
 obtain ⟨hD0, hN0⟩ := hNd 0 W (by omega) h0
 obtain ⟨⟨npb, npe⟩, hk, hd, cb, ⟨Ae, ce, cE, hr⟩, cd⟩ := hN0 rfl
 have HNp := Lib.hid (And.intro npb npe)
 have HND := Lib.hid (fun W1 (h : J 1 W1) => (hNd 1 W1 (by omega) h).1)
 have HT := Lib.hid hT
 have HY := Lib.hid hY
 have HF := Lib.hid hfin
 have HD0 := Lib.hid hD0
 have HJ := Lib.hid h0
 have Hx := Lib.hid (exponent_three W hr)
 have HR := Lib.hid hr
 have HK := Lib.hid hk
 have HDr := Lib.hid hd
 have HB := Lib.hid (dbytes_own (m := 8) W hk hd (by omega) (by omega) (by omega) (by omega))
 clear hNd hT hY hfin hW hD0 hN0 hr hk hd h0 npb npe
 refine callsIn_of_wp Tryz.func33 rfl trivial ?_ rfl
 simp only [Tryz.ntmps33, List.size_toArray, List.length_cons, List.length_nil, Nat.reduceAdd, Nat.reduceSub, Array.replicate_succ, Array.replicate_zero, List.push_toArray, List.append_toArray, List.nil_append, List.cons_append]
 refine wpIn_wide.2 ?_
 go_step3
 go_wp2_with fail
 refine Hx.out.mono ?_
 rintro e w' ⟨rfl, rfl⟩
 go_wp2_with fail
 go_step3
 go_wp2_with fail
 go_loopw [5] (fun _ wr => wr = w') (fun _ _ => 0)
 case atStart => rfl
 case round =>
  obtain rfl := hrel
  go_wp2_with fail
  refine HB.out.mono ?_
  rintro e w1 ⟨A, c, rfl, hr1, hd1, hf1, g, cs, rfl, hg⟩
  rw [show (8 + 31) / 32 = 1 from rfl, first8] at hr1
  obtain ⟨h1, hg1⟩ := hr1.setB hg (i := 0) (x := 244) (by decide) (by decide)
  obtain ⟨h2, hg2⟩ := h1.setB hg1 (i := 7) (x := 171) (by decide) (by decide)
  rw [show (([180, 66, 153, 144, 126, 78, 66, 170] : List Nat).set 0 244).set 7 171 = [244, 66, 153, 144, 126, 78, 66, 171] from rfl] at h2
  obtain ⟨ad, e1, c0, -⟩ := hr1.dg (i := 0) (by decide)
  cases e1
  obtain ⟨ad, e1, c7, -⟩ := h1.dg (i := 7) (by decide)
  cases e1
  have f0 := blk_free hg 0
  have f7 := blk_free hg1 7
  rw [add_blk] at c0 c7
  have b0 : bits .or .u8 180 192 = 244 := by decide
  have b7 : bits .or .u8 170 1 = 171 := by decide
  replace c0 : w1.cell? ⟨g, 0, none⟩ = some (.int .u8 180) := c0
  replace c7 : (w1.setCell ⟨g, 0, none⟩ (.int .u8 244)).cell? ⟨g, 7, none⟩ = some (.int .u8 170) := c7
  replace f7 : (w1.setCell ⟨g, 0, none⟩ (.int .u8 244)).frozen? ⟨g, 7, none⟩ = false := f7
  replace h2 : RB ((w1.setCell ⟨g, 0, none⟩ (.int .u8 244)).setCell ⟨g, 7, none⟩ (.int .u8 171)) (In wr.heap.size w1.heap.size) (some ⟨g, 0, none⟩) c [244, 66, 153, 144, 126, 78, 66, 171] := h2
  have hgD : w1.heap.size ≤ g ∨ wr.heap.size ≤ g := by
   obtain ⟨ad, e, hin, _⟩ := hr1.1.2.2.2 (by decide)
   cases e
   exact .inr hin.1
  have HDc := Lib.hid hd1
  have HF1 := Lib.hid (show Fr D wr.heap.size wr ((w1.setCell ⟨g, 0, none⟩ (.int .u8 244)).setCell ⟨g, 7, none⟩ (.int .u8 171)) from hf1.trans ((Fr.justTo (((Just.refl g w1).set 0 (.int .u8 244)).set 7 (.int .u8 171)) (by have := hf1.size; omega) hf1.size)))
  clear hr1 h1 hg1 hg2 hg hd1 hf1 hgD HB Hx
  go_upto_region 3 with fail
  clear c0 f0
  obtain ⟨X1, hX1⟩ : ∃ X, w1.setCell ⟨g, 0, none⟩ (.int .u8 244) = X := ⟨_, rfl⟩
  rw [hX1] at c7 f7 h2 HF1 ⊢
  go_upto_region 4 with fail
  clear c7 f7
  obtain ⟨X2, hX2⟩ : ∃ X, X1.setCell ⟨g, 7, none⟩ (.int .u8 171) = X := ⟨_, rfl⟩
  rw [hX2] at h2 HF1 ⊢
  have zw := HF1.out.size
  have hz2 : wr.heap.size ≤ X2.heap.size := zw
  have cE2 : X2.cell? ⟨pe, 0, none⟩ = some (.slice Ae 1 ce) := (World.cell?_of_block (HF1.out.block pe (cell_lt cE) HNp.out.2)).trans cE
  have cb2 : X2.cell? ⟨pb, 0, none⟩ = some (.int .i64 64) := (World.cell?_of_block (HF1.out.block pb (cell_lt cb) HNp.out.1)).trans cb
  have hr2 : RN X2 (fun b => b < X2.heap.size) Ae ce [3] := (HR.out.keep (fun q hq => World.cell?_of_block (HF1.out.block q.block hq.1 hq.2))).mono fun b hb => Nat.lt_of_lt_of_le hb.1 zw
  have HFB := Lib.hid (fun X (hX : Ext X2 X) => by
   have h := fromBytes_any _ (some ⟨g, 0, none⟩) c [244, 66, 153, 144, 126, 78, 66, 171] X (h2.below hX (fun b hb => by have := hb.2; rw [← hX2, ← hX1]; simpa [World.setCell] using this)) (fun b hb => by have := hb.2; have := hX.bsize; rw [← hX2, ← hX1] at this; simp [World.setCell] at this; omega) (by decide)
   rw [num8, dig_small (by omega) (by omega)] at h
   simp only [List.length_cons, List.length_nil, Nat.zero_add] at h
   exact h)
  have HNx := Lib.hid (fun X Y (hX : Ext X2 X) (A3 : Option Addr) (c3 : Nat) (hO : OB X Y A3 c3 [17600799139590718123]) => next_one _ _ A3 Ae c3 ce 17600799139590718123 23 X hO.rn (hr2.below hX (fun b hb => hb)) (fun b hb => hb.2) (fun b hb => Nat.lt_of_lt_of_le hb hX.bsize) (by decide) (by decide) (by decide) prime_part prime_no prime_yes (by decide +kernel))
  have HC := Lib.hid (fun X (hX : Ext X2 X) => And.intro (hX.cell cE2) (hX.cell cb2))
  have hn64 : nbits (17600799139590718123 + 2 * 23) = 64 := nbits_eq (k := 63) (by decide) (by decide)
  have HBt := Lib.hid (fun X (Q : Nat → Prop) (A4 : Option Addr) (c4 : Nat) (hO : RN X Q A4 c4 [17600799139590718123 + 2 * 23]) => by
   have h := bits_any _ A4 c4 _ X hO
   rw [show val 18446744073709551616 [17600799139590718123 + 2 * 23] = 17600799139590718123 + 2 * 23 by simp, hn64] at h
   simp only [List.length_cons, List.length_nil, Nat.zero_add] at h
   exact h)
  clear h2 cb cE cd hr2 hn64 b0 b7 hX1 hX2 HR
  go_cut [6, 7] (fun s6 s7 wx => ∃ (A : Option Addr) (c : Nat), s6 = .slice A 1 c ∧ s7 = .bool true ∧ Hid (RN wx (fun b => b < wx.heap.size) A c [17600799139590718123 + 2 * 23]) ∧ Hid (Ext X2 wx))
  case first =>
   go_region_with (first
    | (go_at_call 37; refine (HFB.out _ (by first | exact Ext.refl _ | exact Ext.drew _ | exact Ext.drewN _ _)).mono ?_; rintro e X3 ⟨A3, c3, rfl, hO3, hB3⟩; have hE3 : Ext X2 X3 := ⟨hB3.os, hB3.tape, hB3.output, hB3.size, hB3.block⟩; have cE3 := hE3.cell cE2; have HN3 := Lib.hid (HNx.out X3 _ hE3 A3 c3 hO3))
    | (go_at_call 36; refine HN3.out.mono ?_; rintro e X4 ⟨A4, c4, rfl, hO4, hB4⟩; have hE4 : Ext X2 X4 := hE3.trans ⟨hB4.os, hB4.tape, hB4.output, hB4.size, hB4.block⟩; have HO4 := Lib.hid (hO4.rn.mono fun b hb => hb.2)))
   all_goals
    go_wp2_with fail
    go_meet
    case rel => exact ⟨A4, c4, rfl, rfl, HO4, Lib.hid hE4⟩
  case rest =>
   obtain ⟨A4, c4, rfl, rfl, HO4, HE4⟩ := hcut
   rename World => W4
   have HBt4 := Lib.hid (fun X (hX : Ext W4 X) => HBt.out X _ A4 c4 (HO4.out.below hX (fun b hb => hb)))
   have cb4 := HE4.out.cell cb2
   have HC4 := Lib.hid (fun X (hX : Ext W4 X) => hX.cell cb4)
   go_upto_region 5 with fail
   go_cut [59] (fun s59 wx => s59 = .bool false ∧ Hid (Ext W4 wx))
   case first =>
    go_region_with (first
     | (go_at_call 15; refine (HBt4.out _ (by first | exact Ext.refl _ | exact Ext.drew _ | exact Ext.drewN _ _)).mono ?_; rintro e w' ⟨rfl, rfl⟩))
    all_goals
     go_wp2_with fail
     go_meet
     case rel => exact ⟨rfl, Lib.hid (by first | exact Ext.refl _ | exact Ext.drew _ | exact Ext.drewN _ _)⟩
   case rest =>
    obtain ⟨rfl, HE5⟩ := hcut
    rename World => W5
    have hE5 : Ext X2 W5 := HE4.out.trans HE5.out
    have hFr : Fr D wr.heap.size wr W5 := HF1.out.trans (Fr.below hE5 zw)
    have hJ' := HT.out 0 wr W5 (by omega) HJ.out ⟨hFr, HD0.out⟩
    obtain ⟨fn, tmps, assign, body, hy, hRo⟩ := HY.out 0 (A4, c4) W5 hJ' trivial (by omega) (by have := hFr.size; omega)
    clear hFr hJ' cE2 cb2 cb4
    go_upto_region 6 with fail
    refine (wpIn_wide (n := n)).1 ?_
    gi_wp2
    refine hRo.mono ?_
    rintro e W3 (⟨rfl, hJ3, _, hkp⟩ | ⟨rfl, hJx3, _⟩)
    · exfalso
      have hd3 := HND.out W3 hJ3
      exact HF.out trivial W3 (HT.out 1 W3 W3 (by omega) hJ3 ⟨Fr.refl _ _ _, hd3⟩)
    · gi_wp2
      go_wp2
      rw [Exit.noGoto_ret]
      refine bodyPost_ret (results_none rfl _ _ _) rfl ?_
      exact ⟨⟨_, rfl⟩, .inr ⟨1, by omega, by omega, hJx3⟩⟩
end Go.Proofs.YtlaphnlolgokiaaGreatDoor
