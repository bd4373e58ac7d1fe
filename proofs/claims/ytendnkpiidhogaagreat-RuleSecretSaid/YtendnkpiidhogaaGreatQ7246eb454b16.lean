/- Plain arithmetic of bits.Div64: one step of a division of three halves by two; nothing of the program. What bits.Div64 computes. What limb.small and the easy cases of limb.Quo compute. Plain arithmetic of the rounds of a long division: nothing of the program. What limb.guess computes. What limb.takes and limb.gives compute. Plain arithmetic of one limb of a long division: nothing of the program. Plain arithmetic of the reference's division: nothing of the program. What the reference's less computes. What Montgomery's product needs: worlds in which one block alone may turn, plain laws. Blocks of the call's own that are read and laid whole, one store, what it leaves alone. Plain arithmetic of bits and bytes of numbers: nothing of the program. What limb.Bits, Bit and Bytes compute. -/
import Derived.Test.YtendnkpiidhogaaGreatQb6f1fd567e59
import Derived.Lib.BitFns
import Derived.Lib.ItoaNum
import Derived.Deep.CutBlock
import Derived.IntWalk
import Derived.Laws.Bits64b
import Derived.WalkMore
import Derived.Laws.CopyRow
import Derived.Laws.IdiomCopy
import Derived.Deep.MidRow
namespace Go.Proofs.YtendnkpiidhogaaGreat

def GuessAt (b u u1 y1 y0 q r : Nat) : Prop := q * y1 + r = u ∧ (u * b + u1) / (y1 * b + y0) ≤ q ∧ q ≤ b + 1
structure GuessOk (b u u1 y1 y0 : Nat) : Prop where
 hb : 2 ≤ b
 hy : b ≤ 2 * y1
 hy1 : y1 < b
 hy0 : y0 < b
 hu1 : u1 < b
 hu : u < y1 * b + y0
section
variable {b u u1 y1 y0 q r : Nat}
theorem GuessOk.start (h : GuessOk b u u1 y1 y0) : GuessAt b u u1 y1 y0 (u / y1) (u - u / y1 * y1) ∧ u - u / y1 * y1 < b ∧ u / y1 * y1 ≤ u := by
 obtain ⟨hb, hy, hy1, hy0, hu1, hu⟩ := h
 have h1 : u / y1 * y1 ≤ u := Nat.div_mul_le_self u y1
 have h2 : u < u / y1 * y1 + y1 := Nat.lt_div_mul_add (by omega)
 generalize hG : u / y1 = G at *
 have h3 : G ≤ b + 1 := by
  rcases Nat.lt_or_ge (b + 1) G with h | h
  · have h6 : (b + 2) * y1 ≤ G * y1 := Nat.mul_le_mul_right _ h
    rw [Nat.add_mul, Nat.mul_comm b] at h6
    omega
  · exact h
 have h4 : (u * b + u1) / (y1 * b + y0) ≤ G := by
  apply Nat.le_of_lt_succ
  apply Nat.div_lt_of_lt_mul
  have h5 : (y1 * b + y0) * (G + 1) = (G * y1 + y1) * b + y0 * (G + 1) := by
   rw [Nat.mul_add, Nat.add_mul, Nat.mul_one, Nat.mul_add, Nat.mul_one, Nat.add_mul, Nat.mul_right_comm, Nat.mul_comm y1 G]
   omega
  have h7 : (u + 1) * b ≤ (G * y1 + y1) * b := Nat.mul_le_mul_right _ h2
  rw [Nat.add_mul, Nat.one_mul] at h7
  show _ < _ * (G + 1)
  rw [h5]
  omega
 unfold GuessAt
 generalize G * y1 = p at *
 exact ⟨⟨by omega, h4, h3⟩, by omega, h1⟩
theorem GuessOk.quo_lt (h : GuessOk b u u1 y1 y0) : (u * b + u1) / (y1 * b + y0) < b := by
 obtain ⟨hb, hy, hy1, hy0, hu1, hu⟩ := h
 apply Nat.div_lt_of_lt_mul
 have h1 : (u + 1) * b ≤ (y1 * b + y0) * b := Nat.mul_le_mul_right _ hu
 rw [Nat.add_mul, Nat.one_mul] at h1
 omega
theorem GuessAt.le (h : GuessOk b u u1 y1 y0) (hg : GuessAt b u u1 y1 y0 q r) (hd : q * y0 ≤ b * r + u1) : q = (u * b + u1) / (y1 * b + y0) := by
 obtain ⟨h1, h2, h3⟩ := hg
 have hD : 0 < y1 * b + y0 := by have := Nat.mul_pos (show 0 < y1 by have := h.hy; have := h.hb; omega) (show 0 < b by have := h.hb; omega); omega
 refine Nat.le_antisymm ((Nat.le_div_iff_mul_le hD).2 ?_) h2
 have e : q * (y1 * b + y0) = q * y1 * b + q * y0 := by rw [Nat.mul_add, Nat.mul_assoc]
 have e2 : u * b = q * y1 * b + b * r := by rw [← h1, Nat.add_mul, Nat.mul_comm r]
 omega
theorem GuessAt.gt (h : GuessOk b u u1 y1 y0) (hg : GuessAt b u u1 y1 y0 q r) (hd : b ≤ q ∨ b * r + u1 < q * y0) : (u * b + u1) / (y1 * b + y0) < q := by
 obtain ⟨h1, h2, h3⟩ := hg
 rcases hd with hd | hd
 · have := h.quo_lt; omega
 · apply Nat.div_lt_of_lt_mul
   have e : (y1 * b + y0) * q = q * y1 * b + q * y0 := by rw [Nat.mul_comm, Nat.mul_add, Nat.mul_assoc]
   have e2 : u * b = q * y1 * b + b * r := by rw [← h1, Nat.add_mul, Nat.mul_comm r]
   omega
theorem GuessAt.step (h : GuessOk b u u1 y1 y0) (hg : GuessAt b u u1 y1 y0 q r) (hd : b ≤ q ∨ b * r + u1 < q * y0) : GuessAt b u u1 y1 y0 (q - 1) (r + y1) ∧ 1 ≤ q := by
 have h4 := hg.gt h hd
 obtain ⟨h1, h2, h3⟩ := hg
 obtain ⟨n, rfl⟩ : ∃ n, q = n + 1 := ⟨q - 1, by have := Nat.zero_le ((u * b + u1) / (y1 * b + y0)); omega⟩
 refine ⟨⟨?_, by rw [Nat.add_sub_cancel]; exact Nat.le_of_lt_succ h4, by omega⟩, by omega⟩
 rw [Nat.add_mul] at h1
 rw [Nat.add_sub_cancel]
 omega
theorem GuessAt.out (h : GuessOk b u u1 y1 y0) (hg : GuessAt b u u1 y1 y0 q r) (hq : q ≤ b) (hr : b ≤ r) : q = (u * b + u1) / (y1 * b + y0) := by
 refine hg.le h ?_
 have h1 : q * y0 ≤ b * b := Nat.mul_le_mul hq (by have := h.hy0; omega)
 have h2 : b * b ≤ b * r := Nat.mul_le_mul_left _ hr
 omega
theorem GuessAt.mul_le (hg : GuessAt b u u1 y1 y0 q r) (hy0 : y0 < b) : q * y0 < b * b := by
 obtain ⟨_, _, h3⟩ := hg
 obtain ⟨n, rfl⟩ : ∃ n, b = n + 1 := ⟨b - 1, by omega⟩
 have h1 : q * y0 ≤ (n + 2) * n := Nat.mul_le_mul (by omega) (by omega)
 have h2 : (n + 2) * n = n * n + 2 * n := by rw [Nat.add_mul]
 have h3 : (n + 1) * (n + 1) = n * n + 2 * n + 1 := by simp only [Nat.add_mul, Nat.mul_add]; omega
 omega
end
theorem rest_of {N D : Nat} (hD : 0 < D) : N / D * D ≤ N ∧ N - N / D * D < D := by
 have h1 := Nat.div_mul_le_self N D
 have h2 := Nat.lt_div_mul_add (a := N) hD
 omega
theorem two_steps {b N D u1 u0 : Nat} (hD : 0 < D) (r q0 : Nat) (hr : r = N * b + u1 - (N * b + u1) / D * D) (hq : q0 = (r * b + u0) / D) :
 (N * b + u1) / D * b + q0 = ((N * b + u1) * b + u0) / D ∧ r * b + u0 - q0 * D = ((N * b + u1) * b + u0) % D := by
 have h1 := rest_of (N := N * b + u1) hD
 generalize N * b + u1 = M at *
 have e : M = M / D * D + r := by omega
 have e2 : M * b + u0 = (M / D * b) * D + (r * b + u0) := by
  have : M * b = (M / D * D + r) * b := by rw [← e]
  rw [this, Nat.add_mul, Nat.mul_right_comm, Nat.add_assoc]
 have hd : (M * b + u0) / D = M / D * b + (r * b + u0) / D := by
  rw [e2, Nat.add_comm, Nat.add_mul_div_right _ _ hD, Nat.add_comm]
 have hm : (M * b + u0) % D = (r * b + u0) % D := by
  rw [e2, Nat.add_comm, Nat.add_mul_mod_self_right]
 rw [hd, hm, hq]
 refine ⟨rfl, ?_⟩
 have h5 := Nat.div_add_mod (r * b + u0) D
 have h6 : (r * b + u0) / D * D = D * ((r * b + u0) / D) := Nat.mul_comm _ _
 omega
theorem le_of_log {y k : Nat} (hy : y ≠ 0) (h : Lib.bitLen y = k) (hlt : y < 18446744073709551616) : 1 ≤ k ∧ k ≤ 64 ∧ 2 ^ (k - 1) ≤ y ∧ y < 2 ^ k := by
 have h1 := Lib.bitLenAux_bounds 64 y hlt hy
 have h2 := Lib.bitLen_le y 64 (Nat.le_refl _) hlt
 subst h
 exact ⟨h1.1, h2, h1.2⟩
theorem shift_of {y : Nat} (hy : y ≠ 0) (hlt : y < 18446744073709551616) : ∃ s, s < 64 ∧ Lib.bitLen y = 64 - s ∧ 9223372036854775808 ≤ y * 2 ^ s ∧ y * 2 ^ s < 18446744073709551616 := by
 obtain ⟨h1, h2, h3, h4⟩ := le_of_log hy rfl hlt
 refine ⟨64 - Lib.bitLen y, by omega, by omega, ?_, ?_⟩
 · have : 2 ^ (Lib.bitLen y - 1) * 2 ^ (64 - Lib.bitLen y) ≤ y * 2 ^ (64 - Lib.bitLen y) := Nat.mul_le_mul_right _ h3
   rw [← Nat.pow_add, show Lib.bitLen y - 1 + (64 - Lib.bitLen y) = 63 by omega] at this
   simpa using this
 · have : y * 2 ^ (64 - Lib.bitLen y) < 2 ^ Lib.bitLen y * 2 ^ (64 - Lib.bitLen y) := Nat.mul_lt_mul_of_pos_right h4 (Nat.pow_pos (by omega))
   rw [← Nat.pow_add, show Lib.bitLen y + (64 - Lib.bitLen y) = 64 by omega] at this
   simpa using this
theorem moved {hi lo y s : Nat} (hs : s < 64) (hlo : lo < 18446744073709551616) (h : hi < y) (hy : y * 2 ^ s < 18446744073709551616) :
 hi * 2 ^ s + lo / 2 ^ (64 - s) < y * 2 ^ s ∧ lo / 2 ^ (64 - s) < 2 ^ s ∧ (hi * 2 ^ s + lo / 2 ^ (64 - s)) * 18446744073709551616 + lo * 2 ^ s % 18446744073709551616 = (hi * 18446744073709551616 + lo) * 2 ^ s ∧ hi * 2 ^ s < 18446744073709551616 := by
 have e64 : (18446744073709551616 : Nat) = 2 ^ s * 2 ^ (64 - s) := by rw [← Nat.pow_add, show s + (64 - s) = 64 by omega]
 have h1 : lo / 2 ^ (64 - s) < 2 ^ s := by
  apply Nat.div_lt_of_lt_mul
  rw [Nat.mul_comm, ← e64]; exact hlo
 have h2 : (hi + 1) * 2 ^ s ≤ y * 2 ^ s := Nat.mul_le_mul_right _ h
 rw [Nat.add_mul, Nat.one_mul] at h2
 refine ⟨by omega, h1, ?_, by have := Nat.pow_pos (n := s) (show 0 < 2 by omega); omega⟩
 have h3 : lo * 2 ^ s / 18446744073709551616 = lo / 2 ^ (64 - s) := by
  rw [e64, Nat.mul_comm lo, Nat.mul_div_mul_left _ _ (Nat.pow_pos (by omega))]
 have h4 := Nat.div_add_mod (lo * 2 ^ s) 18446744073709551616
 rw [h3] at h4
 rw [Nat.add_mul, Nat.add_mul, Nat.mul_right_comm hi]
 omega
end Go.Proofs.YtendnkpiidhogaaGreat

namespace Go.Proofs.YtendnkpiidhogaaGreat
open Go.RowKit

theorem or_shift (i a b : Nat) (h : b < 2 ^ i) : a * 2 ^ i ||| b = a * 2 ^ i + b := by
 rw [Nat.mul_comm, Nat.two_pow_add_eq_or_of_lt h]
theorem mask32 (x : Nat) : x &&& 4294967295 = x % 4294967296 := by
 have h := Nat.and_two_pow_sub_one_eq_mod x 32
 rwa [show 2 ^ 32 - 1 = 4294967295 by decide, show 2 ^ 32 = 4294967296 by decide] at h
theorem and_mask32 (x : Nat) (hx : x < 18446744073709551616) : bits .and .u64 (x : Int) 4294967295 = ((x % 4294967296 : Nat) : Int) := by
 have h := bits_and_u64_nat x 4294967295 hx (by omega)
 rw [mask32] at h
 exact h
theorem halves (x : Nat) (hx : x < 18446744073709551616) : ∃ a b : Nat, a < 4294967296 ∧ b < 4294967296 ∧ a * 4294967296 + b = x ∧ (x : Int) / 4294967296 = (a : Int) ∧ bits .and .u64 (x : Int) 4294967295 = (b : Int) := by
 have h := Nat.div_add_mod x 4294967296
 have h2 := Nat.mod_lt x (show 0 < 4294967296 by omega)
 have h3 := and_mask32 x hx
 have h4 : (x : Int) / 4294967296 = ((x / 4294967296 : Nat) : Int) := by omega
 generalize x / 4294967296 = a at *
 generalize x % 4294967296 = b at *
 exact ⟨a, b, by omega, h2, by omega, h4, h3⟩
theorem join4 (a b c d : Nat) (h : b * 4294967296 + c = d) : (a * 4294967296 + b) * 4294967296 + c = a * 18446744073709551616 + d := by
 rw [← h, Nat.add_mul, Nat.mul_assoc, Nat.add_assoc]
theorem wrap_diff (a b r k l : Nat) (h : b + r = a) (hr : r < 18446744073709551616) : IntKind.u64.wrap (((a - 18446744073709551616 * k : Int)) - ((b : Int) - 18446744073709551616 * l)) = (r : Int) := by
 simp [IntKind.wrap, IntKind.bits, IntKind.signed]
 omega
theorem ret_uu {a b c d : Int} (h : a = b) (h' : c = d) : Ending.returned (.tuple #[.int .u64 a, .int .u64 c]) = .returned (.tuple #[.int .u64 b, .int .u64 d]) := by rw [h, h']

set_option maxHeartbeats 400000 in
theorem div64_zero (lo y : Nat) (w : World) (hlo : lo < 18446744073709551616) (hy : 0 < y) (hy' : y < 18446744073709551616) :
 Calls Tryz.prog 232 #[.int .u64 0, .int .u64 (lo : Int), .int .u64 (y : Int)] w fun e w' => e = .returned (.tuple #[.int .u64 ((lo / y : Nat) : Int), .int .u64 ((lo % y : Nat) : Int)]) ∧ ∃ n, w' = w.drewN n := by
 have h0 : ((y : Int) == 0) = false := eqB (by omega)
 have h1 : (0 : Int) < (y : Int) := by omega
 have hq : IntKind.u64.wrap ((lo : Int) / (y : Int)) = ((lo / y : Nat) : Int) := by
  have h : lo / y ≤ lo := Nat.div_le_self lo y
  rw [← Int.natCast_ediv]
  generalize lo / y = z at *
  exact IntWalk.u64_in _ (by omega)
 go_enter Tryz.func232, Tryz.ntmps232
 go_wp2
 go_quiet (fail)
 go_wp2
 go_ret2
 exact ⟨ret_uu (by simp) (by simp), _, rfl⟩

set_option maxRecDepth 100000 in
set_option maxHeartbeats 4000000 in
theorem div64_pos (hi lo y : Nat) (w : World) (hlo : lo < 18446744073709551616) (h0 : 0 < hi) (hhi : hi < y) (hy' : y < 18446744073709551616) :
 Calls Tryz.prog 232 #[.int .u64 (hi : Int), .int .u64 (lo : Int), .int .u64 (y : Int)] w fun e w' => e = .returned (.tuple #[.int .u64 (((hi * 18446744073709551616 + lo) / y : Nat) : Int), .int .u64 (((hi * 18446744073709551616 + lo) % y : Nat) : Int)]) ∧ ∃ n, w' = w.drewN n := by
 have n0 : ((y : Int) == 0) = false := eqB (by omega)
 have n1 : ((hi : Int) == 0) = false := eqB (by omega)
 have n2 : ¬ (y : Int) ≤ (hi : Int) := by omega
 obtain ⟨s, hs, hbl, hY1, hY2⟩ := shift_of (y := y) (by omega) hy'
 have hlz := (Tryz.bits_LeadingZeros64 (y : Int) w (by omega) (by omega))
 rw [Int.toNat_natCast, hbl, show (64 - ((64 - s : Nat) : Int)) = (s : Int) by omega] at hlz
 have Hlz := Lib.hid hlz
 clear hlz hbl
 obtain ⟨m1, m2, m3, m4⟩ := moved hs hlo hhi hY2
 obtain ⟨H, hH⟩ : ∃ H, hi * 2 ^ s = H := ⟨_, rfl⟩
 obtain ⟨L1, hL1⟩ : ∃ L1, lo / 2 ^ (64 - s) = L1 := ⟨_, rfl⟩
 obtain ⟨Y, hY⟩ : ∃ Y, y * 2 ^ s = Y := ⟨_, rfl⟩
 obtain ⟨L, hL⟩ : ∃ L, lo * 2 ^ s % 18446744073709551616 = L := ⟨_, rfl⟩
 have hor : H ||| L1 = H + L1 := by rw [← hH]; exact or_shift s hi L1 (by rw [← hL1]; exact m2)
 have f1 : IntKind.u64.wrap ((y : Int) * 2 ^ s) = (Y : Int) := by
  rw [show ((y : Int) * 2 ^ s) = (Y : Int) by rw [← hY]; simp]
  exact IntWalk.u64_in _ (by omega)
 have f4 : IntKind.u64.wrap ((hi : Int) * 2 ^ s) = (H : Int) := by
  rw [show ((hi : Int) * 2 ^ s) = (H : Int) by rw [← hH]; simp]
  exact IntWalk.u64_in _ (by omega)
 have f5 : (lo : Int) / 2 ^ (64 - s) = (L1 : Int) := by rw [← hL1]; simp
 have f7 : IntKind.u64.wrap ((lo : Int) * 2 ^ s) = (L : Int) := by
  rw [← hL]
  simp [IntKind.wrap, IntKind.bits, IntKind.signed]
 have k1 : (s : Int) < 64 := by omega
 rw [hH] at m1 m3 m4
 rw [hL1] at m1 m2 m3
 rw [hY] at m1 hY1 hY2
 rw [hL] at m3
 have hLlt : L < 18446744073709551616 := by rw [← hL]; exact Nat.mod_lt _ (by omega)
 obtain ⟨U, hU⟩ : ∃ U, H + L1 = U := ⟨_, rfl⟩
 rw [hU] at m1 m3 hor
 have f6 : bits .or .u64 (H : Int) (L1 : Int) = (U : Int) := by
  rw [bits_or_u64_nat H L1 (by omega) (by omega), hor]
 obtain ⟨y1, y0, hy1, hy0, hyy, f2, f3⟩ : ∃ y1 y0 : Nat, y1 < 4294967296 ∧ y0 < 4294967296 ∧ y1 * 4294967296 + y0 = Y ∧ (Y : Int) / 4294967296 = (y1 : Int) ∧ bits .and .u64 (Y : Int) 4294967295 = (y0 : Int)  := halves Y hY2
 obtain ⟨u1, u0, hu1, hu0, huu, f8, f9⟩ : ∃ u1 u0 : Nat, u1 < 4294967296 ∧ u0 < 4294967296 ∧ u1 * 4294967296 + u0 = L ∧ (L : Int) / 4294967296 = (u1 : Int) ∧ bits .and .u64 (L : Int) 4294967295 = (u0 : Int)  := halves L hLlt
 have G : GuessOk 4294967296 U u1 y1 y0 := ⟨by omega, by omega, hy1, hy0, hu1, by omega⟩
 obtain ⟨hg, hr, hp⟩ := G.start
 obtain ⟨q, hq⟩ : ∃ q, U / y1 = q := ⟨_, rfl⟩
 rw [hq] at hg hr hp
 obtain ⟨p, hp'⟩ : ∃ p, q * y1 = p := ⟨_, rfl⟩
 rw [hp'] at hg hr hp
 obtain ⟨r, hr'⟩ : ∃ r, U - p = r := ⟨_, rfl⟩
 rw [hr'] at hg hr
 have hqU : q ≤ U := by rw [← hq]; exact Nat.div_le_self U y1
 have f10 : IntKind.u64.wrap ((U : Int) / (y1 : Int)) = (q : Int) := by rw [← Int.natCast_ediv, hq]; exact IntWalk.u64_in _ (by omega)
 have f10' : IntKind.u64.wrap ((U : Int).tdiv (y1 : Int)) = (q : Int) := by rw [Int.tdiv_eq_ediv_of_nonneg (by omega)]; exact f10
 have f11 : IntKind.u64.wrap ((q : Int) * (y1 : Int)) = (p : Int) := by rw [← Int.natCast_mul, hp']; exact IntWalk.u64_in _ (by omega)
 have f12 : (U : Int) - (p : Int) = (r : Int) := by omega
 have n3 : ((y1 : Int) == 0) = false := eqB (by omega)
 have n4 : ¬ y1 = 0 := by omega
 have HY := Lib.hid hY
 clear hH hL1 hY hL hor hU hq hp' hr' hp
 go_enter Tryz.func232, Tryz.ntmps232
 go_wp2_with fail
 refine Hlz.out.mono ?_
 rintro e w1 ⟨rfl, rfl⟩
 go_upto_block 0 with fail
 go_cut [15, 16] (fun s15 s16 wx => ∃ Q r' : Nat, s15 = .int .u64 (Q : Int) ∧ s16 = .int .u64 (r' : Int) ∧ Hid (Q = (U * 4294967296 + u1) / (y1 * 4294967296 + y0)) ∧ w1 = wx)
 case first =>
  go_wp2_with fail
  go_loop [15, 16] (fun qv rv => ∃ q r : Nat, qv = .int .u64 (q : Int) ∧ rv = .int .u64 (r : Int) ∧ GuessAt 4294967296 U u1 y1 y0 q r ∧ r < 4294967296) (fun qv _ => (intOf qv).toNat)
  case atStart => exact ⟨q, r, rfl, rfl, hg, hr⟩
  case round =>
   clear hg hr
   obtain ⟨q, r, rfl, rfl, hg, hr⟩ := hrel
   have hml := hg.mul_le hy0
   obtain ⟨z, hz⟩ : ∃ z, q * y0 = z := ⟨_, rfl⟩
   rw [hz] at hml
   have hqb := hg.2.2
   by_cases h1 : 4294967296 ≤ q ∨ 4294967296 * r + u1 < q * y0
   · obtain ⟨hg', hq1⟩ := hg.step G h1
     obtain ⟨n, rfl⟩ : ∃ n, q = n + 1 := ⟨q - 1, by omega⟩
     rw [Nat.add_sub_cancel] at hg'
     have g1 : IntKind.u64.wrap (((n : Int) + 1) * (y0 : Int)) = (z : Int) := by
      rw [show ((n : Int) + 1) * (y0 : Int) = (z : Int) by rw [← hz]; simp]
      exact IntWalk.u64_in _ (by omega)
     rw [hz] at h1
     have hout := fun h => hg'.out G (by omega) h
     have Hout := Lib.hid hout
     clear hout hg hz hml
     by_cases h3 : 4294967296 ≤ r + y1
     · have hQ := Lib.hid (Hout.out h3)
       by_cases h4 : 4294967296 ≤ n + 1
       · have i4 : (4294967296 : Int) ≤ (n : Int) + 1 := by omega
         have i3 : (4294967296 : Int) ≤ (r : Int) + (y1 : Int) := by omega
         clear h1 h3 h4
         go_wp2
         go_meet
         case rel => exact ⟨n, _, by go_num, rfl, hQ, rfl⟩
       · have i5 : (4294967296 : Int) * (r : Int) + (u1 : Int) < (z : Int) := by omega
         have i4 : ¬ (4294967296 : Int) ≤ (n : Int) + 1 := by omega
         have i3 : (4294967296 : Int) ≤ (r : Int) + (y1 : Int) := by omega
         clear h1 h3 h4
         go_wp2
         go_meet
         case rel => exact ⟨n, _, by go_num, rfl, hQ, rfl⟩
     · by_cases h4 : 4294967296 ≤ n + 1
       · have i4 : (4294967296 : Int) ≤ (n : Int) + 1 := by omega
         have i3 : ¬ (4294967296 : Int) ≤ (r : Int) + (y1 : Int) := by omega
         have H3 := Lib.hid h3
         clear h1 h3 h4
         go_wp2
         go_round
         case rel => exact ⟨n, r + y1, by go_num, by go_num, hg', by have := H3.out; omega⟩
         case measure => simp [intOf]
       · have i5 : (4294967296 : Int) * (r : Int) + (u1 : Int) < (z : Int) := by omega
         have i4 : ¬ (4294967296 : Int) ≤ (n : Int) + 1 := by omega
         have i3 : ¬ (4294967296 : Int) ≤ (r : Int) + (y1 : Int) := by omega
         have H3 := Lib.hid h3
         clear h1 h3 h4
         go_wp2
         go_round
         case rel => exact ⟨n, r + y1, by go_num, by go_num, hg', by have := H3.out; omega⟩
         case measure => simp [intOf]
   · have hQ := Lib.hid (hg.le G (by omega))
     have g1 : IntKind.u64.wrap ((q : Int) * (y0 : Int)) = (z : Int) := by
      rw [show (q : Int) * (y0 : Int) = (z : Int) by rw [← hz]; simp]
      exact IntWalk.u64_in _ (by omega)
     have i4 : ¬ (4294967296 : Int) ≤ (q : Int) := by omega
     have i5 : ¬ (4294967296 : Int) * (r : Int) + (u1 : Int) < (z : Int) := by omega
     clear h1 hg hz hml
     go_wp2
     go_meet
     case rel => exact ⟨q, _, rfl, rfl, hQ, rfl⟩
 case rest =>
  clear hg hr hqU f10 f10' f11 f12
  obtain ⟨Q, r', rfl, rfl, HQ, rfl⟩ := hcut
  have hQ := HQ.out
  rw [hyy] at hQ
  have hQb := G.quo_lt
  rw [hyy, ← hQ] at hQb
  have hYpos : 0 < Y := by omega
  have hrest := rest_of (N := U * 4294967296 + u1) hYpos
  rw [← hQ] at hrest
  obtain ⟨p3, hp3⟩ : ∃ p3, Q * Y = p3 := ⟨_, rfl⟩
  rw [hp3] at hrest
  obtain ⟨R, hR⟩ : ∃ R, U * 4294967296 + u1 - p3 = R := ⟨_, rfl⟩
  rw [hR] at hrest
  obtain ⟨hr1, hr2⟩ := hrest
  obtain ⟨a1, k1', ha1, ha1b, ha1e⟩ : ∃ a1 k1 : Nat, IntKind.u64.wrap ((U : Int) * 4294967296) = (a1 : Int) ∧ (a1 : Int) ≤ 18446744069414584320 ∧ (a1 : Int) = (U : Int) * 4294967296 - 18446744073709551616 * k1 := by
   refine ⟨U * 4294967296 % 18446744073709551616, U / 4294967296, ?_, by omega, by omega⟩
   simp [IntKind.wrap, IntKind.bits, IntKind.signed]
  obtain ⟨a3, k3, ha3, ha3e⟩ : ∃ a3 k3 : Nat, IntKind.u64.wrap ((Q : Int) * (Y : Int)) = (a3 : Int) ∧ (a3 : Int) = (p3 : Int) - 18446744073709551616 * k3 := by
   rw [show (Q : Int) * (Y : Int) = (p3 : Int) by rw [← hp3]; simp]
   exact ⟨p3 % 18446744073709551616, p3 / 18446744073709551616, by simp [IntKind.wrap, IntKind.bits, IntKind.signed], by omega⟩
  have hd : IntKind.u64.wrap ((a1 : Int) + (u1 : Int) - (a3 : Int)) = (R : Int) := by
   have := wrap_diff (U * 4294967296 + u1) p3 R k1' k3 (by omega) (by omega)
   rw [ha3e, ha1e, ← this]
   congr 1
   simp
   omega
  have G2 : GuessOk 4294967296 R u0 y1 y0 := ⟨by omega, by omega, hy1, hy0, hu0, by omega⟩
  obtain ⟨hg, hr, hp⟩ := G2.start
  obtain ⟨qq, hq⟩ : ∃ q, R / y1 = q := ⟨_, rfl⟩
  rw [hq] at hg hr hp
  obtain ⟨pp, hp'⟩ : ∃ p, qq * y1 = p := ⟨_, rfl⟩
  rw [hp'] at hg hr hp
  obtain ⟨rr, hr'⟩ : ∃ r, R - pp = r := ⟨_, rfl⟩
  rw [hr'] at hg hr
  have hqU : qq ≤ R := by rw [← hq]; exact Nat.div_le_self R y1
  have f10 : IntKind.u64.wrap ((R : Int) / (y1 : Int)) = (qq : Int) := by rw [← Int.natCast_ediv, hq]; exact IntWalk.u64_in _ (by omega)
  have f10' : IntKind.u64.wrap ((R : Int).tdiv (y1 : Int)) = (qq : Int) := by rw [Int.tdiv_eq_ediv_of_nonneg (by omega)]; exact f10
  have f11 : IntKind.u64.wrap ((qq : Int) * (y1 : Int)) = (pp : Int) := by rw [← Int.natCast_mul, hp']; exact IntWalk.u64_in _ (by omega)
  have f12 : (R : Int) - (pp : Int) = (rr : Int) := by omega
  have hts := two_steps (b := 4294967296) (N := U) (u1 := u1) (u0 := u0) hYpos R _ (by rw [← hQ, hp3]; exact hR.symm) rfl
  rw [← hQ] at hts
  have Hts := Lib.hid hts
  have Hp3 := Lib.hid hp3
  have HR := Lib.hid hR
  clear hts hQ hp3 hR ha1e ha3e hq hp' hr' hp hr1
  go_upto_block 2 with fail
  go_cut [18, 16] (fun s18 s16 wx => ∃ Q r' : Nat, s18 = .int .u64 (Q : Int) ∧ s16 = .int .u64 (r' : Int) ∧ Hid (Q = (R * 4294967296 + u0) / (y1 * 4294967296 + y0)) ∧ w1 = wx)
  case first =>
   go_wp2_with fail
   go_loop [18, 16] (fun qv rv => ∃ q r : Nat, qv = .int .u64 (q : Int) ∧ rv = .int .u64 (r : Int) ∧ GuessAt 4294967296 R u0 y1 y0 q r ∧ r < 4294967296) (fun qv _ => (intOf qv).toNat)
   case atStart => exact ⟨qq, rr, rfl, rfl, hg, hr⟩
   case round =>
    clear hg hr
    obtain ⟨q, r, rfl, rfl, hg, hr⟩ := hrel
    have hml := hg.mul_le hy0
    obtain ⟨z, hz⟩ : ∃ z, q * y0 = z := ⟨_, rfl⟩
    rw [hz] at hml
    have hqb := hg.2.2
    by_cases h1 : 4294967296 ≤ q ∨ 4294967296 * r + u0 < q * y0
    · obtain ⟨hg', hq1⟩ := hg.step G2 h1
      obtain ⟨n, rfl⟩ : ∃ n, q = n + 1 := ⟨q - 1, by omega⟩
      rw [Nat.add_sub_cancel] at hg'
      have g1 : IntKind.u64.wrap (((n : Int) + 1) * (y0 : Int)) = (z : Int) := by
       rw [show ((n : Int) + 1) * (y0 : Int) = (z : Int) by rw [← hz]; simp]
       exact IntWalk.u64_in _ (by omega)
      rw [hz] at h1
      have hout := fun h => hg'.out G2 (by omega) h
      have Hout := Lib.hid hout
      clear hout hg hz hml
      by_cases h3 : 4294967296 ≤ r + y1
      · have hQ := Lib.hid (Hout.out h3)
        by_cases h4 : 4294967296 ≤ n + 1
        · have i4 : (4294967296 : Int) ≤ (n : Int) + 1 := by omega
          have i3 : (4294967296 : Int) ≤ (r : Int) + (y1 : Int) := by omega
          clear h1 h3 h4
          go_wp2
          go_meet
          case rel => exact ⟨n, _, by go_num, rfl, hQ, rfl⟩
        · have i5 : (4294967296 : Int) * (r : Int) + (u0 : Int) < (z : Int) := by omega
          have i4 : ¬ (4294967296 : Int) ≤ (n : Int) + 1 := by omega
          have i3 : (4294967296 : Int) ≤ (r : Int) + (y1 : Int) := by omega
          clear h1 h3 h4
          go_wp2
          go_meet
          case rel => exact ⟨n, _, by go_num, rfl, hQ, rfl⟩
      · by_cases h4 : 4294967296 ≤ n + 1
        · have i4 : (4294967296 : Int) ≤ (n : Int) + 1 := by omega
          have i3 : ¬ (4294967296 : Int) ≤ (r : Int) + (y1 : Int) := by omega
          have H3 := Lib.hid h3
          clear h1 h3 h4
          go_wp2
          go_round
          case rel => exact ⟨n, r + y1, by go_num, by go_num, hg', by have := H3.out; omega⟩
          case measure => simp [intOf]
        · have i5 : (4294967296 : Int) * (r : Int) + (u0 : Int) < (z : Int) := by omega
          have i4 : ¬ (4294967296 : Int) ≤ (n : Int) + 1 := by omega
          have i3 : ¬ (4294967296 : Int) ≤ (r : Int) + (y1 : Int) := by omega
          have H3 := Lib.hid h3
          clear h1 h3 h4
          go_wp2
          go_round
          case rel => exact ⟨n, r + y1, by go_num, by go_num, hg', by have := H3.out; omega⟩
          case measure => simp [intOf]
    · have hQ := Lib.hid (hg.le G2 (by omega))
      have g1 : IntKind.u64.wrap ((q : Int) * (y0 : Int)) = (z : Int) := by
       rw [show (q : Int) * (y0 : Int) = (z : Int) by rw [← hz]; simp]
       exact IntWalk.u64_in _ (by omega)
      have i4 : ¬ (4294967296 : Int) ≤ (q : Int) := by omega
      have i5 : ¬ (4294967296 : Int) * (r : Int) + (u0 : Int) < (z : Int) := by omega
      clear h1 hg hz hml
      go_wp2
      go_meet
      case rel => exact ⟨q, _, rfl, rfl, hQ, rfl⟩
  case rest =>
   clear hg hr hqU f10 f10' f11 f12
   obtain ⟨Q0, r2, rfl, rfl, HQ0, rfl⟩ := hcut
   have hQ0 := HQ0.out
   rw [hyy] at hQ0
   have hQ0b := G2.quo_lt
   rw [hyy, ← hQ0] at hQ0b
   obtain ⟨e1, e2⟩ := Hts.out
   rw [← hQ0] at e1 e2
   have hrest2 := rest_of (N := R * 4294967296 + u0) hYpos
   rw [← hQ0] at hrest2
   have hM0 : (U * 4294967296 + u1) * 4294967296 + u0 = U * 18446744073709551616 + L := join4 U u1 u0 L huu
   have hM := hM0.trans m3
   rw [hM] at e1 e2
   have hYs := HY.out
   rw [← hYs, Nat.mul_div_mul_right _ _ (Nat.pow_pos (by omega))] at e1
   rw [← hYs, Nat.mul_mod_mul_right] at e2
   rw [hYs] at e2
   obtain ⟨p4, hp4⟩ : ∃ p4, Q0 * Y = p4 := ⟨_, rfl⟩
   rw [hp4] at hrest2 e2
   obtain ⟨T, hT⟩ : ∃ T, (hi * 18446744073709551616 + lo) % y = T := ⟨_, rfl⟩
   obtain ⟨V, hV⟩ : ∃ V, (hi * 18446744073709551616 + lo) / y = V := ⟨_, rfl⟩
   rw [hT] at e2
   rw [hV] at e1
   obtain ⟨S, hS⟩ : ∃ S, T * 2 ^ s = S := ⟨_, rfl⟩
   rw [hS] at e2
   have hS2 : (S : Int) / 2 ^ s = (T : Int) := by
    rw [← hS]
    have : T * 2 ^ s / 2 ^ s = T := Nat.mul_div_cancel _ (Nat.pow_pos (by omega))
    rw [show ((2 : Int) ^ s) = ((2 ^ s : Nat) : Int) by simp, ← Int.natCast_ediv, this]
   obtain ⟨b1, k5, hb1, hb1b, hb1e⟩ : ∃ a1 k1 : Nat, IntKind.u64.wrap ((R : Int) * 4294967296) = (a1 : Int) ∧ (a1 : Int) ≤ 18446744069414584320 ∧ (a1 : Int) = (R : Int) * 4294967296 - 18446744073709551616 * k1 := by
    refine ⟨R * 4294967296 % 18446744073709551616, R / 4294967296, ?_, by omega, by omega⟩
    simp [IntKind.wrap, IntKind.bits, IntKind.signed]
   obtain ⟨b3, k6, hb3, hb3e⟩ : ∃ a3 k3 : Nat, IntKind.u64.wrap ((Q0 : Int) * (Y : Int)) = (a3 : Int) ∧ (a3 : Int) = (p4 : Int) - 18446744073709551616 * k3 := by
    rw [show (Q0 : Int) * (Y : Int) = (p4 : Int) by rw [← hp4]; simp]
    exact ⟨p4 % 18446744073709551616, p4 / 18446744073709551616, by simp [IntKind.wrap, IntKind.bits, IntKind.signed], by omega⟩
   have hd2 : IntKind.u64.wrap ((b1 : Int) + (u0 : Int) - (b3 : Int)) = (S : Int) := by
    have := wrap_diff (R * 4294967296 + u0) p4 S k5 k6 (by omega) (by omega)
    rw [hb3e, hb1e, ← this]
    congr 1
    simp
    omega
   have He1 := Lib.hid e1
   have HT := Lib.hid hT
   have HV := Lib.hid hV
   clear e1 e2 hQ0 hp4 hS hT hV hb1e hb3e hrest2 hM hM0 hYs
   go_wp2
   go_ret2
   exact ⟨ret_uu (by rw [HV.out, ← He1.out]; simp) (by rw [HT.out]), 0, rfl⟩
end Go.Proofs.YtendnkpiidhogaaGreat

namespace Go.Proofs.YtendnkpiidhogaaGreat
open Go.RowKit

theorem div64_any (hi lo y : Nat) (w : World) (hlo : lo < 18446744073709551616) (hhi : hi < y) (hy' : y < 18446744073709551616) (q r : Nat) (hr : r < y) (he : hi * 18446744073709551616 + lo = y * q + r) :
 Calls Tryz.prog 232 #[.int .u64 (hi : Int), .int .u64 (lo : Int), .int .u64 (y : Int)] w fun e w' => e = .returned (.tuple #[.int .u64 (q : Int), .int .u64 (r : Int)]) ∧ ∃ n, w' = w.drewN n := by
 have e1 : (hi * 18446744073709551616 + lo) / y = q := by rw [he, Nat.mul_add_div (by omega), Nat.div_eq_of_lt hr]; omega
 have e2 : (hi * 18446744073709551616 + lo) % y = r := by rw [he, Nat.mul_add_mod, Nat.mod_eq_of_lt hr]
 rcases Nat.eq_zero_or_pos hi with rfl | h0
 · rw [Nat.zero_mul, Nat.zero_add] at e1 e2
   have h := div64_zero lo y w hlo (by omega) hy'
   rw [e1, e2] at h
   exact h
 · have h := div64_pos hi lo y w hlo h0 hhi hy'
   rw [e1, e2] at h
   exact h
def Below1 (k : Nat) (i : Int) : Prop := (k = 0 ∧ i = -1) ∨ ∃ j : Nat, k = j + 1 ∧ i = (j : Int)
theorem Below1.start (n : Nat) : Below1 n ((n : Int) - 1) := by
 rcases n with _ | n
 · exact .inl ⟨rfl, by simp⟩
 · exact .inr ⟨n, rfl, by omega⟩
def SmallAt (B : Nat) (l o : List Nat) (d k r : Nat) : Prop := o.length = l.length ∧ val B (l.drop k) = d * val B (o.drop k) + r
theorem SmallAt.start {B : Nat} {l o : List Nat} (d : Nat) (h : o.length = l.length) : SmallAt B l o d l.length 0 := by
 refine ⟨h, ?_⟩
 rw [List.drop_length, ← h, List.drop_length]
 simp
theorem drop_dg {l : List Nat} {k : Nat} (h : k < l.length) : l.drop k = dg l k :: l.drop (k + 1) := by
 rw [List.drop_eq_getElem_cons h, dg, getD_eq' h]
theorem drop_set {l : List Nat} {k x : Nat} (h : k < l.length) : (l.set k x).drop k = x :: l.drop (k + 1) := by
 rw [List.drop_set, if_neg (Nat.lt_irrefl _), drop_dg h, Nat.sub_self, List.set_cons_zero]
theorem SmallAt.step {B : Nat} {l o : List Nat} {d k r q r' : Nat} (h : SmallAt B l o d (k + 1) r) (hk : k < l.length) (he : r * B + dg l k = d * q + r') : SmallAt B l (o.set k q) d k r' := by
 obtain ⟨h1, h2⟩ := h
 refine ⟨by simpa using h1, ?_⟩
 rw [drop_dg hk, drop_set (by omega), val_cons, val_cons, h2]
 have e : B * (d * val B (o.drop (k + 1)) + r) = d * (B * val B (o.drop (k + 1))) + r * B := by
  rw [Nat.mul_add, Nat.mul_left_comm, Nat.mul_comm B r]
 rw [e, Nat.mul_add]
 omega
theorem SmallAt.fin {B : Nat} {l o : List Nat} {d r : Nat} (h : SmallAt B l o d 0 r) (hr : r < d) : val B o = val B l / d ∧ r = val B l % d := by
 have := h.2
 simp only [List.drop_zero] at this
 rw [this]
 refine ⟨?_, ?_⟩
 · rw [Nat.mul_add_div (by omega), Nat.div_eq_of_lt hr, Nat.add_zero]
 · rw [Nat.mul_add_mod, Nat.mod_eq_of_lt hr]

set_option maxRecDepth 100000 in
set_option maxHeartbeats 1000000 in
theorem small_any (P : Nat → Prop) (A : Option Addr) (c : Nat) (l : List Nat) (d : Nat) (w : World) (h : RN w P A c l) (hP : ∀ b, P b → b < w.heap.size) (hl : l.length < 100000) (hd : 0 < d) (hd' : d < 18446744073709551616) :
 Calls Tryz.prog 206 #[.slice A l.length c, .int .u64 (d : Int)] w fun e w' => ∃ A1 c1, e = .returned (.tuple #[.slice A1 (digs 18446744073709551616 (val 18446744073709551616 l / d)).length c1, .int .u64 ((val 18446744073709551616 l % d : Nat) : Int)]) ∧
  OB w' w.heap.size A1 c1 (digs 18446744073709551616 (val 18446744073709551616 l / d)) ∧ Below w.heap.size w w' := by
 obtain ⟨h1, h2, h3⟩ := h.cap
 have hmk := run_make_row' (P := Tryz.prog) 106 139 (.int .u64 0) 8 Tryz.underlying106 info64 rfl .i64 .i64 l.length (by omega) (by omega)
 have Hs := Lib.hid (Below1.start l.length)
 go_enter Tryz.func206, Tryz.ntmps206
 go_wp2
 go_loopw [7, 8] (fun rv iv wr => ∃ (k r : Nat) (z : Int) (o : List Nat), iv = .int .i64 z ∧ Below1 k z ∧ rv = .int .u64 (r : Int) ∧ k ≤ l.length ∧ r < d ∧ SmallAt 18446744073709551616 l o d k r ∧ Lim o ∧ Blk wr w.heap.size o ∧ Below w.heap.size w wr) (fun _ iv _ => (intOf iv + 1).toNat)
 case atStart => exact ⟨l.length, 0, _, List.replicate l.length 0, rfl, Hs.out, rfl, by omega, by omega, SmallAt.start d (by simp), ⟨by simp, by simp; omega⟩, Blk.made w _, (Below.refl _ w).alloc (Nat.le_refl _) _⟩
 case round =>
  obtain ⟨k, r, z, o, rfl, hz, rfl, hk, hr, hS, hLo, hblk, hB⟩ := hrel
  rcases hz with ⟨rfl, rfl⟩ | ⟨j, rfl, rfl⟩
  · obtain ⟨hv, hrem⟩ := hS.fin hr
    have hOB : OB wr w.heap.size (some ⟨w.heap.size, 0, none⟩) l.length o := OB.of_blk hblk (Nat.le_refl _) hLo (by have := hS.1; omega) (by unfold maxLen; omega)
    have ht := trim_any _ _ _ _ _ hOB.rn
    have hOB' := hOB.trim
    rw [hv, hS.1] at ht
    rw [hv] at hOB'
    have Ht := Lib.hid ht
    have Hrem := Lib.hid hrem
    clear hblk hLo ht hv hrem hOB hS
    go_wp2_with fail
    refine Ht.out.mono ?_
    rintro e w1 ⟨rfl, rfl⟩
    go_wp2
    go_ret2
    exact ⟨_, _, by rw [Hrem.out]; rfl, hOB', hB⟩
  · obtain ⟨ad, rfl, had, q1⟩ := (h.below hB hP).at_ (i := j) (by omega)
    have hol := hS.1
    have hlj := h.2.dgLt j
    have q3 := hblk.cell (i := j) (by omega)
    have q4 := hblk.free j
    obtain ⟨q, r', hr', he, hq⟩ : ∃ q r' : Nat, r' < d ∧ r * 18446744073709551616 + dg l j = d * q + r' ∧ q < 18446744073709551616 := by
     refine ⟨(r * 18446744073709551616 + dg l j) / d, (r * 18446744073709551616 + dg l j) % d, Nat.mod_lt _ hd, (Nat.div_add_mod _ d).symm, ?_⟩
     apply Nat.div_lt_of_lt_mul
     have : (r + 1) * 18446744073709551616 ≤ d * 18446744073709551616 := Nat.mul_le_mul_right _ hr
     omega
    have hdv := Lib.hid (fun w => div64_any r (dg l j) d w hlj hr hd' q r' hr' he)
    have hS' := hS.step (by omega) he
    have hblk' := hblk.set j q
    have hLo' := hLo.set j q hq
    have hB' := hB.setCell (p := ⟨w.heap.size, j, none⟩) (Nat.le_refl _) (.int .u64 (q : Int))
    have k1 : (j : Int) < (l.length : Int) := by omega
    have Hs' := Lib.hid (Below1.start j)
    clear he hS hblk hLo hB hol
    go_wp2_with fail
    refine (hdv.out _).mono ?_
    rintro e w1 ⟨rfl, n, rfl⟩
    go_wp2
    go_roundw
    case rel => exact ⟨j, r', _, o.set j q, rfl, Hs'.out, rfl, by omega, hr', hS', hLo', hblk', below_drewN hB' _⟩
    case measure => simp [intOf]

theorem digs_one_length {d : Nat} (h0 : 0 < d) (h : d < 18446744073709551616) : digs 18446744073709551616 d = [d] := by
 rw [digs_pos (by omega) h0, Nat.mod_eq_of_lt h, Nat.div_eq_of_lt h, digs_zero]

set_option maxRecDepth 100000 in
set_option maxHeartbeats 1000000 in
theorem quo_lt (P P' : Nat → Prop) (A A' : Option Addr) (c c' : Nat) (a b : List Nat) (w : World) (h : RN w P A c a) (h' : RN w P' A' c' b) (hlt : val 18446744073709551616 a < val 18446744073709551616 b) :
 Calls Tryz.prog 169 #[.slice A a.length c, .slice A' b.length c'] w fun e w' => ∃ A1 c1, e = .returned (.tuple #[.slice none 0 0, .slice A1 (digs 18446744073709551616 (val 18446744073709551616 a)).length c1, .bool true]) ∧
  OB w' w.heap.size A1 c1 (digs 18446744073709551616 (val 18446744073709551616 a)) ∧ Below w.heap.size w w' := by
 have ta := Lib.hid (trim_any P A c a w h)
 have tb := Lib.hid (trim_any P' A' c' b w h')
 have tc := cmp_any P P' A A' c c' _ _ w h.trim h'.trim
 have tm := fun n => made_any P A c _ (World.drewN w n) (h.trim.drewN n)
 rw [val_digs (by omega), val_digs (by omega), cmpV_lt hlt] at tc
 rw [val_digs (by omega)] at tm
 have Tc := Lib.hid tc
 have Tm := Lib.hid tm
 have hne : 0 < (digs 18446744073709551616 (val 18446744073709551616 b)).length := by
  rw [digs_pos (by omega) (by omega)]; simp
 clear tc tm h h' hlt
 generalize digs 18446744073709551616 (val 18446744073709551616 a) = l at *
 generalize digs 18446744073709551616 (val 18446744073709551616 b) = m at *
 have hne' : ((m.length : Int) == 0) = false := eqB (by omega)
 clear hne
 go_enter Tryz.func169, Tryz.ntmps169
 go_wp2_with fail
 refine ta.out.mono ?_
 rintro e w1 ⟨rfl, rfl⟩
 go_wp2_with fail
 refine tb.out.mono ?_
 rintro e w1 ⟨rfl, rfl⟩
 go_wp2_with fail
 refine Tc.out.mono ?_
 rintro e w1 ⟨rfl, n, rfl⟩
 go_wp2_with fail
 refine (Tm.out n).mono ?_
 rintro e w1 ⟨A1, c1, rfl, hO, hB⟩
 go_wp2
 go_ret3
 exact ⟨A1, c1, rfl, hO, ⟨hB.os, hB.tape, hB.output, hB.size, hB.block⟩⟩

set_option maxRecDepth 100000 in
set_option maxHeartbeats 1000000 in
theorem quo_one (P P' : Nat → Prop) (A A' : Option Addr) (c c' : Nat) (a b : List Nat) (w : World) (h : RN w P A c a) (h' : RN w P' A' c' b) (hP : ∀ b, P b → b < w.heap.size) (hl : a.length < 100000) (hge : val 18446744073709551616 b ≤ val 18446744073709551616 a)
 (h0 : 0 < val 18446744073709551616 b) (h1 : val 18446744073709551616 b < 18446744073709551616) :
 Calls Tryz.prog 169 #[.slice A a.length c, .slice A' b.length c'] w fun e w' => ∃ A1 c1 A2 c2, e = .returned (.tuple #[.slice A1 (digs 18446744073709551616 (val 18446744073709551616 a / val 18446744073709551616 b)).length c1, .slice A2 (digs 18446744073709551616 (val 18446744073709551616 a % val 18446744073709551616 b)).length c2, .bool true]) ∧
  OB w' w.heap.size A1 c1 (digs 18446744073709551616 (val 18446744073709551616 a / val 18446744073709551616 b)) ∧ OB w' w.heap.size A2 c2 (digs 18446744073709551616 (val 18446744073709551616 a % val 18446744073709551616 b)) ∧ Below w.heap.size w w' := by
 have ta := Lib.hid (trim_any P A c a w h)
 have tb := Lib.hid (trim_any P' A' c' b w h')
 have tc := cmp_any P P' A A' c c' _ _ w h.trim h'.trim
 have la := digs_length_le (B := 18446744073709551616) (by omega) h.2.1
 have ts := fun n => small_any P A c _ (val 18446744073709551616 b) (World.drewN w n) (h.trim.drewN n) hP (by omega) h0 h1
 rw [val_digs (by omega), val_digs (by omega)] at tc
 rw [val_digs (by omega)] at ts
 replace h := h.trim
 replace h' := h'.trim
 generalize val 18446744073709551616 a = x at *
 generalize val 18446744073709551616 b = y at *
 have hcv : 0 ≤ cmpV x y := by rcases cmpV_cases x y with h | h | h <;> omega
 generalize cmpV x y = v at tc hcv
 have hof := Lib.hid (fun w => of_any (x % y) w (by have := Nat.mod_lt x h0; omega))
 have hm1 := digs_one_length h0 h1
 rw [hm1] at tb tc h'
 have Tc := Lib.hid tc
 have Ts := Lib.hid ts
 obtain ⟨ae, rfl, hae, q1⟩ := h'.at_ (i := 0) (by simp)
 rw [dg_cons_zero] at q1
 clear tc ts hm1 hge la hl
 obtain ⟨g1, g2, g3⟩ := h.cap
 generalize digs 18446744073709551616 x = l at *
 clear h h' h0 h1
 have q2 : Hid (w.cell? ae = some (.int .u64 (y : Int))) := Lib.hid (by simpa [Addr.add] using q1)
 clear q1
 go_enter Tryz.func169, Tryz.ntmps169
 go_wp2_with fail
 refine ta.out.mono ?_
 rintro e w1 ⟨rfl, rfl⟩
 go_wp2_with fail
 refine tb.out.mono ?_
 rintro e w1 ⟨rfl, rfl⟩
 go_wp2_with fail
 refine Tc.out.mono ?_
 rintro e w1 ⟨rfl, n, rfl⟩
 have q3 := q2.out
 clear hP g1 g2 g3
 go_wp2_with fail
 refine (Ts.out n).mono ?_
 rintro e w1 ⟨A1, c1, rfl, hO, hB⟩
 go_wp2_with fail
 refine (hof.out _).mono ?_
 rintro e w2 ⟨A2, c2, rfl, hO2, hB2⟩
 go_wp2
 go_ret3
 exact ⟨A1, c1, A2, c2, rfl, hO.below hB2 (Nat.le_refl _), hO2.mono hB.size, Below.trans ⟨hB.os, hB.tape, hB.output, hB.size, hB.block⟩ (hB2.mono hB.size)⟩
end Go.Proofs.YtendnkpiidhogaaGreat

namespace Go.Proofs.YtendnkpiidhogaaGreat

def TakesAt (B : Nat) (L0 y : List Nat) (q f : Nat) (L : List Nat) (j c b : Nat) : Prop :=
 L.length = L0.length ∧ val B L + B ^ f * (q * val B (y.take j)) = val B L0 + B ^ (f + j) * (c + b) ∧ ∀ i, f + j ≤ i → dg L i = dg L0 i
theorem TakesAt.zero (B : Nat) (L y : List Nat) (q f : Nat) : TakesAt B L y q f L 0 0 0 := by simp [TakesAt]
theorem TakesAt.step {B : Nat} {L0 y L : List Nat} {q f j c b lo c' x b' : Nat} (h : TakesAt B L0 y q f L j c b) (hL : f + j < L.length) (h1 : lo + B * c' = q * dg y j + c) (h2 : x + lo + b = dg L (f + j) + B * b') :
 TakesAt B L0 y q f (L.set (f + j) x) (j + 1) c' b' := by
 obtain ⟨g1, g2, g3⟩ := h
 refine ⟨by simpa using g1, ?_, fun i hi => by rw [getD_set_ne (by omega)]; exact g3 i (by omega)⟩
 have hs := val_set' B hL x
 rw [val_take_getD, Nat.mul_add, Nat.mul_add, ← Nat.add_assoc f j 1, Nat.pow_succ]
 have e1 : B ^ f * (q * (B ^ j * dg y j)) = B ^ (f + j) * (q * dg y j) := by
  rw [Nat.pow_add, Nat.mul_left_comm q, ← Nat.mul_assoc]
 have e2 : B ^ (f + j) * (lo + B * c') = B ^ (f + j) * (q * dg y j + c) := by rw [h1]
 have e3 : B ^ (f + j) * (x + lo + b) = B ^ (f + j) * (dg L (f + j) + B * b') := by rw [h2]
 rw [e1, Nat.mul_assoc, Nat.mul_add]
 rw [Nat.mul_add] at g2
 simp only [Nat.mul_add] at e2 e3 ⊢
 generalize B ^ (f + j) * (B * c') = p1 at *
 generalize B ^ (f + j) * (B * b') = p2 at *
 generalize B ^ (f + j) * lo = p3 at *
 generalize B ^ (f + j) * (q * dg y j) = p4 at *
 generalize B ^ (f + j) * c = p5 at *
 generalize B ^ (f + j) * b = p6 at *
 generalize B ^ (f + j) * x = p7 at *
 generalize B ^ (f + j) * dg L (f + j) = p8 at *
 generalize B ^ f * (q * val B (y.take j)) = p9 at *
 generalize val B (L.set (f + j) x) = p10 at *
 generalize val B L = p11 at *
 generalize val B L0 = p12 at *
 omega
theorem TakesAt.fin {B : Nat} {L0 y L : List Nat} {q f n c b x b' : Nat} (h : TakesAt B L0 y q f L n c b) (hn : y.length = n) (hL : f + n < L.length) (h2 : x + c + b = dg L (f + n) + B * b') :
 (L.set (f + n) x).length = L0.length ∧ val B (L.set (f + n) x) + B ^ f * (q * val B y) = val B L0 + B ^ (f + n + 1) * b' ∧ ∀ i, f + n + 1 ≤ i → dg (L.set (f + n) x) i = dg L0 i := by
 obtain ⟨g1, g2, g3⟩ := h
 refine ⟨by simpa using g1, ?_, fun i hi => by rw [getD_set_ne (by omega)]; exact g3 i (by omega)⟩
 rw [List.take_of_length_le (by omega)] at g2
 have hs := val_set' B hL x
 have e3 : B ^ (f + n) * (x + c + b) = B ^ (f + n) * (dg L (f + n) + B * b') := by rw [h2]
 rw [Nat.pow_succ, Nat.mul_assoc]
 simp only [Nat.mul_add] at e3 g2
 generalize B ^ (f + n) * (B * b') = p2 at *
 generalize B ^ (f + n) * c = p5 at *
 generalize B ^ (f + n) * b = p6 at *
 generalize B ^ (f + n) * x = p7 at *
 generalize B ^ (f + n) * dg L (f + n) = p8 at *
 generalize B ^ f * (q * val B y) = p9 at *
 generalize val B (L.set (f + n) x) = p10 at *
 generalize val B L = p11 at *
 generalize val B L0 = p12 at *
 omega
def GivesAt (B : Nat) (L0 y : List Nat) (f : Nat) (L : List Nat) (j c : Nat) : Prop :=
 L.length = L0.length ∧ val B L + B ^ (f + j) * c = val B L0 + B ^ f * val B (y.take j) ∧ ∀ i, f + j ≤ i → dg L i = dg L0 i
theorem GivesAt.zero (B : Nat) (L y : List Nat) (f : Nat) : GivesAt B L y f L 0 0 := by simp [GivesAt]
theorem GivesAt.step {B : Nat} {L0 y L : List Nat} {f j c x c' : Nat} (h : GivesAt B L0 y f L j c) (hL : f + j < L.length) (h1 : x + B * c' = dg L (f + j) + dg y j + c) : GivesAt B L0 y f (L.set (f + j) x) (j + 1) c' := by
 obtain ⟨g1, g2, g3⟩ := h
 refine ⟨by simpa using g1, ?_, fun i hi => by rw [getD_set_ne (by omega)]; exact g3 i (by omega)⟩
 have hs := val_set' B hL x
 rw [val_take_getD, Nat.mul_add, ← Nat.mul_assoc, ← Nat.pow_add, ← Nat.add_assoc f j 1, Nat.pow_succ, Nat.mul_assoc]
 have e2 : B ^ (f + j) * (x + B * c') = B ^ (f + j) * (dg L (f + j) + dg y j + c) := by rw [h1]
 simp only [Nat.mul_add] at e2 ⊢
 generalize B ^ (f + j) * (B * c') = p1 at *
 generalize B ^ (f + j) * dg y j = p4 at *
 generalize B ^ (f + j) * c = p5 at *
 generalize B ^ (f + j) * x = p7 at *
 generalize B ^ (f + j) * dg L (f + j) = p8 at *
 generalize B ^ f * val B (y.take j) = p9 at *
 generalize val B (L.set (f + j) x) = p10 at *
 generalize val B L = p11 at *
 generalize val B L0 = p12 at *
 omega
theorem GivesAt.fin {B : Nat} {L0 y L : List Nat} {f n c x c' : Nat} (h : GivesAt B L0 y f L n c) (hn : y.length = n) (hL : f + n < L.length) (h1 : x + B * c' = dg L (f + n) + c) :
 (L.set (f + n) x).length = L0.length ∧ val B (L.set (f + n) x) + B ^ (f + n + 1) * c' = val B L0 + B ^ f * val B y ∧ ∀ i, f + n + 1 ≤ i → dg (L.set (f + n) x) i = dg L0 i := by
 obtain ⟨g1, g2, g3⟩ := h
 refine ⟨by simpa using g1, ?_, fun i hi => by rw [getD_set_ne (by omega)]; exact g3 i (by omega)⟩
 rw [List.take_of_length_le (by omega)] at g2
 have hs := val_set' B hL x
 have e3 : B ^ (f + n) * (x + B * c') = B ^ (f + n) * (dg L (f + n) + c) := by rw [h1]
 rw [Nat.pow_succ, Nat.mul_assoc]
 simp only [Nat.mul_add] at e3
 generalize B ^ (f + n) * (B * c') = p2 at *
 generalize B ^ (f + n) * c = p5 at *
 generalize B ^ (f + n) * x = p7 at *
 generalize B ^ (f + n) * dg L (f + n) = p8 at *
 generalize B ^ f * val B y = p9 at *
 generalize val B (L.set (f + n) x) = p10 at *
 generalize val B L = p11 at *
 generalize val B L0 = p12 at *
 omega
theorem val_lt_of_zero {B : Nat} (hB : 0 < B) {L : List Nat} (h : ∀ x ∈ L, x < B) {m : Nat} (hz : ∀ i, m ≤ i → dg L i = 0) : val B L < B ^ m := by
 rcases Nat.lt_or_ge L.length m with h1 | h1
 · exact Nat.lt_of_lt_of_le (val_lt h) (Nat.pow_le_pow_right hB (by omega))
 · have e := val_take_drop B L h1
   have hd : val B (L.drop m) = 0 := by
    apply val_zeros
    intro x hx
    obtain ⟨i, hi, rfl⟩ := List.getElem_of_mem hx
    rw [List.getElem_drop]
    have := hz (m + i) (by omega)
    rwa [dg, getD_eq' (by simp at hi; omega)] at this
   rw [hd, Nat.mul_zero, Nat.add_zero] at e
   rw [e]
   have := val_lt (B := B) (l := L.take m) fun x hx => h x (List.mem_of_mem_take hx)
   rwa [List.length_take, Nat.min_eq_left h1] at this
theorem dg_of_val {B : Nat} {L : List Nat} (h : ∀ x ∈ L, x < B) (i : Nat) (hi : i < L.length) : dg L i = val B L / B ^ i % B := by
 have hB : 0 < B := Nat.lt_of_le_of_lt (Nat.zero_le _) (h _ (List.getElem_mem hi))
 have e := val_take_drop B L (Nat.le_of_lt hi)
 have h2 := val_lt (B := B) (l := L.take i) fun x hx => h x (List.mem_of_mem_take hx)
 rw [List.length_take, Nat.min_eq_left (by omega)] at h2
 rw [List.drop_eq_getElem_cons hi, val_cons] at e
 rw [e, Nat.add_mul_div_left _ _ (Nat.pow_pos hB), Nat.div_eq_of_lt h2, Nat.zero_add, Nat.add_mul_mod_self_left, dg, getD_eq' hi, Nat.mod_eq_of_lt (h _ (List.getElem_mem hi))]
theorem zero_of_val_lt {B : Nat} {L : List Nat} (h : ∀ x ∈ L, x < B) {m : Nat} (hm : val B L < B ^ m) {i : Nat} (hi : m ≤ i) : dg L i = 0 := by
 rcases Nat.lt_or_ge i L.length with h1 | h1
 · have hB : 0 < B := Nat.lt_of_le_of_lt (Nat.zero_le _) (h _ (List.getElem_mem h1))
   rw [dg_of_val h i h1, Nat.div_eq_of_lt (Nat.lt_of_lt_of_le hm (Nat.pow_le_pow_right hB hi)), Nat.zero_mod]
 · rw [dg, List.getD_eq_getElem?_getD, List.getElem?_eq_none h1]; rfl
end Go.Proofs.YtendnkpiidhogaaGreat

namespace Go.Proofs.YtendnkpiidhogaaGreat
open Go.RowKit

def Guessed (u u1 y1 y0 G : Nat) : Prop := G < 18446744073709551616 ∧ ∀ q, q < 18446744073709551616 → q * (y1 * 18446744073709551616 + y0) ≤ u * 18446744073709551616 + u1 → q ≤ G
theorem Guessed.top (u u1 y1 y0 : Nat) : Guessed u u1 y1 y0 18446744073709551615 := ⟨by omega, fun q hq _ => by omega⟩
theorem Guessed.of_eq {u u1 y1 y0 G : Nat} (h : GuessOk 18446744073709551616 u u1 y1 y0) (he : G = (u * 18446744073709551616 + u1) / (y1 * 18446744073709551616 + y0)) : Guessed u u1 y1 y0 G := by
 refine ⟨by rw [he]; exact h.quo_lt, fun q _ hle => ?_⟩
 rw [he]
 refine (Nat.le_div_iff_mul_le ?_).2 hle
 have := h.hy
 omega
theorem two_le {hi lo r x p : Nat} (h : lo + 18446744073709551616 * hi = p) (hlo : lo < 18446744073709551616) (hx : x < 18446744073709551616) : (hi < r ∨ hi = r ∧ lo ≤ x) ↔ p ≤ 18446744073709551616 * r + x := by
 subst h
 rcases Nat.lt_trichotomy hi r with h1 | h1 | h1
 · refine ⟨fun _ => ?_, fun _ => .inl h1⟩
   omega
 · subst h1
   exact ⟨fun h => by omega, fun h => by omega⟩
 · exact ⟨fun h => by omega, fun h => by omega⟩

theorem top_quo {B x2 x1 y1 : Nat} (h1 : x1 < B) (h : x2 < y1) : (x2 * B + x1) / y1 < B := by
 apply Nat.div_lt_of_lt_mul
 have : (x2 + 1) * B ≤ y1 * B := Nat.mul_le_mul_right _ h
 rw [Nat.add_mul, Nat.one_mul] at this
 omega

theorem ret_u {a b : Int} (h : a = b) : Ending.returned (.int .u64 a) = .returned (.int .u64 b) := by rw [h]
def guessF (x2 x1 x0 y1 y0 : Nat) : Nat := if y1 ≤ x2 then 18446744073709551615 else ((x2 * 18446744073709551616 + x1) * 18446744073709551616 + x0) / (y1 * 18446744073709551616 + y0)
theorem guessF_ok {x2 x1 x0 y1 y0 : Nat} (h1 : x1 < 18446744073709551616) (h0 : x0 < 18446744073709551616) (g1 : y1 < 18446744073709551616) (g0 : y0 < 18446744073709551616) (gt : 18446744073709551616 ≤ 2 * y1) :
 Guessed (x2 * 18446744073709551616 + x1) x0 y1 y0 (guessF x2 x1 x0 y1 y0) := by
 unfold guessF
 split
 · exact Guessed.top _ _ _ _
 · have hu : x2 * 18446744073709551616 + x1 < y1 * 18446744073709551616 + y0 := by omega
   exact Guessed.of_eq ⟨by omega, gt, g1, g0, h0, hu⟩ rfl

set_option maxRecDepth 100000 in
set_option maxHeartbeats 2000000 in
theorem guess_any (x2 x1 x0 y1 y0 : Nat) (w : World) (h1 : x1 < 18446744073709551616) (h0 : x0 < 18446744073709551616) (g1 : y1 < 18446744073709551616) (g0 : y0 < 18446744073709551616) (gt : 18446744073709551616 ≤ 2 * y1) :
 Calls Tryz.prog 209 #[.int .u64 (x2 : Int), .int .u64 (x1 : Int), .int .u64 (x0 : Int), .int .u64 (y1 : Int), .int .u64 (y0 : Int)] w fun e w' => e = .returned (.int .u64 (guessF x2 x1 x0 y1 y0 : Int)) ∧ ∃ n, w' = w.drewN n := by
 by_cases hge : y1 ≤ x2
 · have k1 : y1 ≤ x2 := hge
   have ht : guessF x2 x1 x0 y1 y0 = 18446744073709551615 := if_pos hge
   have Ht := Lib.hid ht
   clear h1 h0 g1 g0 gt hge ht
   go_enter Tryz.func209, Tryz.ntmps209
   go_wp2
   go_step3
   go_wp2
   try rw [Exit.noGoto_ret]
   go_ret
   exact ⟨by rw [Ht.out]; rfl, 0, rfl⟩
 · have k1 : ¬ y1 ≤ x2 := hge
   have hlt : x2 < y1 := by omega
   have hu : x2 * 18446744073709551616 + x1 < y1 * 18446744073709551616 + y0 := by omega
   have hq := top_quo h1 hlt
   have hdv := fun q r (hr : r < y1) (he : _ = y1 * q + r) => div64_any x2 x1 y1 w h1 hlt g1 q r hr he
   have hF : guessF x2 x1 x0 y1 y0 = ((x2 * 18446744073709551616 + x1) * 18446744073709551616 + x0) / (y1 * 18446744073709551616 + y0) := if_neg hge
   obtain ⟨u, hu'⟩ : ∃ u, x2 * 18446744073709551616 + x1 = u := ⟨_, rfl⟩
   rw [hu'] at hu hq hdv hF
   have G := (⟨by omega, gt, g1, g0, h0, hu⟩ : GuessOk 18446744073709551616 u x0 y1 y0)
   obtain ⟨hg, hr, hp⟩ := G.start
   have hrr : u - u / y1 * y1 < y1 := (rest_of (by omega)).2
   have HG : Hid (∀ g, g = (u * 18446744073709551616 + x0) / (y1 * 18446744073709551616 + y0) → g = guessF x2 x1 x0 y1 y0) := Lib.hid fun g he => he.trans hF.symm
   clear hF
   clear hu hu'
   obtain ⟨q, hq'⟩ : ∃ q, u / y1 = q := ⟨_, rfl⟩
   rw [hq'] at hg hr hp hrr hq
   obtain ⟨p, hp'⟩ : ∃ p, q * y1 = p := ⟨_, rfl⟩
   rw [hp'] at hg hr hp hrr
   obtain ⟨r, hr'⟩ : ∃ r, u - p = r := ⟨_, rfl⟩
   rw [hr'] at hg hr hrr
   have Hdv := Lib.hid (hdv q r hrr (by rw [Nat.mul_comm, hp']; omega))
   have HGk := Lib.hid G
   clear hdv hq' hp' hr' hp hrr hge hlt h1 G gt
   go_enter Tryz.func209, Tryz.ntmps209
   go_wp2
   go_step3
   go_wp2_with fail
   refine Hdv.out.mono ?_
   rintro e w1 ⟨rfl, n, rfl⟩
   go_wp2
   go_step3
   go_wp2
   go_loop [11, 12] (fun qv rv => ∃ q r : Nat, qv = .int .u64 (q : Int) ∧ rv = .int .u64 (r : Int) ∧ GuessAt 18446744073709551616 u x0 y1 y0 q r ∧ r < 18446744073709551616 ∧ q < 18446744073709551616) (fun qv _ => (intOf qv).toNat)
   case atStart => exact ⟨q, r, rfl, rfl, hg, hr, hq⟩
   case round =>
    clear hg hr hq
    obtain ⟨q, r, rfl, rfl, hg, hr, hq⟩ := hrel
    obtain ⟨hi', lo, b1, b2⟩ : ∃ hi' lo : Nat, lo < 18446744073709551616 ∧ lo + 18446744073709551616 * hi' = q * y0 := ⟨q * y0 / 18446744073709551616, q * y0 % 18446744073709551616, by omega, by omega⟩
    have hmul := Lib.hid (fun w => mul64_at q y0 hi' lo hq g0 b1 b2 w)
    have hle := two_le (r := r) b2 b1 h0
    by_cases hc : q * y0 ≤ 18446744073709551616 * r + x0
    · have hQ := Lib.hid (HG.out _ (hg.le HGk.out hc))
      have hc' := hle.2 hc
      clear hle hc hg hr hq b1 b2 g0 g1 h0
      rcases hc' with hc' | ⟨rfl, hc'⟩
      · have i1 : hi' < r := by omega
        clear hc'
        go_wp2_with fail
        refine (hmul.out _).mono ?_
        rintro e w1 ⟨rfl, rfl⟩
        go_wp2
        try rw [Exit.noGoto_ret]
        go_ret
        exact ⟨by rw [← hQ.out]; rfl, _, rfl⟩
      · have i1 : ¬ hi' < hi' := by omega
        have i2 : lo ≤ x0 := by omega
        clear hc'
        go_wp2_with fail
        refine (hmul.out _).mono ?_
        rintro e w1 ⟨rfl, rfl⟩
        go_wp2
        try rw [Exit.noGoto_ret]
        go_ret
        exact ⟨by rw [← hQ.out]; rfl, _, rfl⟩
    · obtain ⟨hg', hq1⟩ := hg.step HGk.out (.inr (by omega))
      obtain ⟨m, rfl⟩ : ∃ m, q = m + 1 := ⟨q - 1, by omega⟩
      rw [Nat.add_sub_cancel] at hg'
      have hmB : m < 18446744073709551616 := by omega
      obtain ⟨s, cc, s1, s2, s3⟩ : ∃ s cc : Nat, s < 18446744073709551616 ∧ cc ≤ 1 ∧ s + 18446744073709551616 * cc = r + y1 + 0 := ⟨(r + y1) % 18446744073709551616, (r + y1) / 18446744073709551616, by omega, by omega, by omega⟩
      have hadd := fun w => add64_at r y1 0 s cc (by omega) s1 s3 w
      simp only [Int.cast_ofNat_Int] at hadd
      have hn : ¬ (hi' < r ∨ hi' = r ∧ lo ≤ x0) := fun h => hc (hle.1 h)
      have hmi : (m : Int) < 18446744073709551616 := by omega
      rcases Nat.eq_zero_or_pos cc with rfl | hcc
      · have hs : s = r + y1 := by omega
        rw [← hs] at hg'
        have Hs1 := Lib.hid s1
        have Hmb := Lib.hid hmB
        clear s1 s2 s3 hs hg hle hc b1 b2 hq hr hq1 hmB
        by_cases hi : hi' = r
        · subst hi
          have i1 : ¬ hi' < hi' := by omega
          have i2 : ¬ lo ≤ x0 := by omega
          clear hn
          go_wp2_with fail
          refine (hmul.out _).mono ?_
          rintro e w1 ⟨rfl, rfl⟩
          go_wp2
          go_round
          case rel => exact ⟨m, s, by go_num, rfl, hg', Hs1.out, Hmb.out⟩
          case measure => simp [intOf]
        · have i1 : ¬ hi' < r := by omega
          have i2 : ((hi' : Int) == (r : Int)) = false := eqB (by omega)
          clear hn hi
          go_wp2_with fail
          refine (hmul.out _).mono ?_
          rintro e w1 ⟨rfl, rfl⟩
          go_wp2
          go_round
          case rel => exact ⟨m, s, by go_num, rfl, hg', Hs1.out, Hmb.out⟩
          case measure => simp [intOf]
      · obtain rfl : cc = 1 := by omega
        have hQ := Lib.hid (HG.out _ (hg'.out HGk.out (by omega) (by omega)))
        clear s1 s2 s3 hg hg' hle hc b1 b2 hq hr hq1 hmB
        simp only [Int.cast_ofNat_Int] at hadd
        by_cases hi : hi' = r
        · subst hi
          have i1 : ¬ hi' < hi' := by omega
          have i2 : ¬ lo ≤ x0 := by omega
          clear hn
          go_wp2_with fail
          refine (hmul.out _).mono ?_
          rintro e w1 ⟨rfl, rfl⟩
          go_wp2
          try rw [Exit.noGoto_ret]
          go_ret
          exact ⟨by rw [← hQ.out]; exact ret_u (by simp), _, rfl⟩
        · have i1 : ¬ hi' < r := by omega
          have i2 : ((hi' : Int) == (r : Int)) = false := eqB (by omega)
          clear hn hi
          go_wp2_with fail
          refine (hmul.out _).mono ?_
          rintro e w1 ⟨rfl, rfl⟩
          go_wp2
          try rw [Exit.noGoto_ret]
          go_ret
          exact ⟨by rw [← hQ.out]; exact ret_u (by simp), _, rfl⟩
end Go.Proofs.YtendnkpiidhogaaGreat

namespace Go.Proofs.YtendnkpiidhogaaGreat
open Go.RowKit

def Row (w : World) (g : Nat) (l : List Nat) : Prop := ∃ cur, w.heap[g]? = some (.cells cur 139 (0, 0)) ∧ ∀ (j : Nat) u, (nts l)[j]? = some u → cur[j]? = some u
section
variable {w w' w'' : World} {g f : Nat} {l : List Nat} {p : Addr}
theorem add_off (g f j : Nat) : (⟨g, f, none⟩ : Addr).add j = ⟨g, f + j, none⟩ := by
 rcases Nat.eq_zero_or_pos j with h | h
 · subst h; rfl
 · simp [Addr.add, Nat.pos_iff_ne_zero.1 h]
theorem Row.cell (h : Row w g l) (hp : p = ⟨g, f, none⟩) {j : Nat} (hj : f + j < l.length) : w.cell? (p.add j) = some (.int .u64 (dg l (f + j) : Int)) := by
 obtain ⟨cur, h1, h2⟩ := h
 rw [hp, add_off, blk_cell h1, h2 _ _ (nts_get hj)]
theorem Row.free (h : Row w g l) (hp : p = ⟨g, f, none⟩) (j : Nat) : w.frozen? (p.add j) = false := by
 obtain ⟨cur, h1, h2⟩ := h
 rw [hp, add_off, blk_free h1]
theorem Row.set (h : Row w g l) (hp : p = ⟨g, f, none⟩) (j x : Nat) : Row (w.setCell (p.add j) (.int .u64 (x : Int))) g (l.set (f + j) x) := by
 obtain ⟨cur, h1, h2⟩ := h
 rw [hp, add_off]
 refine ⟨cur.setIfInBounds (f + j) (.int .u64 (x : Int)), by simp [World.setCell, Array.getElem?_modify, h1], fun i u hu => ?_⟩
 rw [nts, List.map_set, List.getElem?_set] at hu
 rw [Array.getElem?_setIfInBounds]
 by_cases e : f + j = i
 · rw [if_pos e] at hu ⊢
   split at hu
   · rename_i hl
     have := h2 i _ (nts_get (by rw [← e]; simpa using hl))
     have hi := (Array.getElem?_eq_some_iff.1 this).1
     rw [if_pos (by omega)]
     exact hu
   · cases hu
 · rw [if_neg e] at hu ⊢
   exact h2 i u hu
theorem Row.lt (h : Row w g l) : g < w.heap.size := by obtain ⟨cur, h1, h2⟩ := h; exact blk_lt h1
theorem Row.drewN (h : Row w g l) (n : Nat) : Row (w.drewN n) g l := h
theorem Row.of_heap (h : Row w g l) (he : w'.heap[g]? = w.heap[g]?) : Row w' g l := by
 obtain ⟨cur, h1, h2⟩ := h
 exact ⟨cur, he.trans h1, h2⟩
theorem Row.below {B : Nat} (h : Row w g l) (hb : Below B w w') (hg : g < B) : Row w' g l := h.of_heap (hb.block g hg)
theorem Row.ob (h : Row w g l) {base c : Nat} (hg : base ≤ g) (hl : Lim l) (hc : l.length ≤ c) (hc' : c ≤ maxLen) : OB w base (some ⟨g, 0, none⟩) c l := by
 obtain ⟨cur, h1, h2⟩ := h
 exact ⟨hl, hc, hc', fun _ => ⟨g, cur, rfl, hg, h1, h2⟩⟩
theorem OB.row {base c : Nat} {A : Option Addr} (h : OB w base A c l) (h0 : 0 < l.length) : ∃ g, A = some ⟨g, 0, none⟩ ∧ base ≤ g ∧ Row w g l := by
 obtain ⟨h1, h2, h3, h4⟩ := h
 obtain ⟨g, cur, e, hg, h5, h6⟩ := h4 h0
 exact ⟨g, e, hg, cur, h5, h6⟩
theorem Row.blk (h : Blk w g l) : Row w g l := ⟨_, h, fun j u hu => by rw [List.getElem?_toArray]; exact hu⟩
structure Only (g : Nat) (w w' : World) : Prop where
 os : w'.os = w.os
 tape : w'.tape = w.tape
 output : w'.output = w.output
 size : w'.heap.size = w.heap.size
 block : ∀ k, k ≠ g → w'.heap[k]? = w.heap[k]?
theorem Only.refl (g : Nat) (w : World) : Only g w w := ⟨rfl, rfl, rfl, rfl, fun _ _ => rfl⟩
theorem Only.trans (h : Only g w w') (k : Only g w' w'') : Only g w w'' := ⟨k.os.trans h.os, k.tape.trans h.tape, k.output.trans h.output, k.size.trans h.size, fun i hi => (k.block i hi).trans (h.block i hi)⟩
theorem Only.setCell (h : Only g w w') (hp : p = ⟨g, f, none⟩) (j : Nat) (v : Value) : Only g w (w'.setCell (p.add j) v) := by
 have e : (p.add j).block = g := by rw [hp, add_off]
 refine ⟨h.os, h.tape, h.output, ?_, fun k hk => (Below.heap_setCell _ _ _ _ (by rw [e]; exact hk)).trans (h.block k hk)⟩
 have : (w'.setCell (p.add j) v).heap.size = w'.heap.size := by unfold World.setCell; split <;> simp
 exact this.trans h.size
theorem Only.drewN (h : Only g w w') (n : Nat) : Only g w (w'.drewN n) := ⟨h.os, h.tape, h.output, h.size, h.block⟩
theorem Only.below {B : Nat} (h : Only g w w') (hB : B ≤ g) : Below B w w' := ⟨h.os, h.tape, h.output, Nat.le_of_eq h.size.symm, fun k hk => h.block k (by omega)⟩
theorem RN.only {P : Nat → Prop} {A : Option Addr} {c : Nat} (h : RN w P A c l) (ho : Only g w w') (hP : ∀ b, P b → b ≠ g) : RN w' P A c l := h.keep fun q hq => World.cell?_of_block (w := w) (ho.block q.block (hP _ hq))
theorem Row.only {g' : Nat} (h : Row w g' l) (ho : Only g w w') (hg : g' ≠ g) : Row w' g' l := h.of_heap (ho.block g' hg)
end
theorem takes_round (q v c x b : Nat) (hq : q < 18446744073709551616) (hv : v < 18446744073709551616) (hc : c < 18446744073709551616) (hx : x < 18446744073709551616) (hb : b ≤ 1) :
    ∃ hi lo s c1 t b' : Nat, lo < 18446744073709551616 ∧ lo + 18446744073709551616 * hi = q * v ∧ s < 18446744073709551616 ∧ s + 18446744073709551616 * c1 = lo + c + 0 ∧ hi + c1 < 18446744073709551616 ∧ s + 18446744073709551616 * (hi + c1) = q * v + c ∧
      t < 18446744073709551616 ∧ b' ≤ 1 ∧ t + s + b = x + 18446744073709551616 * b' := by
  have hm := mul_bound hq hv hc (show 0 < 18446744073709551616 by omega)
  refine ⟨q * v / 18446744073709551616, q * v % 18446744073709551616, (q * v % 18446744073709551616 + c) % 18446744073709551616, (q * v % 18446744073709551616 + c) / 18446744073709551616, ?_⟩
  obtain ⟨t, b', h1, h2, h3⟩ := borrow_of x ((q * v % 18446744073709551616 + c) % 18446744073709551616) b hx (Nat.mod_lt _ (by omega)) hb
  refine ⟨t, b', ?_⟩
  generalize q * v = p at *
  omega

set_option maxRecDepth 100000 in
set_option maxHeartbeats 2000000 in
theorem takes_any (g f : Nat) (p : Addr) (hp : p = ⟨g, f, none⟩) (P : Nat → Prop) (A : Option Addr) (c cx n q : Nat) (L y : List Nat) (w : World) (hr : Row w g L) (hL : Lim L) (h : RN w P A c y) (hP : ∀ b, P b → b ≠ g) (hn : y.length = n) (hf : f + n < L.length) (hq : q < 18446744073709551616) :
 Calls Tryz.prog 210 #[.slice (some p) (n + 1) cx, .slice A n c, .int .u64 (q : Int)] w fun e w' => ∃ (L' : List Nat) (b : Nat), e = .returned (.bool (decide (0 < b))) ∧ Row w' g L' ∧ Lim L' ∧ Only g w w' ∧
  L'.length = L.length ∧ val 18446744073709551616 L' + 18446744073709551616 ^ f * (q * val 18446744073709551616 y) = val 18446744073709551616 L + 18446744073709551616 ^ (f + n + 1) * b ∧ ∀ i, f + n + 1 ≤ i → dg L' i = dg L i := by
 obtain ⟨h1, h2, h3⟩ := h.cap
 have hn1 : n ≤ 1000000 := by omega
 have hnc : n ≤ c := by omega
 have Hp := Lib.hid hp
 clear hp h1 h2 h3
 go_enter Tryz.func210, Tryz.ntmps210
 go_wp2
 go_loopw [7, 8, 16] (fun cv bv iv wr => ∃ (j cr b : Nat) (l : List Nat), iv = .int .i64 (j : Int) ∧ cv = .int .u64 (cr : Int) ∧ bv = .int .u64 (b : Int) ∧ j ≤ n ∧ cr < 18446744073709551616 ∧ b ≤ 1 ∧ TakesAt 18446744073709551616 L y q f l j cr b ∧ Lim l ∧ Row wr g l ∧ Only g w wr) (fun _ _ iv _ => n - (intOf iv).toNat)
 case atStart => exact ⟨0, 0, 0, L, rfl, rfl, rfl, by omega, by omega, by omega, TakesAt.zero _ _ _ _ _, hL, hr, Only.refl _ _⟩
 case round =>
  obtain ⟨j, cr, b, l, rfl, rfl, rfl, hj, hcr, hb, hT, hl, hw, ho⟩ := hrel
  have hll := hT.1
  by_cases hlt : j < n
  · obtain ⟨ad, rfl, _, q1⟩ := (h.only ho hP).at_ (i := j) (by omega)
    obtain ⟨hi', lo, s, c1, t, b', b1, b2, b3, b4, b5, b6, b7, b8, b9⟩ := takes_round q (dg y j) cr (dg l (f + j)) b hq (h.2.dgLt j) hcr (hl.dgLt _) hb
    have hmul := Lib.hid (fun w => mul64_at q (dg y j) hi' lo hq (h.2.dgLt j) b1 b2 w)
    have hadd := fun w => add64_at lo cr 0 s c1 (by omega) b3 b4 w
    simp only [Int.cast_ofNat_Int] at hadd
    have hsub := fun w => sub64_at (dg l (f + j)) s b t b' hb (hl.dgLt _) b3 b7 b9 b8 w
    have q3 := hw.cell Hp.out (j := j) (by omega)
    have q4 := hw.free Hp.out j
    have hT' := hT.step (by omega) b6 b9
    have hw' := hw.set Hp.out j t
    have hl' := hl.set (f + j) t b7
    have ho' := ho.setCell Hp.out j (.int .u64 (t : Int))
    have k1 : (j : Int) < (n : Int) + 1 := by omega
    clear hT hl hw ho b1 b2 b3 b4 b6 b7 b9 hll hq hcr
    go_wp2_with fail
    refine (hmul.out _).mono ?_
    rintro e w1 ⟨rfl, rfl⟩
    go_wp2
    go_roundw
    case rel => exact ⟨j + 1, hi' + c1, b', l.set (f + j) t, by go_num, by go_num, rfl, by omega, b5, b8, hT', hl', hw', ho'⟩
    case measure => simp [intOf]; omega
  · obtain rfl : j = n := by omega
    obtain ⟨t, b', b7, b8, b9⟩ := borrow_of (dg l (f + j)) cr b (hl.dgLt _) hcr hb
    have hsub := fun w => sub64_at (dg l (f + j)) cr b t b' hb (hl.dgLt _) hcr b7 b9 b8 w
    have q3 := hw.cell Hp.out (j := j) (by omega)
    have q4 := hw.free Hp.out j
    have hT' := Lib.hid (hT.fin hn (by omega) b9)
    have hw' := hw.set Hp.out j t
    have hl' := hl.set (f + j) t b7
    have ho' := ho.setCell Hp.out j (.int .u64 (t : Int))
    have k1 : (j : Int) < (j : Int) + 1 := by omega
    clear hT hl hw ho b7 b9 hll hq hcr
    go_wp2
    go_ret
    exact ⟨l.set (f + j) t, b', by simp, hw', hl', ho', hT'.out⟩

set_option maxRecDepth 100000 in
set_option maxHeartbeats 2000000 in
theorem gives_any (g f : Nat) (p : Addr) (hp : p = ⟨g, f, none⟩) (P : Nat → Prop) (A : Option Addr) (c cx n : Nat) (L y : List Nat) (w : World) (hr : Row w g L) (hL : Lim L) (h : RN w P A c y) (hP : ∀ b, P b → b ≠ g) (hn : y.length = n) (hf : f + n < L.length) :
 Calls Tryz.prog 211 #[.slice (some p) (n + 1) cx, .slice A n c] w fun e w' => ∃ (L' : List Nat) (b : Nat), e = .returned (.tuple #[]) ∧ Row w' g L' ∧ Lim L' ∧ Only g w w' ∧
  L'.length = L.length ∧ val 18446744073709551616 L' + 18446744073709551616 ^ (f + n + 1) * b = val 18446744073709551616 L + 18446744073709551616 ^ f * val 18446744073709551616 y ∧ ∀ i, f + n + 1 ≤ i → dg L' i = dg L i := by
 obtain ⟨h1, h2, h3⟩ := h.cap
 have hn1 : n ≤ 1000000 := by omega
 have hnc : n ≤ c := by omega
 have Hp := Lib.hid hp
 clear hp h1 h2 h3
 go_enter Tryz.func211, Tryz.ntmps211
 go_wp2
 go_loopw [4, 9] (fun cv iv wr => ∃ (j cr : Nat) (l : List Nat), iv = .int .i64 (j : Int) ∧ cv = .int .u64 (cr : Int) ∧ j ≤ n ∧ cr ≤ 1 ∧ GivesAt 18446744073709551616 L y f l j cr ∧ Lim l ∧ Row wr g l ∧ Only g w wr) (fun _ iv _ => n - (intOf iv).toNat)
 case atStart => exact ⟨0, 0, L, rfl, rfl, by omega, by omega, GivesAt.zero _ _ _ _, hL, hr, Only.refl _ _⟩
 case round =>
  obtain ⟨j, cr, l, rfl, rfl, hj, hcr, hT, hl, hw, ho⟩ := hrel
  have hll := hT.1
  by_cases hlt : j < n
  · obtain ⟨ad, rfl, _, q1⟩ := (h.only ho hP).at_ (i := j) (by omega)
    obtain ⟨s, c', b7, b8, b9⟩ := carry_of (dg l (f + j)) (dg y j) cr (hl.dgLt _) (h.2.dgLt j) hcr
    have hadd := fun w => add64_at (dg l (f + j)) (dg y j) cr s c' hcr b7 b9 w
    have q3 := hw.cell Hp.out (j := j) (by omega)
    have q4 := hw.free Hp.out j
    have hT' := hT.step (by omega) b9
    have hw' := hw.set Hp.out j s
    have hl' := hl.set (f + j) s b7
    have ho' := ho.setCell Hp.out j (.int .u64 (s : Int))
    have k1 : (j : Int) < (n : Int) + 1 := by omega
    clear hT hl hw ho b7 b9 hll hcr
    go_wp2
    go_roundw
    case rel => exact ⟨j + 1, c', l.set (f + j) s, by go_num, rfl, by omega, b8, hT', hl', hw', ho'⟩
    case measure => simp [intOf]; omega
  · obtain rfl : j = n := by omega
    obtain ⟨t, b', b7, b8, b9⟩ := carry_of (dg l (f + j)) 0 cr (hl.dgLt _) (by omega) hcr
    have he : IntKind.u64.wrap ((dg l (f + j) : Int) + (cr : Int)) = (t : Int) := by
     have : (dg l (f + j) : Int) + (cr : Int) = (t : Int) + 18446744073709551616 * (b' : Int) := by omega
     rw [this]
     simp [IntKind.wrap, IntKind.bits, IntKind.signed]
     omega
    have q3 := hw.cell Hp.out (j := j) (by omega)
    have q4 := hw.free Hp.out j
    have hT' := Lib.hid (hT.fin hn (by omega) (x := t) (c' := b') (by omega))
    have hw' := hw.set Hp.out j t
    have hl' := hl.set (f + j) t b7
    have ho' := ho.setCell Hp.out j (.int .u64 (t : Int))
    have k1 : (j : Int) < (j : Int) + 1 := by omega
    clear hT hl hw ho b7 b9 hll hcr
    go_wp2
    go_end0
    exact ⟨l.set (f + j) t, b', rfl, hw', hl', ho', hT'.out⟩
end Go.Proofs.YtendnkpiidhogaaGreat

namespace Go.Proofs.YtendnkpiidhogaaGreat

theorem val_three {B : Nat} {L : List Nat} {t : Nat} (h : ∀ x ∈ L, x < B) (ht : t + 3 ≤ L.length) (hz : ∀ j, t + 3 ≤ j → dg L j = 0) :
 ∃ r, r < B ^ t ∧ val B L = r + B ^ t * ((dg L (t + 2) * B + dg L (t + 1)) * B + dg L t) := by
 refine ⟨val B (L.take t), ?_, ?_⟩
 · have := val_lt (B := B) (l := L.take t) fun x hx => h x (List.mem_of_mem_take hx)
   rwa [List.length_take, Nat.min_eq_left (by omega)] at this
 · have e := val_take_drop B L ht
   have hd : val B (L.drop (t + 3)) = 0 := by
    apply val_zeros
    intro x hx
    obtain ⟨i, hi, rfl⟩ := List.getElem_of_mem hx
    rw [List.getElem_drop]
    have := hz (t + 3 + i) (by omega)
    rwa [dg, getD_eq' (by simp at hi; omega)] at this
   rw [hd, Nat.mul_zero, Nat.add_zero] at e
   rw [e, val_take_getD, val_take_getD, val_take_getD, show B ^ (t + 2) = B ^ t * B * B from by simp only [Nat.pow_succ], Nat.pow_succ]
   have e1 : B ^ t * B * B * dg L (t + 2) = B ^ t * (dg L (t + 2) * B * B) := by simp only [Nat.mul_assoc]; rw [Nat.mul_comm B (dg L (t + 2)), ← Nat.mul_assoc B, Nat.mul_comm B (dg L (t + 2)), Nat.mul_assoc]
   have e2 : B ^ t * B * dg L (t + 1) = B ^ t * (dg L (t + 1) * B) := by rw [Nat.mul_assoc, Nat.mul_comm B]
   rw [e1, e2, Nat.add_mul, Nat.mul_add, Nat.mul_add]
   omega
theorem val_two {B : Nat} {L : List Nat} {t : Nat} (ht : t + 2 = L.length) :
 ∃ r, val B L = r + B ^ t * (dg L (t + 1) * B + dg L t) := by
 refine ⟨val B (L.take t), ?_⟩
 have e : val B L = val B (L.take (t + 2)) := by rw [ht, List.take_length]
 rw [e, val_take_getD, val_take_getD, Nat.pow_succ]
 have e2 : B ^ t * B * dg L (t + 1) = B ^ t * (dg L (t + 1) * B) := by rw [Nat.mul_assoc, Nat.mul_comm B]
 rw [e2, Nat.mul_add]
 omega
theorem quo_three {B q DB V t D2 T rd rv : Nat} (hq : q * DB ≤ V) (hD : DB = rd + B ^ t * D2) (hV : V = rv + B ^ t * T) (hr : rv < B ^ t) : q * D2 ≤ T := by
 have h1 : q * (B ^ t * D2) ≤ q * DB := Nat.mul_le_mul_left _ (by omega)
 have h2 : q * (B ^ t * D2) = B ^ t * (q * D2) := by rw [Nat.mul_left_comm]
 have h3 : B ^ t * (q * D2) < B ^ t * (T + 1) := by rw [Nat.mul_add, Nat.mul_one]; omega
 exact Nat.le_of_lt_succ (Nat.lt_of_mul_lt_mul_left h3)

def FixAt (B V i n D : Nat) (L : List Nat) (g : Nat) (too : Bool) : Prop :=
 V / (B ^ i * D) ≤ g ∧ g < B ∧ (∀ j, i + n + 1 ≤ j → dg L j = 0) ∧ val B L + B ^ i * (g * D) = V + if too then B ^ (i + n + 1) else 0
section
variable {B V i n D g : Nat} {L L' : List Nat}
theorem FixAt.start {b : Nat} (hq : V / (B ^ i * D) ≤ g) (hg : g < B) (hz : ∀ j, i + n + 1 ≤ j → dg L' j = dg L j) (hz0 : ∀ j, i + n + 1 ≤ j → dg L j = 0) (he : val B L' + B ^ i * (g * D) = V + B ^ (i + n + 1) * b) (hL' : ∀ x ∈ L', x < B) (hB : 2 ≤ B) (hD : D < B ^ n) :
 FixAt B V i n D L' g (decide (0 < b)) := by
 have hz' : ∀ j, i + n + 1 ≤ j → dg L' j = 0 := fun j hj => (hz j hj).trans (hz0 j hj)
 refine ⟨hq, hg, hz', ?_⟩
 have h1 := val_lt_of_zero (by omega) hL' hz'
 rw [he]
 have h2 : B ^ i * (g * D) < B ^ (i + n + 1) := by
  rw [Nat.add_assoc, Nat.pow_add, Nat.pow_succ, Nat.mul_comm (B ^ n)]
  refine Nat.mul_lt_mul_of_pos_left ?_ (Nat.pow_pos (by omega))
  exact Nat.lt_of_le_of_lt (Nat.mul_le_mul_left g (Nat.le_of_lt hD)) (Nat.mul_lt_mul_of_pos_right hg (Nat.pow_pos (by omega)))
 rcases Nat.lt_or_ge b 2 with hb | hb
 · have : b = 0 ∨ b = 1 := by omega
   rcases this with rfl | rfl <;> simp
 · exfalso
   have h3 : B ^ (i + n + 1) * 2 ≤ B ^ (i + n + 1) * b := Nat.mul_le_mul_left _ hb
   omega
theorem FixAt.pos (h : FixAt B V i n D L g true) (hL : ∀ x ∈ L, x < B) (hB : 2 ≤ B) : V / (B ^ i * D) < g := by
 obtain ⟨h1, h2, h3, h4⟩ := h
 have h5 := val_lt_of_zero (by omega) hL h3
 apply Nat.div_lt_of_lt_mul
 simp only [if_true] at h4
 rw [Nat.mul_assoc, Nat.mul_comm D]
 omega
theorem FixAt.step {c : Nat} (h : FixAt B V i n D L (g + 1) true) (hL : ∀ x ∈ L, x < B) (hL' : ∀ x ∈ L', x < B) (hB : 2 ≤ B) (hD : 0 < D) (hDn : D < B ^ n)
 (he : val B L' + B ^ (i + n + 1) * c = val B L + B ^ i * D) (hz : ∀ j, i + n + 1 ≤ j → dg L' j = dg L j) : FixAt B V i n D L' g (decide (dg L' (i + n) ≠ 0)) := by
 have hp := h.pos hL hB
 obtain ⟨h1, h2, h3, h4⟩ := h
 have hz' : ∀ j, i + n + 1 ≤ j → dg L' j = 0 := fun j hj => (hz j hj).trans (h3 j hj)
 have h5 := val_lt_of_zero (by omega) hL h3
 have h6 := val_lt_of_zero (by omega) hL' hz'
 have hDi : B ^ i * D < B ^ (i + n) := by rw [Nat.pow_add]; exact Nat.mul_lt_mul_of_pos_left hDn (Nat.pow_pos (by omega))
 have hBB : B ^ (i + n + 1) = B ^ (i + n) * B := Nat.pow_succ _ _
 have hBB2 : B ^ (i + n) * 2 ≤ B ^ (i + n) * B := Nat.mul_le_mul_left _ hB
 have hV : V < B ^ i * D * (g + 1) := by
  have := Nat.lt_mul_div_succ V (show 0 < B ^ i * D from Nat.mul_pos (Nat.pow_pos (by omega)) hD)
  exact Nat.lt_of_lt_of_le this (Nat.mul_le_mul_left _ (by omega))
 simp only [if_true] at h4
 have e1 : B ^ i * ((g + 1) * D) = B ^ i * (g * D) + B ^ i * D := by rw [Nat.add_mul, Nat.one_mul, Nat.mul_add]
 have e2 : B ^ i * D * (g + 1) = B ^ i * (g * D) + B ^ i * D := by rw [← e1, Nat.mul_assoc, Nat.mul_comm D]
 have hgD : B ^ i * (g * D) + B ^ (i + n) * 2 ≤ B ^ (i + n + 1) + B ^ (i + n) := by
  obtain ⟨m, hm⟩ : ∃ m, B = m + 2 := ⟨B - 2, by omega⟩
  have k1 : g * D ≤ m * B ^ n := Nat.mul_le_mul (by omega) (Nat.le_of_lt hDn)
  have k2 : B ^ i * (g * D) ≤ B ^ i * (m * B ^ n) := Nat.mul_le_mul_left _ k1
  have k3 : B ^ i * (m * B ^ n) = B ^ (i + n) * m := by rw [Nat.mul_comm m, ← Nat.mul_assoc, ← Nat.pow_add]
  have k4 : B ^ (i + n) * B = B ^ (i + n) * m + B ^ (i + n) * 2 := by rw [← Nat.mul_add, ← hm]
  omega
 rw [e1] at h4
 rw [e2] at hV
 refine ⟨by omega, by omega, hz', ?_⟩
 rcases Nat.eq_zero_or_pos c with rfl | hc
 · rw [Nat.mul_zero, Nat.add_zero] at he
   have hbig : B ^ (i + n) ≤ val B L' := by omega
   have hne : dg L' (i + n) ≠ 0 := fun h0 => by
    have := val_lt_of_zero (B := B) (m := i + n) (by omega) hL' fun j hj => by
     rcases Nat.lt_or_ge (i + n) j with h | h
     · exact hz' j (by omega)
     · obtain rfl : j = i + n := by omega
       exact h0
    omega
   rw [decide_eq_true hne, if_pos rfl]
   omega
 · have hc1 : c = 1 := by
    rcases Nat.lt_or_ge c 2 with h | h
    · omega
    · have : B ^ (i + n + 1) * 2 ≤ B ^ (i + n + 1) * c := Nat.mul_le_mul_left _ h
      omega
   subst hc1
   rw [Nat.mul_one] at he
   have hsmall : val B L' < B ^ (i + n) := by omega
   have h0 := zero_of_val_lt hL' hsmall (Nat.le_refl _)
   rw [decide_eq_false (by simp [h0]), if_neg (by simp)]
   omega
theorem FixAt.fin (h : FixAt B V i n D L g false) (hB : 2 ≤ B) (hD : 0 < D) : val B L + B ^ i * (g * D) = V ∧ val B L < B ^ i * D := by
 obtain ⟨h1, h2, h3, h4⟩ := h
 simp only [Bool.false_eq_true, if_false, Nat.add_zero] at h4
 refine ⟨h4, ?_⟩
 have h5 := Nat.lt_mul_div_succ V (show 0 < B ^ i * D from Nat.mul_pos (Nat.pow_pos (by omega)) hD)
 have h6 : B ^ i * D * (V / (B ^ i * D) + 1) ≤ B ^ i * D * (g + 1) := Nat.mul_le_mul_left _ (by omega)
 have e : B ^ i * D * (g + 1) = B ^ i * (g * D) + B ^ i * D := by rw [Nat.mul_add, Nat.mul_one, Nat.mul_assoc, Nat.mul_comm D]
 omega
end
def QuoAt (B X D : Nat) (L qs : List Nat) (k : Nat) : Prop := val B L + D * (B ^ k * val B (qs.drop k)) = X ∧ val B L < B ^ k * D
theorem QuoAt.start {B D m : Nat} {L qs : List Nat} (hq : qs.length = m) (h : val B L < B ^ m * D) : QuoAt B (val B L) D L qs m := by
 refine ⟨?_, h⟩
 rw [← hq, List.drop_length]
 simp
theorem QuoAt.step {B X D k g : Nat} {L L' qs : List Nat} (h : QuoAt B X D L qs (k + 1)) (hk : k < qs.length) (h1 : val B L' + B ^ k * (g * D) = val B L) (h2 : val B L' < B ^ k * D) : QuoAt B X D L' (qs.set k g) k := by
 obtain ⟨g1, g2⟩ := h
 refine ⟨?_, h2⟩
 have e : (qs.set k g).drop k = g :: qs.drop (k + 1) := by
  rw [List.drop_set, if_neg (Nat.lt_irrefl _), List.drop_eq_getElem_cons hk, Nat.sub_self, List.set_cons_zero]
 rw [e, val_cons, Nat.mul_add, Nat.mul_add, ← g1, ← h1, Nat.pow_succ]
 have e1 : D * (B ^ k * g) = B ^ k * (g * D) := by rw [Nat.mul_left_comm, Nat.mul_comm D]
 rw [e1, Nat.mul_assoc (B ^ k)]
 omega
theorem QuoAt.fin {B X D : Nat} {L qs : List Nat} (h : QuoAt B X D L qs 0) : val B qs = X / D ∧ val B L = X % D := by
 obtain ⟨g1, g2⟩ := h
 simp only [Nat.pow_zero, Nat.one_mul, List.drop_zero] at g1 g2
 rw [← g1]
 refine ⟨?_, ?_⟩
 · rw [Nat.add_comm, Nat.mul_add_div (by omega), Nat.div_eq_of_lt g2, Nat.add_zero]
 · rw [Nat.add_comm, Nat.mul_add_mod, Nat.mod_eq_of_lt g2]
theorem norm_d {B p u y top n : Nat} (hB : 2 ≤ B) (he : B % 2 = 0) (hp : B = u * p) (hn : (digs B y).length = n + 1) (ht : dg (digs B y) n = top) (h1 : B ≤ 2 * (top * p)) (h2 : top * p < B) :
 (digs B (y * p)).length = n + 1 ∧ B ≤ 2 * dg (digs B (y * p)) n ∧ B ^ (n + 1) ≤ 2 * (y * p) := by
 have hBn : 0 < B ^ n := Nat.pow_pos (by omega)
 have hy : y = val B ((digs B y).take n) + B ^ n * top := by
  rw [← ht, ← val_take_getD, ← hn, List.take_length, val_digs hB]
 have hr : val B ((digs B y).take n) < B ^ n := by
  have := val_lt (B := B) (l := (digs B y).take n) fun x hx => digs_lt hB y x (List.mem_of_mem_take hx)
  rwa [List.length_take, Nat.min_eq_left (by omega)] at this
 generalize val B ((digs B y).take n) = r at *
 have hu : (top + 1) * p ≤ B := by
  have : top < u := by
   rw [hp] at h2
   exact Nat.lt_of_mul_lt_mul_right h2
  rw [hp]
  exact Nat.mul_le_mul_right _ this
 have hup : y * p < B ^ (n + 1) := by
  have k1 : y + 1 ≤ B ^ n * (top + 1) := by rw [Nat.mul_add, Nat.mul_one]; omega
  have hp0 : 0 < p := by
   rcases Nat.eq_zero_or_pos p with h | h
   · subst h; omega
   · exact h
  have k2 : y * p < (y + 1) * p := Nat.mul_lt_mul_of_pos_right (by omega) hp0
  have k3 : (y + 1) * p ≤ B ^ n * (top + 1) * p := Nat.mul_le_mul_right _ k1
  have k4 : B ^ n * (top + 1) * p ≤ B ^ n * B := by rw [Nat.mul_assoc]; exact Nat.mul_le_mul_left _ hu
  rw [Nat.pow_succ]
  omega
 have hlo : B ^ (n + 1) ≤ 2 * (y * p) := by
  have k1 : B ^ n * top * p ≤ y * p := Nat.mul_le_mul_right _ (by omega)
  have k2 : B ^ n * B ≤ B ^ n * (2 * (top * p)) := Nat.mul_le_mul_left _ h1
  have k3 : B ^ n * (2 * (top * p)) = 2 * (B ^ n * top * p) := by rw [Nat.mul_left_comm, Nat.mul_assoc]
  rw [Nat.pow_succ]
  omega
 have hBB : B ^ n * 2 ≤ B ^ n * B := Nat.mul_le_mul_left _ hB
 have hlen : (digs B (y * p)).length = n + 1 := by
  refine Nat.le_antisymm (digs_length_of_lt hB hup) ?_
  rcases Nat.lt_or_ge n (digs B (y * p)).length with h | h
  · exact h
  · have k1 := lt_pow_digs hB (y * p)
    have k2 : B ^ (digs B (y * p)).length ≤ B ^ n := Nat.pow_le_pow_right (by omega) h
    rw [Nat.pow_succ] at hlo
    omega
 refine ⟨hlen, ?_, hlo⟩
 have hD : y * p = val B ((digs B (y * p)).take n) + B ^ n * dg (digs B (y * p)) n := by
  rw [← val_take_getD, ← hlen, List.take_length, val_digs hB]
 have hr2 : val B ((digs B (y * p)).take n) < B ^ n := by
  have := val_lt (B := B) (l := (digs B (y * p)).take n) fun x hx => digs_lt hB (y * p) x (List.mem_of_mem_take hx)
  rwa [List.length_take, Nat.min_eq_left (by omega)] at this
 generalize dg (digs B (y * p)) n = z at *
 have k1 : B ^ n * B < B ^ n * (2 * (z + 1)) := by
  rw [Nat.pow_succ] at hlo
  have : B ^ n * (2 * (z + 1)) = 2 * (B ^ n * z + B ^ n) := by rw [Nat.mul_left_comm, Nat.mul_add, Nat.mul_one]
  omega
 have k2 := Nat.lt_of_mul_lt_mul_left k1
 omega
theorem norm_x {B x D n : Nat} (hB : 2 ≤ B) (hn : n ≤ (digs B x).length + 1) (hD : B ^ n ≤ 2 * D) : x < B ^ ((digs B x).length + 1 - n) * D := by
 have h1 := lt_pow_digs hB x
 generalize (digs B x).length = k at *
 have h2 : B ^ (k + 1 - n) * B ^ n ≤ B ^ (k + 1 - n) * (2 * D) := Nat.mul_le_mul_left _ hD
 rw [← Nat.pow_add, show k + 1 - n + n = k + 1 by omega, Nat.pow_succ, Nat.mul_left_comm] at h2
 have h3 : B ^ k * 2 ≤ B ^ k * B := Nat.mul_le_mul_left _ hB
 omega
end Go.Proofs.YtendnkpiidhogaaGreat

namespace Go.Proofs.YtendnkpiidhogaaGreat

theorem dg_drop (u : List Nat) (k i : Nat) : dg (u.drop k) i = dg u (k + i) := by
 simp [dg, List.getD_eq_getElem?_getD, List.getElem?_drop]
def LessAt (B : Nat) (u v W : List Nat) (k g i c b : Nat) : Prop := W.length = v.length + 1 ∧ val B (W.take i) + g * val B (v.take i) = val B ((u.drop k).take i) + B ^ i * (c + b)
section
variable {B k g i c b : Nat} {u v W : List Nat}
theorem LessAt.zero (h : W.length = v.length + 1) : LessAt B u v W k g 0 0 0 := ⟨h, by simp⟩
theorem LessAt.step {lo c' x b' : Nat} (h : LessAt B u v W k g i c b) (hi : i < W.length) (h1 : lo + B * c' = c + g * dg v i) (h2 : x + (lo + b) = dg u (k + i) + B * b') : LessAt B u v (W.set i x) k g (i + 1) c' b' := by
 obtain ⟨g1, g2⟩ := h
 refine ⟨by simpa using g1, ?_⟩
 rw [val_take_set B hi, val_take_getD, val_take_getD, dg_drop, Nat.pow_succ]
 have e1 : g * (B ^ i * dg v i) = B ^ i * (g * dg v i) := Nat.mul_left_comm _ _ _
 have e2 : B ^ i * (lo + B * c') = B ^ i * (c + g * dg v i) := by rw [h1]
 have e3 : B ^ i * (x + (lo + b)) = B ^ i * (dg u (k + i) + B * b') := by rw [h2]
 rw [Nat.mul_add g, e1, Nat.mul_assoc, Nat.mul_add B, Nat.mul_add (B ^ i) (B * c')]
 simp only [Nat.mul_add] at e2 e3 g2 ⊢
 generalize B ^ i * (B * c') = p1 at *
 generalize B ^ i * (B * b') = p2 at *
 generalize B ^ i * lo = p3 at *
 generalize B ^ i * (g * dg v i) = p4 at *
 generalize B ^ i * c = p5 at *
 generalize B ^ i * b = p6 at *
 generalize B ^ i * x = p7 at *
 generalize B ^ i * dg u (k + i) = p8 at *
 omega
def putAt (u W : List Nat) (k : Nat) : List Nat := u.take k ++ W ++ u.drop (k + W.length)
def TimesAt (B : Nat) (a o : List Nat) (m i c : Nat) : Prop := o.length = a.length + 1 ∧ val B (o.take i) + B ^ i * c = m * val B (a.take i)
theorem TimesAt.step {a o : List Nat} {m x c' : Nat} (h : TimesAt B a o m i c) (hi : i < o.length) (h1 : x + B * c' = c + dg a i * m) : TimesAt B a (o.set i x) m (i + 1) c' := by
 obtain ⟨g1, g2⟩ := h
 refine ⟨by simpa using g1, ?_⟩
 rw [val_take_set B hi, val_take_getD, Nat.mul_add, ← g2, Nat.pow_succ, Nat.mul_assoc]
 have e1 : m * (B ^ i * dg a i) = B ^ i * (dg a i * m) := by rw [Nat.mul_left_comm, Nat.mul_comm m]
 have e2 : B ^ i * (x + B * c') = B ^ i * (c + dg a i * m) := by rw [h1]
 rw [e1]
 simp only [Nat.mul_add] at e2
 omega
theorem TimesAt.fin {a o : List Nat} {m : Nat} (h : TimesAt B a o m a.length c) : val B (o.set a.length c) = m * val B a := by
 obtain ⟨g1, g2⟩ := h
 have e : (o.set a.length c).length = a.length + 1 := by simpa using g1
 have e2 : val B (o.set a.length c) = val B ((o.set a.length c).take (a.length + 1)) := by rw [← e, List.take_length]
 rw [e2, val_take_set B (by omega), g2, List.take_length]
end
end Go.Proofs.YtendnkpiidhogaaGreat

namespace Go.Proofs.YtendnkpiidhogaaGreat
open Go.RowKit

theorem wp_copy_eq {P : Program} (w : World) {o : Oper} {a : Act} {K : Act → World → Prop} {Q : Exit → Act → World → Prop} (d s : Operand) (t t' : TypeId)
 (ho : o.op = .call { callee := .builtin .copy, args := #[d, s], argTypes := #[t, t'] }) (v u : Value) (hd : a.eval d = v) (hs : a.eval s = u) {v' : Value} {w' : World}
 (hr : (Builtin.copy_ #[t, t'] o.type #[v, u]).run P w = .ok v' w') (h : K (a.put o.dst v') w') : o.wp P a w K Q := by
 unfold Oper.wp execOp
 simp only [ho, resolve, invoke, builtin, Sem.run_bind, Sem.run_pure, Result.andThen_ok, List.map_toArray, List.map_cons, List.map_nil, hd, hs, hr]
 exact h
theorem wpList_copy_eq {P : Program} (w : World) {ops : Array Oper} {rest : List Oper} {o : Oper} {a : Act} {Q : Exit → Act → World → Prop} (hgd : o.guard = none) (d s : Operand) (t t' : TypeId)
 (ho : o.op = .call { callee := .builtin .copy, args := #[d, s], argTypes := #[t, t'] }) (v u : Value) (hd : a.eval d = v) (hs : a.eval s = u) {v' : Value} {w' : World}
 (hr : (Builtin.copy_ #[t, t'] o.type #[v, u]).run P w = .ok v' w') (h : wpList P ops Q rest (a.put o.dst v') w') : wpList P ops Q (o :: rest) a w :=
 wpList_plain hgd fun _ hK => wp_copy_eq w d s t t' ho v u hd hs hr (hK _ _ h)
theorem info64size : (Tryz.prog.info? 139).map (·.size) = some 1 := by kernel_rfl
theorem Blk.put {w : World} {g : Nat} {u : List Nat} (h : Blk w g u) (v : List Nat) : Blk (w.setRow g (nts v).toArray) g v := setRow_heap w g _ _ _ _ h
theorem Only.put {w w' : World} {g : Nat} (h : Only g w w') (v : Array Value) : Only g w (w'.setRow g v) :=
  ⟨h.os, h.tape, h.output, by have : (w'.setRow g v).heap.size = w'.heap.size := by simp [World.setRow]
                              exact this.trans h.size, fun k hk => by
    have : (w'.setRow g v).heap[k]? = w'.heap[k]? := by simp [World.setRow, Array.getElem?_modify, Ne.symm hk]
    exact this.trans (h.block k hk)⟩
structure Two (g g' : Nat) (w w' : World) : Prop where
 os : w'.os = w.os
 tape : w'.tape = w.tape
 output : w'.output = w.output
 size : w'.heap.size = w.heap.size
 block : ∀ k, k ≠ g → k ≠ g' → w'.heap[k]? = w.heap[k]?
theorem Two.below {g g' B : Nat} {w w' : World} (h : Two g g' w w') (hg : B ≤ g) (hg' : B ≤ g') : Below B w w' := ⟨h.os, h.tape, h.output, Nat.le_of_eq h.size.symm, fun k hk => h.block k (by omega) (by omega)⟩
theorem Only.two {g g' : Nat} {w w' w'' : World} (h : Only g' w w') (k : Only g w' w'') : Two g g' w w'' := ⟨k.os.trans h.os, k.tape.trans h.tape, k.output.trans h.output, k.size.trans h.size, fun i hi hi' => (k.block i hi).trans (h.block i hi')⟩
theorem RN.two {g g' : Nat} {w w' : World} {P : Nat → Prop} {A : Option Addr} {c : Nat} {l : List Nat} (h : RN w P A c l) (ho : Two g g' w w') (hP : ∀ b, P b → b ≠ g ∧ b ≠ g') : RN w' P A c l := h.keep fun q hq => World.cell?_of_block (w := w) (ho.block q.block (hP _ hq).1 (hP _ hq).2)

end Go.Proofs.YtendnkpiidhogaaGreat

namespace Go.Proofs.YtendnkpiidhogaaGreat
open Go.RowKit

structure Just (g : Nat) (w w' : World) : Prop where
 os : w'.os = w.os
 tape : w'.tape = w.tape
 output : w'.output = w.output
 size : w.heap.size ≤ w'.heap.size
 block : ∀ b, b < w.heap.size → b ≠ g → w'.heap[b]? = w.heap[b]?
theorem Just.refl (g : Nat) (w : World) : Just g w w := ⟨rfl, rfl, rfl, Nat.le_refl _, fun _ _ _ => rfl⟩
theorem Just.trans {g : Nat} {a b c : World} (h : Just g a b) (k : Just g b c) : Just g a c :=
 ⟨k.os.trans h.os, k.tape.trans h.tape, k.output.trans h.output, Nat.le_trans h.size k.size, fun i hi hn => (k.block i (Nat.lt_of_lt_of_le hi h.size) hn).trans (h.block i hi hn)⟩
theorem Just.set {g : Nat} {a b : World} (h : Just g a b) (i : Nat) (v : Value) : Just g a (b.setCell ⟨g, i, none⟩ v) :=
 ⟨h.os, h.tape, h.output, by simpa [World.setCell] using h.size, fun j hj hn => (Below.heap_setCell _ _ _ _ (by exact hn)).trans (h.block j hj hn)⟩
theorem Just.drewN {g : Nat} {a b : World} (h : Just g a b) (n : Nat) : Just g a (b.drewN n) := ⟨h.os, h.tape, h.output, h.size, h.block⟩
theorem Just.cell {g : Nat} {w w' : World} (h : Just g w w') {p : Addr} (hp : p.block < w.heap.size) (hn : p.block ≠ g) : w'.cell? p = w.cell? p := World.cell?_of_block (h.block _ hp hn)
theorem Just.below {g B : Nat} {w w' : World} (h : Just g w w') (hB : B ≤ g) (hw : B ≤ w.heap.size) : Below B w w' := ⟨h.os, h.tape, h.output, h.size, fun b hb => h.block b (Nat.lt_of_lt_of_le hb hw) (by omega)⟩
theorem RN.just {w w' : World} {g : Nat} {P : Nat → Prop} {A : Option Addr} {c : Nat} {l : List Nat} (h : RN w P A c l) (hj : Just g w w') (hP : ∀ b, P b → b < w.heap.size ∧ b ≠ g) : RN w' P A c l :=
 h.keep fun _ hp => hj.cell (hP _ hp).1 (hP _ hp).2

theorem setRow_below {B g : Nat} {w w' : World} (h : Below B w w') (hg : B ≤ g) (v : Array Value) : Below B w (w'.setRow g v) :=
  ⟨h.os, h.tape, h.output, by have : (w'.setRow g v).heap.size = w'.heap.size := by simp [World.setRow]
                              rw [this]; exact h.size, fun k hk => by
    have : (w'.setRow g v).heap[k]? = w'.heap[k]? := by simp [World.setRow, Array.getElem?_modify, show ¬ g = k by omega]
    exact this.trans (h.block k hk)⟩
def offM (v M : Nat) : Nat := if v < M then v else v - M

structure MontAt (B M : Nat) (a b t : List Nat) (i n : Nat) : Prop where
 len : t.length = n + 2
 top : dg t (n + 1) = 0
 bound : val B t < M + val B b
 cong : ∃ k, val B t * B ^ i = val B (a.take i) * val B b + k * M
theorem MontAt.zero {B M : Nat} (a b : List Nat) (n : Nat) (hM : 0 < M) : MontAt B M a b (List.replicate (n + 2) 0) 0 n :=
 ⟨by simp, by rw [dg, List.getD_eq_getElem?_getD, List.getElem?_replicate]; split <;> rfl, by rw [val_replicate]; omega, 0, by simp [val_replicate]⟩
theorem dg_zero_mod {B : Nat} {t : List Nat} (ht : ∀ x ∈ t, x < B) (_hB : 0 < B) : val B t % B = dg t 0 := by
 cases t with
 | nil => simp [dg]
 | cons x l => rw [val_cons, Nat.add_mul_mod_self_left, Nat.mod_eq_of_lt (ht x (by simp))]; rfl
/-! What a round does to the numbers. -/
theorem mont_low {B M inv d q v : Nat} (hi : (inv * M + 1) % B = 0) (hv : v % B = d) (hq : q = d * inv % B) : (v + q * M) % B = 0 := by
 have h1 : (v + q * M) % B = (d * (inv * M + 1)) % B := by
  subst hq hv
  rw [Nat.mul_add, Nat.mul_one, Nat.add_mod, Nat.mod_mul_mod, ← Nat.mul_assoc, Nat.add_comm (v % B * inv * M), Nat.add_mod_mod]
 rw [h1, Nat.mul_mod, hi]
 simp
theorem mont_eq {M t0 ai b q t2 Bi A A' k : Nat} (h2 : t2 = t0 + ai * b + q * M) (hk : t0 * Bi = A * b + k * M) (hA : A' = A + Bi * ai) : t2 * Bi = A' * b + (k + q * Bi) * M := by
 subst h2 hA
 rw [Nat.add_mul, Nat.add_mul, hk, Nat.add_mul, Nat.add_mul]
 have e1 : ai * b * Bi = Bi * ai * b := by rw [Nat.mul_comm Bi ai, Nat.mul_assoc, Nat.mul_assoc, Nat.mul_comm b Bi]
 have e2 : q * M * Bi = q * Bi * M := by rw [Nat.mul_assoc, Nat.mul_assoc, Nat.mul_comm M Bi]
 omega
theorem mont_bound {B M t0 ai b q t2 t4 : Nat} (hB : 0 < B) (h2 : t2 = t0 + ai * b + q * M) (hb : t0 < M + b) (ha : ai < B) (hq : q < B) (h4 : t2 = B * t4) : t4 < M + b := by
 have e1 : ai * b ≤ (B - 1) * b := Nat.mul_le_mul_right _ (by omega)
 have e2 : q * M ≤ (B - 1) * M := Nat.mul_le_mul_right _ (by omega)
 have e3 : (B - 1) * b + b = B * b := by rw [← Nat.succ_mul, Nat.succ_eq_add_one, Nat.sub_add_cancel hB]
 have e4 : (B - 1) * M + M = B * M := by rw [← Nat.succ_mul, Nat.succ_eq_add_one, Nat.sub_add_cancel hB]
 have e5 : B * t4 < B * (M + b) := by rw [Nat.mul_add, ← h4]; omega
 exact Nat.lt_of_mul_lt_mul_left e5
theorem MontAt.step {B M inv n i q : Nat} {a b t t2 : List Nat} (hB : 2 ≤ B) (h : MontAt B M a b t i n) (ha : dg a i < B) (hi : (inv * M + 1) % B = 0) (hl2 : t2.length = n + 2) (hlim : ∀ x ∈ t2, x < B)
 (hq : q = (val B t + dg a i * val B b) % B * inv % B) (hv2 : val B t2 = val B t + dg a i * val B b + q * M) : MontAt B M a b (t2.drop 1 ++ [0]) (i + 1) n := by
 have h0 : val B t2 % B = 0 := by rw [hv2]; exact mont_low hi rfl hq
 have hq' : q < B := by rw [hq]; exact Nat.mod_lt _ (by omega)
 obtain ⟨x, l, rfl⟩ : ∃ x l, t2 = x :: l := by
  cases t2 with
  | nil => simp at hl2
  | cons x l => exact ⟨x, l, rfl⟩
 rw [dg_zero_mod hlim (by omega)] at h0
 have hx : x = 0 := h0
 subst hx
 have hlen : l.length = n + 1 := by simpa using hl2
 have e4 : val B (0 :: l) = B * val B l := by rw [val_cons]; omega
 have e5 : val B ((0 :: l).drop 1 ++ [0]) = val B l := by simp [val_append]
 obtain ⟨k, hk⟩ := h.cong
 refine ⟨by simp [hlen], ?_, ?_, k + q * B ^ i, ?_⟩
 · simp [dg, List.getD_eq_getElem?_getD, hlen]
 · rw [e5]
   exact mont_bound (by omega) hv2 h.bound ha hq' e4
 · rw [e5, Nat.pow_succ, show val B l * (B ^ i * B) = (B * val B l) * B ^ i by rw [Nat.mul_comm (B ^ i), ← Nat.mul_assoc, Nat.mul_comm (val B l)], ← e4]
   exact mont_eq hv2 hk (val_take_getD B a i)
theorem offM_lt {v M : Nat} (h : v < 2 * M) : offM v M < M := by rw [offM]; split <;> omega
theorem offM_mod {v M R x k : Nat} (h : v * R = x + k * M) : offM v M * R % M = x % M := by
 have h1 : v * R % M = x % M := by rw [h, Nat.add_mul_mod_self_right]
 rw [offM]
 split
 · exact h1
 · rename_i hge
   rw [← h1]
   have : v * R = (v - M) * R + R * M := by rw [Nat.mul_comm R M, ← Nat.add_mul, Nat.sub_add_cancel (by omega)]
   rw [this, Nat.add_mul_mod_self_right]
theorem wrap_mul (x y : Nat) : IntKind.u64.wrap ((x : Int) * (y : Int)) = ((x * y % 18446744073709551616 : Nat) : Int) := by
 rw [IntKind.wrap_u64, ← Int.natCast_mul]
 omega
theorem cancelR {B M inv n a b : Nat} (hi : (inv * M + 1) % B = 0) (h : a * B ^ n % M = b * B ^ n % M) : a % M = b % M := by
  obtain ⟨u, hu⟩ : ∃ u, inv * M + 1 = B * u := ⟨(inv * M + 1) / B, by have := Nat.div_add_mod (inv * M + 1) B; omega⟩
  have h1 : ∀ x, x * (B * u) % M = x % M := fun x => by rw [← hu, Nat.mul_add, Nat.mul_one, ← Nat.mul_assoc, Nat.add_comm, Nat.add_mul_mod_self_right]
  have h2 : ∀ k x, x * B ^ k * u ^ k % M = x % M := by
    intro k
    induction k with
    | zero => intro x; simp
    | succ k ih =>
      intro x
      have e : x * B ^ (k + 1) * u ^ (k + 1) = (x * (B * u)) * B ^ k * u ^ k := by
        rw [Nat.pow_succ, Nat.pow_succ]
        simp only [Nat.mul_assoc, Nat.mul_comm, Nat.mul_left_comm]
      rw [e, ih, h1]
  rw [← h2 n a, ← h2 n b, Nat.mul_mod, h, ← Nat.mul_mod]

theorem newton {m y y' t z : Int} {k j : Nat} (hy : m * y = 1 + 2 ^ k * t) (h' : y' = y * (2 - m * y) + 18446744073709551616 * z) (hj : k + k + j = 64) : ∃ s, m * y' = 1 + 2 ^ (k + k) * s := by
 refine ⟨-(t * t) + m * 2 ^ j * z, ?_⟩
 have e1 : m * y' = m * y * (2 - m * y) + m * 18446744073709551616 * z := by rw [h', Int.mul_add, ← Int.mul_assoc, ← Int.mul_assoc]
 have e2 : (18446744073709551616 : Int) = 2 ^ (k + k) * 2 ^ j := by rw [← Int.pow_add, hj]; rfl
 rw [e1, hy, e2, Int.pow_add]
 generalize (2 : Int) ^ k = p
 generalize (2 : Int) ^ j = r
 grind
theorem newton_wrap {m y : Int} : ∃ z, (y * ((2 - m * y % 18446744073709551616) % 18446744073709551616)) % 18446744073709551616 = y * (2 - m * y) + 18446744073709551616 * z := by
 have e1 := Int.mul_ediv_add_emod (m * y) 18446744073709551616
 have e2 := Int.mul_ediv_add_emod (2 - m * y % 18446744073709551616) 18446744073709551616
 have e3 := Int.mul_ediv_add_emod (y * ((2 - m * y % 18446744073709551616) % 18446744073709551616)) 18446744073709551616
 generalize (2 - m * y % 18446744073709551616) / 18446744073709551616 = d2 at *
 generalize (y * ((2 - m * y % 18446744073709551616) % 18446744073709551616)) / 18446744073709551616 = d3 at *
 generalize (y * ((2 - m * y % 18446744073709551616) % 18446744073709551616)) % 18446744073709551616 = r3 at *
 generalize (2 - m * y % 18446744073709551616) % 18446744073709551616 = r2 at *
 generalize (m * y) / 18446744073709551616 = d1 at *
 generalize (m * y) % 18446744073709551616 = r1 at *
 refine ⟨y * d1 - y * d2 - d3, ?_⟩
 grind
theorem neg_inv {m0 M : Nat} {y : Int} {t : Int} (hm : M % 18446744073709551616 = m0) (h : (m0 : Int) * y = 1 + 18446744073709551616 * t) : ((((-y) % 18446744073709551616).toNat) * M + 1) % 18446744073709551616 = 0 := by
 have e1 := Int.mul_ediv_add_emod (-y) 18446744073709551616
 have h0 : 0 ≤ (-y) % 18446744073709551616 := Int.emod_nonneg _ (by decide)
 obtain ⟨v, hv⟩ : ∃ v : Nat, (-y) % 18446744073709551616 = (v : Int) := ⟨_, (Int.toNat_of_nonneg h0).symm⟩
 rw [hv] at e1 ⊢
 rw [Int.toNat_natCast]
 obtain ⟨q, hq⟩ : ∃ q, M = m0 + 18446744073709551616 * q := ⟨M / 18446744073709551616, by omega⟩
 have e2 : ((v * M + 1 : Nat) : Int) = 18446744073709551616 * ((v : Int) * q - t - (m0 : Int) * ((-y) / 18446744073709551616)) := by
  rw [hq]
  simp only [Int.natCast_add, Int.natCast_mul, Int.cast_ofNat_Int]
  generalize (-y) / 18446744073709551616 = d at *
  grind
 omega
def nl (M : Nat) : Nat := (digs 18446744073709551616 M).length
theorem val_pad (B : Nat) (a : List Nat) (k : Nat) : val B (a ++ List.replicate k 0) = val B a := by rw [val_append, val_replicate, Nat.mul_zero, Nat.add_zero]
theorem blk_set {w : World} {g : Nat} {t : TypeId} {cs : Array Value} (h : w.heap[g]? = some (.cells cs t (0, 0))) (i : Nat) (u : Value) : (w.setCell ⟨g, i, none⟩ u).heap[g]? = some (.cells (cs.setIfInBounds i u) t (0, 0)) := by
 simp [World.setCell, Array.getElem?_modify, h]
end Go.Proofs.YtendnkpiidhogaaGreat

namespace Go.Proofs.YtendnkpiidhogaaGreat
open Go.RowKit

theorem Ext.drewN (w : World) (n : Nat) : Ext w (w.drewN n) := below_drewN (Below.refl _ w) n
theorem wp_storeV {op : Oper} {a : Act} {X : World} {K : Act → World → Prop} {Q : Exit → Act → World → Prop} (ty : TypeId) (x y : Operand) (ho : op.op = .store ty x y) (hd : op.dst = none) {b : Nat} {cs cs' : Array Value} {t : TypeId}
 (hx : a.eval x = .pointer (some ⟨b, 0, none⟩)) (hy : a.eval y = .agg cs') (hg : X.heap[b]? = some (.cells cs t (0, 0))) (hi : (Tryz.prog.info? ty).map (·.size) = some cs'.size) (hold : cs.size = cs'.size) (h1 : cs'.all (·.oneCell') = true)
 (hK : ∀ Y, Y.heap[b]? = some (.cells cs' t (0, 0)) → Just b X Y → Y.heap.size = X.heap.size → K a Y) : op.wp Tryz.prog a X K Q := by
 refine wp_store_row ty x y ho b cs' hx hy t cs hg hi hold h1 ?_
 rw [hd]
 exact hK _ (Go.setRow_heap X b cs cs' t _ hg) ⟨rfl, rfl, rfl, by simp [World.setRow], fun k _ hk => Go.setRow_other X b k cs' hk⟩ (by simp [World.setRow])
theorem wp_loadV {op : Oper} {a : Act} {X : World} {K : Act → World → Prop} {Q : Exit → Act → World → Prop} (ty : TypeId) (x : Operand) (ho : op.op = .load ty x) {b : Nat} {cs : Array Value} {t : TypeId} {d : TypeDesc} (hx : a.eval x = .pointer (some ⟨b, 0, none⟩)) (hg : X.heap[b]? = some (.cells cs t (0, 0)))
 (hu : Tryz.prog.underlying ty = some d) (hd : d.isRow = true) (hi : (Tryz.prog.info? ty).map (·.size) = some cs.size) {v : Value} (hv : v = .agg cs) (hK : K (a.put op.dst v) X) : op.wp Tryz.prog a X K Q :=
 wp_load_row ty x ho b hx t cs (0, 0) d hg hu (by cases d <;> first | rfl | exact hd) hi (by rw [← hv]; exact hK)
theorem Just.ext {b : Nat} {w X Y : World} (h : Just b X Y) (hE : Ext w X) (hb : w.heap.size ≤ b) : Ext w Y := Below.trans hE (h.below hb hE.bsize)
theorem Just.at_ {b c : Nat} {X Y : World} {o : Obj} (h : Just b X Y) (hc : c ≠ b) (hx : X.heap[c]? = some o) : Y.heap[c]? = some o := (h.block c (blk_lt hx) hc).trans hx
section
variable {Q : Exit → Act → World → Prop} {ol : List Oper} {m : Nat} {L AL : List Nat} {R : Nat → (Nat → Value) → World → Prop} {a : Act} {w : World} {F : List Oper → Prop} {k n : Nat} {o : Oper} {l : List Oper} {u : Value}
theorem run_loadAtV {X : World} {b : Nat} {cs : Array Value} {t ty : TypeId} (hg : X.heap[b]? = some (.cells cs t (0, 0))) (hd : (Tryz.prog.underlying ty).any (·.isRow) = true) (hi : (Tryz.prog.info? ty).map (·.size) = some cs.size) : (Instr.loadAt ty (.pointer (some ⟨b, 0, none⟩))).run Tryz.prog X = .ok (.agg cs) X := by
 obtain ⟨d, hu, h2⟩ : ∃ d, Tryz.prog.underlying ty = some d ∧ d.isRow = true := by
  cases h : Tryz.prog.underlying ty with
  | none => rw [h] at hd; cases hd
  | some d => rw [h] at hd; exact ⟨d, rfl, hd⟩
 unfold Instr.loadAt
 simp only [Sem.run_bind]
 rw [show (Instr.sureAddr (.pointer (some ⟨b, 0, none⟩))).run Tryz.prog X = .ok ⟨b, 0, none⟩ X from rfl, Result.andThen_ok]
 exact run_loadVar_row X b t ty cs (0, 0) d hg hu (by cases d <;> first | rfl | exact h2) hi
theorem lV0 (k' n' : Nat) {b : Nat} {cs : Array Value} {t ty : TypeId} {x : Operand} (hg : w.heap[b]? = some (.cells cs t (0, 0))) (hi : (Tryz.prog.info? ty).map (·.size) = some cs.size) (hs : Par.AllOps (Par.StepO Tryz.prog ol Q Ext m L AL R a w) F k' n' l) (hR : ∀ f X, f k = .agg cs → R k (Par.mask (fun i => L.getD i 0) k f) X := by exact fun _ _ h => h) (hk : k + 1 = k' := by rfl) (hn : n' + 1 = n := by rfl) (ha : AL.contains k = false := by kernel_rfl)
 (hw : ∀ f, Region.wanted o (yielded ol.toArray (Par.put ol.toArray (Par.nd (fun i => L.getD i 0) k) f (List.range m) a).tmps) = true := by intro _; kernel_rfl)
 (ho : o.op = .load ty x := by rfl) (hx : ∀ f, (Par.put ol.toArray (Par.nd (fun i => L.getD i 0) k) f (List.range m) a).eval x = .pointer (some ⟨b, 0, none⟩) := by intro _; kernel_rfl) (hd : (Tryz.prog.underlying ty).any (·.isRow) = true := by kernel_rfl) : Par.AllOps (Par.StepO Tryz.prog ol Q Ext m L AL R a w) F k n (o :: l) :=
 Par.vx (fun f => f) hs (fun _ _ _ => rfl) hR hk hn ha hw (fun f X hX => by
  unfold execOp
  simp only [ho, Sem.run_bind, hx, run_loadAtV (hX.at_ hg) hd hi, Result.andThen_ok]
  rfl)
end
end Go.Proofs.YtendnkpiidhogaaGreat

namespace Go.Proofs.YtendnkpiidhogaaGreat

def nbits (x : Nat) : Nat := if x = 0 then 0 else x.log2 + 1
theorem nbits_zero : nbits 0 = 0 := rfl
theorem nbits_eq {x k : Nat} (h1 : 2 ^ k ≤ x) (h2 : x < 2 ^ (k + 1)) : nbits x = k + 1 := by
 have hx : x ≠ 0 := by have := Nat.pow_pos (n := k) (show 0 < 2 by omega); omega
 have h3 : k ≤ x.log2 := (Nat.le_log2 hx).2 h1
 have h4 : x.log2 < k + 1 := (Nat.log2_lt hx).2 h2
 simp [nbits, hx]
 omega
theorem nbits_bounds {x : Nat} (hx : x ≠ 0) : 2 ^ (nbits x - 1) ≤ x ∧ x < 2 ^ nbits x ∧ 1 ≤ nbits x := by
 simp only [nbits, hx, if_false, Nat.add_sub_cancel]
 exact ⟨Nat.log2_self_le hx, Nat.lt_log2_self, by omega⟩
theorem nbits_le {x k : Nat} (h : x < 2 ^ k) : nbits x ≤ k := by
 rcases Nat.eq_zero_or_pos x with rfl | h0
 · simp [nbits]
 · obtain ⟨h1, h2, h3⟩ := nbits_bounds (Nat.pos_iff_ne_zero.1 h0)
   rcases Nat.lt_or_ge k (nbits x) with h4 | h4
   · have : 2 ^ k ≤ 2 ^ (nbits x - 1) := Nat.pow_le_pow_right (by omega) (by omega)
     omega
   · exact h4
theorem lt_of_nbits {x k : Nat} (h : nbits x ≤ k) : x < 2 ^ k := by
 rcases Nat.eq_zero_or_pos x with rfl | h0
 · exact Nat.pow_pos (by omega)
 · obtain ⟨_, h2, _⟩ := nbits_bounds (Nat.pos_iff_ne_zero.1 h0)
   exact Nat.lt_of_lt_of_le h2 (Nat.pow_le_pow_right (by omega) h)
theorem nbits_top {m : Nat} (hm : 0 < m) {x : Nat} (hx : 0 < x) {k : Nat} (hk : 0 < k) (h1 : 2 ^ (k - 1) ≤ dg (digs (2 ^ m) x) ((digs (2 ^ m) x).length - 1)) (h2 : dg (digs (2 ^ m) x) ((digs (2 ^ m) x).length - 1) < 2 ^ k) :
 nbits x = m * ((digs (2 ^ m) x).length - 1) + k := by
 have hB : 2 ≤ 2 ^ m := by
  have : 2 ^ 1 ≤ 2 ^ m := Nat.pow_le_pow_right (by omega) hm
  simpa using this
 have hv := val_digs hB x
 have hlt := digs_lt hB x
 have hne : 0 < (digs (2 ^ m) x).length := by rw [digs_pos hB hx]; simp
 generalize digs (2 ^ m) x = l at *
 have h3 := val_take_getD (2 ^ m) l (l.length - 1)
 rw [show l.length - 1 + 1 = l.length by omega, List.take_length, hv] at h3
 have h4 := val_lt (B := 2 ^ m) (l := l.take (l.length - 1)) fun y hy => hlt y (List.mem_of_mem_take hy)
 rw [List.length_take, Nat.min_eq_left (by omega)] at h4
 have h5 : (2 ^ m) ^ (l.length - 1) = 2 ^ (m * (l.length - 1)) := by rw [Nat.pow_mul]
 rw [h5] at h3 h4
 generalize m * (l.length - 1) = e at *
 generalize dg l (l.length - 1) = t at *
 obtain ⟨j, rfl⟩ : ∃ j, k = j + 1 := ⟨k - 1, by omega⟩
 rw [Nat.add_sub_cancel] at h1
 have h6 : 2 ^ e * 2 ^ j ≤ 2 ^ e * t := Nat.mul_le_mul_left _ h1
 have h7 : 2 ^ e * (t + 1) ≤ 2 ^ e * 2 ^ (j + 1) := Nat.mul_le_mul_left _ h2
 rw [← Nat.pow_add] at h6 h7
 rw [Nat.mul_add] at h7
 exact nbits_eq (k := e + j) (by omega) (by rw [show e + j + 1 = e + (j + 1) by omega]; omega)
theorem val_shift {m : Nat} (l : List Nat) (hl : ∀ x ∈ l, x < 2 ^ m) (k j : Nat) (hj : j ≤ m) : ∃ r, val (2 ^ m) l / 2 ^ (m * k + j) = dg l k / 2 ^ j + 2 ^ (m - j) * r := by
 refine ⟨val (2 ^ m) (l.drop (k + 1)), ?_⟩
 have h1 : val (2 ^ m) l = val (2 ^ m) (l.take k) + (2 ^ m) ^ k * (dg l k + 2 ^ m * val (2 ^ m) (l.drop (k + 1))) := by
  rcases Nat.lt_or_ge k l.length with h | h
  · have := val_take_drop (2 ^ m) l (Nat.le_of_lt h)
    rw [this, List.drop_eq_getElem_cons h, val_cons, dg, getD_eq' h]
  · rw [List.take_of_length_le h, List.drop_eq_nil_of_le (by omega), dg, List.getD_eq_getElem?_getD, List.getElem?_eq_none h]
    simp
 have h2 : val (2 ^ m) (l.take k) < (2 ^ m) ^ k := by
  have h3 := val_lt (B := 2 ^ m) (l := l.take k) fun y hy => hl y (List.mem_of_mem_take hy)
  refine Nat.lt_of_lt_of_le h3 (Nat.pow_le_pow_right (Nat.pow_pos (by omega)) ?_)
  rw [List.length_take]; omega
 rw [Nat.pow_add, Nat.pow_mul, ← Nat.div_div_eq_div_mul, h1, Nat.add_mul_div_left _ _ (Nat.pow_pos (Nat.pow_pos (by omega))), Nat.div_eq_of_lt h2, Nat.zero_add]
 have e : 2 ^ m = 2 ^ j * 2 ^ (m - j) := by rw [← Nat.pow_add, show j + (m - j) = m by omega]
 generalize hv : val (2 ^ m) (l.drop (k + 1)) = v
 rw [e, Nat.mul_assoc, Nat.add_mul_div_left _ _ (Nat.pow_pos (by omega))]
theorem val_bit {m : Nat} (l : List Nat) (hl : ∀ x ∈ l, x < 2 ^ m) (k j : Nat) (hj : j < m) : val (2 ^ m) l / 2 ^ (m * k + j) % 2 = dg l k / 2 ^ j % 2 := by
 obtain ⟨r, hr⟩ := val_shift l hl k j (by omega)
 rw [hr, show m - j = (m - j - 1) + 1 by omega, Nat.pow_succ, Nat.mul_right_comm, Nat.add_mul_mod_self_right]
def bytesOf (x n : Nat) : List Nat := (List.range n).map fun i => x / 2 ^ (8 * (n - 1 - i)) % 256
theorem bytesOf_length (x n : Nat) : (bytesOf x n).length = n := by simp [bytesOf]
end Go.Proofs.YtendnkpiidhogaaGreat

namespace Go.Proofs.YtendnkpiidhogaaGreat
open Go.RowKit

theorem dg_last_pos {x : Nat} (hx : 0 < x) : 0 < dg (digs 18446744073709551616 x) ((digs 18446744073709551616 x).length - 1) := by
 have hne : digs 18446744073709551616 x ≠ [] := by rw [digs_pos (by omega) hx]; simp
 have h := digs_last (B := 18446744073709551616) (by omega) x hne
 have hpos := List.length_pos_iff.2 hne
 rw [List.getLast_eq_getElem] at h
 rw [dg, getD_eq' (by omega)]
 omega
theorem nbits_limbs {x : Nat} (hx : 0 < x) : nbits x = 64 * ((digs 18446744073709551616 x).length - 1) + Lib.bitLen (dg (digs 18446744073709551616 x) ((digs 18446744073709551616 x).length - 1)) := by
 have h0 := dg_last_pos hx
 have h1 := getD_lt (B := 18446744073709551616) (by omega) (digs_lt (by omega) x) ((digs 18446744073709551616 x).length - 1)
 have h2 := Lib.bitLenAux_bounds 64 _ h1 (by omega)
 have h3 := nbits_top (m := 64) (by omega) hx (k := Lib.bitLen (dg (digs 18446744073709551616 x) ((digs 18446744073709551616 x).length - 1))) h2.1 h2.2.1 h2.2.2
 exact h3

set_option maxRecDepth 100000 in
set_option maxHeartbeats 1000000 in
theorem bits_any (P : Nat → Prop) (A : Option Addr) (c : Nat) (a : List Nat) (w : World) (h : RN w P A c a) :
 Calls Tryz.prog 93 #[.slice A a.length c] w fun e w' => e = .returned (.int .i64 (nbits (val 18446744073709551616 a) : Int)) ∧ w = w' := by
 have ta := trim_any P A c a w h
 replace h := h.trim
 generalize val 18446744073709551616 a = x at *
 rcases Nat.eq_zero_or_pos x with rfl | hx
 · rw [digs_zero] at ta
   have Ta := Lib.hid ta
   clear ta
   go_enter Tryz.func93, Tryz.ntmps93
   go_wp2_with fail
   refine Ta.out.mono ?_
   rintro e w1 ⟨rfl, rfl⟩
   go_wp2
   go_ret
   exact ⟨rfl, rfl⟩
 · have hb := nbits_limbs hx
   have hlt := h.2.dgLt
   obtain ⟨h1, h2, h3⟩ := h.cap
   have hne : 0 < (digs 18446744073709551616 x).length := by rw [digs_pos (by omega) hx]; simp
   generalize digs 18446744073709551616 x = l at *
   obtain ⟨n, hn⟩ : ∃ n, l.length = n + 1 := ⟨l.length - 1, by omega⟩
   obtain ⟨ad, rfl, _, q1⟩ := h.at_ (i := n) (by omega)
   rw [hn, Nat.add_sub_cancel] at hb
   have hl := hlt n
   have hbl : Lib.bitLen (dg l n) ≤ 64 := Lib.bitLen_le _ 64 (by omega) hl
   have hlen := Tryz.bits_Len64 (dg l n : Int) w (by omega) (by omega)
   rw [Int.toNat_natCast] at hlen
   generalize Lib.bitLen (dg l n) = k at *
   have Hlen := Lib.hid hlen
   have Hb := Lib.hid hb
   rw [hn] at ta h1 h3
   have Ta := Lib.hid ta
   clear ta hb hlen hl hlt hne hx hn h
   go_enter Tryz.func93, Tryz.ntmps93
   go_wp2_with fail
   refine Ta.out.mono ?_
   rintro e w1 ⟨rfl, rfl⟩
   go_wp2_with fail
   refine Hlen.out.mono ?_
   rintro e w1 ⟨rfl, rfl⟩
   go_wp2
   go_ret
   exact ⟨ret_int (by rw [Hb.out]; simp), rfl⟩

def bitOf (x : Nat) (i : Int) : Nat := if i < 0 then 0 else x / 2 ^ i.toNat % 2
theorem mask1 (x : Nat) : x &&& 1 = x % 2 := Nat.and_one_is_mod x
theorem and_one (d j : Nat) (hd : d < 18446744073709551616) : bits .and .u64 ((d : Int) / 2 ^ j) 1 = ((d / 2 ^ j % 2 : Nat) : Int) := by
 have h0 : d / 2 ^ j ≤ d := Nat.div_le_self d _
 have h := bits_and_u64_nat (d / 2 ^ j) 1 (by omega) (by omega)
 rw [mask1] at h
 rw [← h]
 simp

set_option maxRecDepth 100000 in
set_option maxHeartbeats 1000000 in
theorem bit_any (P : Nat → Prop) (A : Option Addr) (c : Nat) (a : List Nat) (i : Int) (w : World) (h : RN w P A c a) (hi : i ≤ 9223372036854775807) :
 Calls Tryz.prog 94 #[.slice A a.length c, .int .i64 i] w fun e w' => e = .returned (.int .u64 (bitOf (val 18446744073709551616 a) i : Int)) ∧ w = w' := by
 obtain ⟨h1, h2, h3⟩ := h.cap
 by_cases h0 : i < 0
 · have hb := Lib.hid (show bitOf (val 18446744073709551616 a) i = 0 by simp [bitOf, h0])
   go_enter Tryz.func94, Tryz.ntmps94
   go_wp2
   go_ret
   rw [hb.out]
   exact ⟨rfl, rfl⟩
 · obtain ⟨n, rfl⟩ : ∃ n : Nat, i = (n : Int) := ⟨i.toNat, by omega⟩
   obtain ⟨k, j, hj, hn⟩ : ∃ k j, j < 64 ∧ n = 64 * k + j := ⟨n / 64, n % 64, by omega, by omega⟩
   have hb : bitOf (val 18446744073709551616 a) (n : Int) = dg a k / 2 ^ j % 2 := by
    have := val_bit (m := 64) a h.2.1 k j hj
    rw [bitOf, if_neg h0, Int.toNat_natCast, hn]
    exact this
   have e1 : (n : Int) / 64 = (k : Int) := by omega
   have e2 : (n : Int) % 64 = (j : Int) := by omega
   have e4 : IntKind.i64.wrap ((n : Int) / 64) = (k : Int) := by rw [e1]; exact IntWalk.i64_in _ (by omega)
   by_cases hk : k < a.length
   · obtain ⟨ad, rfl, _, q1⟩ := h.at_ hk
     have hd := h.2.dgLt k
     have e3 := and_one (dg a k) j hd
     have hj' : (j : Int) < 64 := by omega
     have hk' : (k : Int) < (a.length : Int) := by omega
     have Hb := Lib.hid hb
     clear hb hn hd h hi
     go_enter Tryz.func94, Tryz.ntmps94
     go_wp2
     go_ret
     exact ⟨ret_int (by rw [Hb.out]; simp), rfl⟩
   · have hd : dg a k = 0 := dg_none (by omega)
     rw [hd, Nat.zero_div] at hb
     have Hb := Lib.hid hb
     have hk' : ¬ (k : Int) < (a.length : Int) := by omega
     have hk2 : (a.length : Int) ≤ (k : Int) := by omega
     have hkb : (k : Int) ≤ 144115188075855871 := by omega
     clear hb hn hd h hi
     go_enter Tryz.func94, Tryz.ntmps94
     go_wp2
     go_ret
     rw [Hb.out]
     exact ⟨rfl, rfl⟩
end Go.Proofs.YtendnkpiidhogaaGreat
