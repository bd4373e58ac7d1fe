/- Plain arithmetic of bits.Div64: one step of a division of three halves by two; nothing of the program. -/
import Derived.Test.YtnniellajmjmnaaStep
import Derived.Lib.BitFns
import Derived.Lib.ItoaNum
namespace Go.Proofs.Ytnniellajmjmnaa

/-- The guess q with its rest r, so far: u b + u1 is divided by D = y1 b + y0. -/
def GuessAt (b u u1 y1 y0 q r : Nat) : Prop := q * y1 + r = u ∧ (u * b + u1) / (y1 * b + y0) ≤ q ∧ q ≤ b + 1
structure GuessOk (b u u1 y1 y0 : Nat) : Prop where
  hb : 2 ≤ b
  hy : b ≤ 2 * y1
  hy1 : y1 < b
  hy0 : y0 < b
  hu1 : u1 < b
  hu : u < y1 * b + y0
section
variable {b u u1 y1 y0 q r : Nat}
theorem GuessOk.start (h : GuessOk b u u1 y1 y0) : GuessAt b u u1 y1 y0 (u / y1) (u - u / y1 * y1) ∧ u - u / y1 * y1 < b ∧ u / y1 * y1 ≤ u := by
  obtain ⟨hb, hy, hy1, hy0, hu1, hu⟩ := h
  have h1 : u / y1 * y1 ≤ u := Nat.div_mul_le_self u y1
  have h2 : u < u / y1 * y1 + y1 := Nat.lt_div_mul_add (by omega)
  generalize hG : u / y1 = G at *
  have h3 : G ≤ b + 1 := by
    rcases Nat.lt_or_ge (b + 1) G with h | h
    · have h6 : (b + 2) * y1 ≤ G * y1 := Nat.mul_le_mul_right _ h
      rw [Nat.add_mul, Nat.mul_comm b] at h6
      omega
    · exact h
  have h4 : (u * b + u1) / (y1 * b + y0) ≤ G := by
    apply Nat.le_of_lt_succ
    apply Nat.div_lt_of_lt_mul
    have h5 : (y1 * b + y0) * (G + 1) = (G * y1 + y1) * b + y0 * (G + 1) := by
      rw [Nat.mul_add, Nat.add_mul, Nat.mul_one, Nat.mul_add, Nat.mul_one, Nat.add_mul, Nat.mul_right_comm, Nat.mul_comm y1 G]
      omega
    have h7 : (u + 1) * b ≤ (G * y1 + y1) * b := Nat.mul_le_mul_right _ h2
    rw [Nat.add_mul, Nat.one_mul] at h7
    show _ < _ * (G + 1)
    rw [h5]
    omega
  unfold GuessAt
  generalize G * y1 = p at *
  exact ⟨⟨by omega, h4, h3⟩, by omega, h1⟩
/-- The quotient is below b. -/
theorem GuessOk.quo_lt (h : GuessOk b u u1 y1 y0) : (u * b + u1) / (y1 * b + y0) < b := by
  obtain ⟨hb, hy, hy1, hy0, hu1, hu⟩ := h
  apply Nat.div_lt_of_lt_mul
  have h1 : (u + 1) * b ≤ (y1 * b + y0) * b := Nat.mul_le_mul_right _ hu
  rw [Nat.add_mul, Nat.one_mul] at h1
  omega
theorem GuessAt.le (h : GuessOk b u u1 y1 y0) (hg : GuessAt b u u1 y1 y0 q r) (hd : q * y0 ≤ b * r + u1) : q = (u * b + u1) / (y1 * b + y0) := by
  obtain ⟨h1, h2, h3⟩ := hg
  have hD : 0 < y1 * b + y0 := by have := Nat.mul_pos (show 0 < y1 by have := h.hy; have := h.hb; omega) (show 0 < b by have := h.hb; omega); omega
  refine Nat.le_antisymm ((Nat.le_div_iff_mul_le hD).2 ?_) h2
  have e : q * (y1 * b + y0) = q * y1 * b + q * y0 := by rw [Nat.mul_add, Nat.mul_assoc]
  have e2 : u * b = q * y1 * b + b * r := by rw [← h1, Nat.add_mul, Nat.mul_comm r]
  omega
theorem GuessAt.gt (h : GuessOk b u u1 y1 y0) (hg : GuessAt b u u1 y1 y0 q r) (hd : b ≤ q ∨ b * r + u1 < q * y0) : (u * b + u1) / (y1 * b + y0) < q := by
  obtain ⟨h1, h2, h3⟩ := hg
  rcases hd with hd | hd
  · have := h.quo_lt; omega
  · apply Nat.div_lt_of_lt_mul
    have e : (y1 * b + y0) * q = q * y1 * b + q * y0 := by rw [Nat.mul_comm, Nat.mul_add, Nat.mul_assoc]
    have e2 : u * b = q * y1 * b + b * r := by rw [← h1, Nat.add_mul, Nat.mul_comm r]
    omega
theorem GuessAt.step (h : GuessOk b u u1 y1 y0) (hg : GuessAt b u u1 y1 y0 q r) (hd : b ≤ q ∨ b * r + u1 < q * y0) : GuessAt b u u1 y1 y0 (q - 1) (r + y1) ∧ 1 ≤ q := by
  have h4 := hg.gt h hd
  obtain ⟨h1, h2, h3⟩ := hg
  obtain ⟨n, rfl⟩ : ∃ n, q = n + 1 := ⟨q - 1, by have := Nat.zero_le ((u * b + u1) / (y1 * b + y0)); omega⟩
  refine ⟨⟨?_, by rw [Nat.add_sub_cancel]; exact Nat.le_of_lt_succ h4, by omega⟩, by omega⟩
  rw [Nat.add_mul] at h1
  rw [Nat.add_sub_cancel]
  omega
/-- Left with a rest of b or more: the guess is right. -/
theorem GuessAt.out (h : GuessOk b u u1 y1 y0) (hg : GuessAt b u u1 y1 y0 q r) (hq : q ≤ b) (hr : b ≤ r) : q = (u * b + u1) / (y1 * b + y0) := by
  refine hg.le h ?_
  have h1 : q * y0 ≤ b * b := Nat.mul_le_mul hq (by have := h.hy0; omega)
  have h2 : b * b ≤ b * r := Nat.mul_le_mul_left _ hr
  omega
theorem GuessAt.mul_le (hg : GuessAt b u u1 y1 y0 q r) (hy0 : y0 < b) : q * y0 < b * b := by
  obtain ⟨_, _, h3⟩ := hg
  obtain ⟨n, rfl⟩ : ∃ n, b = n + 1 := ⟨b - 1, by omega⟩
  have h1 : q * y0 ≤ (n + 2) * n := Nat.mul_le_mul (by omega) (by omega)
  have h2 : (n + 2) * n = n * n + 2 * n := by rw [Nat.add_mul]
  have h3 : (n + 1) * (n + 1) = n * n + 2 * n + 1 := by simp only [Nat.add_mul, Nat.mul_add]; omega
  omega
end
/-- The rest of one step is below the divisor. -/
theorem rest_of {N D : Nat} (hD : 0 < D) : N / D * D ≤ N ∧ N - N / D * D < D := by
  have h1 := Nat.div_mul_le_self N D
  have h2 := Nat.lt_div_mul_add (a := N) hD
  omega
/-- Two steps make the whole division. -/
theorem two_steps {b N D u1 u0 : Nat} (hD : 0 < D) (r q0 : Nat) (hr : r = N * b + u1 - (N * b + u1) / D * D) (hq : q0 = (r * b + u0) / D) :
    (N * b + u1) / D * b + q0 = ((N * b + u1) * b + u0) / D ∧ r * b + u0 - q0 * D = ((N * b + u1) * b + u0) % D := by
  have h1 := rest_of (N := N * b + u1) hD
  generalize N * b + u1 = M at *
  have e : M = M / D * D + r := by omega
  have e2 : M * b + u0 = (M / D * b) * D + (r * b + u0) := by
    have : M * b = (M / D * D + r) * b := by rw [← e]
    rw [this, Nat.add_mul, Nat.mul_right_comm, Nat.add_assoc]
  have hd : (M * b + u0) / D = M / D * b + (r * b + u0) / D := by
    rw [e2, Nat.add_comm, Nat.add_mul_div_right _ _ hD, Nat.add_comm]
  have hm : (M * b + u0) % D = (r * b + u0) % D := by
    rw [e2, Nat.add_comm, Nat.add_mul_mod_self_right]
  rw [hd, hm, hq]
  refine ⟨rfl, ?_⟩
  have h5 := Nat.div_add_mod (r * b + u0) D
  have h6 : (r * b + u0) / D * D = D * ((r * b + u0) / D) := Nat.mul_comm _ _
  omega
theorem le_of_log {y k : Nat} (hy : y ≠ 0) (h : Lib.bitLen y = k) (hlt : y < 18446744073709551616) : 1 ≤ k ∧ k ≤ 64 ∧ 2 ^ (k - 1) ≤ y ∧ y < 2 ^ k := by
  have h1 := Lib.bitLenAux_bounds 64 y hlt hy
  have h2 := Lib.bitLen_le y 64 (Nat.le_refl _) hlt
  subst h
  exact ⟨h1.1, h2, h1.2⟩
/-- How far the divisor moves up: its highest bit is set then. -/
theorem shift_of {y : Nat} (hy : y ≠ 0) (hlt : y < 18446744073709551616) : ∃ s, s < 64 ∧ Lib.bitLen y = 64 - s ∧ 9223372036854775808 ≤ y * 2 ^ s ∧ y * 2 ^ s < 18446744073709551616 := by
  obtain ⟨h1, h2, h3, h4⟩ := le_of_log hy rfl hlt
  refine ⟨64 - Lib.bitLen y, by omega, by omega, ?_, ?_⟩
  · have : 2 ^ (Lib.bitLen y - 1) * 2 ^ (64 - Lib.bitLen y) ≤ y * 2 ^ (64 - Lib.bitLen y) := Nat.mul_le_mul_right _ h3
    rw [← Nat.pow_add, show Lib.bitLen y - 1 + (64 - Lib.bitLen y) = 63 by omega] at this
    simpa using this
  · have : y * 2 ^ (64 - Lib.bitLen y) < 2 ^ Lib.bitLen y * 2 ^ (64 - Lib.bitLen y) := Nat.mul_lt_mul_of_pos_right h4 (Nat.pow_pos (by omega))
    rw [← Nat.pow_add, show Lib.bitLen y + (64 - Lib.bitLen y) = 64 by omega] at this
    simpa using this
/-- The dividend moved up, in two limbs. -/
theorem moved {hi lo y s : Nat} (hs : s < 64) (hlo : lo < 18446744073709551616) (h : hi < y) (hy : y * 2 ^ s < 18446744073709551616) :
    hi * 2 ^ s + lo / 2 ^ (64 - s) < y * 2 ^ s ∧ lo / 2 ^ (64 - s) < 2 ^ s ∧ (hi * 2 ^ s + lo / 2 ^ (64 - s)) * 18446744073709551616 + lo * 2 ^ s % 18446744073709551616 = (hi * 18446744073709551616 + lo) * 2 ^ s ∧ hi * 2 ^ s < 18446744073709551616 := by
  have e64 : (18446744073709551616 : Nat) = 2 ^ s * 2 ^ (64 - s) := by rw [← Nat.pow_add, show s + (64 - s) = 64 by omega]
  have h1 : lo / 2 ^ (64 - s) < 2 ^ s := by
    apply Nat.div_lt_of_lt_mul
    rw [Nat.mul_comm, ← e64]; exact hlo
  have h2 : (hi + 1) * 2 ^ s ≤ y * 2 ^ s := Nat.mul_le_mul_right _ h
  rw [Nat.add_mul, Nat.one_mul] at h2
  refine ⟨by omega, h1, ?_, by have := Nat.pow_pos (n := s) (show 0 < 2 by omega); omega⟩
  have h3 : lo * 2 ^ s / 18446744073709551616 = lo / 2 ^ (64 - s) := by
    rw [e64, Nat.mul_comm lo, Nat.mul_div_mul_left _ _ (Nat.pow_pos (by omega))]
  have h4 := Nat.div_add_mod (lo * 2 ^ s) 18446744073709551616
  rw [h3] at h4
  rw [Nat.add_mul, Nat.add_mul, Nat.mul_right_comm hi]
  omega
end Go.Proofs.Ytnniellajmjmnaa
