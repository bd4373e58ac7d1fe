/- Newton's inverse of a limb: plain law. -/
import Derived.Test.YtldhmjfjbalakaaGreatMPlain
namespace Go.Proofs.YtldhmjfjbalakaaGreat

/-- Behind r rounds of Newton's. -/
def NewtAt (m : Int) (r : Nat) (y : Int) : Prop := ∃ t, m * y = 1 + 2 ^ (2 ^ r) * t
theorem NewtAt.zero {m : Int} (h : m % 2 = 1) : NewtAt m 0 1 := ⟨(m - 1) / 2, by omega⟩
theorem NewtAt.step {m y : Int} {r : Nat} (h : NewtAt m r y) (hr : r < 6) : NewtAt m (r + 1) (y * ((2 - m * y % 18446744073709551616) % 18446744073709551616) % 18446744073709551616) := by
  obtain ⟨t, ht⟩ := h
  obtain ⟨z, hz⟩ := newton_wrap (m := m) (y := y)
  have hj : ∃ j, 2 ^ r + 2 ^ r + j = 64 := by
    have : r = 0 ∨ r = 1 ∨ r = 2 ∨ r = 3 ∨ r = 4 ∨ r = 5 := by omega
    rcases this with rfl | rfl | rfl | rfl | rfl | rfl
    · exact ⟨62, rfl⟩
    · exact ⟨60, rfl⟩
    · exact ⟨56, rfl⟩
    · exact ⟨48, rfl⟩
    · exact ⟨32, rfl⟩
    · exact ⟨0, rfl⟩
  obtain ⟨j, hj⟩ := hj
  obtain ⟨s, hs⟩ := newton (z := z) ht hz hj
  exact ⟨s, by rw [Nat.pow_succ, Nat.mul_two]; exact hs⟩
theorem NewtAt.fin {m : Int} {y : Int} (h : NewtAt m 6 y) : ∃ t, m * y = 1 + 18446744073709551616 * t := by
  obtain ⟨t, ht⟩ := h
  exact ⟨t, ht⟩
theorem val_pow (n : Nat) : val 18446744073709551616 (List.replicate n 0 ++ [1]) = 18446744073709551616 ^ n := by
  rw [val_append, val_replicate, List.length_replicate]; simp
theorem dig_len {v M k : Nat} (h : v ≤ M) (hM : (digs 18446744073709551616 M).length ≤ k) : (digs 18446744073709551616 v).length ≤ k := Nat.le_trans (digs_length_mono (by omega) h) hM
theorem dig_mul {x y M k : Nat} (hx : x ≤ M) (hy : y ≤ M) (hM : (digs 18446744073709551616 M).length ≤ k) : (digs 18446744073709551616 (x * y)).length ≤ k + k := by
  have h1 := lt_pow_digs (B := 18446744073709551616) (by omega) M
  have h2 : 18446744073709551616 ^ (digs 18446744073709551616 M).length ≤ 18446744073709551616 ^ k := Nat.pow_le_pow_right (by omega) hM
  refine digs_length_of_lt (by omega) ?_
  rw [Nat.pow_add]
  have h3 : x * y ≤ M * M := Nat.mul_le_mul hx hy
  have h4 : M * M < 18446744073709551616 ^ k * 18446744073709551616 ^ k := Nat.mul_lt_mul'' (by omega) (by omega)
  omega
theorem dig_add {x y M k : Nat} (hx : x ≤ M) (hy : y ≤ M) (hM : (digs 18446744073709551616 M).length ≤ k) : (digs 18446744073709551616 (x + y)).length ≤ k + 1 := by
  have h1 := lt_pow_digs (B := 18446744073709551616) (by omega) M
  have h2 : 18446744073709551616 ^ (digs 18446744073709551616 M).length ≤ 18446744073709551616 ^ k := Nat.pow_le_pow_right (by omega) hM
  refine digs_length_of_lt (by omega) ?_
  rw [Nat.pow_succ]
  omega
end Go.Proofs.YtldhmjfjbalakaaGreat
