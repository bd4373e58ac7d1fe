/- Plain arithmetic of bits and bytes of numbers: nothing of the program. -/
import Derived.Test.YtldhmjfjbalakaaGreatStep
import Derived.Lib.BitFns
import Derived.Lib.ItoaNum
namespace Go.Proofs.YtldhmjfjbalakaaGreat

/-- How many bits a number has. -/
def nbits (x : Nat) : Nat := if x = 0 then 0 else x.log2 + 1
theorem nbits_zero : nbits 0 = 0 := rfl
theorem nbits_eq {x k : Nat} (h1 : 2 ^ k ≤ x) (h2 : x < 2 ^ (k + 1)) : nbits x = k + 1 := by
  have hx : x ≠ 0 := by have := Nat.pow_pos (n := k) (show 0 < 2 by omega); omega
  have h3 : k ≤ x.log2 := (Nat.le_log2 hx).2 h1
  have h4 : x.log2 < k + 1 := (Nat.log2_lt hx).2 h2
  simp [nbits, hx]
  omega
theorem nbits_bounds {x : Nat} (hx : x ≠ 0) : 2 ^ (nbits x - 1) ≤ x ∧ x < 2 ^ nbits x ∧ 1 ≤ nbits x := by
  simp only [nbits, hx, if_false, Nat.add_sub_cancel]
  exact ⟨Nat.log2_self_le hx, Nat.lt_log2_self, by omega⟩
theorem nbits_le {x k : Nat} (h : x < 2 ^ k) : nbits x ≤ k := by
  rcases Nat.eq_zero_or_pos x with rfl | h0
  · simp [nbits]
  · obtain ⟨h1, h2, h3⟩ := nbits_bounds (Nat.pos_iff_ne_zero.1 h0)
    rcases Nat.lt_or_ge k (nbits x) with h4 | h4
    · have : 2 ^ k ≤ 2 ^ (nbits x - 1) := Nat.pow_le_pow_right (by omega) (by omega)
      omega
    · exact h4
theorem lt_of_nbits {x k : Nat} (h : nbits x ≤ k) : x < 2 ^ k := by
  rcases Nat.eq_zero_or_pos x with rfl | h0
  · exact Nat.pow_pos (by omega)
  · obtain ⟨_, h2, _⟩ := nbits_bounds (Nat.pos_iff_ne_zero.1 h0)
    exact Nat.lt_of_lt_of_le h2 (Nat.pow_le_pow_right (by omega) h)
/-- Bits, by the highest digit to the base 2^m. -/
theorem nbits_top {m : Nat} (hm : 0 < m) {x : Nat} (hx : 0 < x) {k : Nat} (hk : 0 < k) (h1 : 2 ^ (k - 1) ≤ dg (digs (2 ^ m) x) ((digs (2 ^ m) x).length - 1)) (h2 : dg (digs (2 ^ m) x) ((digs (2 ^ m) x).length - 1) < 2 ^ k) :
    nbits x = m * ((digs (2 ^ m) x).length - 1) + k := by
  have hB : 2 ≤ 2 ^ m := by
    have : 2 ^ 1 ≤ 2 ^ m := Nat.pow_le_pow_right (by omega) hm
    simpa using this
  have hv := val_digs hB x
  have hlt := digs_lt hB x
  have hne : 0 < (digs (2 ^ m) x).length := by rw [digs_pos hB hx]; simp
  generalize digs (2 ^ m) x = l at *
  have h3 := val_take_getD (2 ^ m) l (l.length - 1)
  rw [show l.length - 1 + 1 = l.length by omega, List.take_length, hv] at h3
  have h4 := val_lt (B := 2 ^ m) (l := l.take (l.length - 1)) fun y hy => hlt y (List.mem_of_mem_take hy)
  rw [List.length_take, Nat.min_eq_left (by omega)] at h4
  have h5 : (2 ^ m) ^ (l.length - 1) = 2 ^ (m * (l.length - 1)) := by rw [Nat.pow_mul]
  rw [h5] at h3 h4
  generalize m * (l.length - 1) = e at *
  generalize dg l (l.length - 1) = t at *
  obtain ⟨j, rfl⟩ : ∃ j, k = j + 1 := ⟨k - 1, by omega⟩
  rw [Nat.add_sub_cancel] at h1
  have h6 : 2 ^ e * 2 ^ j ≤ 2 ^ e * t := Nat.mul_le_mul_left _ h1
  have h7 : 2 ^ e * (t + 1) ≤ 2 ^ e * 2 ^ (j + 1) := Nat.mul_le_mul_left _ h2
  rw [← Nat.pow_add] at h6 h7
  rw [Nat.mul_add] at h7
  exact nbits_eq (k := e + j) (by omega) (by rw [show e + j + 1 = e + (j + 1) by omega]; omega)
theorem nbits_small {x : Nat} (hx : 0 < x) (h : x < 18446744073709551616) : nbits x = Lib.bitLen x := by
  have h1 := Lib.bitLenAux_bounds 64 x h (by omega)
  obtain ⟨j, hj⟩ : ∃ j, Lib.bitLen x = j + 1 := ⟨Lib.bitLen x - 1, by have := h1.1; unfold Lib.bitLen; omega⟩
  rw [hj]
  unfold Lib.bitLen at hj
  rw [hj] at h1
  exact nbits_eq h1.2.1 h1.2.2
/-- What is left of a number when its lowest k digits and j bits of the next are cut: seen from the digit. -/
theorem val_shift {m : Nat} (l : List Nat) (hl : ∀ x ∈ l, x < 2 ^ m) (k j : Nat) (hj : j ≤ m) : ∃ r, val (2 ^ m) l / 2 ^ (m * k + j) = dg l k / 2 ^ j + 2 ^ (m - j) * r := by
  refine ⟨val (2 ^ m) (l.drop (k + 1)), ?_⟩
  have h1 : val (2 ^ m) l = val (2 ^ m) (l.take k) + (2 ^ m) ^ k * (dg l k + 2 ^ m * val (2 ^ m) (l.drop (k + 1))) := by
    rcases Nat.lt_or_ge k l.length with h | h
    · have := val_take_drop (2 ^ m) l (Nat.le_of_lt h)
      rw [this, List.drop_eq_getElem_cons h, val_cons, dg, getD_eq' h]
    · rw [List.take_of_length_le h, List.drop_eq_nil_of_le (by omega), dg, List.getD_eq_getElem?_getD, List.getElem?_eq_none h]
      simp
  have h2 : val (2 ^ m) (l.take k) < (2 ^ m) ^ k := by
    have h3 := val_lt (B := 2 ^ m) (l := l.take k) fun y hy => hl y (List.mem_of_mem_take hy)
    refine Nat.lt_of_lt_of_le h3 (Nat.pow_le_pow_right (Nat.pow_pos (by omega)) ?_)
    rw [List.length_take]; omega
  rw [Nat.pow_add, Nat.pow_mul, ← Nat.div_div_eq_div_mul, h1, Nat.add_mul_div_left _ _ (Nat.pow_pos (Nat.pow_pos (by omega))), Nat.div_eq_of_lt h2, Nat.zero_add]
  have e : 2 ^ m = 2 ^ j * 2 ^ (m - j) := by rw [← Nat.pow_add, show j + (m - j) = m by omega]
  generalize hv : val (2 ^ m) (l.drop (k + 1)) = v
  rw [e, Nat.mul_assoc, Nat.add_mul_div_left _ _ (Nat.pow_pos (by omega))]
/-- One bit. -/
theorem val_bit {m : Nat} (l : List Nat) (hl : ∀ x ∈ l, x < 2 ^ m) (k j : Nat) (hj : j < m) : val (2 ^ m) l / 2 ^ (m * k + j) % 2 = dg l k / 2 ^ j % 2 := by
  obtain ⟨r, hr⟩ := val_shift l hl k j (by omega)
  rw [hr, show m - j = (m - j - 1) + 1 by omega, Nat.pow_succ, Nat.mul_right_comm, Nat.add_mul_mod_self_right]
/-- One byte. -/
theorem val_byte {m : Nat} (l : List Nat) (hl : ∀ x ∈ l, x < 2 ^ m) (k j : Nat) (hj : j + 8 ≤ m) : val (2 ^ m) l / 2 ^ (m * k + j) % 256 = dg l k / 2 ^ j % 256 := by
  obtain ⟨r, hr⟩ := val_shift l hl k j (by omega)
  rw [hr, show m - j = (m - j - 8) + 8 by omega, Nat.pow_add, show (2 : Nat) ^ 8 = 256 by rfl, Nat.mul_right_comm, Nat.add_mul_mod_self_right]
/-- The n lowest bytes, the highest first. -/
def bytesOf (x n : Nat) : List Nat := (List.range n).map fun i => x / 2 ^ (8 * (n - 1 - i)) % 256
theorem bytesOf_length (x n : Nat) : (bytesOf x n).length = n := by simp [bytesOf]
theorem bytesOf_lt (x n : Nat) : ∀ b ∈ bytesOf x n, b < 256 := by
  intro b hb
  obtain ⟨i, _, rfl⟩ := List.mem_map.1 hb
  exact Nat.mod_lt _ (by omega)
theorem bytesOf_get {x n i : Nat} (h : i < n) : (bytesOf x n)[i]? = some (x / 2 ^ (8 * (n - 1 - i)) % 256) := by simp [bytesOf, h]
end Go.Proofs.YtldhmjfjbalakaaGreat
