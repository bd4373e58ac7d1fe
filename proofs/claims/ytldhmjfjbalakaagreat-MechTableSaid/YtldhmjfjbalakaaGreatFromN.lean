/- Plain arithmetic of numbers that are read from bytes: nothing of the program. -/
import Derived.Test.YtldhmjfjbalakaaGreatBitN
namespace Go.Proofs.YtldhmjfjbalakaaGreat

/-- The number of bytes, the highest first. -/
def numOf (bs : List Nat) : Nat := val 256 bs.reverse
theorem numOf_snoc (bs : List Nat) (c : Nat) : numOf (bs ++ [c]) = c + 256 * numOf bs := by
  simp [numOf]
theorem pow256 (k : Nat) : 256 ^ k = 2 ^ (8 * k) := by rw [Nat.pow_mul]
theorem numOf_lt {bs : List Nat} (h : ∀ b ∈ bs, b < 256) : numOf bs < 256 ^ bs.length := by
  have := val_lt (B := 256) (l := bs.reverse) (by simpa using h)
  rwa [List.length_reverse] at this
theorem val_map_range (f : Nat → Nat) (n : Nat) : val 256 ((List.range (n + 1)).map f) = val 256 ((List.range n).map f) + 256 ^ n * f n := by
  rw [List.range_succ, List.map_append, val_append]
  simp
theorem val_bytes (x n : Nat) : val 256 ((List.range n).map fun i => x / 2 ^ (8 * i) % 256) = x % 256 ^ n := by
  induction n with
  | zero => simp [Nat.mod_one]
  | succ n ih => rw [val_map_range, ih, Nat.pow_succ, Nat.mod_mul, pow256]
theorem bytesOf_reverse (x n : Nat) : (bytesOf x n).reverse = (List.range n).map fun i => x / 2 ^ (8 * i) % 256 := by
  apply List.ext_getElem
  · simp [bytesOf]
  · intro i h1 h2
    simp [bytesOf] at h1 ⊢
    rw [show n - 1 - (n - 1 - i) = i by omega]
theorem numOf_bytesOf {x n : Nat} (h : x < 2 ^ (8 * n)) : numOf (bytesOf x n) = x := by
  rw [numOf, bytesOf_reverse, val_bytes, pow256, Nat.mod_eq_of_lt h]
/-- One byte more: it goes where noughts are. -/
theorem from_step {m j q k c : Nat} {o : List Nat} {V : Nat} (ho : ∀ x ∈ o, x < 2 ^ m) (hq : q < o.length) (hk : m * q + j = 8 * k) (hj : j + 8 ≤ m) (hc : c < 256) (hv : val (2 ^ m) o = 256 ^ (k + 1) * V) :
    c * 2 ^ j < 2 ^ m ∧ dg o q + c * 2 ^ j < 2 ^ m ∧ (dg o q ||| c * 2 ^ j) = dg o q + c * 2 ^ j ∧ val (2 ^ m) (o.set q (dg o q + c * 2 ^ j)) = 256 ^ k * (c + 256 * V) := by
  obtain ⟨r, hr⟩ := val_shift o ho q 0 (by omega)
  have hlt : dg o q < 2 ^ m := getD_lt (Nat.pow_pos (by omega)) ho q
  rw [Nat.add_zero, Nat.pow_zero, Nat.div_one, Nat.sub_zero, hv, pow256, show 8 * (k + 1) = m * q + (j + 8) by omega, Nat.pow_add, Nat.mul_assoc, Nat.mul_div_cancel_left _ (Nat.pow_pos (by omega))] at hr
  have hcj : c * 2 ^ j < 2 ^ (j + 8) := by
    rw [Nat.pow_add, Nat.mul_comm]
    exact Nat.mul_lt_mul_of_pos_left hc (Nat.pow_pos (by omega))
  have em : 2 ^ m = 2 ^ (j + 8) * 2 ^ (m - (j + 8)) := by rw [← Nat.pow_add, show j + 8 + (m - (j + 8)) = m by omega]
  obtain ⟨t, ht⟩ : ∃ t, dg o q = t * 2 ^ (j + 8) := by
    refine ⟨V - 2 ^ (m - (j + 8)) * r, ?_⟩
    rw [em, Nat.mul_assoc] at hr
    rw [Nat.mul_comm, Nat.mul_sub, hr]
    omega
  have htlt : t < 2 ^ (m - (j + 8)) := by
    rw [ht, em, Nat.mul_comm] at hlt
    exact Nat.lt_of_mul_lt_mul_left hlt
  have hsum : dg o q + c * 2 ^ j < 2 ^ m := by
    have h1 : (t + 1) * 2 ^ (j + 8) ≤ 2 ^ (m - (j + 8)) * 2 ^ (j + 8) := Nat.mul_le_mul_right _ htlt
    rw [Nat.mul_comm (2 ^ (m - (j + 8))), ← em, Nat.add_mul, ← ht] at h1
    omega
  refine ⟨by omega, hsum, ?_, ?_⟩
  · rw [ht, Nat.mul_comm t, Nat.two_pow_add_eq_or_of_lt hcj]
  · have h2 := val_set' (2 ^ m) hq (dg o q + c * 2 ^ j)
    have h3 : (2 ^ m) ^ q * (c * 2 ^ j) = 256 ^ k * c := by
      rw [pow256, ← hk, Nat.pow_add, Nat.pow_mul, Nat.mul_assoc, Nat.mul_comm c]
    rw [Nat.mul_add, h3, hv] at h2
    rw [Nat.mul_add, ← Nat.mul_assoc, ← Nat.pow_succ]
    generalize 256 ^ (k + 1) * V = E at *
    generalize 256 ^ k * c = F at *
    generalize (2 ^ m) ^ q * dg o q = G at *
    generalize val (2 ^ m) (o.set q (dg o q + c * 2 ^ j)) = H at *
    clear hr hlt hcj em ht htlt hsum hv h3
    omega
end Go.Proofs.YtldhmjfjbalakaaGreat
