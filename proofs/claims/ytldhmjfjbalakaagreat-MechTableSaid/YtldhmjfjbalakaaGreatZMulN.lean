/- zfield's Mul: plain law of one round. -/
import Derived.Test.YtldhmjfjbalakaaGreatZSub
namespace Go.Proofs.YtldhmjfjbalakaaGreat
open Go.RowKit

theorem val_take_mod {B : Nat} {l : List Nat} (h : ∀ x ∈ l, x < B) (hB : 0 < B) (k : Nat) : val B (l.take (k + 1)) % B = dg l 0 := by
  cases l with
  | nil => simp [dg]
  | cons x m => rw [List.take_succ_cons, val_cons, Nat.add_mul_mod_self_left, Nat.mod_eq_of_lt (h x (by simp))]; rfl
/-- The low limb goes. -/
theorem low_gone {B M inv V u t0 m0 : Nat} (hB : 0 < B) (hi : (inv * M + 1) % B = 0) (hV : V % B = t0) (hm : M % B = m0) (hu : u = t0 * inv % B) : (t0 + u * m0) % B = 0 := by
  have h1 := mont_low (v := V) hi hV hu
  rw [← hV, ← hm, Nat.add_mod, Nat.mod_mod, Nat.mul_mod_mod, ← Nat.add_mod]
  exact h1
/-- The low limb's product and sum. -/
theorem low_parts {u m0 t0 : Nat} (hu : u < 18446744073709551616) (hm : m0 < 18446744073709551616) (ht : t0 < 18446744073709551616) (hz : (t0 + u * m0) % 18446744073709551616 = 0) :
    ∃ hi lo c : Nat, lo < 18446744073709551616 ∧ lo + 18446744073709551616 * hi = u * m0 ∧ c ≤ 1 ∧ 0 + 18446744073709551616 * c = lo + t0 + 0 ∧ hi + c < 18446744073709551616 ∧ 18446744073709551616 * (hi + c) = t0 + u * m0 := by
  have hb := mul_bound hu hm ht (show 0 < 18446744073709551616 by omega)
  refine ⟨u * m0 / 18446744073709551616, u * m0 % 18446744073709551616, (u * m0 % 18446744073709551616 + t0) / 18446744073709551616, Nat.mod_lt _ (by omega), Nat.mod_add_div _ _, ?_, ?_, ?_, ?_⟩
  all_goals
    generalize u * m0 = p at *
    omega
theorem top_small {M vb T x R top : Nat} (e1 : T = x + R * top) (h2 : T < M + vb) (hM : M ≤ R) (hb : vb < M) : top ≤ 1 := by
  rcases Nat.lt_or_ge top 2 with h | h
  · omega
  · have e5 : R * 2 ≤ R * top := Nat.mul_le_mul_left _ h
    omega
end Go.Proofs.YtldhmjfjbalakaaGreat
