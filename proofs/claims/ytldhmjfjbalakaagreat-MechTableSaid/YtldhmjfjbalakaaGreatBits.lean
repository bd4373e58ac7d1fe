/- What limb.Bits, Bit and Bytes compute. -/
import Derived.Test.YtldhmjfjbalakaaGreatQuo
import Derived.Test.YtldhmjfjbalakaaGreatBitN
namespace Go.Proofs.YtldhmjfjbalakaaGreat
open Go.RowKit

theorem dg_last_pos {x : Nat} (hx : 0 < x) : 0 < dg (digs 18446744073709551616 x) ((digs 18446744073709551616 x).length - 1) := by
  have hne : digs 18446744073709551616 x ≠ [] := by rw [digs_pos (by omega) hx]; simp
  have h := digs_last (B := 18446744073709551616) (by omega) x hne
  have hpos := List.length_pos_iff.2 hne
  rw [List.getLast_eq_getElem] at h
  rw [dg, getD_eq' (by omega)]
  omega
theorem nbits_limbs {x : Nat} (hx : 0 < x) : nbits x = 64 * ((digs 18446744073709551616 x).length - 1) + Lib.bitLen (dg (digs 18446744073709551616 x) ((digs 18446744073709551616 x).length - 1)) := by
  have h0 := dg_last_pos hx
  have h1 := getD_lt (B := 18446744073709551616) (by omega) (digs_lt (by omega) x) ((digs 18446744073709551616 x).length - 1)
  have h2 := Lib.bitLenAux_bounds 64 _ h1 (by omega)
  have h3 := nbits_top (m := 64) (by omega) hx (k := Lib.bitLen (dg (digs 18446744073709551616 x) ((digs 18446744073709551616 x).length - 1))) h2.1 h2.2.1 h2.2.2
  exact h3

/-- One bit of a number; none below 0. -/
def bitOf (x : Nat) (i : Int) : Nat := if i < 0 then 0 else x / 2 ^ i.toNat % 2
theorem mask1 (x : Nat) : x &&& 1 = x % 2 := Nat.and_one_is_mod x
theorem and_one (d j : Nat) (hd : d < 18446744073709551616) : bits .and .u64 ((d : Int) / 2 ^ j) 1 = ((d / 2 ^ j % 2 : Nat) : Int) := by
  have h0 : d / 2 ^ j ≤ d := Nat.div_le_self d _
  have h := bits_and_u64_nat (d / 2 ^ j) 1 (by omega) (by omega)
  rw [mask1] at h
  rw [← h]
  simp

end Go.Proofs.YtldhmjfjbalakaaGreat
