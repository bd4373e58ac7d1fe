/- What limb.Sub computes. -/
import Derived.Test.YtldhmjfjbalakaaGreatCmp
namespace Go.Proofs.YtldhmjfjbalakaaGreat
open Go.RowKit

theorem add64_at (x y c s c' : Nat) (hc : c ≤ 1) (hs : s < 18446744073709551616) (he : s + 18446744073709551616 * c' = x + y + c) (w : World) :
    (callFunc 132 #[.int .u64 (x : Int), .int .u64 (y : Int), .int .u64 (c : Int)]).run Tryz.prog w = .ok (.value (.tuple #[.int .u64 (s : Int), .int .u64 (c' : Int)])) w := by
  rw [Tryz.add64_run x y c hc w, show (x + y + c) % 18446744073709551616 = s by omega, show (x + y + c) / 18446744073709551616 = c' by omega]
theorem sub64_at (x y c s c' : Nat) (hc : c ≤ 1) (hx : x < 18446744073709551616) (hy : y < 18446744073709551616) (hs : s < 18446744073709551616) (he : s + y + c = x + 18446744073709551616 * c') (hc' : c' ≤ 1) (w : World) :
    (callFunc 135 #[.int .u64 (x : Int), .int .u64 (y : Int), .int .u64 (c : Int)]).run Tryz.prog w = .ok (.value (.tuple #[.int .u64 (s : Int), .int .u64 (c' : Int)])) w := by
  rw [Tryz.sub64_run x y c hc w, show (x + 18446744073709551616 - y - c) % 18446744073709551616 = s by omega, show (if x < y + c then 1 else 0 : Nat) = c' by split <;> omega]
theorem carry_of (x y c : Nat) (hx : x < 18446744073709551616) (hy : y < 18446744073709551616) (hc : c ≤ 1) : ∃ s c', s < 18446744073709551616 ∧ c' ≤ 1 ∧ s + 18446744073709551616 * c' = x + y + c :=
  ⟨(x + y + c) % 18446744073709551616, (x + y + c) / 18446744073709551616, by omega, by omega, by omega⟩
theorem borrow_of (x y c : Nat) (hx : x < 18446744073709551616) (hy : y < 18446744073709551616) (hc : c ≤ 1) : ∃ s c', s < 18446744073709551616 ∧ c' ≤ 1 ∧ s + y + c = x + 18446744073709551616 * c' := by
  by_cases h : y + c ≤ x
  · exact ⟨x - y - c, 0, by omega, by omega, by omega⟩
  · exact ⟨x + 18446744073709551616 - y - c, 1, by omega, by omega, by omega⟩
theorem dg_none {l : List Nat} {k : Nat} (h : l.length ≤ k) : dg l k = 0 := by
  rw [dg, List.getD_eq_getElem?_getD, List.getElem?_eq_none h]; rfl


end Go.Proofs.YtldhmjfjbalakaaGreat
