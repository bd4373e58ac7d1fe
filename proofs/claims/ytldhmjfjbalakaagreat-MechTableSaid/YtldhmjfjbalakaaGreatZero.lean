/- zfield: an element; Zero. -/
import Derived.Test.YtldhmjfjbalakaaGreatMPlain
import Derived.ChangeKeysEq
import Derived.Laws.StructEq
namespace Go.Proofs.YtldhmjfjbalakaaGreat
open Go.RowKit

/-- An element's value: six limbs. -/
def EV (l : List Nat) : Value := .agg (nts l).toArray
theorem six {l : List Nat} (h : l.length = 6) : ∃ a b c d e f, l = [a, b, c, d, e, f] := by
  match l, h with
  | [a, b, c, d, e, f], _ => exact ⟨a, b, c, d, e, f, rfl⟩
set_option maxRecDepth 100000 in
theorem eql_zero (a b c d e f : Nat) (w : World) : (Op.equalIn 10000 135 (.agg #[.int .u64 (a : Int), .int .u64 (b : Int), .int .u64 (c : Int), .int .u64 (d : Int), .int .u64 (e : Int), .int .u64 (f : Int)]) (.agg #[.int .u64 0, .int .u64 0, .int .u64 0, .int .u64 0, .int .u64 0, .int .u64 0])).run Tryz.prog w =
    .ok (decide ([a, b, c, d, e, f] = [0, 0, 0, 0, 0, 0])) w := by
  obtain ⟨i0, hi, hz0, hz1, hz2⟩ := info_parts info64
  have hc : Tryz.prog.cellsOf 90 = 1 := by kernel_rfl
  rw [show (10000 : Nat) = 9999 + 1 by rfl, run_equalIn_array _ _ _ _ Tryz.underlying135 hi, hc]
  rw [show List.range 6 = [0, 1, 2, 3, 4, 5] by rfl]
  have he : ∀ x y : Int, (Op.equalIn 9999 90 (.int .u64 x) (.int .u64 y)).run Tryz.prog w = .ok (x == y) w := fun x y => run_equalIn_int w 9998 _ .u64 .u64 x y Tryz.underlying90
  have hp : ∀ (xs : Array Value) (j : Nat) (x : Value), xs[j]? = some x → (part 90 xs j).run Tryz.prog w = .ok x w := fun xs j x h => by
    simp [part, run_sizeOf w hi, hz1, h, go_sem]
  have hs : ∀ (xs ys : Array Value) (j : Nat) (x y : Int) (is : List Nat), xs[j]? = some (.int .u64 x) → ys[j]? = some (.int .u64 y) →
      (Op.eqItems 9999 90 1 xs ys (j :: is)).run Tryz.prog w = if x = y then (Op.eqItems 9999 90 1 xs ys is).run Tryz.prog w else .ok false w := by
    intro xs ys j x y is h1 h2
    have p1 := hp xs j _ h1
    have p2 := hp ys j _ h2
    simp only [Op.eqItems, Sem.run_bind, Nat.mul_one, p1, p2, he, Result.andThen_ok]
    by_cases hxy : x = y
    · simp [hxy]
    · simp [hxy]
  rw [hs _ _ 0 a 0 _ rfl rfl, hs _ _ 1 b 0 _ rfl rfl, hs _ _ 2 c 0 _ rfl rfl, hs _ _ 3 d 0 _ rfl rfl, hs _ _ 4 e 0 _ rfl rfl, hs _ _ 5 f 0 _ rfl rfl]
  have hn : (Op.eqItems 9999 90 1 #[.int .u64 (a : Int), .int .u64 (b : Int), .int .u64 (c : Int), .int .u64 (d : Int), .int .u64 (e : Int), .int .u64 (f : Int)] #[.int .u64 0, .int .u64 0, .int .u64 0, .int .u64 0, .int .u64 0, .int .u64 0] []).run Tryz.prog w = .ok true w := by simp [Op.eqItems]
  rw [hn]
  have hd : decide ([a, b, c, d, e, f] = [0, 0, 0, 0, 0, 0]) = decide ((a : Int) = 0 ∧ (b : Int) = 0 ∧ (c : Int) = 0 ∧ (d : Int) = 0 ∧ (e : Int) = 0 ∧ (f : Int) = 0) := by
    rw [decide_eq_decide]; simp
  rw [hd]
  by_cases h1 : (a : Int) = 0 <;> by_cases h2 : (b : Int) = 0 <;> by_cases h3 : (c : Int) = 0 <;> by_cases h4 : (d : Int) = 0 <;> by_cases h5 : (e : Int) = 0 <;> by_cases h6 : (f : Int) = 0 <;> simp only [h1, h2, h3, h4, h5, h6, if_true, if_false, and_self, and_true, true_and, and_false, false_and, decide_true, decide_false]

set_option maxRecDepth 100000 in
set_option maxHeartbeats 1000000 in
theorem zero_any (l : List Nat) (w : World) (hl : l.length = 6) : Calls Tryz.prog 119 #[EV l] w fun e w' => e = .returned (.bool (decide (l = [0, 0, 0, 0, 0, 0]))) ∧ Below w.heap.size w w' := by
  obtain ⟨a, b, c, d, e, f, rfl⟩ := six hl
  simp only [EV, nts, List.map_cons, List.map_nil]
  have heq := eql_zero a b c d e f
  generalize decide ([a, b, c, d, e, f] = [0, 0, 0, 0, 0, 0]) = r at *
  go_enter Tryz.func119, Tryz.ntmps119
  go_wp2
  go_ret
  exact ⟨rfl, (Below.refl _ w).alloc (Nat.le_refl _) _⟩
end Go.Proofs.YtldhmjfjbalakaaGreat
