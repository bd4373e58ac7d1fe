/- zfield: elements in Montgomery's form, plain laws. -/
import Derived.Test.YtldhmjfjbalakaaGreatZMul
namespace Go.Proofs.YtldhmjfjbalakaaGreat
open Go.RowKit

theorem add_cancel_mod {a b c M : Nat} (h : (a + c) % M = (b + c) % M) : a % M = b % M := by
  have h1 := congrArg (fun z : Nat => (z : Int)) h
  simp only [Int.natCast_emod, Int.natCast_add] at h1
  have h2 : ((a : Int) + c - c) % M = ((b : Int) + c - c) % M := by rw [Int.sub_emod, h1, ← Int.sub_emod]
  rw [Int.add_sub_cancel, Int.add_sub_cancel] at h2
  exact_mod_cast h2
theorem sub_mod_form {x y M R : Nat} (hM : 0 < M) (hy : y ≤ M) : subM (x * R % M) (y * R % M) M = (x + M - y) * R % M := by
  have h1 := Nat.mod_lt (x * R) hM
  have h2 := Nat.mod_lt (y * R) hM
  rw [subM_mod h1 h2]
  refine add_cancel_mod (c := y * R % M) ?_
  rw [show x * R % M + M - y * R % M + y * R % M = x * R % M + M by omega, Nat.add_mod_right, Nat.mod_mod]
  rw [Nat.add_mod_mod, ← Nat.add_mul, show x + M - y + y = x + M by omega, Nat.add_mul, Nat.add_mul_mod_self_left]
theorem off_mod {x M : Nat} (h : x < 2 * M) : offM x M = x % M := by
  rw [offM]
  split
  · rw [Nat.mod_eq_of_lt (by assumption)]
  · rw [show x = x - M + M by omega, Nat.add_mod_right, Nat.mod_eq_of_lt (by omega)]; omega
/-- The element holds x, in Montgomery's form. -/
structure FE (M n : Nat) (l : List Nat) (x : Nat) : Prop where
  elt : Elt M l
  form : val 18446744073709551616 l = x * 18446744073709551616 ^ n % M
theorem FE.mod {M n : Nat} {l : List Nat} {x : Nat} (h : FE M n l x) : FE M n l (x % M) := ⟨h.elt, by rw [Nat.mod_mul_mod]; exact h.form⟩
theorem FE.zero_iff {w : World} {g n inv M : Nat} {ml ol rl l : List Nat} {x : Nat} (h : FE M n l x) (hF : FF w g n inv M ml ol rl) : l = [0, 0, 0, 0, 0, 0] ↔ x % M = 0 := by
  constructor
  · intro hz
    have h1 := h.form
    rw [hz] at h1
    have h2 : x * 18446744073709551616 ^ n % M = 0 * 18446744073709551616 ^ n % M := by rw [← h1]; simp
    have := cancelR hF.invV h2
    simpa using this
  · intro hz
    have h1 := h.form
    rw [← Nat.mod_mul_mod, hz, Nat.zero_mul, Nat.zero_mod] at h1
    obtain ⟨a, b, c, d, e, f, rfl⟩ := six h.elt.six
    simp only [val_cons, val_nil] at h1
    simp
    omega

set_option maxRecDepth 100000 in
theorem fmul_any {g n inv M : Nat} {ml ol rl : List Nat} {a b : List Nat} {x y : Nat} (w : World) (hF : FF w g n inv M ml ol rl) (ha : FE M n a x) (hb : FE M n b y) :
    Calls Tryz.prog 117 #[.pointer (some ⟨g, 0, none⟩), EV a, EV b] w fun e w' => ∃ o, e = .returned (EV o) ∧ FE M n o (x * y) ∧ Below w.heap.size w w' := by
  refine (zmul_any a b w hF ha.elt hb.elt).mono ?_
  rintro e w' ⟨o, rfl, ho, hv, hB⟩
  refine ⟨o, rfl, ⟨ho, ?_⟩, hB⟩
  rw [ha.form, hb.form, ← Nat.mul_mod] at hv
  have h1 : val 18446744073709551616 o * 18446744073709551616 ^ n % M = (x * y * 18446744073709551616 ^ n) * 18446744073709551616 ^ n % M := by
    rw [hv]
    congr 1
    generalize 18446744073709551616 ^ n = R
    rw [Nat.mul_mul_mul_comm, Nat.mul_assoc (x * y)]
  have h2 := cancelR hF.invV h1
  rwa [Nat.mod_eq_of_lt ho.lt] at h2
theorem fadd_any {g n inv M : Nat} {ml ol rl : List Nat} {a b : List Nat} {x y : Nat} (w : World) (hF : FF w g n inv M ml ol rl) (ha : FE M n a x) (hb : FE M n b y) :
    Calls Tryz.prog 116 #[.pointer (some ⟨g, 0, none⟩), EV a, EV b] w fun e w' => ∃ o, e = .returned (EV o) ∧ FE M n o (x + y) ∧ Below w.heap.size w w' := by
  refine (zadd_any a b w hF ha.elt hb.elt).mono ?_
  rintro e w' ⟨o, rfl, ho, hv, hB⟩
  refine ⟨o, rfl, ⟨ho, ?_⟩, hB⟩
  have h1 := ha.elt.lt
  have h2 := hb.elt.lt
  rw [hv, off_mod (by omega), ha.form, hb.form, ← Nat.add_mod, ← Nat.add_mul]
theorem fsub_any {g n inv M : Nat} {ml ol rl : List Nat} {a b : List Nat} {x y : Nat} (w : World) (hF : FF w g n inv M ml ol rl) (ha : FE M n a x) (hb : FE M n b y) (hy : y ≤ M) :
    Calls Tryz.prog 118 #[.pointer (some ⟨g, 0, none⟩), EV a, EV b] w fun e w' => ∃ o, e = .returned (EV o) ∧ FE M n o (x + M - y) ∧ Below w.heap.size w w' := by
  refine (zsub_any a b w hF ha.elt hb.elt).mono ?_
  rintro e w' ⟨o, rfl, ho, hv, hB⟩
  refine ⟨o, rfl, ⟨ho, ?_⟩, hB⟩
  rw [hv, ha.form, hb.form, sub_mod_form (by have := hF.big; omega) hy]
/-- The curve's equation, as it is reckoned here and there. -/
theorem curve_eq {x y b M : Nat} (hM : 3 < M) : (y * y + M - (((x * x + M - 3) * x + b) % M)) % M = 0 ↔ y * y % M = ((x * x % M * x % M + M - 3 * x % M) % M + b) % M := by
  have h0 : 0 < M := by omega
  have hr := Nat.mod_lt ((x * x + M - 3) * x + b) h0
  have e1 : (y * y + M - (((x * x + M - 3) * x + b) % M)) % M = 0 ↔ y * y % M = ((x * x + M - 3) * x + b) % M := by
    constructor
    · intro h
      have h1 : (y * y + M - (((x * x + M - 3) * x + b) % M) + (((x * x + M - 3) * x + b) % M)) % M = (0 + ((x * x + M - 3) * x + b) % M) % M := by rw [Nat.add_mod, h, Nat.mod_mod, Nat.zero_add]
      rw [show y * y + M - (((x * x + M - 3) * x + b) % M) + (((x * x + M - 3) * x + b) % M) = y * y + M by omega, Nat.add_mod_right, Nat.zero_add, Nat.mod_mod] at h1
      exact h1
    · intro h
      have h1 : (y * y + M - (((x * x + M - 3) * x + b) % M) + (((x * x + M - 3) * x + b) % M)) % M = (0 + ((x * x + M - 3) * x + b) % M) % M := by
        rw [show y * y + M - (((x * x + M - 3) * x + b) % M) + (((x * x + M - 3) * x + b) % M) = y * y + M by omega, Nat.add_mod_right, Nat.zero_add, Nat.mod_mod]
        exact h
      have h2 := add_cancel_mod h1
      rwa [Nat.zero_mod] at h2
  have h3 := Nat.mod_lt (3 * x) h0
  have h4 : (x * x + M - 3) * x % M = (x * x % M * x % M + M - 3 * x % M) % M := by
    refine add_cancel_mod (c := 3 * x) ?_
    rw [← Nat.add_mul, show x * x + M - 3 + 3 = x * x + M by omega, Nat.add_mul, Nat.add_mul_mod_self_left]
    rw [Nat.add_mod (x * x % M * x % M + M - 3 * x % M), ← Nat.mod_mod (3 * x) M, ← Nat.add_mod, Nat.mod_mod, show x * x % M * x % M + M - 3 * x % M + 3 * x % M = x * x % M * x % M + M by omega, Nat.add_mod_right, Nat.mod_mod, Nat.mod_mul_mod]
  rw [e1, Nat.add_mod ((x * x + M - 3) * x), h4, Nat.add_mod_mod]
end Go.Proofs.YtldhmjfjbalakaaGreat
