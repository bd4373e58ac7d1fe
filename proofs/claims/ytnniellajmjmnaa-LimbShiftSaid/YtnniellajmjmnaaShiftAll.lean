/- Shl, Shr and the reference's Quo, whatever comes in: for LimbShift's walk. -/
import Derived.Test.YtnniellajmjmnaaRefQuoAll
import Derived.Test.YtnniellajmjmnaaOpen
namespace Go.Proofs.Ytnniellajmjmnaa
open Go.RowKit

/-- What Shl's answer is. -/
def UpOk (x : Nat) (n : Int) (U : List Nat) : Prop := (n < 0 ∨ 65536 < n → U = []) ∧ ∀ k : Nat, n = (k : Int) → k ≤ 65536 → U = digs 18446744073709551616 (x * 2 ^ k)
/-- What Shr's answer is. -/
def DownOk (x : Nat) (n : Int) (U : List Nat) : Prop := (n < 0 → U = []) ∧ ∀ k : Nat, n = (k : Int) → U = digs 18446744073709551616 (x / 2 ^ k)

theorem shl_all (P : Nat → Prop) (A : Option Addr) (c : Nat) (a : List Nat) (n : Int) (w : World) (h : RN w P A c a) (hP : ∀ b, P b → b < w.heap.size) (hl : a.length < 100000) :
    Calls Try.prog 21 #[.slice A a.length c, .int .i64 n] w fun e w' => ∃ A1 c1 U, e = .returned (.slice A1 U.length c1) ∧ OB w' w.heap.size A1 c1 U ∧ UpOk (val 18446744073709551616 a) n U ∧ Below w.heap.size w w' := by
  by_cases hn : n < 0 ∨ 65536 < n ∨ val 18446744073709551616 a = 0
  · refine (shl_no P A c a n w h hn).mono ?_
    rintro e w' ⟨rfl, rfl⟩
    refine ⟨none, 0, [], rfl, OB.nil_ _ _, ⟨fun _ => rfl, fun k hk hk' => ?_⟩, Below.refl _ _⟩
    have h0 : val 18446744073709551616 a = 0 := by omega
    rw [h0, Nat.zero_mul, digs_zero]
  · obtain ⟨k, rfl⟩ : ∃ k : Nat, n = (k : Int) := ⟨n.toNat, by omega⟩
    refine (shl_yes P A c a k w h hP hl (by omega) (by omega)).mono ?_
    rintro e w' ⟨A1, c1, rfl, hO, _, _, hB⟩
    refine ⟨A1, c1, _, rfl, hO, ⟨fun h => by omega, fun k' hk _ => ?_⟩, hB⟩
    obtain rfl : k = k' := by omega
    rfl
theorem shr_all (P : Nat → Prop) (A : Option Addr) (c : Nat) (a : List Nat) (n : Int) (w : World) (h : RN w P A c a) (hP : ∀ b, P b → b < w.heap.size) (hl : a.length < 100000) (hn : n ≤ 9223372036854775807) :
    Calls Try.prog 22 #[.slice A a.length c, .int .i64 n] w fun e w' => ∃ A1 c1 U, e = .returned (.slice A1 U.length c1) ∧ OB w' w.heap.size A1 c1 U ∧ DownOk (val 18446744073709551616 a) n U ∧ Below w.heap.size w w' := by
  by_cases h0 : n < 0
  · refine (shr_neg P A c a n w h h0).mono ?_
    rintro e w' ⟨rfl, rfl⟩
    exact ⟨none, 0, [], rfl, OB.nil_ _ _, ⟨fun _ => rfl, fun k hk => by omega⟩, Below.refl _ _⟩
  · obtain ⟨k, rfl⟩ : ∃ k : Nat, n = (k : Int) := ⟨n.toNat, by omega⟩
    refine (shr_any P A c a k w h hP hl (by omega)).mono ?_
    rintro e w' ⟨A1, c1, rfl, hO, hB⟩
    refine ⟨A1, c1, _, rfl, hO, ⟨fun h => by omega, fun k' hk => ?_⟩, hB⟩
    obtain rfl : k = k' := by omega
    rfl
theorem refQuo_any (P P' : Nat → Prop) (A A' : Option Addr) (c c' : Nat) (x y : Nat) (w : World) (h : RN w P A c (digs 4294967296 x)) (h' : RN w P' A' c' (digs 4294967296 y)) (hP : ∀ b, P b → b < w.heap.size) (hP' : ∀ b, P' b → b < w.heap.size) (hl : (digs 4294967296 x).length < 90000) (h0 : 0 < y) :
    Calls Try.prog 23 #[.slice A (digs 4294967296 x).length c, .slice A' (digs 4294967296 y).length c'] w fun e w' => ∃ A1 c1 v2, e = .returned (.tuple #[.slice A1 (digs 4294967296 (x / y)).length c1, v2]) ∧ OB w' w.heap.size A1 c1 (digs 4294967296 (x / y)) ∧ Below w.heap.size w w' := by
  rcases Nat.lt_or_ge x y with hlt | hge
  · exact refQuo_small P P' A A' c c' x y w h h' hP (by omega) h0 (.inl hlt)
  · rcases Nat.lt_or_ge 1 (digs 4294967296 y).length with h1 | h1
    · exact refQuo_big P P' A A' c c' x y w h h' hP hP' hl hge h1
    · refine refQuo_small P P' A A' c c' x y w h h' hP (by omega) h0 (.inr ?_)
      have : 0 < (digs 4294967296 y).length := by rw [digs_pos (by omega) h0]; simp
      omega
/-- Power2 and Quo together: a number moved down. -/
theorem pow2_len (n : Nat) : (digs 4294967296 (2 ^ n)).length = n / 32 + 1 := by
  rw [digs_pow2 (q := n / 32) (r := n % 32) (by omega) (by omega)]
  simp
end Go.Proofs.Ytnniellajmjmnaa
