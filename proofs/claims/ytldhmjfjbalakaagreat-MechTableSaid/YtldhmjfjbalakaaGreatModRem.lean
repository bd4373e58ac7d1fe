/- What baileyref2's Mod and Mul compute. -/
import Derived.Test.YtldhmjfjbalakaaGreatRefQuoAll
import Derived.Test.YtldhmjfjbalakaaGreatRefAdd
import Derived.Test.YtldhmjfjbalakaaGreatUnit
namespace Go.Proofs.YtldhmjfjbalakaaGreat
open Go.RowKit

/-- The number that a slice of the reference's digits reads as, whatever it is. -/
def readDigs (w : World) (v : Value) : Nat := match v with
  | .slice (some a) n _ => val 4294967296 ((List.range n).map fun i => match w.cell? (a.add i) with | some (.int _ z) => z.toNat | _ => 0)
  | _ => 0
theorem RN.readD {w : World} {P : Nat → Prop} {A : Option Addr} {c x : Nat} (h : RN w P A c (digs 4294967296 x)) : readDigs w (.slice A (digs 4294967296 x).length c) = x := by
  have hx := val_digs (B := 4294967296) (by omega) x
  rcases Nat.eq_zero_or_pos (digs 4294967296 x).length with h0 | h0
  · have hn := List.eq_nil_of_length_eq_zero h0
    rw [hn] at hx ⊢
    cases A <;> simp [readDigs] <;> simpa using hx
  · obtain ⟨ad, rfl, _, _⟩ := h.at_ h0
    simp only [readDigs]
    refine Eq.trans (congrArg _ ?_) hx
    apply List.ext_getElem?
    intro i
    rw [List.getElem?_map]
    by_cases hi : i < (digs 4294967296 x).length
    · rw [List.getElem?_range hi, List.getElem?_eq_getElem hi, Option.map_some, h.cells i hi, getD_eq hi]
      simp
    · rw [List.getElem?_eq_none (by simp; omega), List.getElem?_eq_none (by omega)]
      rfl
theorem cmpV_zero {x y : Nat} (h : cmpV x y = 0) : x = y := by rcases cmpV_cases x y with h1 | h1 | h1 <;> omega
theorem dig32_len {v M k : Nat} (h : v ≤ M) (hM : (digs 4294967296 M).length ≤ k) : (digs 4294967296 v).length ≤ k := Nat.le_trans (digs_length_mono (by omega) h) hM
theorem dig32_mul {x y j k : Nat} (hx : (digs 4294967296 x).length ≤ j) (hy : (digs 4294967296 y).length ≤ k) : (digs 4294967296 (x * y)).length ≤ j + k := by
  have h1 := lt_pow_digs (B := 4294967296) (by omega) x
  have h2 := lt_pow_digs (B := 4294967296) (by omega) y
  have h3 : 4294967296 ^ (digs 4294967296 x).length ≤ 4294967296 ^ j := Nat.pow_le_pow_right (by omega) hx
  have h4 : 4294967296 ^ (digs 4294967296 y).length ≤ 4294967296 ^ k := Nat.pow_le_pow_right (by omega) hy
  refine digs_length_of_lt (by omega) ?_
  rw [Nat.pow_add]
  exact Nat.mul_lt_mul'' (by omega) (by omega)
theorem dig32_add {x y M k : Nat} (hx : x ≤ M) (hy : y ≤ M) (hM : (digs 4294967296 M).length ≤ k) : (digs 4294967296 (x + y)).length ≤ k + 1 := by
  have h1 := lt_pow_digs (B := 4294967296) (by omega) M
  have h2 : 4294967296 ^ (digs 4294967296 M).length ≤ 4294967296 ^ k := Nat.pow_le_pow_right (by omega) hM
  refine digs_length_of_lt (by omega) ?_
  rw [Nat.pow_succ]
  omega

set_option maxRecDepth 100000 in
set_option maxHeartbeats 1000000 in
theorem refMod_any (A A' : Option Addr) (c c' x y : Nat) (w : World) (h : RU w A c (digs 4294967296 x)) (h' : RU w A' c' (digs 4294967296 y)) (hl : (digs 4294967296 x).length < 90000) (h0 : 0 < y) :
    Calls Tryz.prog 88 #[.slice A (digs 4294967296 x).length c, .slice A' (digs 4294967296 y).length c'] w fun e w' => ∃ A1 c1, e = .returned (.slice A1 (digs 4294967296 (x % y)).length c1) ∧ RU w' A1 c1 (digs 4294967296 (x % y)) ∧ Below w.heap.size w w' := by
  have hq := Lib.hid (refQuo_any _ _ A A' c c' x y w h h' (fun _ hb => hb) (fun _ hb => hb) hl h0)
  go_enter Tryz.func88, Tryz.ntmps88
  go_wp2_with fail
  refine hq.out.mono ?_
  rintro e w1 ⟨A1, c1, A2, c2, rfl, hO, hR, hB⟩
  go_wp2
  go_ret
  exact ⟨A2, c2, rfl, hR, hB⟩

set_option maxRecDepth 100000 in
set_option maxHeartbeats 1000000 in
theorem refMulMod_any (A A' Am : Option Addr) (c c' cm x y m : Nat) (w : World) (h : RU w A c (digs 4294967296 x)) (h' : RU w A' c' (digs 4294967296 y)) (hm : RU w Am cm (digs 4294967296 m)) (hl : (digs 4294967296 x).length < 40000) (hl' : (digs 4294967296 y).length < 40000) (h0 : 0 < m) :
    Calls Tryz.prog 103 #[.slice A (digs 4294967296 x).length c, .slice A' (digs 4294967296 y).length c', .slice Am (digs 4294967296 m).length cm] w fun e w' => ∃ A1 c1, e = .returned (.slice A1 (digs 4294967296 (x * y % m)).length c1) ∧ RU w' A1 c1 (digs 4294967296 (x * y % m)) ∧ Below w.heap.size w w' := by
  have hq := Lib.hid (refMul_any _ _ A A' c c' x y w h h' (fun _ hb => hb) (fun _ hb => hb) (by omega) (by omega))
  go_enter Tryz.func103, Tryz.ntmps103
  go_wp2_with fail
  refine hq.out.mono ?_
  rintro e w1 ⟨A1, c1, rfl, hO, hB⟩
  have hr := Lib.hid (refMod_any A1 Am c1 cm (x * y) m w1 hO.ru (hm.up hB) (by have := dig32_mul (Nat.le_refl (digs 4294967296 x).length) (Nat.le_refl (digs 4294967296 y).length); omega) h0)
  go_wp2_with fail
  refine hr.out.mono ?_
  rintro e w2 ⟨A2, c2, rfl, hR, hB2⟩
  go_wp2
  go_ret
  exact ⟨A2, c2, rfl, hR, hB.trans (hB2.mono hB.size)⟩
end Go.Proofs.YtldhmjfjbalakaaGreat
