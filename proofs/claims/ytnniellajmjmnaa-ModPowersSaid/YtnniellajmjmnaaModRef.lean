/- What baileyref2's Mod, Mul, Gcd and Inverse compute. -/
import Derived.Test.YtnniellajmjmnaaRefQuoAll
import Derived.Test.YtnniellajmjmnaaRefAdd
import Derived.Test.YtnniellajmjmnaaSums
import Derived.Test.YtnniellajmjmnaaInv
namespace Go.Proofs.Ytnniellajmjmnaa
open Go.RowKit

/-- The number that a slice of the reference's digits reads as, whatever it is. -/
def readDigs (w : World) (v : Value) : Nat := match v with
  | .slice (some a) n _ => val 4294967296 ((List.range n).map fun i => match w.cell? (a.add i) with | some (.int _ z) => z.toNat | _ => 0)
  | _ => 0
theorem RN.readD {w : World} {P : Nat → Prop} {A : Option Addr} {c x : Nat} (h : RN w P A c (digs 4294967296 x)) : readDigs w (.slice A (digs 4294967296 x).length c) = x := by
  have hx := val_digs (B := 4294967296) (by omega) x
  rcases Nat.eq_zero_or_pos (digs 4294967296 x).length with h0 | h0
  · have hn := List.eq_nil_of_length_eq_zero h0
    rw [hn] at hx ⊢
    cases A <;> simp [readDigs] <;> simpa using hx
  · obtain ⟨ad, rfl, _, _⟩ := h.at_ h0
    simp only [readDigs]
    refine Eq.trans (congrArg _ ?_) hx
    apply List.ext_getElem?
    intro i
    rw [List.getElem?_map]
    by_cases hi : i < (digs 4294967296 x).length
    · rw [List.getElem?_range hi, List.getElem?_eq_getElem hi, Option.map_some, h.cells i hi, getD_eq hi]
      simp
    · rw [List.getElem?_eq_none (by simp; omega), List.getElem?_eq_none (by omega)]
      rfl
theorem cmpV_zero {x y : Nat} (h : cmpV x y = 0) : x = y := by rcases cmpV_cases x y with h1 | h1 | h1 <;> omega
theorem dig32_len {v M k : Nat} (h : v ≤ M) (hM : (digs 4294967296 M).length ≤ k) : (digs 4294967296 v).length ≤ k := Nat.le_trans (digs_length_mono (by omega) h) hM
theorem dig32_mul {x y j k : Nat} (hx : (digs 4294967296 x).length ≤ j) (hy : (digs 4294967296 y).length ≤ k) : (digs 4294967296 (x * y)).length ≤ j + k := by
  have h1 := lt_pow_digs (B := 4294967296) (by omega) x
  have h2 := lt_pow_digs (B := 4294967296) (by omega) y
  have h3 : 4294967296 ^ (digs 4294967296 x).length ≤ 4294967296 ^ j := Nat.pow_le_pow_right (by omega) hx
  have h4 : 4294967296 ^ (digs 4294967296 y).length ≤ 4294967296 ^ k := Nat.pow_le_pow_right (by omega) hy
  refine digs_length_of_lt (by omega) ?_
  rw [Nat.pow_add]
  exact Nat.mul_lt_mul'' (by omega) (by omega)
theorem dig32_add {x y M k : Nat} (hx : x ≤ M) (hy : y ≤ M) (hM : (digs 4294967296 M).length ≤ k) : (digs 4294967296 (x + y)).length ≤ k + 1 := by
  have h1 := lt_pow_digs (B := 4294967296) (by omega) M
  have h2 : 4294967296 ^ (digs 4294967296 M).length ≤ 4294967296 ^ k := Nat.pow_le_pow_right (by omega) hM
  refine digs_length_of_lt (by omega) ?_
  rw [Nat.pow_succ]
  omega

set_option maxRecDepth 100000 in
set_option maxHeartbeats 1000000 in
theorem refMod_any (A A' : Option Addr) (c c' x y : Nat) (w : World) (h : RU w A c (digs 4294967296 x)) (h' : RU w A' c' (digs 4294967296 y)) (hl : (digs 4294967296 x).length < 90000) (h0 : 0 < y) :
    Calls Try.prog 54 #[.slice A (digs 4294967296 x).length c, .slice A' (digs 4294967296 y).length c'] w fun e w' => ∃ A1 c1, e = .returned (.slice A1 (digs 4294967296 (x % y)).length c1) ∧ RU w' A1 c1 (digs 4294967296 (x % y)) ∧ Below w.heap.size w w' := by
  have hq := Lib.hid (refQuo_any _ _ A A' c c' x y w h h' (fun _ hb => hb) (fun _ hb => hb) hl h0)
  go_enter Try.func54, Try.ntmps54
  go_wp2_with fail
  refine hq.out.mono ?_
  rintro e w1 ⟨A1, c1, A2, c2, rfl, hO, hR, hB⟩
  go_wp2
  go_ret
  exact ⟨A2, c2, rfl, hR, hB⟩

set_option maxRecDepth 100000 in
set_option maxHeartbeats 1000000 in
theorem refMulMod_any (A A' Am : Option Addr) (c c' cm x y m : Nat) (w : World) (h : RU w A c (digs 4294967296 x)) (h' : RU w A' c' (digs 4294967296 y)) (hm : RU w Am cm (digs 4294967296 m)) (hl : (digs 4294967296 x).length < 40000) (hl' : (digs 4294967296 y).length < 40000) (h0 : 0 < m) :
    Calls Try.prog 55 #[.slice A (digs 4294967296 x).length c, .slice A' (digs 4294967296 y).length c', .slice Am (digs 4294967296 m).length cm] w fun e w' => ∃ A1 c1, e = .returned (.slice A1 (digs 4294967296 (x * y % m)).length c1) ∧ RU w' A1 c1 (digs 4294967296 (x * y % m)) ∧ Below w.heap.size w w' := by
  have hq := Lib.hid (refMul_any _ _ A A' c c' x y w h h' (fun _ hb => hb) (fun _ hb => hb) (by omega) (by omega))
  go_enter Try.func55, Try.ntmps55
  go_wp2_with fail
  refine hq.out.mono ?_
  rintro e w1 ⟨A1, c1, rfl, hO, hB⟩
  have hr := Lib.hid (refMod_any A1 Am c1 cm (x * y) m w1 hO.ru (hm.up hB) (by have := dig32_mul (Nat.le_refl (digs 4294967296 x).length) (Nat.le_refl (digs 4294967296 y).length); omega) h0)
  go_wp2_with fail
  refine hr.out.mono ?_
  rintro e w2 ⟨A2, c2, rfl, hR, hB2⟩
  go_wp2
  go_ret
  exact ⟨A2, c2, rfl, hR, hB.trans (hB2.mono hB.size)⟩

set_option maxRecDepth 100000 in
set_option maxHeartbeats 1000000 in
theorem refGcd_any (A A' : Option Addr) (c c' x y : Nat) (w : World) (h : RU w A c (digs 4294967296 x)) (h' : RU w A' c' (digs 4294967296 y)) (hl : (digs 4294967296 x).length < 90000) (hl' : (digs 4294967296 y).length < 90000) :
    Calls Try.prog 43 #[.slice A (digs 4294967296 x).length c, .slice A' (digs 4294967296 y).length c'] w fun e w' => ∃ A1 c1, e = .returned (.slice A1 (digs 4294967296 (Nat.gcd x y)).length c1) ∧ RU w' A1 c1 (digs 4294967296 (Nat.gcd x y)) ∧ Below w.heap.size w w' := by
  go_enter Try.func43, Try.ntmps43
  go_wp2
  go_loopw [0, 1] (fun av bv wr => ∃ (A1 A2 : Option Addr) (c1 c2 u v : Nat), av = .slice A1 (digs 4294967296 u).length c1 ∧ bv = .slice A2 (digs 4294967296 v).length c2 ∧ RU wr A1 c1 (digs 4294967296 u) ∧ RU wr A2 c2 (digs 4294967296 v) ∧ Hid (Nat.gcd u v = Nat.gcd x y) ∧ (digs 4294967296 u).length < 90000 ∧ (digs 4294967296 v).length < 90000 ∧ Below w.heap.size w wr)
    (fun _ bv wr => readDigs wr bv)
  case atStart => exact ⟨A, A', c, c', x, y, rfl, rfl, h, h', Lib.hid rfl, by omega, by omega, Below.refl _ _⟩
  case round =>
    clear h h'
    obtain ⟨A1, A2, c1, c2, u, v, rfl, rfl, hu, hv, hg, hlu, hlv, hB⟩ := hrel
    have hs := hB.size
    by_cases h0 : v = 0
    · subst h0
      rw [digs_zero] at *
      have hg' := hg.out
      rw [Nat.gcd_zero_right] at hg'
      have Hg := Lib.hid hg'
      clear hg hg'
      go_wp2
      go_ret
      exact ⟨A1, c1, by rw [← Hg.out]; rfl, by rw [← Hg.out]; exact hu, hB⟩
    · have hlp : 0 < (digs 4294967296 v).length := by rw [digs_pos (by omega) (by omega)]; simp
      have kp : (0 : Int) < ((digs 4294967296 v).length : Int) := by omega
      have hr := refMod_any A1 A2 c1 c2 u v wr hu hv hlu (by omega)
      have Hr := Lib.hid hr
      have hrd := hv.readD
      have hmod := Nat.mod_lt u (show 0 < v by omega)
      have hlm : (digs 4294967296 (u % v)).length < 90000 := by have := digs_length_mono (B := 4294967296) (by omega) (Nat.le_of_lt hmod); omega
      have Hg2 := Lib.hid (show Nat.gcd v (u % v) = Nat.gcd x y by rw [← hg.out, Nat.gcd_comm u v, Nat.gcd_rec v u, Nat.gcd_comm])
      have Hrd := Lib.hid hrd
      clear hr hrd hg
      go_wp2_with fail
      refine Hr.out.mono ?_
      rintro e w3 ⟨A3, c3, rfl, hO3, hB3⟩
      have Hrd3 := Lib.hid hO3.readD
      have hv3 := hv.up hB3
      have hB03 := hB.trans (hB3.mono hs)
      go_wp2
      go_roundw
      case rel => exact ⟨A2, A3, c2, c3, v, u % v, rfl, rfl, hv3, hO3, Hg2, hlv, hlm, hB03⟩
      case measure => rw [Hrd.out, Hrd3.out]; exact hmod

/-- The inverse, as the reference gives it: the number, and whether there is one. -/
def invNum (x m : Nat) : Nat × Bool := if (invLoop m m (x % m) 0 1).1 = 1 then ((invLoop m m (x % m) 0 1).2, true) else (0, false)
theorem invAns_num (x m : Nat) : invAns x m = (digs 18446744073709551616 (invNum x m).1, (invNum x m).2) := by
  unfold invAns invNum
  split
  · rfl
  · rw [digs_zero]

set_option maxRecDepth 100000 in
set_option maxHeartbeats 2000000 in
theorem refInverse_any (A A' : Option Addr) (c c' X M : Nat) (w : World) (h : RU w A c (digs 4294967296 X)) (h' : RU w A' c' (digs 4294967296 M)) (hl : (digs 4294967296 X).length < 30000) (hlM : (digs 4294967296 M).length ≤ 30000) (hM2 : 2 ≤ M) :
    Calls Try.prog 46 #[.slice A (digs 4294967296 X).length c, .slice A' (digs 4294967296 M).length c'] w fun e w' => ∃ A1 c1, e = .returned (.tuple #[.slice A1 (digs 4294967296 (invNum X M).1).length c1, .bool (invNum X M).2]) ∧ RU w' A1 c1 (digs 4294967296 (invNum X M).1) ∧ Below w.heap.size w w' := by
  have hm := Lib.hid (refMod_any A A' c c' X M w h h' (by omega) (by omega))
  have Hl := Lib.hid hlM
  go_enter Try.func46, Try.ntmps46
  go_wp2_with fail
  refine hm.out.mono ?_
  rintro e w1 ⟨A1, c1, rfl, hR1, hB1⟩
  have hof := Lib.hid (refOf_any 1 w1 (by omega))
  go_wp2_with fail
  refine hof.out.mono ?_
  rintro e w2 ⟨A2, c2, rfl, hO2, hB2⟩
  have hB02 := hB1.trans (hB2.mono hB1.size)
  have zA := h'.up hB02
  have zB := hR1.up hB2
  have zD := hO2.ru
  have hXm := Nat.mod_lt X (show 0 < M by omega)
  clear hR1 hO2 hB1 hB2 hof hm h
  go_wp2
  go_loopw [6, 7, 8, 9] (fun rv sv tv uv wr => ∃ (A1 A2 A3 A4 : Option Addr) (c1 c2 c3 c4 r s t u : Nat), rv = .slice A1 (digs 4294967296 r).length c1 ∧ sv = .slice A2 (digs 4294967296 s).length c2 ∧ tv = .slice A3 (digs 4294967296 t).length c3 ∧ uv = .slice A4 (digs 4294967296 u).length c4 ∧
      RU wr A1 c1 (digs 4294967296 r) ∧ RU wr A2 c2 (digs 4294967296 s) ∧ RU wr A3 c3 (digs 4294967296 t) ∧ RU wr A4 c4 (digs 4294967296 u) ∧ r ≤ M ∧ s ≤ M ∧ t ≤ M ∧ u ≤ M ∧ Hid (invLoop M r s t u = invLoop M M (X % M) 0 1) ∧ Below w.heap.size w wr)
    (fun _ sv _ _ wr => readDigs wr sv)
  case atStart => exact ⟨A', A1, none, A2, c', c1, 0, c2, M, X % M, 0, 1, rfl, rfl, by rw [digs_zero]; rfl, rfl, zA, zB, by rw [digs_zero]; exact (OB.nil_ w2 0).ru, zD, by omega, by omega, by omega, by omega, Lib.hid rfl, hB02⟩
  case round =>
    clear zA zB zD hB02 hXm
    obtain ⟨A1, A2, A3, A4, c1, c2, c3, c4, r, s, t, u, rfl, rfl, rfl, rfl, zA, zB, zC, zD, hr, hs, ht, hu, hI, hB⟩ := hrel
    have zw := hB.size
    have zM := h'.up hB
    by_cases h0 : s = 0
    · subst h0
      have hI' := hI.out
      rw [invLoop_zero] at hI'
      rw [digs_zero] at *
      have hof := Lib.hid (refOf_any 1 wr (by omega))
      have hcm := Lib.hid fun W (hW : Below wr.heap.size wr W) (A5 : Option Addr) (c5 : Nat) (h5 : RU W A5 c5 (digs 4294967296 1)) => refCmp_any _ _ A1 A5 c1 c5 r 1 W (zA.up hW) h5
      by_cases h1 : r = 1
      · have hans : invNum X M = (t, true) := by rw [invNum, ← hI', if_pos h1]
        have hc1 : cmpV r 1 = 0 := by rw [h1]; decide
        rw [hc1] at hcm
        have Hans := Lib.hid hans
        clear hans hI hI' h1 hc1
        go_wp2_with fail
        refine hof.out.mono ?_
        rintro e w' ⟨A5, c5, rfl, hO5, hB5⟩
        have Hcm := Lib.hid (hcm.out w' hB5 A5 c5 hO5.ru)
        go_wp2_with fail
        refine Hcm.out.mono ?_
        rintro e w' ⟨rfl, nd, rfl⟩
        have hf := (zC.up hB5).ud nd
        have hBf := below_drewN (hB.trans (hB5.mono zw)) nd
        clear hcm Hcm hof
        go_wp2
        go_ret2
        exact ⟨A3, c3, by rw [Hans.out]; rfl, by rw [Hans.out]; exact hf, hBf⟩
      · have hans : invNum X M = (0, false) := by rw [invNum, ← hI', if_neg h1]
        have hc1 : cmpV r 1 ≠ 0 := fun e => h1 (cmpV_zero e)
        generalize cmpV r 1 = cv at *
        have t2 : (cv != 0) = true := by simpa using hc1
        have Hans := Lib.hid hans
        clear hans hI hI' h1
        go_wp2_with fail
        refine hof.out.mono ?_
        rintro e w' ⟨A5, c5, rfl, hO5, hB5⟩
        have Hcm := Lib.hid (hcm.out w' hB5 A5 c5 hO5.ru)
        go_wp2_with fail
        refine Hcm.out.mono ?_
        rintro e w' ⟨rfl, nd, rfl⟩
        have hBf := below_drewN (hB.trans (hB5.mono zw)) nd
        clear hcm Hcm hof
        go_wp2
        go_ret2
        exact ⟨none, 0, by rw [Hans.out, digs_zero]; rfl, by rw [Hans.out, digs_zero]; exact (OB.nil_ _ 0).ru, hBf⟩
    · have kp : (0 : Int) < ((digs 4294967296 s).length : Int) := by
        have : 0 < (digs 4294967296 s).length := by rw [digs_pos (by omega) (by omega)]; simp
        omega
      have hlM := Hl.out
      have hq1 := refQuo_any _ _ A1 A2 c1 c2 r s wr zA zB (fun b hb => hb) (fun b hb => hb) (by have := dig32_len hr hlM; omega) (by omega)
      have hqM : r / s ≤ M := Nat.le_trans (Nat.div_le_self _ _) hr
      have hlM2 : r % s ≤ M := Nat.le_trans (Nat.mod_le _ _) hr
      have Hq1 := Lib.hid hq1
      have Hrd := Lib.hid zB.readD
      have hmod := Nat.mod_lt r (show 0 < s by omega)
      have hstep := Lib.hid (show invLoop M s (r % s) u ((t + M - r / s * u % M) % M) = invLoop M M (X % M) 0 1 by rw [← hI.out, invLoop_step h0])
      clear hq1 hI
      go_wp2_with fail
      refine Hq1.out.mono ?_
      rintro e w4 ⟨A5, c5, A6, c6, rfl, y5, y6, hB4⟩
      have s4 := hB4.size
      have Hm1 := Lib.hid (refMul_any _ _ A5 A4 c5 c4 (r / s) u w4 y5.ru (zD.up hB4) (fun b hb => hb) (fun b hb => hb) (by have := dig32_len hqM hlM; omega) (by have := dig32_len hu hlM; omega))
      go_wp2_with fail
      refine Hm1.out.mono ?_
      rintro e w5 ⟨A7, c7, rfl, y7, hB5⟩
      have hB45 := hB4.trans (hB5.mono s4)
      have hr5 := refMod_any A7 A' c7 c' (r / s * u) M w5 y7.ru (zM.up hB45) (by have := dig32_mul (dig32_len hqM hlM) (dig32_len hu hlM); omega) (by omega)
      have hlessM := Nat.mod_lt (r / s * u) (show 0 < M by omega)
      generalize r / s * u % M = less at *
      have Hr5 := Lib.hid hr5
      clear hr5
      go_wp2_with fail
      refine Hr5.out.mono ?_
      rintro e w6 ⟨A8, c8, rfl, y8, hB6⟩
      have hB46 := hB45.trans (hB6.mono (by have := hB45.size; omega))
      have Ha6 := Lib.hid (refAdd_any _ _ A3 A' c3 c' t M w6 (zC.up hB46) (zM.up hB46) (fun b hb => hb) (fun b hb => hb) (by have := dig32_len ht hlM; omega) (by omega))
      go_wp2_with fail
      refine Ha6.out.mono ?_
      rintro e w7 ⟨A9, c9, rfl, y9, hB7⟩
      have hB47 := hB46.trans (hB7.mono hB46.size)
      have hs7 := refSub_any _ _ A9 A8 c9 c8 (t + M) less w7 y9.ru (y8.up hB7) (fun b hb => hb) (fun b hb => hb) (by have := dig32_add ht (Nat.le_refl M) hlM; omega) (by omega)
      have hdif : t + M - less ≤ M + M := by omega
      have hlast := dig32_add (Nat.le_refl M) (Nat.le_refl M) hlM
      have hld := dig32_len hdif hlast
      generalize t + M - less = dif at *
      have Hs7 := Lib.hid hs7
      clear hs7
      go_wp2_with fail
      refine Hs7.out.mono ?_
      rintro e w8 ⟨A10, c10, rfl, y10, hB8⟩
      have hB48 := hB47.trans (hB8.mono hB47.size)
      have Hr8 := Lib.hid (refMod_any A10 A' c10 c' dif M w8 y10.ru (zM.up hB48) (by omega) (by omega))
      have hdm := Nat.mod_lt dif (show 0 < M by omega)
      go_wp2_with fail
      refine Hr8.out.mono ?_
      rintro e w9 ⟨A11, c11, rfl, y11, hB9⟩
      have hB49 := hB48.trans (hB9.mono hB48.size)
      have hBw9 := hB.trans (hB49.mono zw)
      have f2 := zB.up hB49
      have hB49' : Below w4.heap.size w4 w9 := (((hB5.trans (hB6.mono hB5.size)).trans (hB7.mono (by have := hB5.size; have := hB6.size; omega))).trans (hB8.mono (by have := hB5.size; have := hB6.size; have := hB7.size; omega))).trans (hB9.mono (by have := hB5.size; have := hB6.size; have := hB7.size; have := hB8.size; omega))
      have f6 := RN.up y6 hB49'
      have f4 := zD.up hB49
      have Hrd9 := Lib.hid f6.readD
      clear zA zB zC zD zM y5 y6 y7 y8 y9 y10 hB4 hB5 hB6 hB7 hB8 hB9 hB45 hB46 hB47 hB48 hB49 hB49' hB Hq1 Hm1 Hr5 Ha6 Hs7 Hr8
      go_wp2
      go_roundw
      case rel => exact ⟨A2, A6, A4, A11, c2, c6, c4, c11, s, r % s, u, dif % M, rfl, rfl, rfl, rfl, f2, f6, f4, y11, hs, hlM2, hu, by omega, hstep, hBw9⟩
      case measure => rw [Hrd.out, Hrd9.out]; exact hmod
end Go.Proofs.Ytnniellajmjmnaa
