/- modarith: Inverse. -/
import Derived.Test.YtnniellajmjmnaaArith
import Derived.Test.YtnniellajmjmnaaAdd
namespace Go.Proofs.Ytnniellajmjmnaa
open Go.RowKit

/-- The loop's numbers, to its end. -/
def invLoop (m r s t u : Nat) : Nat × Nat := if _h : s = 0 then (r, t) else invLoop m s (r % s) u ((t + m - r / s * u % m) % m)
termination_by s
decreasing_by exact Nat.mod_lt _ (by omega)
theorem invLoop_zero (m r t u : Nat) : invLoop m r 0 t u = (r, t) := by rw [invLoop]; simp
theorem invLoop_step {m r s t u : Nat} (h : s ≠ 0) : invLoop m r s t u = invLoop m s (r % s) u ((t + m - r / s * u % m) % m) := by rw [invLoop]; simp [h]
def invAns (x m : Nat) : List Nat × Bool := if (invLoop m m (x % m) 0 1).1 = 1 then (digs 18446744073709551616 (invLoop m m (x % m) 0 1).2, true) else ([], false)
theorem dig_len {v M k : Nat} (h : v ≤ M) (hM : (digs 18446744073709551616 M).length ≤ k) : (digs 18446744073709551616 v).length ≤ k := Nat.le_trans (digs_length_mono (by omega) h) hM
theorem dig_mul {x y M k : Nat} (hx : x ≤ M) (hy : y ≤ M) (hM : (digs 18446744073709551616 M).length ≤ k) : (digs 18446744073709551616 (x * y)).length ≤ k + k := by
  have h1 := lt_pow_digs (B := 18446744073709551616) (by omega) M
  have h2 : 18446744073709551616 ^ (digs 18446744073709551616 M).length ≤ 18446744073709551616 ^ k := Nat.pow_le_pow_right (by omega) hM
  refine digs_length_of_lt (by omega) ?_
  rw [Nat.pow_add]
  have h3 : x * y ≤ M * M := Nat.mul_le_mul hx hy
  have h4 : M * M < 18446744073709551616 ^ k * 18446744073709551616 ^ k := Nat.mul_lt_mul'' (by omega) (by omega)
  omega
theorem dig_add {x y M k : Nat} (hx : x ≤ M) (hy : y ≤ M) (hM : (digs 18446744073709551616 M).length ≤ k) : (digs 18446744073709551616 (x + y)).length ≤ k + 1 := by
  have h1 := lt_pow_digs (B := 18446744073709551616) (by omega) M
  have h2 : 18446744073709551616 ^ (digs 18446744073709551616 M).length ≤ 18446744073709551616 ^ k := Nat.pow_le_pow_right (by omega) hM
  refine digs_length_of_lt (by omega) ?_
  rw [Nat.pow_succ]
  omega
theorem RNN.two {w : World} {P P' : Nat → Prop} {A A' : Option Addr} {c c' : Nat} {a b : List Nat} (h : RN w P A c a) (h' : RN w P' A' c' b) (hP : ∀ b, P b → b < w.heap.size) (hP' : ∀ b, P' b → b < w.heap.size) :
    RNN (w.alloc (.cells #[.slice A a.length c, .slice A' b.length c'] 23)) (fun _ => True) (some ⟨w.heap.size, 0, none⟩) 2 [a, b] [.slice A a.length c, .slice A' b.length c'] := by
  have hB : Below w.heap.size w (w.alloc (.cells #[.slice A a.length c, .slice A' b.length c'] 23)) := (Below.refl _ w).alloc (Nat.le_refl _) _
  refine ⟨RS.fresh (w := w) (P := fun _ => True) #[.slice A a.length c, .slice A' b.length c'] 23 1 2 rfl (by unfold maxLen; omega) trivial, by simp, fun j l hl => ?_⟩
  match j, hl with
  | 0, hl => simp at hl; subst hl; exact ⟨A, c, rfl, (h.below hB hP).mono fun _ _ => trivial⟩
  | 1, hl => simp at hl; subst hl; exact ⟨A', c', rfl, (h'.below hB hP').mono fun _ _ => trivial⟩
  | j + 2, hl => simp at hl

set_option maxRecDepth 100000 in
set_option maxHeartbeats 1000000 in
theorem inverse_small (_P P' : Nat → Prop) (A A' : Option Addr) (c c' : Nat) (a b : List Nat) (w : World) (h' : RN w P' A' c' b) (hM : val 18446744073709551616 b < 2) :
    Calls Try.prog 44 #[.slice A a.length c, .slice A' b.length c'] w fun e w' => e = .returned (.tuple #[.slice none 0 0, .bool false]) ∧ w = w' := by
  have hb := bits_any P' A' c' b w h'
  have hn : nbits (val 18446744073709551616 b) ≤ 1 := nbits_le (by omega)
  generalize nbits (val 18446744073709551616 b) = nb at *
  have t1 : decide ((nb : Int) < 2) = true := decide_eq_true (by omega)
  have Hb := Lib.hid hb
  clear hb h' hM
  go_enter Try.func44, Try.ntmps44
  go_wp2_with fail
  refine Hb.out.mono ?_
  rintro e w' ⟨rfl, rfl⟩
  go_wp2
  go_ret2
  exact ⟨rfl, rfl⟩

set_option maxRecDepth 100000 in
set_option maxHeartbeats 2000000 in
theorem inverse_yes (P P' : Nat → Prop) (A A' : Option Addr) (c c' : Nat) (a b : List Nat) (X M : Nat) (w : World) (h : RN w P A c a) (h' : RN w P' A' c' b) (hP : ∀ b, P b → b < w.heap.size) (hP' : ∀ b, P' b → b < w.heap.size) (hX : val 18446744073709551616 a = X) (hM : val 18446744073709551616 b = M) (hM2 : 2 ≤ M)
    (hla : a.length < 40000) (hlb : b.length < 40000) (hmay : nbits X ≤ 4096 ∧ nbits M ≤ 4096) :
    Calls Try.prog 44 #[.slice A a.length c, .slice A' b.length c'] w fun e w' => ∃ A1 c1, e = .returned (.tuple #[.slice A1 (invAns X M).1.length c1, .bool (invAns X M).2]) ∧ OB w' w.heap.size A1 c1 (invAns X M).1 ∧ Below w.heap.size w w' := by
  have hb := bits_any P' A' c' b w h'
  have hlM : (digs 18446744073709551616 M).length ≤ 40000 := by have := digs_length_le (B := 18446744073709551616) (by omega) h'.2.1; rw [hM] at this; omega
  have hnb : 2 ≤ nbits M := by
    rcases Nat.lt_or_ge (nbits M) 2 with h0 | h0
    · have := lt_of_nbits (x := M) (k := 1) (by omega); omega
    · exact h0
  rw [hM] at hb
  have t1 : decide ((nbits M : Int) < 2) = false := decide_eq_false (by omega)
  have hmy := may_any _ _ _ _ _ _ (RNN.two h h' hP hP')
  rw [show (([a, b] : List (List Nat)).all fun l => decide (nbits (val 18446744073709551616 l) ≤ 4096)) = true by simp [hX, hM, hmay.1, hmay.2]] at hmy
  simp only [List.length_cons, List.length_nil, Nat.zero_add, Nat.reduceAdd] at hmy
  have hB0 : Below w.heap.size w (w.alloc (.cells #[.slice A a.length c, .slice A' b.length c'] 23)) := (Below.refl _ w).alloc (Nat.le_refl _) _
  have hz0 : (w.alloc (.cells #[.slice A a.length c, .slice A' b.length c'] 23)).heap.size = w.heap.size + 1 := by simp
  have Hb := Lib.hid hb
  have Hmy := Lib.hid hmy
  clear hb hmy hmay hnb
  go_enter Try.func44, Try.ntmps44
  go_wp2_with fail
  refine Hb.out.mono ?_
  rintro e w' ⟨rfl, rfl⟩
  go_wp2_with fail
  refine Hmy.out.mono ?_
  rintro e w' ⟨rfl, rfl⟩
  generalize w.alloc (.cells #[.slice A a.length c, .slice A' b.length c'] 23) = W0 at *
  have hn1 := norm_any P' A' c' b W0 (h'.below hB0 hP')
  rw [hM] at hn1
  have Hn1 := Lib.hid hn1
  clear hn1
  go_wp2_with fail
  refine Hn1.out.mono ?_
  rintro e w1 ⟨A1, c1, rfl, hO1, hB1⟩
  have hB01 := hB0.trans (hB1.mono (by omega))
  have hr1 := rest_any P P' A A' c c' a b w1 (h.below hB01 hP) (h'.below hB01 hP') (fun b hb => by have := hP b hb; have := hB01.size; omega) (fun b hb => by have := hP' b hb; have := hB01.size; omega) (by omega) (by omega) (by omega)
  rw [hX, hM] at hr1
  have Hr1 := Lib.hid hr1
  clear hr1
  go_wp2_with fail
  refine Hr1.out.mono ?_
  rintro e w2 ⟨A2, c2, rfl, hO2, hB2⟩
  have hB02 := hB01.trans (hB2.mono hB01.size)
  have hof := Lib.hid (of_any 1 w2 (by omega))
  go_wp2_with fail
  refine hof.out.mono ?_
  rintro e w3 ⟨A3, c3, rfl, hO3, hB3⟩
  have hB03 := hB02.trans (hB3.mono hB02.size)
  have hz1 := hB01.size
  have hz2 := hB02.size
  have hz3 := hB03.size
  have zA : OB w3 w.heap.size A1 c1 (digs 18446744073709551616 M) := ((hO1.below hB2 (Nat.le_refl _)).below hB3 (Nat.le_refl _)).mono (by omega)
  have zB : OB w3 w.heap.size A2 c2 (digs 18446744073709551616 (X % M)) := (hO2.below hB3 (Nat.le_refl _)).mono (by omega)
  have zC : OB w3 w.heap.size A3 c3 (digs 18446744073709551616 1) := hO3.mono (by omega)
  have hXm := Nat.mod_lt X (show 0 < M by omega)
  clear hO1 hO2 hO3 hB0 hB1 hB2 hB3 hB01 hB02 Hn1 Hr1 hof h
  go_wp2_with fail
  go_loopw [6, 7, 8, 9] (fun rv sv tv uv wr => ∃ (A1 A2 A3 A4 : Option Addr) (c1 c2 c3 c4 r s t u : Nat), rv = .slice A1 (digs 18446744073709551616 r).length c1 ∧ sv = .slice A2 (digs 18446744073709551616 s).length c2 ∧ tv = .slice A3 (digs 18446744073709551616 t).length c3 ∧ uv = .slice A4 (digs 18446744073709551616 u).length c4 ∧
      OB wr w.heap.size A1 c1 (digs 18446744073709551616 r) ∧ OB wr w.heap.size A2 c2 (digs 18446744073709551616 s) ∧ OB wr w.heap.size A3 c3 (digs 18446744073709551616 t) ∧ OB wr w.heap.size A4 c4 (digs 18446744073709551616 u) ∧ r ≤ M ∧ s ≤ M ∧ t ≤ M ∧ u ≤ M ∧ Hid (invLoop M r s t u = invLoop M M (X % M) 0 1) ∧ Below w.heap.size w wr)
    (fun _ sv _ _ wr => readLimbs wr sv)
  case atStart => exact ⟨A1, A2, none, A3, c1, c2, 0, c3, M, X % M, 0, 1, rfl, rfl, by rw [digs_zero]; rfl, rfl, zA, zB, by rw [digs_zero]; exact OB.nil_ _ _, zC, by omega, by omega, by omega, by omega, Lib.hid rfl, hB03⟩
  case round =>
    clear zA zB zC hB03 hXm
    obtain ⟨A1, A2, A3, A4, c1, c2, c3, c4, r, s, t, u, rfl, rfl, rfl, rfl, zA, zB, zC, zD, hr, hs, ht, hu, hI, hB⟩ := hrel
    have zw := hB.size
    by_cases h0 : s = 0
    · subst h0
      have hI' := hI.out
      rw [invLoop_zero] at hI'
      have hbr := Lib.hid (bits_any _ A1 c1 _ wr zA.rn)
      rw [val_digs (by omega)] at hbr
      rw [digs_zero] at *
      have hlr : (r : Nat) = 1 ↔ nbits r = 1 := by
        constructor
        · rintro rfl; decide
        · intro h
          have h1 := lt_of_nbits (x := r) (k := 1) (by omega)
          rcases Nat.eq_zero_or_pos r with h2 | h2
          · subst h2; rw [nbits_zero] at h; omega
          · omega
      by_cases h1 : r = 1
      · have hn1 : nbits r = 1 := hlr.1 h1
        have hans : invAns X M = (digs 18446744073709551616 t, true) := by rw [invAns, ← hI', if_pos h1]
        rw [hn1] at hbr
        have Hans := Lib.hid hans
        clear hans hI hI' hlr h1 hn1
        go_wp2_with fail
        refine hbr.out.mono ?_
        rintro e w' ⟨rfl, rfl⟩
        go_wp2
        go_ret2
        exact ⟨A3, c3, by rw [Hans.out]; rfl, by rw [Hans.out]; exact zC, hB⟩
      · have hn1 : ((nbits r : Nat) : Int) ≠ 1 := fun e => h1 (hlr.2 (by omega))
        have hans : invAns X M = ([], false) := by rw [invAns, ← hI', if_neg h1]
        have t2 : (((nbits r : Nat) : Int) != 1) = true := by simpa using hn1
        have Hans := Lib.hid hans
        clear hans hI hI' hlr h1 hn1
        go_wp2_with fail
        refine hbr.out.mono ?_
        rintro e w' ⟨rfl, rfl⟩
        go_wp2
        go_ret2
        exact ⟨none, 0, by rw [Hans.out]; rfl, by rw [Hans.out]; exact OB.nil_ _ _, hB⟩
    · have kp : (0 : Int) < ((digs 18446744073709551616 s).length : Int) := by
        have : 0 < (digs 18446744073709551616 s).length := by rw [digs_pos (by omega) (by omega)]; simp
        omega
      have zm := h'.below hB hP'
      have ltm : ∀ X : World, Below w.heap.size w X → ∀ b, P' b → b < X.heap.size := fun X hX b hb => by have := hP' b hb; have := hX.size; omega
      have vd := fun v => val_digs (B := 18446744073709551616) (by omega) v
      have hq1 := quo_any _ _ A1 A2 c1 c2 _ _ wr zA.rn zB.rn (fun b hb => hb.2) (fun b hb => hb.2) (by have := dig_len hr hlM; omega) (by have := dig_len hs hlM; omega) (by rw [vd]; omega)
      rw [vd, vd] at hq1
      have hqM : r / s ≤ M := Nat.le_trans (Nat.div_le_self _ _) hr
      have hlM2 : r % s ≤ M := Nat.le_trans (Nat.mod_le _ _) hr
      have Hq1 := Lib.hid hq1
      have hrd := zB.rn.read
      rw [vd] at hrd
      have Hrd := Lib.hid hrd
      have hmod := Nat.mod_lt r (show 0 < s by omega)
      have hstep := Lib.hid (show invLoop M s (r % s) u ((t + M - r / s * u % M) % M) = invLoop M M (X % M) 0 1 by rw [← hI.out, invLoop_step h0])
      clear hq1 hrd hI
      go_wp2_with fail
      refine Hq1.out.mono ?_
      rintro e w4 ⟨A5, c5, A6, c6, rfl, y5, y6, hB4⟩
      have s4 := hB4.size
      have zD4 := zD.below hB4 (Nat.le_refl _)
      have hm1 := mul_any _ _ A5 A4 c5 c4 _ _ w4 y5.rn zD4.rn (fun b hb => hb.2) (fun b hb => hb.2) (by have := dig_len hqM hlM; omega) (by have := dig_len hu hlM; omega)
      rw [vd, vd] at hm1
      have Hm1 := Lib.hid hm1
      clear hm1
      go_wp2_with fail
      refine Hm1.out.mono ?_
      rintro e w5 ⟨A7, c7, rfl, y7, hB5⟩
      have hB45 := hB4.trans (hB5.mono s4)
      have hBw5 := hB.trans (hB45.mono zw)
      have hr5 := rest_any _ P' A7 A' c7 c' _ b w5 y7.rn (h'.below hBw5 hP') (fun b hb => hb.2) (ltm w5 hBw5) (by have := dig_mul hqM hu hlM; omega) (by omega) (by omega)
      rw [vd, hM] at hr5
      have hlessM := Nat.mod_lt (r / s * u) (show 0 < M by omega)
      generalize r / s * u % M = less at *
      have Hr5 := Lib.hid hr5
      clear hr5
      go_wp2_with fail
      refine Hr5.out.mono ?_
      rintro e w6 ⟨A8, c8, rfl, y8, hB6⟩
      have hBw6 := hBw5.trans (hB6.mono (by have := hBw5.size; omega))
      have hB46 := hB45.trans (hB6.mono (by have := hB45.size; omega))
      have zC6 := zC.below hB46 (Nat.le_refl _)
      have ha6 := add_any _ P' A3 A' c3 c' _ b w6 zC6.rn (h'.below hBw6 hP') (fun b hb => hb.2) (ltm w6 hBw6) (by have := dig_len ht hlM; omega) (by omega)
      rw [vd, hM] at ha6
      have Ha6 := Lib.hid ha6
      clear ha6
      go_wp2_with fail
      refine Ha6.out.mono ?_
      rintro e w7 ⟨A9, c9, rfl, y9, hB7⟩
      have y8' := y8.below hB7 (Nat.le_refl _)
      have hs7 := sub_yes _ _ A9 A8 c9 c8 _ _ w7 y9.rn y8'.rn (fun b hb => hb.2) (fun b hb => hb.2) (by have := dig_add ht (Nat.le_refl M) hlM; omega) (by rw [vd, vd]; omega)
      rw [vd, vd] at hs7
      have hdif : t + M - less ≤ M + M := by omega
      have hlast := dig_add (Nat.le_refl M) (Nat.le_refl M) hlM
      have hld := dig_len hdif hlast
      generalize t + M - less = dif at *
      have Hs7 := Lib.hid hs7
      clear hs7
      have hBw7 := hBw6.trans (hB7.mono hBw6.size)
      go_wp2_with fail
      refine Hs7.out.mono ?_
      rintro e w8 ⟨A10, c10, rfl, y10, hB8⟩
      have hBw8 := hBw7.trans (hB8.mono hBw7.size)
      have hr8 := rest_any _ P' A10 A' c10 c' _ b w8 y10.rn (h'.below hBw8 hP') (fun b hb => hb.2) (ltm w8 hBw8) (by omega) (by omega) (by omega)
      rw [vd, hM] at hr8
      have hdm := Nat.mod_lt dif (show 0 < M by omega)
      have Hr8 := Lib.hid hr8
      clear hr8
      go_wp2_with fail
      refine Hr8.out.mono ?_
      rintro e w9 ⟨A11, c11, rfl, y11, hB9⟩
      have hB79 := hB8.trans (hB9.mono hB8.size)
      have hB49 : Below wr.heap.size wr w9 := (hB46.trans (hB7.mono hB46.size)).trans (hB79.mono (by have := hB46.size; have := hB7.size; omega))
      have hBw9 := hB.trans (hB49.mono zw)
      have f2 := (zB.below hB49 (Nat.le_refl _))
      have f6 : OB w9 w.heap.size A6 c6 (digs 18446744073709551616 (r % s)) := (y6.below (B := w4.heap.size) (((hB5.trans (hB6.mono hB5.size)).trans (hB7.mono (by have := hB5.size; have := hB6.size; omega))).trans (hB79.mono (by have := hB5.size; have := hB6.size; have := hB7.size; omega))) (Nat.le_refl _)).mono zw
      have f4 := (zD.below hB49 (Nat.le_refl _))
      have f11 := y11.mono (base' := w.heap.size) hBw8.size
      have hrd9 := f6.rn.read
      rw [vd] at hrd9
      have Hrd9 := Lib.hid hrd9
      clear hrd9
      go_wp2
      go_roundw
      case rel => exact ⟨A2, A6, A4, A11, c2, c6, c4, c11, s, r % s, u, dif % M, rfl, rfl, rfl, rfl, f2, f6, f4, f11, hs, hlM2, hu, by omega, hstep, hBw9⟩
      case measure => rw [Hrd.out, Hrd9.out]; exact hmod
end Go.Proofs.Ytnniellajmjmnaa
