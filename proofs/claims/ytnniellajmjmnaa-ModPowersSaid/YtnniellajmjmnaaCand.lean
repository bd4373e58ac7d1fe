/- modarith: Exp modulo an odd number above 1. modarith: candidate. -/
import Derived.Test.YtnniellajmjmnaaInv
import Derived.Test.YtnniellajmjmnaaMExp
import Derived.Test.YtnniellajmjmnaaArith
namespace Go.Proofs.Ytnniellajmjmnaa
open Go.RowKit

theorem RNN.three {w : World} {P P' P'' : Nat → Prop} {A A' A'' : Option Addr} {c c' c'' : Nat} {a b d : List Nat} (h : RN w P A c a) (h' : RN w P' A' c' b) (h'' : RN w P'' A'' c'' d) (hP : ∀ b, P b → b < w.heap.size) (hP' : ∀ b, P' b → b < w.heap.size) (hP'' : ∀ b, P'' b → b < w.heap.size) :
    RNN (w.alloc (.cells #[.slice A a.length c, .slice A' b.length c', .slice A'' d.length c''] 23)) (fun _ => True) (some ⟨w.heap.size, 0, none⟩) 3 [a, b, d] [.slice A a.length c, .slice A' b.length c', .slice A'' d.length c''] := by
  have hB : Below w.heap.size w (w.alloc (.cells #[.slice A a.length c, .slice A' b.length c', .slice A'' d.length c''] 23)) := (Below.refl _ w).alloc (Nat.le_refl _) _
  refine ⟨RS.fresh (w := w) (P := fun _ => True) #[.slice A a.length c, .slice A' b.length c', .slice A'' d.length c''] 23 1 3 rfl (by unfold maxLen; omega) trivial, by simp, fun j l hl => ?_⟩
  match j, hl with
  | 0, hl => simp at hl; subst hl; exact ⟨A, c, rfl, (h.below hB hP).mono fun _ _ => trivial⟩
  | 1, hl => simp at hl; subst hl; exact ⟨A', c', rfl, (h'.below hB hP').mono fun _ _ => trivial⟩
  | 2, hl => simp at hl; subst hl; exact ⟨A'', c'', rfl, (h''.below hB hP'').mono fun _ _ => trivial⟩
  | j + 3, hl => simp at hl
theorem bitOf_odd {M : Nat} (h : M % 2 = 1) : bitOf M 0 = 1 := by simp [bitOf, h]

set_option maxRecDepth 100000 in
set_option maxHeartbeats 4000000 in
theorem exp_odd (P Pe P' : Nat → Prop) (A Ae A' : Option Addr) (c ce c' : Nat) (a e b : List Nat) (X E M : Nat) (w : World) (h : RN w P A c a) (he : RN w Pe Ae ce e) (h' : RN w P' A' c' b) (hP : ∀ b, P b → b < w.heap.size) (hPe : ∀ b, Pe b → b < w.heap.size) (hP' : ∀ b, P' b → b < w.heap.size)
    (hX : val 18446744073709551616 a = X) (hE : val 18446744073709551616 e = E) (hM : val 18446744073709551616 b = M) (hM2 : 1 < M) (hodd : M % 2 = 1) (hla : a.length < 40000) (hlb : b.length < 40000) (hmay : nbits X ≤ 4096 ∧ nbits E ≤ 4096 ∧ nbits M ≤ 4096) :
    Calls Try.prog 52 #[.slice A a.length c, .slice Ae e.length ce, .slice A' b.length c'] w fun e w' => ∃ A1 c1, e = .returned (.tuple #[.slice A1 (digs 18446744073709551616 (X ^ E % M)).length c1, .bool true]) ∧ OB w' w.heap.size A1 c1 (digs 18446744073709551616 (X ^ E % M)) ∧ Below w.heap.size w w' := by
  obtain ⟨s, hs⟩ : ∃ s, w.heap.size = s := ⟨_, rfl⟩
  have m0 := heap_alloc_new w (.cells #[.slice A a.length c] 23)
  have m1 := heap_alloc_new (w.alloc (.cells #[.slice A a.length c] 23)) (.cells #[.slice A' b.length c'] 23)
  replace m0 := (Below.heap_alloc (w.alloc (.cells #[.slice A a.length c] 23)) (.cells #[.slice A' b.length c'] 23) w.heap.size (by simp)).trans m0
  have hB0 : Below w.heap.size w ((w.alloc (.cells #[.slice A a.length c] 23)).alloc (.cells #[.slice A' b.length c'] 23)) := ((Below.refl _ w).alloc (Nat.le_refl _) _).alloc (by simp) _
  have hz0 : ((w.alloc (.cells #[.slice A a.length c] 23)).alloc (.cells #[.slice A' b.length c'] 23)).heap.size = s + 2 := by simp [hs]
  rw [World.size_alloc] at m1
  rw [hs] at m0 m1 hB0 hP hPe hP' ⊢
  have hlM : (digs 18446744073709551616 M).length ≤ 40000 := by have := digs_length_le (B := 18446744073709551616) (by omega) h'.2.1; rw [hM] at this; omega
  have hnb : 2 ≤ nbits M := by
    rcases Nat.lt_or_ge (nbits M) 2 with h0 | h0
    · have := lt_of_nbits (x := M) (k := 1) (by omega); omega
    · exact h0
  have hb1 := bitOf_odd hodd
  have Hb1 := Lib.hid hb1
  have Hodd := Lib.hid hodd
  have hng : ((nbits M : Int) == 0) = false := by simpa using (by omega : ¬ nbits M = 0)
  have hng2 : decide ((1 : Int) < (nbits M : Int)) = true := decide_eq_true (by omega)
  go_enter Try.func52, Try.ntmps52
  go_wp2_with fail
  generalize (w.alloc (.cells #[.slice A a.length c] 23)).alloc (.cells #[.slice A' b.length c'] 23) = W0 at *
  have hbits := fun X (hX : Below s w X) => bits_any P' A' c' b X (h'.below hX hP')
  simp only [hM] at hbits
  have Hbits := Lib.hid hbits
  clear hbits
  have d0 := blk_cell m0 0
  have d1 := blk_cell m1 0
  simp only [List.getElem?_toArray, List.getElem?_cons_zero] at d0 d1
  have hmy := may_any _ _ _ _ _ _ (RNN.three (h.below hB0 hP) (he.below hB0 hPe) (h'.below hB0 hP') (fun b hb => by have := hP b hb; omega) (fun b hb => by have := hPe b hb; omega) (fun b hb => by have := hP' b hb; omega))
  rw [show (([a, e, b] : List (List Nat)).all fun l => decide (nbits (val 18446744073709551616 l) ≤ 4096)) = true by simp [hX, hE, hM, hmay.1, hmay.2.1, hmay.2.2]] at hmy
  simp only [List.length_cons, List.length_nil, Nat.zero_add, Nat.reduceAdd] at hmy
  rw [hz0] at hmy
  have Hmy := Lib.hid hmy
  clear hmy hmay
  refine (Hbits.out W0 hB0).mono ?_
  rintro e' w' ⟨rfl, rfl⟩
  go_wp2_with fail
  refine Hmy.out.mono ?_
  rintro e' w' ⟨rfl, rfl⟩
  have hB1 : Below (s + 2) W0 (W0.alloc (.cells #[.slice A a.length c, .slice Ae e.length ce, .slice A' b.length c'] 23)) := (Below.refl _ W0).alloc (by omega) _
  have e0 := (hB1.cell (p := ⟨s, 0, none⟩) (by show s < s + 2; omega)).trans d0
  have e1 := (hB1.cell (p := ⟨s + 1, 0, none⟩) (by show s + 1 < s + 2; omega)).trans d1
  generalize W0.alloc (.cells #[.slice A a.length c, .slice Ae e.length ce, .slice A' b.length c'] 23) = W1 at *
  have hB01 := hB0.trans (hB1.mono (by omega))
  have hr1 := rest_any P P' A A' c c' a b W1 (h.below hB01 hP) (h'.below hB01 hP') (fun b hb => by have := hP b hb; have := hB01.size; omega) (fun b hb => by have := hP' b hb; have := hB01.size; omega) (by omega) (by omega) (by omega)
  rw [hX, hM] at hr1
  have Hr1 := Lib.hid hr1
  clear hr1
  have zW1 := hB1.size
  go_wp2_with fail
  refine Hr1.out.mono ?_
  rintro e' W2 ⟨A2, c2, rfl, hO2, hB2⟩
  have hB02 := hB01.trans (hB2.mono (by omega))
  have n0 := (hB2.block s (by omega)).trans ((hB1.block s (by omega)).trans m0)
  have n1 := (hB2.block (s + 1) (by omega)).trans ((hB1.block (s + 1) (by omega)).trans m1)
  have f0 := blk_cell n0 0
  have f00 := blk_free n0 0
  have f1 := blk_cell n1 0
  simp only [List.getElem?_toArray, List.getElem?_cons_zero] at f0 f1
  generalize hR : X % M = R at *
  have hRM : R < M := by rw [← hR]; exact Nat.mod_lt _ (by omega)
  have hpow : R ^ E % M = X ^ E % M := by rw [← hR, ← Nat.pow_mod]
  generalize hrl : (digs 18446744073709551616 R).length = rl at *
  have hrlM : rl ≤ (digs 18446744073709551616 M).length := by rw [← hrl]; exact digs_length_mono (by omega) (by omega)
  have hB3 : Below (s + 0) W2 (W2.setCell ⟨s, 0, none⟩ (.slice A2 rl c2)) := (Below.refl _ W2).setCell (p := ⟨s, 0, none⟩) (by show s + 0 ≤ s; omega) _
  have hO3 : OB (W2.setCell ⟨s, 0, none⟩ (.slice A2 rl c2)) W1.heap.size A2 c2 (digs 18446744073709551616 R) := by
    obtain ⟨x1, x2, x3, x4⟩ := hO2
    refine ⟨x1, x2, x3, fun hn => ?_⟩
    obtain ⟨g, cur, e, hg, hh, hc⟩ := x4 hn
    exact ⟨g, cur, e, hg, (Below.heap_setCell _ _ _ _ (show g ≠ s by omega)).trans hh, hc⟩
  have k0 := blk_cell (by simpa using blk_set n0 0 (.slice A2 rl c2)) 0
  have k1 := (World.cell?_setCell_far W2 ⟨s, 0, none⟩ ⟨s + 1, 0, none⟩ (.slice A2 rl c2) (by show s ≠ s + 1; omega)).trans f1
  simp only [List.getElem?_toArray, List.getElem?_cons_zero] at k0
  have hBw3 := hB02.trans hB3
  have zW2 := hB2.size
  have zW3 : (W2.setCell ⟨s, 0, none⟩ (.slice A2 rl c2)).heap.size = W2.heap.size := by simp [World.setCell]
  have hb0 := bit_any P' A' c' b 0 _ (h'.below hBw3 hP') (by omega)
  rw [hM, Hb1.out] at hb0
  have Hb0 := Lib.hid hb0
  have Hrl := Lib.hid hrl
  have Hpow := Lib.hid hpow
  clear hb0 hb1 n0 n1 hB1 hrl hpow hR m0 m1 hO2
  go_wp2_with fail
  generalize W2.setCell ⟨s, 0, none⟩ (.slice A2 rl c2) = W3 at *
  refine Hb0.out.mono ?_
  rintro e' w' ⟨rfl, rfl⟩
  go_wp2_with fail
  refine (Hbits.out W3 hBw3).mono ?_
  rintro e' w' ⟨rfl, rfl⟩
  have ltm : ∀ X : World, Below s w X → ∀ b, P' b → b < X.heap.size := fun X hX b hb => by have := hP' b hb; have := hX.size; omega
  have Hnew := Lib.hid (mnew_any P' A' c' b M W3 (h'.below hBw3 hP') (ltm W3 hBw3) hM hM2 Hodd.out hlb)
  go_wp2_with fail
  refine Hnew.out.mono ?_
  rintro e' W4 ⟨g, inv, Am, Ao, Ar, cm, co, cr, ol, zl, rfl, hg, hZ, hB4⟩
  have hB04 := hBw3.trans (hB4.mono (by omega))
  have hz4 := hB4.size
  have i0 := (hB4.cell (p := ⟨s, 0, none⟩) (by show s < W3.heap.size; omega)).trans k0
  have hO4 := hO3.below hB4 (by omega)
  rw [← Hrl.out] at hrlM
  have hto := mto_any hZ (fun b hb => hb.2) _ _ _ _ hO4.rn (fun b hb => hb.2) hrlM
  rw [val_digs (by omega), Hrl.out] at hto
  have Hto := Lib.hid hto
  have Hnl : Hid ((digs 18446744073709551616 M).length = nl M) := Lib.hid rfl
  clear hto Hnew Hb0 k0 k1 f0 f00 f1 e0 e1 d0 d1 hO3
  go_wp2_with fail
  refine Hto.out.mono ?_
  rintro e' W5 ⟨A5, c5, o5, rfl, hl5, hO5, hv5, hB5⟩
  have hB05 := hB04.trans (hB5.mono (by omega))
  have hg4 := blk_lt hZ.blk
  have hZ5 := hZ.below hB5 (fun b hb => hb.2) hg4
  have hz5 := hB5.size
  have hex := mexp_any hZ5 (fun b hb => by have := hb.2; omega) _ Pe A5 Ae c5 ce o5 e R E hO5.rn (fun b hb => hb.2) hl5 hv5 (he.below hB05 hPe) (fun b hb => by have := hPe b hb; have := hB05.size; omega) hE
  rw [hl5] at hex
  have Hex := Lib.hid hex
  have Hl5 := Lib.hid hl5
  clear hex hl5 Hto
  go_wp2_with fail
  refine Hex.out.mono ?_
  rintro e' W6 ⟨A6, c6, o6, rfl, hl6, hO6, hv6, hB6⟩
  have hB06 := hB05.trans (hB6.mono (by omega))
  have hZ6 := hZ5.below hB6 (fun b hb => by have := hb.2; omega) (by omega)
  have hz6 := hB6.size
  have hfr := mfrom_any hZ6 (fun b hb => by have := hb.2; omega) _ A6 c6 o6 (R ^ E) hO6.rn (fun b hb => hb.2) hl6 hv6
  rw [hl6, Hpow.out] at hfr
  have Hfr := Lib.hid hfr
  clear hfr Hex hl6 hv6
  go_wp2_with fail
  refine Hfr.out.mono ?_
  rintro e' W7 ⟨A7, c7, rfl, hO7, hB7⟩
  have hB07 := hB06.trans (hB7.mono (by omega))
  have hO8 := hO7.mono (base' := s) (by omega)
  clear Hfr
  go_wp2
  go_ret2
  exact ⟨A7, c7, rfl, hO8, hB07⟩
end Go.Proofs.Ytnniellajmjmnaa

namespace Go.Proofs.Ytnniellajmjmnaa
open Go.RowKit

theorem RNN.one {w : World} {P : Nat → Prop} {A : Option Addr} {c : Nat} {a : List Nat} (h : RN w P A c a) (hP : ∀ b, P b → b < w.heap.size) :
    RNN (w.alloc (.cells #[.slice A a.length c] 23)) (fun _ => True) (some ⟨w.heap.size, 0, none⟩) 1 [a] [.slice A a.length c] := by
  have hB : Below w.heap.size w (w.alloc (.cells #[.slice A a.length c] 23)) := (Below.refl _ w).alloc (Nat.le_refl _) _
  refine ⟨RS.fresh (w := w) (P := fun _ => True) #[.slice A a.length c] 23 1 1 rfl (by unfold maxLen; omega) trivial, by simp, fun j l hl => ?_⟩
  match j, hl with
  | 0, hl => simp at hl; subst hl; exact ⟨A, c, rfl, (h.below hB hP).mono fun _ _ => trivial⟩
  | j + 1, hl => simp at hl

/-- May a number be tested? -/
def candIs (N : Nat) : Bool := decide (N % 2 = 1) && decide (1 < N) && decide (nbits N ≤ 4096)
theorem bitOf_zero (N : Nat) : bitOf N 0 = N % 2 := by simp [bitOf]
theorem nbits_two {N : Nat} (h : 1 < N) : 2 ≤ nbits N := by
  rcases Nat.lt_or_ge (nbits N) 2 with h0 | h0
  · have := lt_of_nbits (x := N) (k := 1) (by omega); omega
  · exact h0

set_option maxRecDepth 100000 in
set_option maxHeartbeats 1000000 in
theorem candidate_no (P : Nat → Prop) (A : Option Addr) (c : Nat) (a : List Nat) (N : Nat) (w : World) (h : RN w P A c a) (hP : ∀ b, P b → b < w.heap.size) (hN : val 18446744073709551616 a = N) (hno : N % 2 = 0 ∨ N < 2) :
    Calls Try.prog 80 #[.slice A a.length c] w fun e w' => e = .returned (.tuple #[.bool false, .bool (decide (N = 2))]) ∧ Below w.heap.size w w' := by
  have hb0 := bit_any P A c a 0 w h (by omega)
  have hbs := bits_any P A c a w h
  have hof := of_any 2 w (by omega)
  have hcm := fun A' c' X (hX : Below w.heap.size w X) (hO : OB X w.heap.size A' c' (digs 18446744073709551616 2)) => cmp_any P _ A A' c c' a _ X (h.below hX hP) hO.rn
  rw [hN, bitOf_zero] at hb0
  rw [hN] at hbs
  simp only [hN, val_digs (show 2 ≤ 18446744073709551616 by omega)] at hcm
  have hcv : (cmpV N 2 == 0) = decide (N = 2) := by
    rcases cmpV_cases N 2 with ⟨h1, h2⟩ | ⟨h1, h2⟩ | ⟨h1, h2⟩ <;> rw [h2] <;> simp <;> omega
  have Hb0 := Lib.hid hb0
  have Hbs := Lib.hid hbs
  have Hof := Lib.hid hof
  have Hcm := Lib.hid hcm
  have Hcv := Lib.hid hcv
  have key : Hid (∀ W, W = w → True) := Lib.hid fun _ _ => trivial
  clear hb0 hbs hof hcm hcv key
  generalize hcz : cmpV N 2 = cz at *
  by_cases he : N % 2 = 0
  · have t1 : ((N % 2 : Nat) : Int) = 0 := by omega
    rw [he] at Hb0
    clear hno t1
    go_enter Try.func80, Try.ntmps80
    go_wp2_with fail
    refine Hb0.out.mono ?_
    rintro e w' ⟨rfl, rfl⟩
    go_wp2_with fail
    refine Hof.out.mono ?_
    rintro e w1 ⟨A1, c1, rfl, hO1, hB1⟩
    have Hc1 := Lib.hid (Hcm.out A1 c1 w1 hB1 hO1)
    go_wp2_with fail
    refine Hc1.out.mono ?_
    rintro e w2 ⟨rfl, n, rfl⟩
    go_wp2
    go_ret2
    exact ⟨by rw [Hcv.out]; rfl, hB1.os, hB1.tape, hB1.output, hB1.size, hB1.block⟩
  · have hlt : N < 2 := by omega
    have hn1 : nbits N ≤ 1 := nbits_le (by omega)
    have t2 : N % 2 = 1 := by omega
    have t3 : decide ((nbits N : Int) < 2) = true := decide_eq_true (by omega)
    rw [t2] at Hb0
    clear hno he t2 hlt
    go_enter Try.func80, Try.ntmps80
    go_wp2_with fail
    refine Hb0.out.mono ?_
    rintro e w' ⟨rfl, rfl⟩
    go_wp2_with fail
    refine Hbs.out.mono ?_
    rintro e w' ⟨rfl, rfl⟩
    go_wp2_with fail
    refine Hof.out.mono ?_
    rintro e w1 ⟨A1, c1, rfl, hO1, hB1⟩
    have Hc1 := Lib.hid (Hcm.out A1 c1 w1 hB1 hO1)
    go_wp2_with fail
    refine Hc1.out.mono ?_
    rintro e w2 ⟨rfl, n, rfl⟩
    go_wp2
    go_ret2
    exact ⟨by rw [Hcv.out]; rfl, hB1.os, hB1.tape, hB1.output, hB1.size, hB1.block⟩

set_option maxRecDepth 100000 in
set_option maxHeartbeats 1000000 in
theorem candidate_odd (P : Nat → Prop) (A : Option Addr) (c : Nat) (a : List Nat) (N : Nat) (w : World) (h : RN w P A c a) (hP : ∀ b, P b → b < w.heap.size) (hN : val 18446744073709551616 a = N) (hodd : N % 2 = 1) (hgt : 1 < N) :
    Calls Try.prog 80 #[.slice A a.length c] w fun e w' => e = .returned (.tuple #[.bool (decide (nbits N ≤ 4096)), .bool false]) ∧ Below w.heap.size w w' := by
  have hb0 := bit_any P A c a 0 w h (by omega)
  have hbs := bits_any P A c a w h
  rw [hN, bitOf_zero, hodd] at hb0
  rw [hN] at hbs
  have hmy := may_any _ _ _ _ _ _ (RNN.one h hP)
  rw [show (([a] : List (List Nat)).all fun l => decide (nbits (val 18446744073709551616 l) ≤ 4096)) = decide (nbits N ≤ 4096) by simp [hN]] at hmy
  simp only [List.length_cons, List.length_nil, Nat.zero_add] at hmy
  have hB0 : Below w.heap.size w (w.alloc (.cells #[.slice A a.length c] 23)) := (Below.refl _ w).alloc (Nat.le_refl _) _
  have hnb := nbits_two hgt
  have t3 : decide ((nbits N : Int) < 2) = false := decide_eq_false (by omega)
  have Hb0 := Lib.hid hb0
  have Hbs := Lib.hid hbs
  have Hmy := Lib.hid hmy
  clear hb0 hbs hmy hodd hgt hnb
  go_enter Try.func80, Try.ntmps80
  go_wp2_with fail
  refine Hb0.out.mono ?_
  rintro e w' ⟨rfl, rfl⟩
  go_wp2_with fail
  refine Hbs.out.mono ?_
  rintro e w' ⟨rfl, rfl⟩
  go_wp2_with fail
  refine Hmy.out.mono ?_
  rintro e w' ⟨rfl, rfl⟩
  go_wp2
  go_ret2
  exact ⟨rfl, hB0⟩
end Go.Proofs.Ytnniellajmjmnaa
