/- modarith: Exp modulo an even number, or 1: by limb's own numbers. -/
import Derived.Test.YtnniellajmjmnaaCand
import Derived.Stop.RegionWithIn
import Derived.TacticsInMore
import Derived.ControlIn
import Derived.Sort.CutIn
import Derived.Sort.AtCallIn
import Derived.Deep.RegionWith
namespace Go.Proofs.Ytnniellajmjmnaa
open Go.RowKit Go.Shelf

attribute [local go_sem] Oper.semAt_some

/-- A list of limbs abides where another cell is written that holds no limb. -/
theorem OB.putN {w : World} {base q : Nat} {A : Option Addr} {c : Nat} {l : List Nat} {cs : Array Value} (h : OB w base A c l) (hq : w.heap[q]? = some (.cells cs 23 (0, 0))) (v : Value) : OB (w.setCell ⟨q, 0, none⟩ v) base A c l := by
  obtain ⟨h1, h2, h3, h4⟩ := h
  refine ⟨h1, h2, h3, fun hn => ?_⟩
  obtain ⟨g, cur, e, hg, hh, hc⟩ := h4 hn
  refine ⟨g, cur, e, hg, (Below.heap_setCell _ _ _ _ (show g ≠ q from fun e' => ?_)).trans hh, hc⟩
  subst e'
  rw [hh] at hq
  injection hq with hq
  injection hq with h1 h2
  exact absurd h2 (by decide)
/-- A variable of type api.Nat holds v, in memory from block base on. -/
def BoxAt (base q v : Nat) (X : World) : Prop := ∃ A c, X.heap[q]? = some (.cells #[.slice A (digs 18446744073709551616 v).length c] 23 (0, 0)) ∧ OB X base A c (digs 18446744073709551616 v)

/-- What a new value in the variable leaves. -/
theorem box_step {r q p : Nat} {w4 Y Y2 : World} {x : Value} {A9 : Option Addr} {c9 v : Nat} (hq : r ≤ q) (hqp : q < p) (hp : p ≤ w4.heap.size) (h5 : Below q w4 Y) (h1 : Y.heap[q]? = some (.cells #[x] 23 (0, 0))) (hB : Below Y.heap.size Y Y2) (hO : OB Y2 Y.heap.size A9 c9 (digs 18446744073709551616 v)) :
    BoxAt r q v (Y2.setCell ⟨q, 0, none⟩ (.slice A9 (digs 18446744073709551616 v).length c9)) ∧ Keeps w4.heap.size (w4.heap.size + 2) 0 Y (Y2.setCell ⟨q, 0, none⟩ (.slice A9 (digs 18446744073709551616 v).length c9)) ∧
    Stay p w4.heap.size Y (Y2.setCell ⟨q, 0, none⟩ (.slice A9 (digs 18446744073709551616 v).length c9)) ∧ Below q w4 (Y2.setCell ⟨q, 0, none⟩ (.slice A9 (digs 18446744073709551616 v).length c9)) := by
  have zY := h5.size
  have zY2 := hB.size
  have y1 := (hB.block q (blk_lt h1)).trans h1
  refine ⟨⟨A9, c9, by simpa using blk_set y1 0 (.slice A9 (digs 18446744073709551616 v).length c9), (hO.mono (base' := r) (by omega)).putN y1 _⟩,
    (Keeps.below hB (by omega)).trans (Keeps.setCell _ _ _ _ (.inl (by show q < _; omega)) _),
    ⟨by simpa [World.setCell] using zY2, fun b hb1 hb2 => (Below.heap_setCell _ _ _ _ (by show b ≠ q; omega)).trans (hB.block b (by omega))⟩,
    (h5.trans (hB.mono (by omega))).setCell (p := ⟨q, 0, none⟩) (Nat.le_refl _) _⟩

set_option maxRecDepth 100000 in
set_option maxHeartbeats 4000000 in
theorem exp_even (P Pe P' : Nat → Prop) (A Ae A' : Option Addr) (c ce c' : Nat) (a e b : List Nat) (X E M : Nat) (w : World) (h : RN w P A c a) (he : RN w Pe Ae ce e) (h' : RN w P' A' c' b) (hP : ∀ b, P b → b < w.heap.size) (hPe : ∀ b, Pe b → b < w.heap.size) (hP' : ∀ b, P' b → b < w.heap.size)
    (hX : val 18446744073709551616 a = X) (hE : val 18446744073709551616 e = E) (hM : val 18446744073709551616 b = M) (hM0 : 0 < M) (heven : M % 2 = 0 ∨ M = 1) (hla : a.length < 40000) (hlb : b.length < 40000) (hmay : nbits X ≤ 4096 ∧ nbits E ≤ 4096 ∧ nbits M ≤ 4096) :
    Calls Try.prog 52 #[.slice A a.length c, .slice Ae e.length ce, .slice A' b.length c'] w fun e w' => ∃ A1 c1, e = .returned (.tuple #[.slice A1 (digs 18446744073709551616 (X ^ E % M)).length c1, .bool true]) ∧ OB w' w.heap.size A1 c1 (digs 18446744073709551616 (X ^ E % M)) ∧ Below w.heap.size w w' := by
  obtain ⟨s, hs⟩ : ∃ s, w.heap.size = s := ⟨_, rfl⟩
  have m0 := heap_alloc_new w (.cells #[.slice A a.length c] 23)
  have m1 := heap_alloc_new (w.alloc (.cells #[.slice A a.length c] 23)) (.cells #[.slice A' b.length c'] 23)
  replace m0 := (Below.heap_alloc (w.alloc (.cells #[.slice A a.length c] 23)) (.cells #[.slice A' b.length c'] 23) w.heap.size (by simp)).trans m0
  have hB0 : Below w.heap.size w ((w.alloc (.cells #[.slice A a.length c] 23)).alloc (.cells #[.slice A' b.length c'] 23)) := ((Below.refl _ w).alloc (Nat.le_refl _) _).alloc (by simp) _
  have hz0 : ((w.alloc (.cells #[.slice A a.length c] 23)).alloc (.cells #[.slice A' b.length c'] 23)).heap.size = s + 2 := by simp [hs]
  rw [World.size_alloc] at m1
  rw [hs] at m0 m1 hB0 hP hPe hP' ⊢
  have hlM : (digs 18446744073709551616 M).length ≤ 40000 := by have := digs_length_le (B := 18446744073709551616) (by omega) h'.2.1; rw [hM] at this; omega
  have hnb : nbits M ≠ 0 := by
    intro h0
    have := lt_of_nbits (x := M) (k := 0) (by omega); omega
  have hng : ((nbits M : Int) == 0) = false := by simpa using hnb
  have hb1 : bitOf M 0 = M % 2 := bitOf_zero M
  have hcase : (bitOf M 0 = 0) ∨ (bitOf M 0 = 1 ∧ decide ((1 : Int) < (nbits M : Int)) = false) := by
    rw [hb1]
    rcases heven with h2 | h2
    · exact .inl h2
    · exact .inr ⟨by rw [h2], decide_eq_false (by have := nbits_le (x := M) (k := 1) (by omega); omega)⟩
  have Hcase := Lib.hid hcase
  clear hcase hb1 heven hnb
  refine (callsIn_wide (n := 6)).1 ?_
  refine callsIn_of_wp_marks Try.func52 rfl trivial ?_ rfl
  simp only [Try.ntmps52, List.size_toArray, List.length_cons, List.length_nil, Nat.reduceAdd, Nat.reduceSub, Array.replicate_succ, Array.replicate_zero, List.push_toArray, List.append_toArray, List.nil_append, List.cons_append]
  gi_wp2
  generalize (w.alloc (.cells #[.slice A a.length c] 23)).alloc (.cells #[.slice A' b.length c'] 23) = W0 at *
  have hbits := fun X (hX : Below s w X) => bits_any P' A' c' b X (h'.below hX hP')
  simp only [hM] at hbits
  have Hbits := Lib.hid hbits
  clear hbits
  have d0 := blk_cell m0 0
  have d1 := blk_cell m1 0
  simp only [List.getElem?_toArray, List.getElem?_cons_zero] at d0 d1
  have hmy := may_any _ _ _ _ _ _ (RNN.three (h.below hB0 hP) (he.below hB0 hPe) (h'.below hB0 hP') (fun b hb => by have := hP b hb; omega) (fun b hb => by have := hPe b hb; omega) (fun b hb => by have := hP' b hb; omega))
  rw [show (([a, e, b] : List (List Nat)).all fun l => decide (nbits (val 18446744073709551616 l) ≤ 4096)) = true by simp [hX, hE, hM, hmay.1, hmay.2.1, hmay.2.2]] at hmy
  simp only [List.length_cons, List.length_nil, Nat.zero_add, Nat.reduceAdd] at hmy
  rw [hz0] at hmy
  have Hmy := Lib.hid hmy
  clear hmy hmay
  refine ⟨trivial, (callsIn_wide.2 (Hbits.out W0 hB0)).mono ?_⟩
  rintro e' w' ⟨rfl, rfl⟩
  gi_wp2
  refine ⟨trivial, (callsIn_wide.2 Hmy.out).mono ?_⟩
  rintro e' w' ⟨rfl, rfl⟩
  have hB1 : Below (s + 2) W0 (W0.alloc (.cells #[.slice A a.length c, .slice Ae e.length ce, .slice A' b.length c'] 23)) := (Below.refl _ W0).alloc (by omega) _
  have e0 := (hB1.cell (p := ⟨s, 0, none⟩) (by show s < s + 2; omega)).trans d0
  have e1 := (hB1.cell (p := ⟨s + 1, 0, none⟩) (by show s + 1 < s + 2; omega)).trans d1
  generalize W0.alloc (.cells #[.slice A a.length c, .slice Ae e.length ce, .slice A' b.length c'] 23) = W1 at *
  have hB01 := hB0.trans (hB1.mono (by omega))
  have hr1 := rest_any P P' A A' c c' a b W1 (h.below hB01 hP) (h'.below hB01 hP') (fun b hb => by have := hP b hb; have := hB01.size; omega) (fun b hb => by have := hP' b hb; have := hB01.size; omega) (by omega) (by omega) (by omega)
  rw [hX, hM] at hr1
  have Hr1 := Lib.hid hr1
  clear hr1 Hmy
  have zW1 := hB1.size
  gi_wp2
  refine ⟨trivial, (callsIn_wide.2 Hr1.out).mono ?_⟩
  rintro e' W2 ⟨A2, c2, rfl, hO2, hB2⟩
  have hB02 := hB01.trans (hB2.mono (by omega))
  have n0 := (hB2.block s (by omega)).trans ((hB1.block s (by omega)).trans m0)
  have n1 := (hB2.block (s + 1) (by omega)).trans ((hB1.block (s + 1) (by omega)).trans m1)
  have f0 := blk_cell n0 0
  have f00 := blk_free n0 0
  have f1 := blk_cell n1 0
  simp only [List.getElem?_toArray, List.getElem?_cons_zero] at f0 f1
  generalize hR : X % M = R at *
  have hRM : R < M := by rw [← hR]; exact Nat.mod_lt _ (by omega)
  have hpow : R ^ E % M = X ^ E % M := by rw [← hR, ← Nat.pow_mod]
  generalize hrl : (digs 18446744073709551616 R).length = rl at *
  have hrlM : rl ≤ (digs 18446744073709551616 M).length := by rw [← hrl]; exact digs_length_mono (by omega) (by omega)
  have hB3 : Below (s + 0) W2 (W2.setCell ⟨s, 0, none⟩ (.slice A2 rl c2)) := (Below.refl _ W2).setCell (p := ⟨s, 0, none⟩) (by show s + 0 ≤ s; omega) _
  have hO3 : OB (W2.setCell ⟨s, 0, none⟩ (.slice A2 rl c2)) (s + 2) A2 c2 (digs 18446744073709551616 R) := (hO2.putN n0 _).mono (by omega)
  have b0 : (W2.setCell ⟨s, 0, none⟩ (.slice A2 rl c2)).heap[s]? = some (.cells #[.slice A2 rl c2] 23 (0, 0)) := by simpa using blk_set n0 0 (.slice A2 rl c2)
  have b1 := (Below.heap_setCell W2 ⟨s, 0, none⟩ (.slice A2 rl c2) (s + 1) (by show s + 1 ≠ s; omega)).trans n1
  have k0 := blk_cell b0 0
  have k1 := blk_cell b1 0
  simp only [List.getElem?_toArray, List.getElem?_cons_zero] at k0 k1
  have hBw3 := hB02.trans hB3
  have zW2 := hB2.size
  have zW3 : (W2.setCell ⟨s, 0, none⟩ (.slice A2 rl c2)).heap.size = W2.heap.size := by simp [World.setCell]
  have hb0 := bit_any P' A' c' b 0 _ (h'.below hBw3 hP') (by omega)
  rw [hM] at hb0
  have Hb0 := Lib.hid hb0
  have Hrl := Lib.hid hrl
  have Hpow := Lib.hid hpow
  clear hb0 n0 n1 hB1 hrl hpow hR m0 m1 hO2 Hr1
  gi_upto_region 4 with fail
  generalize W2.setCell ⟨s, 0, none⟩ (.slice A2 rl c2) = W3 at *
  replace zW3 : W2.heap.size ≤ W3.heap.size := Nat.le_of_eq zW3.symm
  clear f0 f00 f1 e0 e1 d0 d1 hB2 hB02 hB01 hB0
  gi_cut [33] from 26 (fun s33 wx => s33 = .bool false ∧ W3 = wx)
  case first =>
    rcases Hcase.out with h0 | ⟨h0, h1⟩
    · rw [h0] at Hb0
      clear h0 Hcase
      gi_wp2
      refine ⟨trivial, (callsIn_wide.2 Hb0.out).mono ?_⟩
      rintro e' w' ⟨rfl, rfl⟩
      gi_wp2
      refine ⟨trivial, ?_⟩
      gi_wp2
      gi_meet
      case rel => exact ⟨rfl, rfl⟩
    · rw [h0] at Hb0
      clear h0 Hcase
      gi_wp2
      refine ⟨trivial, (callsIn_wide.2 Hb0.out).mono ?_⟩
      rintro e' w' ⟨rfl, rfl⟩
      gi_wp2
      refine ⟨trivial, (callsIn_wide.2 (Hbits.out W3 hBw3)).mono ?_⟩
      rintro e' w' ⟨rfl, rfl⟩
      gi_wp2
      gi_meet
      case rel => exact ⟨rfl, rfl⟩
  case rest =>
    obtain ⟨rfl, rfl⟩ := hcut
    clear Hcase Hb0 Hbits
    gi_upto_region 7 with fail
    gi_cut [9] from 44 (fun s9 wx => ∃ q, s9 = .pointer (some ⟨q, 0, none⟩) ∧ W3.heap.size ≤ q ∧ q < wx.heap.size ∧ BoxAt W3.heap.size q (1 % M) wx ∧ Below W3.heap.size W3 wx)
    case first =>
      have hrest := fun (V : World) (hV : Below W3.heap.size W3 V) A1 c1 (hO : OB V W3.heap.size A1 c1 (digs 18446744073709551616 1)) => rest_any _ P' A1 A' c1 c' (digs 18446744073709551616 1) b V hO.rn (h'.below (hBw3.trans (hV.mono (by omega))) hP') (fun b hb => hb.2) (fun b hb => by have := hP' b hb; have := hV.size; omega) (by rw [digs_pos (by omega) (by omega)]; simp [digs_zero]) (by omega) (by omega)
      simp only [hM, val_digs (show 2 ≤ 18446744073709551616 by omega)] at hrest
      have Hrest := Lib.hid hrest
      clear hrest
      have hlt1 : s + 1 < W3.heap.size := by omega
      have hV0 : Below W3.heap.size W3 W3.drew := (Below.refl _ W3).drew
      have hV1 : Below W3.heap.size W3 ((W3.alloc (.cells #[.slice none 0 0] 23)).drew) := ((Below.refl _ W3).alloc (Nat.le_refl _) _).drew
      have hz1 : W3.heap.size ≤ W3.drew.heap.size := Nat.le_refl _
      have hz2 : W3.heap.size + 1 = ((W3.alloc (.cells #[.slice none 0 0] 23)).drew).heap.size := by show _ = (W3.alloc _).heap.size; simp
      have hz2e : W3.heap.size ≤ ((W3.alloc (.cells #[.slice none 0 0] 23)).drew).heap.size := by omega
      have hz2l : W3.heap.size < ((W3.alloc (.cells #[.slice none 0 0] 23)).drew).heap.size := by omega
      have g0 : ((W3.alloc (.cells #[.slice none 0 0] 23)).drew).heap[W3.heap.size]? = some (.cells #[.slice none 0 0] 23 (0, 0)) := heap_alloc_new W3 _
      have k1' : ((W3.alloc (.cells #[.slice none 0 0] 23)).drew).cell? ⟨s + 1, 0, none⟩ = some (.slice A' b.length c') := (hV1.cell (p := ⟨s + 1, 0, none⟩) hlt1).trans k1
      refine wpIn_wide.2 ?_
      go_region_with (first
        | (go_at_call 62
           refine (of_any 1 _ (by omega)).mono ?_
           rintro e' X1 ⟨A1, c1, rfl, hO1, hB1⟩
           have hX1 : Below W3.heap.size W3 X1 := by first | exact hV0.trans (hB1.mono hz1) | exact hV1.trans (hB1.mono hz2e)
           have hO1' : OB X1 W3.heap.size A1 c1 (digs 18446744073709551616 1) := by first | exact hO1.mono hz1 | exact hO1.mono hz2e
           have zX1 := hX1.size
           have x1 : X1.cell? ⟨s + 1, 0, none⟩ = some (.slice A' b.length c') := (hX1.cell (p := ⟨s + 1, 0, none⟩) hlt1).trans k1
           have hX1a : Below W3.heap.size W3 (X1.alloc (.cells #[.slice none 0 0] 23)) := hX1.alloc zX1 _
           have hO1a : OB (X1.alloc (.cells #[.slice none 0 0] 23)) W3.heap.size A1 c1 (digs 18446744073709551616 1) := hO1'.below ((Below.refl _ X1).alloc (Nat.le_refl _) _) (Nat.le_refl _)
           have x1a : (X1.alloc (.cells #[.slice none 0 0] 23)).cell? ⟨s + 1, 0, none⟩ = some (.slice A' b.length c') := (hX1a.cell (p := ⟨s + 1, 0, none⟩) hlt1).trans k1
           have g1a : (X1.alloc (.cells #[.slice none 0 0] 23)).heap[X1.heap.size]? = some (.cells #[.slice none 0 0] 23 (0, 0)) := heap_alloc_new X1 _
           have hz3 : X1.heap.size < (X1.alloc (.cells #[.slice none 0 0] 23)).heap.size := by simp
           try have g1 : X1.heap[W3.heap.size]? = some (.cells #[.slice none 0 0] 23 (0, 0)) := (hB1.block W3.heap.size hz2l).trans g0)
        | (go_at_call 78
           first | refine (Hrest.out X1 hX1 A1 c1 hO1').mono ?_ | refine (Hrest.out (X1.alloc (.cells #[.slice none 0 0] 23)) hX1a A1 c1 hO1a).mono ?_
           rintro e' X2 ⟨A5, c5, rfl, hO5, hB5⟩
           first
             | have g2 : X2.heap[W3.heap.size]? = some (.cells #[.slice none 0 0] 23 (0, 0)) := (hB5.block W3.heap.size (Nat.lt_of_lt_of_le hz2l hB1.size)).trans g1
             | have g2 : X2.heap[X1.heap.size]? = some (.cells #[.slice none 0 0] 23 (0, 0)) := (hB5.block X1.heap.size hz3).trans g1a
             | skip
           try
             have g3 := blk_cell g2 0
             simp only [List.getElem?_toArray, List.getElem?_cons_zero] at g3
             have g4 := blk_free g2 0))
      all_goals
        go_wp2
        go_meet
        case rel =>
          have zX2 := hB5.size
          first
            | exact ⟨X2.heap.size, rfl, Nat.le_trans zX1 zX2, by simp, ⟨A5, c5, heap_alloc_new X2 _, (hO5.mono zX1).below ((Below.refl _ X2).alloc (Nat.le_refl _) _) (Nat.le_refl _)⟩, (hX1.trans (hB5.mono zX1)).alloc (Nat.le_trans zX1 zX2) _⟩
            | exact ⟨X1.heap.size, rfl, zX1, by simpa [World.setCell] using Nat.lt_of_lt_of_le hz3 zX2, ⟨A5, c5, by simpa using blk_set g2 0 (.slice A5 (digs 18446744073709551616 (1 % M)).length c5), (hO5.putN g2 _).mono (Nat.le_trans zX1 (Nat.le_of_lt hz3))⟩, (hX1a.trans (hB5.mono (Nat.le_trans zX1 (Nat.le_of_lt hz3)))).setCell (p := ⟨X1.heap.size, 0, none⟩) zX1 _⟩
            | exact ⟨W3.heap.size, rfl, Nat.le_refl _, by simpa [World.setCell] using Nat.lt_of_lt_of_le (Nat.lt_of_lt_of_le hz2l hB1.size) zX2, ⟨A5, c5, by simpa using blk_set g2 0 (.slice A5 (digs 18446744073709551616 (1 % M)).length c5), (hO5.putN g2 _).mono zX1⟩, (hX1.trans (hB5.mono zX1)).setCell (p := ⟨W3.heap.size, 0, none⟩) (Nat.le_refl _) _⟩
    case rest =>
      obtain ⟨q, rfl, hq, hqw, ⟨A6, c6, nq, hO6⟩, hBq⟩ := hcut
      obtain ⟨r, hr⟩ : ∃ r, W3.heap.size = r := ⟨_, rfl⟩
      obtain ⟨p, hp⟩ : ∃ p, wc.heap.size = p := ⟨_, rfl⟩
      have hsr : s + 2 ≤ r := by omega
      rw [hr] at hq hBq hO6
      rw [hp] at hqw
      have hBw4 : Below s w wc := hBw3.trans (hBq.mono (by omega))
      have heach := each_any Pe Ae ce e wc (he.below hBw4 hPe) (fun b hb => by have := hPe b hb; have := hBw4.size; omega)
      rw [hE, hp] at heach
      have Heach := Lib.hid heach
      have Hp := Lib.hid hp
      have Hr := Lib.hid hr
      clear heach hp hr hB3 zW1 zW2 zW3 k0 k1 hz0
      gi_wp2
      refine ⟨trivial, (callsIn_wide.2 Heach.out).mono ?_⟩
      rintro e' w4 ⟨Ae', ce', rfl, be, hOe, hB4⟩
      have zn : p < w4.heap.size := blk_lt be
      have hbe := blk_cell be 0
      simp only [List.getElem?_toArray, List.getElem?_cons_zero] at hbe
      have hseq := each_seq p p w4.heap.size (In p w4.heap.size) Ae' ce' (digs 18446744073709551616 E) w4 (fun b hb => hb) (Nat.le_refl _) zn (Nat.le_refl _) hbe hOe.rn
      rw [val_digs (by omega)] at hseq
      have Hseq := Lib.hid hseq
      have hB34 : Below r W3 w4 := hBq.trans (hB4.mono (by omega))
      have hW24 : Below s w w4 := hBw3.trans (hB34.mono (by omega))
      have hbox0 : BoxAt r q (R ^ topOf E 0 % M) w4 := by
        rw [topOf_zero, Nat.pow_zero]
        exact ⟨A6, c6, (hB4.block q hqw).trans nq, hO6.below hB4 (Nat.le_of_eq Hp.out)⟩
      have hInv : OwnFrom w4.heap.size (fun (k : Nat) X => BoxAt r q (R ^ topOf E k % M) X ∧ Below q w4 X) := by
        rintro k X X' row ⟨⟨A, c, h1, h4⟩, h5⟩ hg' hr
        have hr' := fun r e => (hr r e).2
        exact ⟨⟨A, c, (grownBy_keeps_cells hg' hr' h1 rfl).trans h1, h4.same fun b o' ho hc => (grownBy_keeps_cells hg' hr' ho hc).trans ho⟩, ownFrom_below (by omega) (by omega) k X X' row h5 hg' hr⟩
      clear hseq hbe be hOe Heach hBw4 hBq nq hO6
      gi_wp2
      refine' wpIn_iter (by omega) (gf := 71) (lb := #[.pointer (some ⟨p, 0, none⟩)]) rfl (enters_of Try.func71 (by kernel_rfl) rfl)
        Hseq.out (fun h k => Stay.trans h k) (fun X l o o' hl ho _ _ => ⟨by simp, fun i _ hi => World.putObj_heap_other (by omega)⟩) tplain_keeps (Below.refl _ _) (fun _ => rfl)
        (fun k X => BoxAt r q (R ^ topOf E k % M) X ∧ Below q w4 X) (fun k X => BoxAt r q (R ^ topOf E k % M) X ∧ Below q w4 X) (fun _ _ _ => False)
        hInv hInv (fun _ _ _ _ _ h => h.elim) (fun _ _ _ _ => trivial) (fun B k A C _ _ hi ht => ?hIT) (fun h => by cases h) ⟨hbox0, Below.refl _ _⟩ _ ?assign ?body ?done ?stop
      case hIT => exact ownFrom_plain (I := fun k X => BoxAt r q (R ^ topOf E k % M) X ∧ Below q w4 X) (B := w4.heap.size) hInv hi ht
      case assign =>
        intro l k X K hK
        gi_wp2
        exact hK
      case stop => exact fun _ _ _ _ _ _ _ h _ => h.elim
      case done =>
        rintro D X hD ⟨⟨A8, c8, h1, h4⟩, h5⟩ hK
        rw [topOf_all, Hpow.out] at h1 h4
        have d2 := blk_cell h1 0
        simp only [List.getElem?_toArray, List.getElem?_cons_zero] at d2
        have hbw := hW24.trans (h5.mono (by omega))
        have zD : s ≤ D := by omega
        have hO : OB (X.putObj D (.deferred none)) r A8 c8 (digs 18446744073709551616 (_ ^ E % M)) := h4.same fun b o' ho hc => (World.putObj_heap_other (fun e => by subst e; rw [hK] at ho; cases ho; cases hc)).trans ho
        have HO := Lib.hid (hO.mono (base' := s) (by omega))
        clear h1 h4 hO
        gi_wp2
        refine ⟨by simp, .inl ⟨_, _, rfl, run_takeDeferred hK, _, results_tmp2 rfl _ _ _, ⟨A8, c8, rfl, HO.out, hbw.trans (belowK_b (w := w) (Nat.le_of_eq hs.symm) _ D _ _ (by omega) hK rfl rfl)⟩⟩⟩
      case body =>
        rintro l k X ⟨⟨A8, c8, h1, h4⟩, h5⟩ hlt _
        have hM1 : 0 < M := hM0
        have hvM : R ^ topOf E k % M < M := Nat.mod_lt _ hM0
        have hbit : (bitAt E k).2 = 0 ∨ (bitAt E k).2 = 1 := by
          have : (bitAt E k).2 < 2 := Nat.mod_lt _ (by omega)
          omega
        have hp0 : (bitAt E k).2 = 0 → R ^ topOf E (k + 1) % M = R ^ topOf E k % M * (R ^ topOf E k % M) % M := fun hb => by rw [pow_top hlt hb, Nat.mul_mod]
        have hp1 : (bitAt E k).2 = 1 → R ^ topOf E (k + 1) % M = R ^ topOf E k % M * (R ^ topOf E k % M) % M * R % M := fun hb => by rw [pow_top1 hlt hb, Nat.mul_mod, Nat.mul_mod (R ^ topOf E k), Nat.mod_eq_of_lt hRM]
        generalize R ^ topOf E k % M = v at *
        obtain ⟨v2, hv2⟩ : ∃ v2, R ^ topOf E (k + 1) % M = v2 := ⟨_, rfl⟩
        rw [hv2] at hp0 hp1
        have Hp0 := Lib.hid hp0
        have Hp1 := Lib.hid hp1
        have Hv2 := Lib.hid hv2
        have zX := h5.size
        have hB3X : Below r W3 X := hB34.trans (h5.mono hq)
        have d1 := blk_cell ((hB3X.block (s + 1) (by have := Hr.out; omega)).trans b1) 0
        have d2 := blk_cell h1 0
        simp only [List.getElem?_toArray, List.getElem?_cons_zero] at d1 d2
        have lv : (digs 18446744073709551616 v).length ≤ 40000 := dig_len (Nat.le_of_lt hvM) hlM
        have hmul := mul_any _ _ A8 A8 c8 c8 (digs 18446744073709551616 v) (digs 18446744073709551616 v) X.drew h4.rn h4.rn (fun b hb => hb.2) (fun b hb => hb.2) (by omega) (by omega)
        have hrest := fun (Y : World) (hY : Below X.heap.size X Y) A9 c9 (hO : OB Y X.heap.size A9 c9 (digs 18446744073709551616 (v * v))) => rest_any _ P' A9 A' c9 c' (digs 18446744073709551616 (v * v)) b Y hO.rn (h'.below ((hBw3.trans (hB3X.mono (by omega))).trans (hY.mono (by omega))) hP') (fun b hb => hb.2) (fun b hb => by have := hP' b hb; have := hY.size; omega) (by have := dig_mul (Nat.le_of_lt hvM) (Nat.le_of_lt hvM) hlM; omega) (by omega) (by omega)
        simp only [hM, val_digs (show 2 ≤ 18446744073709551616 by omega)] at hmul hrest
        have Hmul := Lib.hid hmul
        have Hrest := Lib.hid hrest
        have hs1X : s + 1 < X.heap.size := by omega
        have hqX : q < X.heap.size := by omega
        clear hmul hrest hp0 hp1 hv2 hInv hbox0
        gi_upto_region 10 with fail
        gi_cut [] from 51 (fun wx => BoxAt r q (v * v % M) wx ∧ Keeps w4.heap.size (w4.heap.size + 2) 0 X wx ∧ Stay p w4.heap.size X wx ∧ Below q w4 wx)
        case first =>
          first | (gi_region_with (first
            | (refine ⟨trivial, ?_⟩
               gi_at_call_has 34 A8
               refine (callsIn_wide.2 Hmul.out).mono ?_
               rintro e' X1 ⟨A9, c9, rfl, hO9, hB9'⟩
               have hB9 : Below X.heap.size X X1 := ⟨hB9'.os, hB9'.tape, hB9'.output, hB9'.size, hB9'.block⟩
               have hO9' : OB X1 X.heap.size A9 c9 (digs 18446744073709551616 (v * v)) := hO9
               have y5 := (hB9.cell (p := ⟨s + 1, 0, none⟩) hs1X).trans d1
               have Hre := Lib.hid (Hrest.out X1 hB9 A9 c9 hO9'))
            | (refine ⟨trivial, ?_⟩
               gi_at_call_has 78 A9
               refine (callsIn_wide.2 Hre.out).mono ?_
               rintro e' X2 ⟨A10, c10, rfl, hO10, hB10⟩
               have y1 := (hB10.block q (Nat.lt_of_lt_of_le hqX hB9.size)).trans ((hB9.block q hqX).trans h1)
               have y2 := blk_cell y1 0
               simp only [List.getElem?_toArray, List.getElem?_cons_zero] at y2
               have y3 := blk_free y1 0))) | fail
          all_goals
            gi_wp2
            gi_meet
            case rel => exact box_step hq hqw (Nat.le_of_lt zn) h5 h1 (hB9.trans (hB10.mono hB9.size)) (hO10.mono hB9.size)
        case rest =>
          obtain ⟨⟨A11, c11, g1, g4⟩, hK, hS, hBq⟩ := hcut
          rcases hbit with hb0 | hb1
          · rw [hb0]
            have e2 := Hp0.out hb0
            rw [← e2] at g1 g4
            have G1 := Lib.hid g1
            have G4 := Lib.hid g4
            have HK := Lib.hid hK
            clear hb0 h1 h4 g1 g4 e2 hK
            gi_wp2
            exact ⟨HK.out, hS, ⟨A11, c11, by rw [Hv2.out]; exact G1.out, by rw [Hv2.out]; exact G4.out⟩, hBq⟩
          · have e2 := Hp1.out hb1
            have huM : v * v % M < M := Nat.mod_lt _ hM0
            generalize v * v % M = u at *
            have lu : (digs 18446744073709551616 u).length ≤ 40000 := dig_len (Nat.le_of_lt huM) hlM
            have hB3c : Below r W3 wc := hB34.trans (hBq.mono hq)
            have hOa : OB wc (s + 2) A2 c2 (digs 18446744073709551616 R) := hO3.below hB3c (Nat.le_of_eq Hr.out)
            have zc := hBq.size
            have d0 := blk_cell ((hB3c.block s (by have := Hr.out; omega)).trans b0) 0
            have d1 := blk_cell ((hB3c.block (s + 1) (by have := Hr.out; omega)).trans b1) 0
            have d3 := blk_cell g1 0
            simp only [List.getElem?_toArray, List.getElem?_cons_zero] at d0 d1 d3
            have hmul := mul_any _ _ A11 A2 c11 c2 (digs 18446744073709551616 u) (digs 18446744073709551616 R) wc.drew g4.rn hOa.rn (fun b hb => hb.2) (fun b hb => hb.2) (by omega) (by have := Hrl.out; omega)
            have hrest := fun (Y : World) (hY : Below wc.heap.size wc Y) A9 c9 (hO : OB Y wc.heap.size A9 c9 (digs 18446744073709551616 (u * R))) => rest_any _ P' A9 A' c9 c' (digs 18446744073709551616 (u * R)) b Y hO.rn (h'.below ((hBw3.trans (hB3c.mono (by omega))).trans (hY.mono (by omega))) hP') (fun b hb => hb.2) (fun b hb => by have := hP' b hb; have := hY.size; omega) (by have := dig_mul (Nat.le_of_lt huM) (Nat.le_of_lt hRM) hlM; omega) (by omega) (by omega)
            simp only [hM, val_digs (show 2 ≤ 18446744073709551616 by omega)] at hmul hrest
            rw [Hrl.out] at hmul
            have Hmul2 := Lib.hid hmul
            have Hrest2 := Lib.hid hrest
            have hs1c : s + 1 < wc.heap.size := by omega
            have hqc : q < wc.heap.size := by omega
            have E2 := Lib.hid e2
            have HK := Lib.hid hK
            have HS := Lib.hid hS
            rw [hb1]
            clear hmul hrest Hmul Hrest h1 h4 d2 hb1 hB3X hK hS e2 Hp0 Hp1 h5
            gi_wp2
            first | (gi_region_with (first
              | (refine ⟨trivial, ?_⟩
                 gi_at_call_has 34 A11
                 refine (callsIn_wide.2 Hmul2.out).mono ?_
                 rintro e' X1 ⟨A9, c9, rfl, hO9, hB9'⟩
                 have hB9 : Below wc.heap.size wc X1 := ⟨hB9'.os, hB9'.tape, hB9'.output, hB9'.size, hB9'.block⟩
                 have hO9' : OB X1 wc.heap.size A9 c9 (digs 18446744073709551616 (u * R)) := hO9
                 have y5 := (hB9.cell (p := ⟨s + 1, 0, none⟩) hs1c).trans d1
                 have Hre := Lib.hid (Hrest2.out X1 hB9 A9 c9 hO9'))
              | (refine ⟨trivial, ?_⟩
                 gi_at_call_has 78 A9
                 refine (callsIn_wide.2 Hre.out).mono ?_
                 rintro e' X2 ⟨A10, c10, rfl, hO10, hB10⟩
                 have y1 := (hB10.block q (Nat.lt_of_lt_of_le hqc hB9.size)).trans ((hB9.block q hqc).trans g1)
                 have y2 := blk_cell y1 0
                 simp only [List.getElem?_toArray, List.getElem?_cons_zero] at y2
                 have y3 := blk_free y1 0))) | fail
            all_goals
              obtain ⟨f1, f2, f3, f4⟩ := box_step hq hqw (Nat.le_of_lt zn) hBq g1 (hB9.trans (hB10.mono hB9.size)) (hO10.mono hB9.size)
              gi_wp2
              exact ⟨HK.out.trans f2, HS.out.trans f3, by rw [Hv2.out, E2.out]; exact f1, f4⟩
end Go.Proofs.Ytnniellajmjmnaa
