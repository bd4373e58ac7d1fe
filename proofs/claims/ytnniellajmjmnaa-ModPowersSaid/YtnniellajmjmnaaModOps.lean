/- modarith: Mod, Mul, and what Exp and Inverse refuse. -/
import Derived.Test.YtnniellajmjmnaaExpEven
import Derived.Test.YtnniellajmjmnaaSums
namespace Go.Proofs.Ytnniellajmjmnaa
open Go.RowKit

theorem all_two {a b : List Nat} {X Y : Nat} (hX : val 18446744073709551616 a = X) (hY : val 18446744073709551616 b = Y) :
    (([a, b] : List (List Nat)).all fun l => decide (nbits (val 18446744073709551616 l) ≤ 4096)) = (decide (nbits X ≤ 4096) && decide (nbits Y ≤ 4096)) := by simp [hX, hY]
theorem all_three {a b d : List Nat} {X Y Z : Nat} (hX : val 18446744073709551616 a = X) (hY : val 18446744073709551616 b = Y) (hZ : val 18446744073709551616 d = Z) :
    (([a, b, d] : List (List Nat)).all fun l => decide (nbits (val 18446744073709551616 l) ≤ 4096)) = (decide (nbits X ≤ 4096) && decide (nbits Y ≤ 4096) && decide (nbits Z ≤ 4096)) := by simp [hX, hY, hZ, Bool.and_assoc]
theorem dig64_mul {x y j k : Nat} (hx : (digs 18446744073709551616 x).length ≤ j) (hy : (digs 18446744073709551616 y).length ≤ k) : (digs 18446744073709551616 (x * y)).length ≤ j + k := by
  have h1 := lt_pow_digs (B := 18446744073709551616) (by omega) x
  have h2 := lt_pow_digs (B := 18446744073709551616) (by omega) y
  have h3 : 18446744073709551616 ^ (digs 18446744073709551616 x).length ≤ 18446744073709551616 ^ j := Nat.pow_le_pow_right (by omega) hx
  have h4 : 18446744073709551616 ^ (digs 18446744073709551616 y).length ≤ 18446744073709551616 ^ k := Nat.pow_le_pow_right (by omega) hy
  refine digs_length_of_lt (by omega) ?_
  rw [Nat.pow_add]
  exact Nat.mul_lt_mul'' (by omega) (by omega)
theorem nbits_pos {M : Nat} (h : 0 < M) : 0 < nbits M := by
  rcases Nat.eq_zero_or_pos (nbits M) with h0 | h0
  · have := lt_of_nbits (x := M) (k := 0) (by omega); omega
  · exact h0

set_option maxRecDepth 100000 in
set_option maxHeartbeats 1000000 in
theorem mod_any (A A' : Option Addr) (c c' : Nat) (a b : List Nat) (X M : Nat) (w : World) (h : RU w A c a) (h' : RU w A' c' b) (hX : val 18446744073709551616 a = X) (hM : val 18446744073709551616 b = M) (hla : a.length < 90000) (hlb : b.length < 90000) :
    Calls Try.prog 51 #[.slice A a.length c, .slice A' b.length c'] w fun e w' => Below w.heap.size w w' ∧
      ((¬ (0 < M ∧ nbits X ≤ 4096 ∧ nbits M ≤ 4096) ∧ e = .returned (.tuple #[.slice none 0 0, .bool false])) ∨
       (0 < M ∧ nbits X ≤ 4096 ∧ nbits M ≤ 4096 ∧ ∃ A1 c1, e = .returned (.tuple #[.slice A1 (digs 18446744073709551616 (X % M)).length c1, .bool true]) ∧ OB w' w.heap.size A1 c1 (digs 18446744073709551616 (X % M)))) := by
  have hb := bits_any _ A' c' b w h'
  rw [hM] at hb
  rcases Nat.eq_zero_or_pos M with h0 | h0
  · have hn : nbits M = 0 := by rw [h0]; exact nbits_zero
    rw [hn] at hb
    have Hb := Lib.hid hb
    have Hno := Lib.hid (show ¬ (0 < M ∧ nbits X ≤ 4096 ∧ nbits M ≤ 4096) by omega)
    clear hb hn h0
    go_enter Try.func51, Try.ntmps51
    go_wp2_with fail
    refine Hb.out.mono ?_
    rintro e w' ⟨rfl, rfl⟩
    go_wp2
    go_ret2
    exact ⟨Below.refl _ _, .inl ⟨Hno.out, rfl⟩⟩
  · have hnp := nbits_pos h0
    have hng : ((nbits M : Int) == 0) = false := eqB (by omega)
    have hmy := may_any _ _ _ _ _ _ (RNN.two h h' lt_self lt_self)
    rw [all_two hX hM] at hmy
    simp only [List.length_cons, List.length_nil, Nat.zero_add, Nat.reduceAdd] at hmy
    have hB0 : Below w.heap.size w (w.alloc (.cells #[.slice A a.length c, .slice A' b.length c'] 23)) := (Below.refl _ w).alloc (Nat.le_refl _) _
    obtain ⟨ok, hok⟩ : ∃ ok, (decide (nbits X ≤ 4096) && decide (nbits M ≤ 4096)) = ok := ⟨_, rfl⟩
    rw [hok] at hmy
    have Hb := Lib.hid hb
    have Hmy := Lib.hid hmy
    have Hok := Lib.hid hok
    have H0 := Lib.hid h0
    clear hb hmy hok hnp
    cases ok
    · have Hno := Lib.hid (show ¬ (0 < M ∧ nbits X ≤ 4096 ∧ nbits M ≤ 4096) from fun h => by have := Hok.out; simp [h.2.1, h.2.2] at this)
      clear Hok
      go_enter Try.func51, Try.ntmps51
      go_wp2_with fail
      refine Hb.out.mono ?_
      rintro e w' ⟨rfl, rfl⟩
      go_wp2_with fail
      refine Hmy.out.mono ?_
      rintro e w' ⟨rfl, rfl⟩
      go_wp2
      go_ret2
      exact ⟨hB0, .inl ⟨Hno.out, rfl⟩⟩
    · have hyes : nbits X ≤ 4096 ∧ nbits M ≤ 4096 := by have := Hok.out; simpa using this
      have Hyes := Lib.hid hyes
      clear Hok hyes
      have hz0 : (w.alloc (.cells #[.slice A a.length c, .slice A' b.length c'] 23)).heap.size = w.heap.size + 1 := by simp
      have hr := rest_any _ _ A A' c c' a b (w.alloc (.cells #[.slice A a.length c, .slice A' b.length c'] 23)) (h.up hB0) (h'.up hB0) lt_self lt_self hla hlb (by rw [hM]; exact h0)
      rw [hX, hM, hz0] at hr
      have Hr := Lib.hid hr
      clear hr hng
      have hng : ((nbits M : Int) == 0) = false := eqB (by have := nbits_pos H0.out; omega)
      clear h0
      go_enter Try.func51, Try.ntmps51
      go_wp2_with fail
      refine Hb.out.mono ?_
      rintro e w' ⟨rfl, rfl⟩
      go_wp2_with fail
      refine Hmy.out.mono ?_
      rintro e w' ⟨rfl, rfl⟩
      go_wp2_with fail
      refine Hr.out.mono ?_
      rintro e w' ⟨A1, c1, rfl, hO, hB⟩
      go_wp2
      go_ret2
      exact ⟨hB0.trans (hB.mono (by omega)), .inr ⟨H0.out, Hyes.out.1, Hyes.out.2, A1, c1, rfl, hO.mono (by omega)⟩⟩

set_option maxRecDepth 100000 in
set_option maxHeartbeats 1000000 in
theorem mmod_any (A A' A'' : Option Addr) (c c' c'' : Nat) (a d b : List Nat) (X Y M : Nat) (w : World) (h : RU w A c a) (hd : RU w A'' c'' d) (h' : RU w A' c' b) (hX : val 18446744073709551616 a = X) (hY : val 18446744073709551616 d = Y) (hM : val 18446744073709551616 b = M) (hla : a.length < 40000) (hld : d.length < 40000) (hlb : b.length < 40000) :
    Calls Try.prog 53 #[.slice A a.length c, .slice A'' d.length c'', .slice A' b.length c'] w fun e w' => Below w.heap.size w w' ∧
      ((¬ (0 < M ∧ nbits X ≤ 4096 ∧ nbits Y ≤ 4096 ∧ nbits M ≤ 4096) ∧ e = .returned (.tuple #[.slice none 0 0, .bool false])) ∨
       (0 < M ∧ nbits X ≤ 4096 ∧ nbits Y ≤ 4096 ∧ nbits M ≤ 4096 ∧ ∃ A1 c1, e = .returned (.tuple #[.slice A1 (digs 18446744073709551616 (X * Y % M)).length c1, .bool true]) ∧ OB w' w.heap.size A1 c1 (digs 18446744073709551616 (X * Y % M)))) := by
  have hb := bits_any _ A' c' b w h'
  rw [hM] at hb
  rcases Nat.eq_zero_or_pos M with h0 | h0
  · have hn : nbits M = 0 := by rw [h0]; exact nbits_zero
    rw [hn] at hb
    have Hb := Lib.hid hb
    have Hno := Lib.hid (show ¬ (0 < M ∧ nbits X ≤ 4096 ∧ nbits Y ≤ 4096 ∧ nbits M ≤ 4096) by omega)
    clear hb hn h0
    go_enter Try.func53, Try.ntmps53
    go_wp2_with fail
    refine Hb.out.mono ?_
    rintro e w' ⟨rfl, rfl⟩
    go_wp2
    go_ret2
    exact ⟨Below.refl _ _, .inl ⟨Hno.out, rfl⟩⟩
  · have hmy := may_any _ _ _ _ _ _ (RNN.three h hd h' lt_self lt_self lt_self)
    rw [all_three hX hY hM] at hmy
    simp only [List.length_cons, List.length_nil, Nat.zero_add, Nat.reduceAdd] at hmy
    have hB0 : Below w.heap.size w (w.alloc (.cells #[.slice A a.length c, .slice A'' d.length c'', .slice A' b.length c'] 23)) := (Below.refl _ w).alloc (Nat.le_refl _) _
    obtain ⟨ok, hok⟩ : ∃ ok, (decide (nbits X ≤ 4096) && decide (nbits Y ≤ 4096) && decide (nbits M ≤ 4096)) = ok := ⟨_, rfl⟩
    rw [hok] at hmy
    have Hb := Lib.hid hb
    have Hmy := Lib.hid hmy
    have Hok := Lib.hid hok
    have H0 := Lib.hid h0
    clear hb hmy hok
    cases ok
    · have Hno := Lib.hid (show ¬ (0 < M ∧ nbits X ≤ 4096 ∧ nbits Y ≤ 4096 ∧ nbits M ≤ 4096) from fun h => by have := Hok.out; simp [h.2.1, h.2.2.1, h.2.2.2] at this)
      have hng : ((nbits M : Int) == 0) = false := eqB (by have := nbits_pos H0.out; omega)
      clear Hok h0
      go_enter Try.func53, Try.ntmps53
      go_wp2_with fail
      refine Hb.out.mono ?_
      rintro e w' ⟨rfl, rfl⟩
      go_wp2_with fail
      refine Hmy.out.mono ?_
      rintro e w' ⟨rfl, rfl⟩
      go_wp2
      go_ret2
      exact ⟨hB0, .inl ⟨Hno.out, rfl⟩⟩
    · have hyes : (nbits X ≤ 4096 ∧ nbits Y ≤ 4096) ∧ nbits M ≤ 4096 := by have := Hok.out; simpa using this
      have Hyes := Lib.hid hyes
      clear Hok hyes
      have hz0 : (w.alloc (.cells #[.slice A a.length c, .slice A'' d.length c'', .slice A' b.length c'] 23)).heap.size = w.heap.size + 1 := by simp
      have hm := mul_any _ _ A A'' c c'' a d _ (h.up hB0) (hd.up hB0) lt_self lt_self (by omega) (by omega)
      rw [hX, hY, hz0] at hm
      have Hm := Lib.hid hm
      have hlp : (digs 18446744073709551616 (X * Y)).length < 90000 := by
        have h1 := digs_length_le (B := 18446744073709551616) (by omega) h.2.1
        have h2 := digs_length_le (B := 18446744073709551616) (by omega) hd.2.1
        rw [hX] at h1
        rw [hY] at h2
        have h3 := dig64_mul (Nat.le_refl (digs 18446744073709551616 X).length) (Nat.le_refl (digs 18446744073709551616 Y).length)
        omega
      have hrest := fun (V : World) (hV : Below w.heap.size w V) A1 c1 (hO : RU V A1 c1 (digs 18446744073709551616 (X * Y))) => rest_any _ _ A1 A' c1 c' (digs 18446744073709551616 (X * Y)) b V hO (h'.up hV) lt_self lt_self hlp (by omega) (by rw [hM]; exact h0)
      simp only [hM, val_digs (show 2 ≤ 18446744073709551616 by omega)] at hrest
      have Hrest := Lib.hid hrest
      have hng : ((nbits M : Int) == 0) = false := eqB (by have := nbits_pos H0.out; omega)
      clear hm hrest h0 hlp
      go_enter Try.func53, Try.ntmps53
      go_wp2_with fail
      refine Hb.out.mono ?_
      rintro e w' ⟨rfl, rfl⟩
      go_wp2_with fail
      refine Hmy.out.mono ?_
      rintro e w' ⟨rfl, rfl⟩
      go_wp2_with fail
      refine Hm.out.mono ?_
      rintro e w1 ⟨A1, c1, rfl, hO1, hB1⟩
      have hB01 := hB0.trans (hB1.mono (by omega))
      have Hr := Lib.hid (Hrest.out w1 hB01 A1 c1 hO1.ru)
      go_wp2_with fail
      refine Hr.out.mono ?_
      rintro e w2 ⟨A2, c2, rfl, hO2, hB2⟩
      go_wp2
      go_ret2
      exact ⟨hB01.trans (hB2.mono hB01.size), .inr ⟨H0.out, Hyes.out.1.1, Hyes.out.1.2, Hyes.out.2, A2, c2, rfl, hO2.mono hB01.size⟩⟩

set_option maxRecDepth 100000 in
set_option maxHeartbeats 1000000 in
theorem exp_no (A Ae A' : Option Addr) (c ce c' : Nat) (a e b : List Nat) (X E M : Nat) (w : World) (h : RU w A c a) (he : RU w Ae ce e) (h' : RU w A' c' b) (hX : val 18446744073709551616 a = X) (hE : val 18446744073709551616 e = E) (hM : val 18446744073709551616 b = M)
    (hno : ¬ (0 < M ∧ nbits X ≤ 4096 ∧ nbits E ≤ 4096 ∧ nbits M ≤ 4096)) :
    Calls Try.prog 52 #[.slice A a.length c, .slice Ae e.length ce, .slice A' b.length c'] w fun e w' => e = .returned (.tuple #[.slice none 0 0, .bool false]) ∧ Below w.heap.size w w' := by
  obtain ⟨s, hs⟩ : ∃ s, w.heap.size = s := ⟨_, rfl⟩
  have m0 := heap_alloc_new w (.cells #[.slice A a.length c] 23)
  have m1 := heap_alloc_new (w.alloc (.cells #[.slice A a.length c] 23)) (.cells #[.slice A' b.length c'] 23)
  replace m0 := (Below.heap_alloc (w.alloc (.cells #[.slice A a.length c] 23)) (.cells #[.slice A' b.length c'] 23) w.heap.size (by simp)).trans m0
  have hB0 : Below w.heap.size w ((w.alloc (.cells #[.slice A a.length c] 23)).alloc (.cells #[.slice A' b.length c'] 23)) := ((Below.refl _ w).alloc (Nat.le_refl _) _).alloc (by simp) _
  have hz0 : ((w.alloc (.cells #[.slice A a.length c] 23)).alloc (.cells #[.slice A' b.length c'] 23)).heap.size = s + 2 := by simp [hs]
  rw [World.size_alloc] at m1
  have ra := h.up hB0
  have re := he.up hB0
  have rb := h'.up hB0
  rw [hs] at m0 m1 hB0 ⊢
  have hb := bits_any _ A' c' b _ rb
  rw [hM] at hb
  have hmy := may_any _ _ _ _ _ _ (RNN.three ra re rb lt_self lt_self lt_self)
  rw [all_three hX hE hM] at hmy
  simp only [List.length_cons, List.length_nil, Nat.zero_add, Nat.reduceAdd] at hmy
  rw [hz0] at hmy
  have hor : nbits M = 0 ∨ (nbits M ≠ 0 ∧ (decide (nbits X ≤ 4096) && decide (nbits E ≤ 4096) && decide (nbits M ≤ 4096)) = false) := by
    rcases Nat.eq_zero_or_pos M with h0 | h0
    · exact .inl (by rw [h0]; exact nbits_zero)
    · refine .inr ⟨by have := nbits_pos h0; omega, ?_⟩
      rw [Bool.eq_false_iff]
      intro hh
      simp only [Bool.and_eq_true, decide_eq_true_eq] at hh
      exact hno ⟨h0, hh.1.1, hh.1.2, hh.2⟩
  clear ra re rb h he h' hno
  rcases hor with hn | ⟨hn, hf⟩
  · rw [hn] at hb
    have Hb := Lib.hid hb
    clear hb hn hmy
    go_enter Try.func52, Try.ntmps52
    go_wp2_with fail
    generalize (w.alloc (.cells #[.slice A a.length c] 23)).alloc (.cells #[.slice A' b.length c'] 23) = W0 at *
    have d1 := blk_cell m1 0
    simp only [List.getElem?_toArray, List.getElem?_cons_zero] at d1
    refine Hb.out.mono ?_
    rintro e w' ⟨rfl, rfl⟩
    go_wp2
    go_ret2
    exact ⟨rfl, hB0⟩
  · rw [hf] at hmy
    have hng : ((nbits M : Int) == 0) = false := eqB (by omega)
    have Hb := Lib.hid hb
    have Hmy := Lib.hid hmy
    clear hb hn hmy hf
    go_enter Try.func52, Try.ntmps52
    go_wp2_with fail
    generalize (w.alloc (.cells #[.slice A a.length c] 23)).alloc (.cells #[.slice A' b.length c'] 23) = W0 at *
    have d0 := blk_cell m0 0
    have d1 := blk_cell m1 0
    simp only [List.getElem?_toArray, List.getElem?_cons_zero] at d0 d1
    refine Hb.out.mono ?_
    rintro e' w' ⟨rfl, rfl⟩
    go_wp2_with fail
    refine Hmy.out.mono ?_
    rintro e' w' ⟨rfl, rfl⟩
    go_wp2
    go_ret2
    exact ⟨rfl, hB0.alloc (by omega) _⟩

set_option maxRecDepth 100000 in
set_option maxHeartbeats 1000000 in
theorem inverse_no (A A' : Option Addr) (c c' : Nat) (a b : List Nat) (X M : Nat) (w : World) (h : RU w A c a) (h' : RU w A' c' b) (hX : val 18446744073709551616 a = X) (hM : val 18446744073709551616 b = M) (hM2 : 2 ≤ M) (hno : ¬ (nbits X ≤ 4096 ∧ nbits M ≤ 4096)) :
    Calls Try.prog 44 #[.slice A a.length c, .slice A' b.length c'] w fun e w' => e = .returned (.tuple #[.slice none 0 0, .bool false]) ∧ Below w.heap.size w w' := by
  have hb := bits_any _ A' c' b w h'
  have hnb := nbits_two (N := M) (by omega)
  rw [hM] at hb
  have t1 : decide ((nbits M : Int) < 2) = false := decide_eq_false (by omega)
  have hmy := may_any _ _ _ _ _ _ (RNN.two h h' lt_self lt_self)
  rw [all_two hX hM] at hmy
  have hf : (decide (nbits X ≤ 4096) && decide (nbits M ≤ 4096)) = false := by
    rw [Bool.eq_false_iff]
    intro hh
    simp only [Bool.and_eq_true, decide_eq_true_eq] at hh
    exact hno hh
  rw [hf] at hmy
  simp only [List.length_cons, List.length_nil, Nat.zero_add, Nat.reduceAdd] at hmy
  have hB0 : Below w.heap.size w (w.alloc (.cells #[.slice A a.length c, .slice A' b.length c'] 23)) := (Below.refl _ w).alloc (Nat.le_refl _) _
  have Hb := Lib.hid hb
  have Hmy := Lib.hid hmy
  clear hb hmy hf hno hnb
  go_enter Try.func44, Try.ntmps44
  go_wp2_with fail
  refine Hb.out.mono ?_
  rintro e w' ⟨rfl, rfl⟩
  go_wp2_with fail
  refine Hmy.out.mono ?_
  rintro e w' ⟨rfl, rfl⟩
  go_wp2
  go_ret2
  exact ⟨rfl, hB0⟩
end Go.Proofs.Ytnniellajmjmnaa
