/- modarith: rest, may, Gcd. -/
import Derived.Test.YtnniellajmjmnaaQuoLaw
import Derived.Test.YtnniellajmjmnaaBits
namespace Go.Proofs.Ytnniellajmjmnaa
open Go.RowKit

set_option maxRecDepth 100000 in
set_option maxHeartbeats 1000000 in
theorem rest_any (P P' : Nat → Prop) (A A' : Option Addr) (c c' : Nat) (a b : List Nat) (w : World) (h : RN w P A c a) (h' : RN w P' A' c' b) (hP : ∀ b, P b → b < w.heap.size) (hP' : ∀ b, P' b → b < w.heap.size) (hl : a.length < 90000) (hl' : b.length < 90000) (h0 : 0 < val 18446744073709551616 b) :
    Calls Try.prog 78 #[.slice A a.length c, .slice A' b.length c'] w fun e w' => ∃ A1 c1, e = .returned (.slice A1 (digs 18446744073709551616 (val 18446744073709551616 a % val 18446744073709551616 b)).length c1) ∧
      OB w' w.heap.size A1 c1 (digs 18446744073709551616 (val 18446744073709551616 a % val 18446744073709551616 b)) ∧ Below w.heap.size w w' := by
  have hq := Lib.hid (quo_any P P' A A' c c' a b w h h' hP hP' hl hl' h0)
  generalize val 18446744073709551616 a % val 18446744073709551616 b = r at *
  generalize val 18446744073709551616 a / val 18446744073709551616 b = q at *
  clear h0 hl hl'
  go_enter Try.func78, Try.ntmps78
  go_wp2_with fail
  refine hq.out.mono ?_
  rintro e w1 ⟨A1, c1, A2, c2, rfl, _, hO, hB⟩
  go_wp2
  go_ret
  exact ⟨A2, c2, rfl, hO, hB⟩

/-- The slice reads as numbers, one behind the other. -/
def RNN (w : World) (P : Nat → Prop) (A : Option Addr) (c : Nat) (ls : List (List Nat)) (cs : List Value) : Prop :=
  RS w P 1 A ls.length c cs ∧ ls.length ≤ 1000 ∧ ∀ (j : Nat) l, ls[j]? = some l → ∃ A' c', cs[j]? = some (.slice A' l.length c') ∧ RN w P A' c' l

set_option maxRecDepth 100000 in
set_option maxHeartbeats 1000000 in
theorem may_any (P : Nat → Prop) (A : Option Addr) (c : Nat) (ls : List (List Nat)) (cs : List Value) (w : World) (h : RNN w P A c ls cs) :
    Calls Try.prog 79 #[.slice A ls.length c] w fun e w' => e = .returned (.bool (ls.all fun l => decide (nbits (val 18446744073709551616 l) ≤ 4096))) ∧ w = w' := by
  obtain ⟨⟨h1, h2, h3, h4⟩, h5, h6⟩ := h
  go_enter Try.func79, Try.ntmps79
  go_wp2_with fail
  go_loopw [7] (fun iv wr => ∃ k : Nat, iv = .int .i64 (k : Int) ∧ k ≤ ls.length ∧ Hid ((ls.all fun l => decide (nbits (val 18446744073709551616 l) ≤ 4096)) = ((ls.drop k).all fun l => decide (nbits (val 18446744073709551616 l) ≤ 4096))) ∧ w = wr) (fun iv _ => ls.length - (intOf iv).toNat)
  case atStart => exact ⟨0, rfl, by omega, Lib.hid (by simp), rfl⟩
  case round =>
    obtain ⟨k, rfl, hk, hall, rfl⟩ := hrel
    by_cases hlt : k < ls.length
    · obtain ⟨ad, rfl, _, hc⟩ := h4 (by omega)
      obtain ⟨A1, c1, e1, hr⟩ := h6 k _ (List.getElem?_eq_getElem hlt)
      have hx := hc _ _ e1
      have hb := Lib.hid (bits_any P A1 c1 ls[k] w hr)
      have hd : (ls.drop k).all (fun l => decide (nbits (val 18446744073709551616 l) ≤ 4096)) = (decide (nbits (val 18446744073709551616 ls[k]) ≤ 4096) && (ls.drop (k + 1)).all fun l => decide (nbits (val 18446744073709551616 l) ≤ 4096)) := by
        rw [List.drop_eq_getElem_cons hlt, List.all_cons]
      obtain ⟨l, hl⟩ : ∃ l, ls[k] = l := ⟨_, rfl⟩
      rw [hl] at hx hb hd
      obtain ⟨nb, hnb⟩ : ∃ nb, nbits (val 18446744073709551616 l) = nb := ⟨_, rfl⟩
      rw [hnb] at hb hd
      have Hall := hall
      have Hd := Lib.hid hd
      clear hd hl hr e1 hc h4 h6 hnb hall
      go_wp2_with fail
      refine hb.out.mono ?_
      rintro e w' ⟨rfl, rfl⟩
      by_cases hbig : 4096 < nb
      · have hf := Lib.hid (show (ls.all fun l => decide (nbits (val 18446744073709551616 l) ≤ 4096)) = false from Hall.out.trans (by rw [Hd.out, decide_eq_false (by omega : ¬ nb ≤ 4096), Bool.false_and]))
        have t1 : decide ((4096 : Int) < (nb : Int)) = true := decide_eq_true (by omega)
        clear Hall Hd
        go_wp2
        go_ret
        exact ⟨by rw [hf.out]; rfl, rfl⟩
      · have hf := Hall.out.trans (by rw [Hd.out, decide_eq_true (by omega : nb ≤ 4096), Bool.true_and])
        have Hf := Lib.hid hf
        have t1 : decide ((4096 : Int) < (nb : Int)) = false := decide_eq_false (by omega)
        clear Hall Hd hf
        go_wp2
        go_roundw
        case rel => exact ⟨k + 1, by go_num, by omega, Hf, by first | rfl | trivial⟩
        case measure => simp [intOf]; omega
    · have hf := Lib.hid (show (ls.all fun l => decide (nbits (val 18446744073709551616 l) ≤ 4096)) = true from hall.out.trans (by rw [List.drop_of_length_le (by omega), List.all_nil]))
      clear hall h4 h6
      go_wp2
      go_ret
      exact ⟨by rw [hf.out]; rfl, rfl⟩

/-- The number that a slice reads as, whatever it is. -/
def readLimbs (w : World) (v : Value) : Nat := match v with
  | .slice (some a) n _ => val 18446744073709551616 ((List.range n).map fun i => match w.cell? (a.add i) with | some (.int _ z) => z.toNat | _ => 0)
  | _ => 0
theorem RN.read {w : World} {P : Nat → Prop} {A : Option Addr} {c : Nat} {l : List Nat} (h : RN w P A c l) : readLimbs w (.slice A l.length c) = val 18446744073709551616 l := by
  rcases Nat.eq_zero_or_pos l.length with h0 | h0
  · obtain rfl := List.eq_nil_of_length_eq_zero h0
    cases A <;> simp [readLimbs]
  · obtain ⟨ad, rfl, _, _⟩ := h.at_ h0
    simp only [readLimbs]
    congr 1
    apply List.ext_getElem?
    intro i
    rw [List.getElem?_map]
    by_cases hi : i < l.length
    · rw [List.getElem?_range hi, List.getElem?_eq_getElem hi, Option.map_some, h.cells i hi, getD_eq hi]
      simp
    · rw [List.getElem?_eq_none (by simp; omega), List.getElem?_eq_none (by omega)]
      rfl

set_option maxRecDepth 100000 in
set_option maxHeartbeats 1000000 in
theorem gcd_any (P P' : Nat → Prop) (A A' : Option Addr) (c c' : Nat) (a b : List Nat) (w : World) (h : RN w P A c a) (h' : RN w P' A' c' b) (_hP : ∀ b, P b → b < w.heap.size) (hP' : ∀ b, P' b → b < w.heap.size) (hl : a.length < 90000) (hl' : b.length < 90000) :
    Calls Try.prog 42 #[.slice A a.length c, .slice A' b.length c'] w fun e w' => ∃ A1 c1, e = .returned (.slice A1 (digs 18446744073709551616 (Nat.gcd (val 18446744073709551616 a) (val 18446744073709551616 b))).length c1) ∧
      OB w' w.heap.size A1 c1 (digs 18446744073709551616 (Nat.gcd (val 18446744073709551616 a) (val 18446744073709551616 b))) ∧ Below w.heap.size w w' := by
  have ha := Lib.hid (norm_any P A c a w h)
  have la := digs_length_le (B := 18446744073709551616) (by omega) h.2.1
  have lb := digs_length_le (B := 18446744073709551616) (by omega) h'.2.1
  have hb := Lib.hid (fun w1 (hB : Below w.heap.size w w1) => norm_any P' A' c' b w1 (h'.below hB hP'))
  generalize val 18446744073709551616 a = x at *
  generalize val 18446744073709551616 b = y at *
  go_enter Try.func42, Try.ntmps42
  go_wp2_with fail
  refine ha.out.mono ?_
  rintro e w1 ⟨A1, c1, rfl, hO1, hB1⟩
  have Hb := Lib.hid (hb.out w1 hB1)
  go_wp2_with fail
  refine Hb.out.mono ?_
  rintro e w2 ⟨A2, c2, rfl, hO2, hB2⟩
  have hs1 := hB1.size
  have hB02 := hB1.trans (hB2.mono hs1)
  have hx0 : OB w2 w.heap.size A1 c1 (digs 18446744073709551616 x) := hO1.below hB2 (Nat.le_refl _)
  have hy0 : OB w2 w.heap.size A2 c2 (digs 18446744073709551616 y) := hO2.mono hs1
  clear ha hb Hb hO1 hO2
  go_wp2_with fail
  go_loopw [0, 1] (fun av bv wr => ∃ (A1 A2 : Option Addr) (c1 c2 u v : Nat), av = .slice A1 (digs 18446744073709551616 u).length c1 ∧ bv = .slice A2 (digs 18446744073709551616 v).length c2 ∧ OB wr w.heap.size A1 c1 (digs 18446744073709551616 u) ∧ OB wr w.heap.size A2 c2 (digs 18446744073709551616 v) ∧ Hid (Nat.gcd u v = Nat.gcd x y) ∧ (digs 18446744073709551616 u).length < 90000 ∧ (digs 18446744073709551616 v).length < 90000 ∧ Below w.heap.size w wr)
    (fun _ bv wr => readLimbs wr bv)
  case atStart => exact ⟨A1, A2, c1, c2, x, y, rfl, rfl, hx0, hy0, Lib.hid rfl, by omega, by omega, hB02⟩
  case round =>
    clear hx0 hy0 hB02
    obtain ⟨A1, A2, c1, c2, u, v, rfl, rfl, hu, hv, hg, hlu, hlv, hB⟩ := hrel
    have hs := hB.size
    by_cases h0 : v = 0
    · subst h0
      rw [digs_zero] at *
      have hg' := hg.out
      rw [Nat.gcd_zero_right] at hg'
      have Hg := Lib.hid hg'
      clear hg hg'
      go_wp2
      go_ret
      exact ⟨A1, c1, by rw [← Hg.out]; rfl, by rw [← Hg.out]; exact hu, hB⟩
    · have hlp : 0 < (digs 18446744073709551616 v).length := by rw [digs_pos (by omega) (by omega)]; simp
      have kp : (0 : Int) < ((digs 18446744073709551616 v).length : Int) := by omega
      have hr := rest_any _ _ A1 A2 c1 c2 _ _ wr hu.rn hv.rn (fun b hb => hb.2) (fun b hb => hb.2) hlu hlv (by rw [val_digs (by omega)]; omega)
      rw [val_digs (by omega), val_digs (by omega)] at hr
      have Hr := Lib.hid hr
      have hrd := hv.rn.read
      rw [val_digs (by omega)] at hrd
      have hmod := Nat.mod_lt u (show 0 < v by omega)
      have hlm : (digs 18446744073709551616 (u % v)).length < 90000 := by have := digs_length_mono (B := 18446744073709551616) (by omega) (Nat.le_of_lt hmod); omega
      have Hg2 := Lib.hid (show Nat.gcd v (u % v) = Nat.gcd x y by rw [← hg.out, Nat.gcd_comm u v, Nat.gcd_rec v u, Nat.gcd_comm])
      have Hrd := Lib.hid hrd
      clear hr hrd hg
      go_wp2_with fail
      refine Hr.out.mono ?_
      rintro e w3 ⟨A3, c3, rfl, hO3, hB3⟩
      have hrd3 := hO3.rn.read
      rw [val_digs (by omega)] at hrd3
      have Hrd3 := Lib.hid hrd3
      have hv3 := hv.below hB3 (Nat.le_refl _)
      have hO3' := hO3.mono hs
      have hB03 := hB.trans (hB3.mono hs)
      clear hrd3
      go_wp2
      go_roundw
      case rel => exact ⟨A2, A3, c2, c3, v, u % v, rfl, rfl, hv3, hO3', Hg2, hlv, hlm, hB03⟩
      case measure => rw [Hrd.out, Hrd3.out]; exact hmod
end Go.Proofs.Ytnniellajmjmnaa
