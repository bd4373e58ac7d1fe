/- What limb.Cmp and the reference's compute: the order of two numbers. -/
import Derived.Test.YtldhmjfjbalakaaGreatTrim
import Derived.Deep.QuietTactic
import Derived.BigQuiet
namespace Go.Proofs.YtldhmjfjbalakaaGreat
open Go.RowKit

/-- The order of two numbers. -/
def cmpV (x y : Nat) : Int := if x < y then -1 else if x = y then 0 else 1
theorem cmpV_lt {x y : Nat} (h : x < y) : cmpV x y = -1 := by simp [cmpV, h]
theorem cmpV_gt {x y : Nat} (h : y < x) : cmpV x y = 1 := by simp [cmpV, show ¬ x < y by omega, show ¬ x = y by omega]
theorem cmpV_eq (x : Nat) : cmpV x x = 0 := by simp [cmpV]
theorem cmpV_cases (x y : Nat) : (x < y ∧ cmpV x y = -1) ∨ (x = y ∧ cmpV x y = 0) ∨ (y < x ∧ cmpV x y = 1) := by
  rcases Nat.lt_trichotomy x y with h | h | h
  · exact .inl ⟨h, cmpV_lt h⟩
  · exact .inr (.inl ⟨h, by rw [h]; exact cmpV_eq y⟩)
  · exact .inr (.inr ⟨h, cmpV_gt h⟩)

/-- From place k on the two have equal digits; i is the place below. -/
def CmpAt (l m : List Nat) (k : Nat) (i : Int) : Prop := k ≤ l.length ∧ l.drop k = m.drop k ∧ ((k = 0 ∧ i = -1) ∨ ∃ j : Nat, k = j + 1 ∧ i = (j : Int))
theorem CmpAt.start {l m : List Nat} (h : l.length = m.length) : CmpAt l m l.length ((l.length : Int) - 1) := by
  refine ⟨Nat.le_refl _, by rw [List.drop_length, h, List.drop_length], ?_⟩
  rcases hl : l.length with _ | n
  · exact .inl ⟨rfl, by simp⟩
  · exact .inr ⟨n, rfl, by omega⟩
theorem CmpAt.step {l m : List Nat} {j : Nat} {i : Int} (h : CmpAt l m (j + 1) i) (hl : l.length = m.length) (he : dg l j = dg m j) : CmpAt l m j ((j : Int) - 1) := by
  obtain ⟨h1, h2, _⟩ := h
  refine ⟨by omega, ?_, ?_⟩
  · rw [List.drop_eq_getElem_cons (by omega : j < l.length), List.drop_eq_getElem_cons (by omega : j < m.length), h2]
    rw [dg, dg, getD_eq' (by omega), getD_eq' (by omega)] at he
    rw [he]
  · rcases j with _ | j
    · exact .inl ⟨rfl, by simp⟩
    · exact .inr ⟨j, rfl, by omega⟩
theorem CmpAt.done {l m : List Nat} {i : Int} (h : CmpAt l m 0 i) : l = m := by simpa using h.2.1
theorem CmpAt.lt {B : Nat} {l m : List Nat} {j : Nat} {i : Int} (h : CmpAt l m (j + 1) i) (hl : l.length = m.length) (hB : ∀ x ∈ l, x < B) (hd : dg l j < dg m j) : val B l < val B m := by
  obtain ⟨h1, h2, _⟩ := h
  refine val_lt_of hB hl (i := j) (by omega) h2 ?_
  rwa [dg, dg, getD_eq' (by omega), getD_eq' (by omega)] at hd
theorem CmpAt.gt {B : Nat} {l m : List Nat} {j : Nat} {i : Int} (h : CmpAt l m (j + 1) i) (hl : l.length = m.length) (hB : ∀ x ∈ m, x < B) (hd : dg m j < dg l j) : val B m < val B l := by
  obtain ⟨h1, h2, _⟩ := h
  refine val_lt_of hB hl.symm (i := j) (by omega) h2.symm ?_
  rwa [dg, dg, getD_eq' (by omega), getD_eq' (by omega)] at hd

set_option maxHeartbeats 1000000 in
theorem refCmp_any (P P' : Nat → Prop) (A A' : Option Addr) (c c' : Nat) (x y : Nat) (w : World) (h : RN w P A c (digs 4294967296 x)) (h' : RN w P' A' c' (digs 4294967296 y)) :
    Calls Tryz.prog 71 #[.slice A (digs 4294967296 x).length c, .slice A' (digs 4294967296 y).length c'] w fun e w' => e = .returned (.int .i64 (cmpV x y)) ∧ ∃ n, w' = w.drewN n := by
  have hx := val_digs (B := 4294967296) (by omega) x
  have hy := val_digs (B := 4294967296) (by omega) y
  have bx := digs_lt (B := 4294967296) (by omega) x
  have byy := digs_lt (B := 4294967296) (by omega) y
  have hlt := lt_of_digs_length (B := 4294967296) (m := x) (n := y) (by omega)
  have hgt := lt_of_digs_length (B := 4294967296) (m := y) (n := x) (by omega)
  generalize digs 4294967296 x = l at *
  generalize digs 4294967296 y = m at *
  obtain ⟨h1, h2, h3⟩ := h.cap
  obtain ⟨g1, g2, g3⟩ := h'.cap
  have Hx := Lib.hid hx
  have Hy := Lib.hid hy
  clear hx hy
  by_cases hl : l.length = m.length
  · have hs := CmpAt.start hl
    have Hl := Lib.hid hl
    have hl1 : ((l.length : Int) != (m.length : Int)) = false := by simp [hl]
    clear hl hlt hgt
    have Hs := Lib.hid hs
    clear hs
    go_enter Tryz.func71, Tryz.ntmps71
    go_wp2
    go_loopw [5] (fun i wr => ∃ (k n : Nat) (z : Int), CmpAt l m k z ∧ i = .int .i64 z ∧ wr = w.drewN n) (fun i _ => (intOf i + 1).toNat)
    case atStart => exact ⟨l.length, 0, _, Hs.out, rfl, rfl⟩
    case round =>
      obtain ⟨k, n, z, hk, rfl, rfl⟩ := hrel
      obtain ⟨hk1, hk2, ⟨rfl, rfl⟩ | ⟨j, rfl, rfl⟩⟩ := hk
      · have he : l = m := by simpa using hk2
        have hxy : x = y := by rw [← Hx.out, ← Hy.out, he]
        have hc := Lib.hid (show cmpV x y = 0 by rw [hxy]; exact cmpV_eq y)
        clear he hxy hk2
        go_wp2
        go_ret
        rw [hc.out]
        exact ⟨rfl, n, rfl⟩
      · have hlm := Hl.out
        obtain ⟨ad, rfl, _, q1⟩ := h.at_ (i := j) (by omega)
        obtain ⟨ae, rfl, _, q2⟩ := h'.at_ (i := j) (by omega)
        have hj1 : (j : Int) < (l.length : Int) := by omega
        have hj2 : (j : Int) < (m.length : Int) := by omega
        have hkk : CmpAt l m (j + 1) (j : Int) := ⟨hk1, hk2, .inr ⟨j, rfl, rfl⟩⟩
        rcases Nat.lt_trichotomy (dg l j) (dg m j) with hd | hd | hd
        · have hv := hkk.lt hlm bx hd
          rw [Hx.out, Hy.out] at hv
          have hc := Lib.hid (cmpV_lt hv)
          have hd1 : decide (dg l j < dg m j) = true := by simpa using hd
          clear hkk hk1 hk2 hlm hd hv
          go_wp2
          go_quiet (fail)
          go_wp2
          go_ret
          rw [hc.out]
          exact ⟨rfl, by first | exact dr2 _ _ _ | exact dr1 _ _⟩
        · have hkk' := hkk.step hlm hd
          rw [← hd] at q2
          clear hkk hk1 hk2 hlm hd
          go_wp2
          go_quiet (fail)
          go_wp2
          go_quiet (fail)
          go_wp2
          go_roundw
          case rel => exact ⟨j, _, _, hkk', rfl, by first | rfl | exact drewN_3 _ _ _ _⟩
          case measure => simp [intOf]
        · have hv := hkk.gt hlm byy hd
          rw [Hx.out, Hy.out] at hv
          have hc := Lib.hid (cmpV_gt hv)
          have hd1 : decide (dg l j < dg m j) = false := by simp; omega
          have hd2 : decide (dg m j < dg l j) = true := by simpa using hd
          clear hkk hk1 hk2 hlm hd hv
          go_wp2
          go_quiet (fail)
          go_wp2
          go_quiet (fail)
          go_wp2
          go_ret
          rw [hc.out]
          exact ⟨rfl, by first | exact dr3 _ _ _ _ | exact dr1 _ _⟩
  · have hl1 : ((l.length : Int) != (m.length : Int)) = true := neB (by omega)
    rcases Nat.lt_or_ge l.length m.length with hd | hd
    · have hc := Lib.hid (cmpV_lt (hlt hd))
      clear hl hlt hgt
      go_enter Tryz.func71, Tryz.ntmps71
      go_wp2
      go_ret
      rw [hc.out]
      exact ⟨rfl, 0, rfl⟩
    · have hc := Lib.hid (cmpV_gt (hgt (by omega)))
      clear hl hlt hgt
      go_enter Tryz.func71, Tryz.ntmps71
      go_wp2
      go_ret
      rw [hc.out]
      exact ⟨rfl, 0, rfl⟩

set_option maxHeartbeats 1000000 in
theorem cmp_any (P P' : Nat → Prop) (A A' : Option Addr) (c c' : Nat) (a b : List Nat) (w : World) (h : RN w P A c a) (h' : RN w P' A' c' b) :
    Calls Tryz.prog 114 #[.slice A a.length c, .slice A' b.length c'] w fun e w' => e = .returned (.int .i64 (cmpV (val 18446744073709551616 a) (val 18446744073709551616 b))) ∧ ∃ n, w' = w.drewN n := by
  have ta := Lib.hid (trim_any P A c a w h)
  have tb := Lib.hid (trim_any P' A' c' b w h')
  replace h := h.trim
  replace h' := h'.trim
  generalize val 18446744073709551616 a = x at *
  generalize val 18446744073709551616 b = y at *
  have hx := val_digs (B := 18446744073709551616) (by omega) x
  have hy := val_digs (B := 18446744073709551616) (by omega) y
  have bx := digs_lt (B := 18446744073709551616) (by omega) x
  have byy := digs_lt (B := 18446744073709551616) (by omega) y
  have hlt := lt_of_digs_length (B := 18446744073709551616) (m := x) (n := y) (by omega)
  have hgt := lt_of_digs_length (B := 18446744073709551616) (m := y) (n := x) (by omega)
  generalize digs 18446744073709551616 x = l at *
  generalize digs 18446744073709551616 y = m at *
  obtain ⟨h1, h2, h3⟩ := h.cap
  obtain ⟨g1, g2, g3⟩ := h'.cap
  have Hx := Lib.hid hx
  have Hy := Lib.hid hy
  clear hx hy
  by_cases hl : l.length = m.length
  · have hs := CmpAt.start hl
    have Hl := Lib.hid hl
    have hl1 : ((l.length : Int) != (m.length : Int)) = false := by simp [hl]
    clear hl hlt hgt
    have Hs := Lib.hid hs
    clear hs
    go_enter Tryz.func114, Tryz.ntmps114
    go_wp2_with fail
    refine ta.out.mono ?_
    rintro e w1 ⟨rfl, rfl⟩
    go_wp2_with fail
    refine tb.out.mono ?_
    rintro e w1 ⟨rfl, rfl⟩
    go_wp2
    go_loopw [5] (fun i wr => ∃ (k n : Nat) (z : Int), CmpAt l m k z ∧ i = .int .i64 z ∧ wr = w.drewN n) (fun i _ => (intOf i + 1).toNat)
    case atStart => exact ⟨l.length, 0, _, Hs.out, rfl, rfl⟩
    case round =>
      obtain ⟨k, n, z, hk, rfl, rfl⟩ := hrel
      obtain ⟨hk1, hk2, ⟨rfl, rfl⟩ | ⟨j, rfl, rfl⟩⟩ := hk
      · have he : l = m := by simpa using hk2
        have hxy : x = y := by rw [← Hx.out, ← Hy.out, he]
        have hc := Lib.hid (show cmpV x y = 0 by rw [hxy]; exact cmpV_eq y)
        clear he hxy hk2
        go_wp2
        go_ret
        rw [hc.out]
        exact ⟨rfl, n, rfl⟩
      · have hlm := Hl.out
        obtain ⟨ad, rfl, _, q1⟩ := h.at_ (i := j) (by omega)
        obtain ⟨ae, rfl, _, q2⟩ := h'.at_ (i := j) (by omega)
        have hj1 : (j : Int) < (l.length : Int) := by omega
        have hj2 : (j : Int) < (m.length : Int) := by omega
        have hkk : CmpAt l m (j + 1) (j : Int) := ⟨hk1, hk2, .inr ⟨j, rfl, rfl⟩⟩
        rcases Nat.lt_trichotomy (dg l j) (dg m j) with hd | hd | hd
        · have hv := hkk.lt hlm bx hd
          rw [Hx.out, Hy.out] at hv
          have hc := Lib.hid (cmpV_lt hv)
          have hd0 : (((dg l j : Nat) : Int) != ((dg m j : Nat) : Int)) = true := neB (by omega)
          have hd1 : decide (dg l j < dg m j) = true := by simpa using hd
          clear hkk hk1 hk2 hlm hd hv
          go_wp2
          go_quiet (fail)
          go_wp2
          go_quiet (fail)
          go_wp2
          go_ret
          rw [hc.out]
          exact ⟨rfl, by first | exact dr3 _ _ _ _ | exact dr1 _ _⟩
        · have hkk' := hkk.step hlm hd
          rw [← hd] at q2
          clear hkk hk1 hk2 hlm hd
          go_wp2
          go_quiet (fail)
          go_wp2
          go_roundw
          case rel => exact ⟨j, _, _, hkk', rfl, by first | rfl | exact drewN_add _ _ _⟩
          case measure => simp [intOf]
        · have hv := hkk.gt hlm byy hd
          rw [Hx.out, Hy.out] at hv
          have hc := Lib.hid (cmpV_gt hv)
          have hd0 : (((dg l j : Nat) : Int) != ((dg m j : Nat) : Int)) = true := neB (by omega)
          have hd1 : decide (dg l j < dg m j) = false := by simp; omega
          clear hkk hk1 hk2 hlm hd hv
          go_wp2
          go_quiet (fail)
          go_wp2
          go_quiet (fail)
          go_wp2
          go_ret
          rw [hc.out]
          exact ⟨rfl, by first | exact dr3 _ _ _ _ | exact dr1 _ _⟩
  · have hl1 : ((l.length : Int) != (m.length : Int)) = true := neB (by omega)
    rcases Nat.lt_or_ge l.length m.length with hd | hd
    · have hc := Lib.hid (cmpV_lt (hlt hd))
      clear hl hlt hgt
      go_enter Tryz.func114, Tryz.ntmps114
      go_wp2_with fail
      refine ta.out.mono ?_
      rintro e w1 ⟨rfl, rfl⟩
      go_wp2_with fail
      refine tb.out.mono ?_
      rintro e w1 ⟨rfl, rfl⟩
      go_wp2
      go_ret
      rw [hc.out]
      exact ⟨rfl, 0, rfl⟩
    · have hc := Lib.hid (cmpV_gt (hgt (by omega)))
      clear hl hlt hgt
      go_enter Tryz.func114, Tryz.ntmps114
      go_wp2_with fail
      refine ta.out.mono ?_
      rintro e w1 ⟨rfl, rfl⟩
      go_wp2_with fail
      refine tb.out.mono ?_
      rintro e w1 ⟨rfl, rfl⟩
      go_wp2
      go_ret
      rw [hc.out]
      exact ⟨rfl, 0, rfl⟩
end Go.Proofs.YtldhmjfjbalakaaGreat
