/- What limb.trim, made, Of, Norm and the reference's trim compute. What limb.Cmp and the reference's compute: the order of two numbers. What limb.Sub computes. What limb.Mul computes. What the reference's From, Of, To and Is compute. What the reference's Is, and the laws' Cut and few, compute. What the reference's Add and Sub compute. What the reference's Sub and Mul compute. Plain arithmetic of bits.Div64: one step of a division of three halves by two; nothing of the program. What bits.Div64 computes. -/
import Derived.Test.YtaemogcomplhiaaGreatDoorQedbe9731ca65
import Derived.Deep.QuietTactic
import Derived.BigQuiet
import Derived.Lib.BitFns
import Derived.Lib.ItoaNum
import Derived.Deep.CutBlock
import Derived.IntWalk
import Derived.Laws.Bits64b
namespace Go.Proofs.YtaemogcomplhiaaGreatDoor
open Go.RowKit

def CutAt (l : List Nat) (k : Nat) : Prop := k ≤ l.length ∧ ∀ x ∈ l.drop k, x = 0
theorem CutAt.zero (l : List Nat) : CutAt l l.length := ⟨Nat.le_refl _, by simp⟩
theorem CutAt.step {l : List Nat} {k : Nat} (h : CutAt l (k + 1)) (h0 : dg l k = 0) : CutAt l k := by
 obtain ⟨h1, h2⟩ := h
 refine ⟨by omega, fun x hx => ?_⟩
 rw [List.drop_eq_getElem_cons (by omega : k < l.length)] at hx
 rcases List.mem_cons.1 hx with rfl | hx
 · rwa [getD_eq (by omega)] at h0
 · exact h2 x hx
theorem CutAt.fin {B : Nat} (hB : 2 ≤ B) {l : List Nat} (hl : ∀ x ∈ l, x < B) {k : Nat} (h : CutAt l k) (h0 : 0 < k → dg l (k - 1) ≠ 0) : l.take k = digs B (val B l) :=
 take_digs hB hl h.1 h.2 h0
theorem CutAt.len {B : Nat} (hB : 2 ≤ B) {l : List Nat} (hl : ∀ x ∈ l, x < B) {k : Nat} (h : CutAt l k) (h0 : 0 < k → dg l (k - 1) ≠ 0) : (digs B (val B l)).length = k := by
 rw [← h.fin hB hl h0, List.length_take, Nat.min_eq_left h.1]

set_option maxHeartbeats 400000 in
theorem trim_any (P : Nat → Prop) (A : Option Addr) (c : Nat) (l : List Nat) (w : World) (h : RN w P A c l) :
 Calls Tryz.prog 85 #[.slice A l.length c] w fun e w' => e = .returned (.slice A (digs 18446744073709551616 (val 18446744073709551616 l)).length c) ∧ w = w' := by
 obtain ⟨h1, h2, h3⟩ := h.cap
 go_enter Tryz.func85, Tryz.ntmps85
 go_wp2
 go_loop [3] (fun n => ∃ k : Nat, CutAt l k ∧ n = .int .i64 k) (fun n => (intOf n).toNat)
 case atStart => exact ⟨l.length, CutAt.zero l, rfl⟩
 case round =>
  obtain ⟨k, hk, rfl⟩ := hrel
  rcases k with _ | k
  · have hl := Lib.hid (hk.len (B := 18446744073709551616) (by omega) h.2.1 (by omega))
    go_wp2
    go_ret
    rw [hl.out]
    exact ⟨rfl, rfl⟩
  · obtain ⟨ad, rfl, _, hc⟩ := h.at_ (i := k) (by have := hk.1; omega)
    have hkl := hk.1
    by_cases h0 : dg l k = 0
    · rw [h0] at hc
      have hk' := hk.step h0
      clear hk h0
      go_wp2
      go_round
      case rel => exact ⟨k, hk', by go_num⟩
      case measure => simp [intOf]
    · have hl := Lib.hid (hk.len (B := 18446744073709551616) (by omega) h.2.1 (fun _ => h0))
      have h0' : (((dg l k : Nat) : Int) == 0) = false := eqB (by omega)
      clear h0
      go_wp2
      go_ret
      rw [hl.out]
      exact ⟨rfl, rfl⟩

theorem RN.trim {w : World} {P : Nat → Prop} {A : Option Addr} {c : Nat} {l : List Nat} (h : RN w P A c l) : RN w P A c (digs 18446744073709551616 (val 18446744073709551616 l)) := by
 obtain ⟨n, _, e⟩ := h.2.trim
 rw [e]
 exact h.take n
theorem OB.trim {w : World} {base : Nat} {A : Option Addr} {c : Nat} {l : List Nat} (h : OB w base A c l) : OB w base A c (digs 18446744073709551616 (val 18446744073709551616 l)) := by
 obtain ⟨n, _, e⟩ := h.1.trim
 rw [e]
 exact h.take n

def Dig (l : List Nat) : Prop := ∀ x ∈ l, x < 4294967296
theorem Dig.cut {l : List Nat} (h : Dig l) : ∃ n, n ≤ l.length ∧ l.take n = digs 4294967296 (val 4294967296 l) := by
  have : ∀ k, k ≤ l.length → (∀ x ∈ l.drop k, x = 0) → ∃ n, n ≤ l.length ∧ (∀ x ∈ l.drop n, x = 0) ∧ (0 < n → l.getD (n - 1) 0 ≠ 0) := by
    intro k
    induction k with
    | zero => intro _ hz; exact ⟨0, by omega, hz, by omega⟩
    | succ k ih =>
      intro hk hz
      by_cases h : l.getD k 0 = 0
      · refine ih (by omega) fun x hx => ?_
        rw [List.drop_eq_getElem_cons (by omega : k < l.length)] at hx
        rcases List.mem_cons.1 hx with rfl | hx
        · rwa [show l.getD k 0 = l[k] from getD_eq (by omega)] at h
        · exact hz x hx
      · exact ⟨k + 1, hk, hz, fun _ => by simpa using h⟩
  obtain ⟨n, hn, hz, h0⟩ := this l.length (Nat.le_refl _) (by simp)
  exact ⟨n, hn, take_digs (by omega) h hn hz h0⟩
theorem RS.recap {w : World} {P : Nat → Prop} {size : Nat} {A : Option Addr} {n c c' : Nat} {cs : List Value} (h : RS w P size A n c cs) (hc : n ≤ c') (hc' : c' ≤ maxLen) : RS w P size A n c' cs := ⟨hc, hc', h.2.2⟩
theorem RN.trim32 {w : World} {P : Nat → Prop} {A : Option Addr} {c : Nat} {l : List Nat} (h : RN w P A c l) (hl : Dig l) : RN w P A (digs 4294967296 (val 4294967296 l)).length (digs 4294967296 (val 4294967296 l)) := by
 obtain ⟨n, _, e⟩ := hl.cut
 rw [← e]
 have := h.take n
 exact ⟨this.1.recap (Nat.le_refl _) (by have := this.cap; unfold maxLen; omega), this.2⟩
theorem RN.recap {w : World} {P : Nat → Prop} {A : Option Addr} {c c' : Nat} {l : List Nat} (h : RN w P A c l) (hc : l.length ≤ c') (hc' : c' ≤ maxLen) : RN w P A c' l := ⟨h.1.recap hc hc', h.2⟩

set_option maxHeartbeats 400000 in
theorem refTrim_any (P : Nat → Prop) (A : Option Addr) (c : Nat) (l : List Nat) (w : World) (h : RN w P A c l) (hd : Dig l) :
 Calls Tryz.prog 37 #[.slice A l.length c] w fun e w' => e = .returned (.slice A (digs 4294967296 (val 4294967296 l)).length (digs 4294967296 (val 4294967296 l)).length) ∧ w = w' := by
 obtain ⟨h1, h2, h3⟩ := h.cap
 go_enter Tryz.func37, Tryz.ntmps37
 go_wp2
 go_loop [3] (fun n => ∃ k : Nat, CutAt l k ∧ n = .int .i64 k) (fun n => (intOf n).toNat)
 case atStart => exact ⟨l.length, CutAt.zero l, rfl⟩
 case round =>
  obtain ⟨k, hk, rfl⟩ := hrel
  rcases k with _ | k
  · have hl := Lib.hid (hk.len (B := 4294967296) (by omega) hd (by omega))
    go_wp2
    go_ret
    rw [hl.out]
    exact ⟨rfl, rfl⟩
  · obtain ⟨ad, rfl, _, hc⟩ := h.at_ (i := k) (by have := hk.1; omega)
    have hkl := hk.1
    by_cases h0 : dg l k = 0
    · rw [h0] at hc
      have hk' := hk.step h0
      clear hk h0
      go_wp2
      go_round
      case rel => exact ⟨k, hk', by go_num⟩
      case measure => simp [intOf]
    · have hl := Lib.hid (hk.len (B := 4294967296) (by omega) hd (fun _ => h0))
      have h0' : (((dg l k : Nat) : Int) == 0) = false := eqB (by omega)
      clear h0
      go_wp2
      go_ret
      rw [hl.out]
      exact ⟨rfl, rfl⟩

set_option maxHeartbeats 400000 in
theorem made_any (P : Nat → Prop) (A : Option Addr) (c : Nat) (l : List Nat) (w : World) (h : RN w P A c l) :
 Calls Tryz.prog 94 #[.slice A l.length c] w fun e w' => ∃ A' c', e = .returned (.slice A' (digs 18446744073709551616 (val 18446744073709551616 l)).length c') ∧ OB w' w.heap.size A' c' (digs 18446744073709551616 (val 18446744073709551616 l)) ∧ Below w.heap.size w w' := by
 obtain ⟨i0, hi, hz0, hz1, hz2⟩ := info_parts info64
 have ht := h.trim
 obtain ⟨n, _, e⟩ := h.2.trim
 have hcap := ht.cap
 obtain ⟨d, hd⟩ : ∃ d, digs 18446744073709551616 (val 18446744073709551616 l) = d := ⟨_, rfl⟩
 have Htr := Lib.hid (trim_any P A c l w h)
 rw [hd] at ht hcap Htr ⊢
 obtain ⟨h1, h2, h3⟩ := hcap
 clear hd e
 go_enter Tryz.func94, Tryz.ntmps94
 go_wp2_with fail
 refine Htr.out.mono ?_
 rintro e w1 ⟨rfl, rfl⟩
 go_wp2_with (at_builtin; refine wpList_append_rs _ rfl _ _ 24 rfl w.heap.size 65 i0 (.int .u64 0) 1 8 Tryz.underlying24 hi hz0 hz1 hz2 rfl (by decide) _ 0 [] rfl (World.ownsRow_nil _ _ _ _) P A d.length c (nts d) rfl ht.1 (oneCell_nts d) d.length (by omega) (by unfold maxLen; omega) (by omega) (Nat.le_refl _) ?_)
 intro A' c' w1 hown hgrow hblk
 go_wp2
 go_ret
 exact ⟨A', c', rfl, OB.of_own (by simpa using hown) ht.2, (Below.refl _ w).grown hgrow (Nat.le_refl _) (by intro k hk; simp [Value.ownBlock] at hk)⟩

set_option maxHeartbeats 400000 in
theorem norm_any (P : Nat → Prop) (A : Option Addr) (c : Nat) (l : List Nat) (w : World) (h : RN w P A c l) :
 Calls Tryz.prog 100 #[.slice A l.length c] w fun e w' => ∃ A' c', e = .returned (.slice A' (digs 18446744073709551616 (val 18446744073709551616 l)).length c') ∧ OB w' w.heap.size A' c' (digs 18446744073709551616 (val 18446744073709551616 l)) ∧ Below w.heap.size w w' := by
 go_enter Tryz.func100, Tryz.ntmps100
 go_wp2_with fail
 refine (made_any P A c l w h).mono ?_
 rintro e w1 ⟨A', c', rfl, hO, hB⟩
 go_wp2
 go_ret
 exact ⟨A', c', rfl, hO, hB⟩

set_option maxHeartbeats 400000 in
theorem of_any (x : Nat) (w : World) (hx : x < 18446744073709551616) :
 Calls Tryz.prog 67 #[.int .u64 (x : Int)] w fun e w' => ∃ A' c', e = .returned (.slice A' (digs 18446744073709551616 x).length c') ∧ OB w' w.heap.size A' c' (digs 18446744073709551616 x) ∧ Below w.heap.size w w' := by
 have hv : val 18446744073709551616 [x] = x := by simp
 have hm := fun P A c w => made_any P A c [x] w
 rw [hv] at hm
 have Hm := Lib.hid hm
 clear hm hv
 go_enter Tryz.func67, Tryz.ntmps67
 go_wp2_with fail
 refine (Hm.out (In w.heap.size (w.heap.size + 1)) _ _ _ ⟨RS.fresh #[.int .u64 (x : Int)] 65 1 1 rfl (by unfold maxLen; omega) ⟨Nat.le_refl _, by omega⟩, by simpa [Lim] using hx⟩).mono ?_
 rintro e w1 ⟨A', c', rfl, hO, hB⟩
 go_wp2
 go_ret
 exact ⟨A', c', rfl, hO.mono (by simp), ((Below.refl _ w).alloc (Nat.le_refl _) _).trans (hB.mono (by simp))⟩
end Go.Proofs.YtaemogcomplhiaaGreatDoor

namespace Go.Proofs.YtaemogcomplhiaaGreatDoor
open Go.RowKit

def cmpV (x y : Nat) : Int := if x < y then -1 else if x = y then 0 else 1
theorem cmpV_lt {x y : Nat} (h : x < y) : cmpV x y = -1 := by simp [cmpV, h]
theorem cmpV_gt {x y : Nat} (h : y < x) : cmpV x y = 1 := by simp [cmpV, show ¬ x < y by omega, show ¬ x = y by omega]
theorem cmpV_eq (x : Nat) : cmpV x x = 0 := by simp [cmpV]
theorem cmpV_cases (x y : Nat) : (x < y ∧ cmpV x y = -1) ∨ (x = y ∧ cmpV x y = 0) ∨ (y < x ∧ cmpV x y = 1) := by
 rcases Nat.lt_trichotomy x y with h | h | h
 · exact .inl ⟨h, cmpV_lt h⟩
 · exact .inr (.inl ⟨h, by rw [h]; exact cmpV_eq y⟩)
 · exact .inr (.inr ⟨h, cmpV_gt h⟩)

def CmpAt (l m : List Nat) (k : Nat) (i : Int) : Prop := k ≤ l.length ∧ l.drop k = m.drop k ∧ ((k = 0 ∧ i = -1) ∨ ∃ j : Nat, k = j + 1 ∧ i = (j : Int))
theorem CmpAt.start {l m : List Nat} (h : l.length = m.length) : CmpAt l m l.length ((l.length : Int) - 1) := by
 refine ⟨Nat.le_refl _, by rw [List.drop_length, h, List.drop_length], ?_⟩
 rcases hl : l.length with _ | n
 · exact .inl ⟨rfl, by simp⟩
 · exact .inr ⟨n, rfl, by omega⟩
theorem CmpAt.step {l m : List Nat} {j : Nat} {i : Int} (h : CmpAt l m (j + 1) i) (hl : l.length = m.length) (he : dg l j = dg m j) : CmpAt l m j ((j : Int) - 1) := by
 obtain ⟨h1, h2, _⟩ := h
 refine ⟨by omega, ?_, ?_⟩
 · rw [List.drop_eq_getElem_cons (by omega : j < l.length), List.drop_eq_getElem_cons (by omega : j < m.length), h2]
   rw [dg, dg, getD_eq' (by omega), getD_eq' (by omega)] at he
   rw [he]
 · rcases j with _ | j
   · exact .inl ⟨rfl, by simp⟩
   · exact .inr ⟨j, rfl, by omega⟩
theorem CmpAt.done {l m : List Nat} {i : Int} (h : CmpAt l m 0 i) : l = m := by simpa using h.2.1
theorem CmpAt.lt {B : Nat} {l m : List Nat} {j : Nat} {i : Int} (h : CmpAt l m (j + 1) i) (hl : l.length = m.length) (hB : ∀ x ∈ l, x < B) (hd : dg l j < dg m j) : val B l < val B m := by
 obtain ⟨h1, h2, _⟩ := h
 refine val_lt_of hB hl (i := j) (by omega) h2 ?_
 rwa [dg, dg, getD_eq' (by omega), getD_eq' (by omega)] at hd
theorem CmpAt.gt {B : Nat} {l m : List Nat} {j : Nat} {i : Int} (h : CmpAt l m (j + 1) i) (hl : l.length = m.length) (hB : ∀ x ∈ m, x < B) (hd : dg m j < dg l j) : val B m < val B l := by
 obtain ⟨h1, h2, _⟩ := h
 refine val_lt_of hB hl.symm (i := j) (by omega) h2.symm ?_
 rwa [dg, dg, getD_eq' (by omega), getD_eq' (by omega)] at hd

set_option maxHeartbeats 1000000 in
theorem refCmp_any (P P' : Nat → Prop) (A A' : Option Addr) (c c' : Nat) (x y : Nat) (w : World) (h : RN w P A c (digs 4294967296 x)) (h' : RN w P' A' c' (digs 4294967296 y)) :
 Calls Tryz.prog 38 #[.slice A (digs 4294967296 x).length c, .slice A' (digs 4294967296 y).length c'] w fun e w' => e = .returned (.int .i64 (cmpV x y)) ∧ ∃ n, w' = w.drewN n := by
 have hx := val_digs (B := 4294967296) (by omega) x
 have hy := val_digs (B := 4294967296) (by omega) y
 have bx := digs_lt (B := 4294967296) (by omega) x
 have byy := digs_lt (B := 4294967296) (by omega) y
 have hlt := lt_of_digs_length (B := 4294967296) (m := x) (n := y) (by omega)
 have hgt := lt_of_digs_length (B := 4294967296) (m := y) (n := x) (by omega)
 generalize digs 4294967296 x = l at *
 generalize digs 4294967296 y = m at *
 obtain ⟨h1, h2, h3⟩ := h.cap
 obtain ⟨g1, g2, g3⟩ := h'.cap
 have Hx := Lib.hid hx
 have Hy := Lib.hid hy
 clear hx hy
 by_cases hl : l.length = m.length
 · have hs := CmpAt.start hl
   have Hl := Lib.hid hl
   have hl1 : ((l.length : Int) != (m.length : Int)) = false := by simp [hl]
   clear hl hlt hgt
   have Hs := Lib.hid hs
   clear hs
   go_enter Tryz.func38, Tryz.ntmps38
   go_wp2
   go_loopw [5] (fun i wr => ∃ (k n : Nat) (z : Int), CmpAt l m k z ∧ i = .int .i64 z ∧ wr = w.drewN n) (fun i _ => (intOf i + 1).toNat)
   case atStart => exact ⟨l.length, 0, _, Hs.out, rfl, rfl⟩
   case round =>
    obtain ⟨k, n, z, hk, rfl, rfl⟩ := hrel
    obtain ⟨hk1, hk2, ⟨rfl, rfl⟩ | ⟨j, rfl, rfl⟩⟩ := hk
    · have he : l = m := by simpa using hk2
      have hxy : x = y := by rw [← Hx.out, ← Hy.out, he]
      have hc := Lib.hid (show cmpV x y = 0 by rw [hxy]; exact cmpV_eq y)
      clear he hxy hk2
      go_wp2
      go_ret
      rw [hc.out]
      exact ⟨rfl, n, rfl⟩
    · have hlm := Hl.out
      obtain ⟨ad, rfl, _, q1⟩ := h.at_ (i := j) (by omega)
      obtain ⟨ae, rfl, _, q2⟩ := h'.at_ (i := j) (by omega)
      have hj1 : (j : Int) < (l.length : Int) := by omega
      have hj2 : (j : Int) < (m.length : Int) := by omega
      have hkk : CmpAt l m (j + 1) (j : Int) := ⟨hk1, hk2, .inr ⟨j, rfl, rfl⟩⟩
      rcases Nat.lt_trichotomy (dg l j) (dg m j) with hd | hd | hd
      · have hv := hkk.lt hlm bx hd
        rw [Hx.out, Hy.out] at hv
        have hc := Lib.hid (cmpV_lt hv)
        have hd1 : decide (dg l j < dg m j) = true := by simpa using hd
        clear hkk hk1 hk2 hlm hd hv
        go_wp2
        go_quiet (fail)
        go_wp2
        go_ret
        rw [hc.out]
        exact ⟨rfl, by first | exact dr2 _ _ _ | exact dr1 _ _⟩
      · have hkk' := hkk.step hlm hd
        rw [← hd] at q2
        clear hkk hk1 hk2 hlm hd
        go_wp2
        go_quiet (fail)
        go_wp2
        go_quiet (fail)
        go_wp2
        go_roundw
        case rel => exact ⟨j, _, _, hkk', rfl, by first | rfl | exact drewN_3 _ _ _ _⟩
        case measure => simp [intOf]
      · have hv := hkk.gt hlm byy hd
        rw [Hx.out, Hy.out] at hv
        have hc := Lib.hid (cmpV_gt hv)
        have hd1 : decide (dg l j < dg m j) = false := by simp; omega
        have hd2 : decide (dg m j < dg l j) = true := by simpa using hd
        clear hkk hk1 hk2 hlm hd hv
        go_wp2
        go_quiet (fail)
        go_wp2
        go_quiet (fail)
        go_wp2
        go_ret
        rw [hc.out]
        exact ⟨rfl, by first | exact dr3 _ _ _ _ | exact dr1 _ _⟩
 · have hl1 : ((l.length : Int) != (m.length : Int)) = true := neB (by omega)
   rcases Nat.lt_or_ge l.length m.length with hd | hd
   · have hc := Lib.hid (cmpV_lt (hlt hd))
     clear hl hlt hgt
     go_enter Tryz.func38, Tryz.ntmps38
     go_wp2
     go_ret
     rw [hc.out]
     exact ⟨rfl, 0, rfl⟩
   · have hc := Lib.hid (cmpV_gt (hgt (by omega)))
     clear hl hlt hgt
     go_enter Tryz.func38, Tryz.ntmps38
     go_wp2
     go_ret
     rw [hc.out]
     exact ⟨rfl, 0, rfl⟩

set_option maxHeartbeats 1000000 in
theorem cmp_any (P P' : Nat → Prop) (A A' : Option Addr) (c c' : Nat) (a b : List Nat) (w : World) (h : RN w P A c a) (h' : RN w P' A' c' b) :
 Calls Tryz.prog 58 #[.slice A a.length c, .slice A' b.length c'] w fun e w' => e = .returned (.int .i64 (cmpV (val 18446744073709551616 a) (val 18446744073709551616 b))) ∧ ∃ n, w' = w.drewN n := by
 have ta := Lib.hid (trim_any P A c a w h)
 have tb := Lib.hid (trim_any P' A' c' b w h')
 replace h := h.trim
 replace h' := h'.trim
 generalize val 18446744073709551616 a = x at *
 generalize val 18446744073709551616 b = y at *
 have hx := val_digs (B := 18446744073709551616) (by omega) x
 have hy := val_digs (B := 18446744073709551616) (by omega) y
 have bx := digs_lt (B := 18446744073709551616) (by omega) x
 have byy := digs_lt (B := 18446744073709551616) (by omega) y
 have hlt := lt_of_digs_length (B := 18446744073709551616) (m := x) (n := y) (by omega)
 have hgt := lt_of_digs_length (B := 18446744073709551616) (m := y) (n := x) (by omega)
 generalize digs 18446744073709551616 x = l at *
 generalize digs 18446744073709551616 y = m at *
 obtain ⟨h1, h2, h3⟩ := h.cap
 obtain ⟨g1, g2, g3⟩ := h'.cap
 have Hx := Lib.hid hx
 have Hy := Lib.hid hy
 clear hx hy
 by_cases hl : l.length = m.length
 · have hs := CmpAt.start hl
   have Hl := Lib.hid hl
   have hl1 : ((l.length : Int) != (m.length : Int)) = false := by simp [hl]
   clear hl hlt hgt
   have Hs := Lib.hid hs
   clear hs
   go_enter Tryz.func58, Tryz.ntmps58
   go_wp2_with fail
   refine ta.out.mono ?_
   rintro e w1 ⟨rfl, rfl⟩
   go_wp2_with fail
   refine tb.out.mono ?_
   rintro e w1 ⟨rfl, rfl⟩
   go_wp2
   go_loopw [5] (fun i wr => ∃ (k n : Nat) (z : Int), CmpAt l m k z ∧ i = .int .i64 z ∧ wr = w.drewN n) (fun i _ => (intOf i + 1).toNat)
   case atStart => exact ⟨l.length, 0, _, Hs.out, rfl, rfl⟩
   case round =>
    obtain ⟨k, n, z, hk, rfl, rfl⟩ := hrel
    obtain ⟨hk1, hk2, ⟨rfl, rfl⟩ | ⟨j, rfl, rfl⟩⟩ := hk
    · have he : l = m := by simpa using hk2
      have hxy : x = y := by rw [← Hx.out, ← Hy.out, he]
      have hc := Lib.hid (show cmpV x y = 0 by rw [hxy]; exact cmpV_eq y)
      clear he hxy hk2
      go_wp2
      go_ret
      rw [hc.out]
      exact ⟨rfl, n, rfl⟩
    · have hlm := Hl.out
      obtain ⟨ad, rfl, _, q1⟩ := h.at_ (i := j) (by omega)
      obtain ⟨ae, rfl, _, q2⟩ := h'.at_ (i := j) (by omega)
      have hj1 : (j : Int) < (l.length : Int) := by omega
      have hj2 : (j : Int) < (m.length : Int) := by omega
      have hkk : CmpAt l m (j + 1) (j : Int) := ⟨hk1, hk2, .inr ⟨j, rfl, rfl⟩⟩
      rcases Nat.lt_trichotomy (dg l j) (dg m j) with hd | hd | hd
      · have hv := hkk.lt hlm bx hd
        rw [Hx.out, Hy.out] at hv
        have hc := Lib.hid (cmpV_lt hv)
        have hd0 : (((dg l j : Nat) : Int) != ((dg m j : Nat) : Int)) = true := neB (by omega)
        have hd1 : decide (dg l j < dg m j) = true := by simpa using hd
        clear hkk hk1 hk2 hlm hd hv
        go_wp2
        go_quiet (fail)
        go_wp2
        go_quiet (fail)
        go_wp2
        go_ret
        rw [hc.out]
        exact ⟨rfl, by first | exact dr3 _ _ _ _ | exact dr1 _ _⟩
      · have hkk' := hkk.step hlm hd
        rw [← hd] at q2
        clear hkk hk1 hk2 hlm hd
        go_wp2
        go_quiet (fail)
        go_wp2
        go_roundw
        case rel => exact ⟨j, _, _, hkk', rfl, by first | rfl | exact drewN_add _ _ _⟩
        case measure => simp [intOf]
      · have hv := hkk.gt hlm byy hd
        rw [Hx.out, Hy.out] at hv
        have hc := Lib.hid (cmpV_gt hv)
        have hd0 : (((dg l j : Nat) : Int) != ((dg m j : Nat) : Int)) = true := neB (by omega)
        have hd1 : decide (dg l j < dg m j) = false := by simp; omega
        clear hkk hk1 hk2 hlm hd hv
        go_wp2
        go_quiet (fail)
        go_wp2
        go_quiet (fail)
        go_wp2
        go_ret
        rw [hc.out]
        exact ⟨rfl, by first | exact dr3 _ _ _ _ | exact dr1 _ _⟩
 · have hl1 : ((l.length : Int) != (m.length : Int)) = true := neB (by omega)
   rcases Nat.lt_or_ge l.length m.length with hd | hd
   · have hc := Lib.hid (cmpV_lt (hlt hd))
     clear hl hlt hgt
     go_enter Tryz.func58, Tryz.ntmps58
     go_wp2_with fail
     refine ta.out.mono ?_
     rintro e w1 ⟨rfl, rfl⟩
     go_wp2_with fail
     refine tb.out.mono ?_
     rintro e w1 ⟨rfl, rfl⟩
     go_wp2
     go_ret
     rw [hc.out]
     exact ⟨rfl, 0, rfl⟩
   · have hc := Lib.hid (cmpV_gt (hgt (by omega)))
     clear hl hlt hgt
     go_enter Tryz.func58, Tryz.ntmps58
     go_wp2_with fail
     refine ta.out.mono ?_
     rintro e w1 ⟨rfl, rfl⟩
     go_wp2_with fail
     refine tb.out.mono ?_
     rintro e w1 ⟨rfl, rfl⟩
     go_wp2
     go_ret
     rw [hc.out]
     exact ⟨rfl, 0, rfl⟩
end Go.Proofs.YtaemogcomplhiaaGreatDoor

namespace Go.Proofs.YtaemogcomplhiaaGreatDoor
open Go.RowKit

theorem add64_at (x y c s c' : Nat) (hc : c ≤ 1) (hs : s < 18446744073709551616) (he : s + 18446744073709551616 * c' = x + y + c) (w : World) :
 (callFunc 90 #[.int .u64 (x : Int), .int .u64 (y : Int), .int .u64 (c : Int)]).run Tryz.prog w = .ok (.value (.tuple #[.int .u64 (s : Int), .int .u64 (c' : Int)])) w := by
 rw [Tryz.add64_run x y c hc w, show (x + y + c) % 18446744073709551616 = s by omega, show (x + y + c) / 18446744073709551616 = c' by omega]
theorem sub64_at (x y c s c' : Nat) (hc : c ≤ 1) (hx : x < 18446744073709551616) (hy : y < 18446744073709551616) (hs : s < 18446744073709551616) (he : s + y + c = x + 18446744073709551616 * c') (hc' : c' ≤ 1) (w : World) :
 (callFunc 93 #[.int .u64 (x : Int), .int .u64 (y : Int), .int .u64 (c : Int)]).run Tryz.prog w = .ok (.value (.tuple #[.int .u64 (s : Int), .int .u64 (c' : Int)])) w := by
 rw [Tryz.sub64_run x y c hc w, show (x + 18446744073709551616 - y - c) % 18446744073709551616 = s by omega, show (if x < y + c then 1 else 0 : Nat) = c' by split <;> omega]
theorem carry_of (x y c : Nat) (hx : x < 18446744073709551616) (hy : y < 18446744073709551616) (hc : c ≤ 1) : ∃ s c', s < 18446744073709551616 ∧ c' ≤ 1 ∧ s + 18446744073709551616 * c' = x + y + c :=
 ⟨(x + y + c) % 18446744073709551616, (x + y + c) / 18446744073709551616, by omega, by omega, by omega⟩
theorem borrow_of (x y c : Nat) (hx : x < 18446744073709551616) (hy : y < 18446744073709551616) (hc : c ≤ 1) : ∃ s c', s < 18446744073709551616 ∧ c' ≤ 1 ∧ s + y + c = x + 18446744073709551616 * c' := by
 by_cases h : y + c ≤ x
 · exact ⟨x - y - c, 0, by omega, by omega, by omega⟩
 · exact ⟨x + 18446744073709551616 - y - c, 1, by omega, by omega, by omega⟩
theorem dg_none {l : List Nat} {k : Nat} (h : l.length ≤ k) : dg l k = 0 := by
 rw [dg, List.getD_eq_getElem?_getD, List.getElem?_eq_none h]; rfl


set_option maxRecDepth 100000 in
set_option maxHeartbeats 1000000 in
theorem sub_yes (P P' : Nat → Prop) (A A' : Option Addr) (c c' : Nat) (a b : List Nat) (w : World) (h : RN w P A c a) (h' : RN w P' A' c' b) (hP : ∀ b, P b → b < w.heap.size) (hP' : ∀ b, P' b → b < w.heap.size) (hl : a.length < 100000)
 (hge : val 18446744073709551616 b ≤ val 18446744073709551616 a) :
 Calls Tryz.prog 65 #[.slice A a.length c, .slice A' b.length c'] w fun e w' => ∃ A1 c1, e = .returned (.tuple #[.slice A1 (digs 18446744073709551616 (val 18446744073709551616 a - val 18446744073709551616 b)).length c1, .bool true]) ∧
  OB w' w.heap.size A1 c1 (digs 18446744073709551616 (val 18446744073709551616 a - val 18446744073709551616 b)) ∧ Below w.heap.size w w' := by
 have ta := Lib.hid (trim_any P A c a w h)
 have tb := Lib.hid (trim_any P' A' c' b w h')
 have tc := cmp_any P P' A A' c c' _ _ w h.trim h'.trim
 rw [val_digs (by omega), val_digs (by omega)] at tc
 have la := digs_length_le (B := 18446744073709551616) (by omega) h.2.1
 have hml := digs_length_mono (B := 18446744073709551616) (by omega) hge
 replace h := h.trim
 replace h' := h'.trim
 generalize val 18446744073709551616 a = x at *
 generalize val 18446744073709551616 b = y at *
 have hx := val_digs (B := 18446744073709551616) (by omega) x
 have hy := val_digs (B := 18446744073709551616) (by omega) y
 generalize digs 18446744073709551616 x = l at *
 generalize digs 18446744073709551616 y = m at *
 have hlen : l.length < 100000 := by omega
 clear la hl
 have hge' : val 18446744073709551616 m ≤ val 18446744073709551616 l := by rw [hx, hy]; exact hge
 have Hv := Lib.hid (show val 18446744073709551616 l - val 18446744073709551616 m = x - y by rw [hx, hy])
 have hcv : 0 ≤ cmpV x y := by rcases cmpV_cases x y with h | h | h <;> omega
 generalize cmpV x y = v at tc hcv
 have Tc := Lib.hid tc
 have Hge := Lib.hid hge'
 clear hx hy tc hge hge'
 obtain ⟨h1, h2, h3⟩ := h.cap
 obtain ⟨g1, g2, g3⟩ := h'.cap
 go_enter Tryz.func65, Tryz.ntmps65
 go_wp2_with fail
 refine ta.out.mono ?_
 rintro e w1 ⟨rfl, rfl⟩
 go_wp2_with fail
 refine tb.out.mono ?_
 rintro e w1 ⟨rfl, rfl⟩
 go_wp2_with fail
 refine Tc.out.mono ?_
 rintro e w1 ⟨rfl, n, rfl⟩
 have hmk := run_make_row' (P := Tryz.prog) 24 65 (.int .u64 0) 8 Tryz.underlying24 info64 rfl .i64 .i64 l.length (by omega) (by omega)
 go_wp2
 go_loopw [7, 23] (fun cv iv wr => ∃ (k cr : Nat) (o : List Nat), iv = .int .i64 (k : Int) ∧ cv = .int .u64 (cr : Int) ∧ k ≤ l.length ∧ cr ≤ 1 ∧ SubAt 18446744073709551616 l m o k cr ∧ Hid (o.length = l.length) ∧ Lim o ∧ Blk wr w.heap.size o ∧ Below w.heap.size w wr) (fun _ iv _ => l.length - (intOf iv).toNat)
 case atStart => exact ⟨0, 0, List.replicate l.length 0, rfl, rfl, by omega, by omega, SubAt.zero _ _ _ _, Lib.hid (by simp), ⟨by simp, by simp; omega⟩, Blk.made (w.drewN n) _, (below_drewN (Below.refl _ w) n).alloc (Nat.le_refl _) _⟩
 case round =>
  obtain ⟨k, cr, o, rfl, rfl, hk, hcr, hA, Ho, hLo, hblk, hB⟩ := hrel
  by_cases hlt : k < l.length
  · obtain ⟨ad, rfl, _, q1⟩ := (h.below hB hP).at_ hlt
    obtain ⟨s, cr', hs, hcr', he⟩ := borrow_of (dg l k) (dg m k) cr (h.2.dgLt k) (h'.2.dgLt k) hcr
    have hok : k < o.length := by have := Ho.out; omega
    have q3 := hblk.cell hok
    have q4 := hblk.free k
    have hA' := hA.step hok he
    have hblk' := hblk.set k s
    have hLo' := hLo.set k s hs
    have hB' := hB.setCell (p := ⟨w.heap.size, k, none⟩) (Nat.le_refl _) (.int .u64 (s : Int))
    have Ho' : Hid ((o.set k s).length = l.length) := Lib.hid (by rw [List.length_set]; exact Ho.out)
    have hl64 := h.2.dgLt k
    have hm64 := h'.2.dgLt k
    by_cases hm : k < m.length
    · obtain ⟨ae, rfl, _, q2⟩ := (h'.below hB hP').at_ hm
      have hsub := fun w => sub64_at (dg l k) (dg m k) cr s cr' hcr hl64 hm64 hs he hcr' w
      clear he hA hblk hLo hB hl64 hm64
      go_wp2
      go_roundw
      case rel => exact ⟨k + 1, cr', o.set k s, by go_num, rfl, by omega, hcr', hA', Ho', hLo', hblk', hB'⟩
      case measure => simp [intOf]; omega
    · have hsub := fun w => sub64_at (dg l k) 0 cr s cr' hcr hl64 (by omega) hs (by rw [dg_none (by omega : m.length ≤ k)] at he; exact he) hcr' w
      simp only [Int.cast_ofNat_Int] at hsub
      clear he hA hblk hLo hB hl64 hm64
      go_wp2
      go_roundw
      case rel => exact ⟨k + 1, cr', o.set k s, by go_num, rfl, by omega, hcr', hA', Ho', hLo', hblk', hB'⟩
      case measure => simp [intOf]; omega
  · obtain rfl : k = l.length := by omega
    have hfin := hA.fin Ho.out hLo.1 rfl hml Hge.out
    rw [Hv.out] at hfin
    have hOB : OB wr w.heap.size (some ⟨w.heap.size, 0, none⟩) l.length o := OB.of_blk hblk (Nat.le_refl _) hLo (by have := Ho.out; omega) (by unfold maxLen; omega)
    have ht := trim_any _ _ _ _ _ hOB.rn
    have hOB' := hOB.trim
    rw [hfin, Ho.out] at ht
    rw [hfin] at hOB'
    have Ht := Lib.hid ht
    clear hA hblk hLo ht hfin hOB
    go_wp2_with fail
    refine Ht.out.mono ?_
    rintro e w1 ⟨rfl, rfl⟩
    go_wp2
    go_ret2
    exact ⟨_, _, rfl, hOB', hB⟩
end Go.Proofs.YtaemogcomplhiaaGreatDoor

namespace Go.Proofs.YtaemogcomplhiaaGreatDoor
open Go.RowKit

theorem mul64_at (x y hi lo : Nat) (hx : x < 18446744073709551616) (hy : y < 18446744073709551616) (hl : lo < 18446744073709551616) (he : lo + 18446744073709551616 * hi = x * y) (w : World) :
 Calls Tryz.prog 98 #[.int .u64 (x : Int), .int .u64 (y : Int)] w fun e w' => e = .returned (.tuple #[.int .u64 (hi : Int), .int .u64 (lo : Int)]) ∧ w = w' :=
 (Tryz.bits_Mul64 x y hx hy w).mono fun e w' ⟨h1, h2⟩ => by
  rw [← he, show (lo + 18446744073709551616 * hi) / 18446744073709551616 = hi by omega, show (lo + 18446744073709551616 * hi) % 18446744073709551616 = lo by omega] at h1
  exact ⟨h1, h2.symm⟩
theorem mul_round (x y u c : Nat) (hx : x < 18446744073709551616) (hy : y < 18446744073709551616) (hu : u < 18446744073709551616) (hc : c < 18446744073709551616) :
    ∃ hi lo s1 c1 s2 c2 : Nat, lo < 18446744073709551616 ∧ lo + 18446744073709551616 * hi = x * y ∧ s1 < 18446744073709551616 ∧ s1 + 18446744073709551616 * c1 = lo + u + 0 ∧ s2 < 18446744073709551616 ∧ s2 + 18446744073709551616 * c2 = s1 + c + 0 ∧
      c1 ≤ 1 ∧ c2 ≤ 1 ∧ hi + c1 < 18446744073709551616 ∧ hi + c1 + c2 < 18446744073709551616 ∧ s2 + 18446744073709551616 * (hi + c1 + c2) = x * y + u + c := by
  have hb := mul_bound hx hy hu hc
  refine ⟨x * y / 18446744073709551616, x * y % 18446744073709551616, (x * y % 18446744073709551616 + u) % 18446744073709551616, (x * y % 18446744073709551616 + u) / 18446744073709551616,
    ((x * y % 18446744073709551616 + u) % 18446744073709551616 + c) % 18446744073709551616, ((x * y % 18446744073709551616 + u) % 18446744073709551616 + c) / 18446744073709551616, ?_⟩
  generalize x * y = p at *
  omega

set_option maxRecDepth 100000 in
set_option maxHeartbeats 2000000 in
theorem mul_any (P P' : Nat → Prop) (A A' : Option Addr) (c c' : Nat) (a b : List Nat) (w : World) (h : RN w P A c a) (h' : RN w P' A' c' b) (hP : ∀ b, P b → b < w.heap.size) (hP' : ∀ b, P' b → b < w.heap.size) (hl : a.length < 100000) (hl' : b.length < 100000) :
 Calls Tryz.prog 119 #[.slice A a.length c, .slice A' b.length c'] w fun e w' => ∃ A1 c1, e = .returned (.slice A1 (digs 18446744073709551616 (val 18446744073709551616 a * val 18446744073709551616 b)).length c1) ∧
  OB w' w.heap.size A1 c1 (digs 18446744073709551616 (val 18446744073709551616 a * val 18446744073709551616 b)) ∧ Below w.heap.size w w' := by
 have ta := Lib.hid (trim_any P A c a w h)
 have tb := Lib.hid (trim_any P' A' c' b w h')
 have la := digs_length_le (B := 18446744073709551616) (by omega) h.2.1
 have lb := digs_length_le (B := 18446744073709551616) (by omega) h'.2.1
 replace h := h.trim
 replace h' := h'.trim
 generalize val 18446744073709551616 a = x at *
 generalize val 18446744073709551616 b = y at *
 have hx := val_digs (B := 18446744073709551616) (by omega) x
 have hy := val_digs (B := 18446744073709551616) (by omega) y
 generalize digs 18446744073709551616 x = l at *
 generalize digs 18446744073709551616 y = m at *
 have la' : l.length < 100000 := by omega
 have lb' : m.length < 100000 := by omega
 clear la lb hl hl'
 have Hx := Lib.hid hx
 have Hy := Lib.hid hy
 clear hx hy
 obtain ⟨h1, h2, h3⟩ := h.cap
 obtain ⟨g1, g2, g3⟩ := h'.cap
 have hmk := run_make_row' (P := Tryz.prog) 24 65 (.int .u64 0) 8 Tryz.underlying24 info64 rfl .i64 .i64 (l.length + m.length) (by omega) (by omega)
 simp only [Int.natCast_add] at hmk
 go_enter Tryz.func119, Tryz.ntmps119
 go_wp2_with fail
 refine ta.out.mono ?_
 rintro e w1 ⟨rfl, rfl⟩
 go_wp2_with fail
 refine tb.out.mono ?_
 rintro e w1 ⟨rfl, rfl⟩
 go_wp2
 clear ta tb
 go_loopw [26] (fun iv wr => ∃ (i : Nat) (o : List Nat), iv = .int .i64 (i : Int) ∧ i ≤ l.length ∧ RowAt 18446744073709551616 l m o i ∧ Lim o ∧ Blk wr w.heap.size o ∧ Below w.heap.size w wr) (fun iv _ => l.length - (intOf iv).toNat)
 case atStart => exact ⟨0, List.replicate (l.length + m.length) 0, rfl, by omega, RowAt.zero _ _ _, ⟨by simp, by simp; omega⟩, Blk.made w _, (Below.refl _ w).alloc (Nat.le_refl _) _⟩
 case round =>
  obtain ⟨i, o0, rfl, hi, hR, hLo, hblk, hB⟩ := hrel
  obtain ⟨wo, rfl⟩ : ∃ wo, wo = wr := ⟨_, rfl⟩
  by_cases hlt : i < l.length
  · obtain ⟨ad, rfl, _, q1⟩ := (h.below hB hP).at_ hlt
    have hxi := h.2.dgLt i
    go_wp2
    go_loopw [8, 33] (fun cv jv wr => ∃ (j cr : Nat) (o : List Nat), jv = .int .i64 (j : Int) ∧ cv = .int .u64 (cr : Int) ∧ j ≤ m.length ∧ cr < 18446744073709551616 ∧ MulAt 18446744073709551616 o0 m (dg l i) i o j cr ∧ Lim o ∧ Blk wr w.heap.size o ∧ Below w.heap.size w wr) (fun _ jv _ => m.length - (intOf jv).toNat)
    case atStart => exact ⟨0, 0, o0, rfl, rfl, by omega, by omega, MulAt.zero _ _ _ _ _, hLo, hblk, hB⟩
    case round =>
     clear q1 hB hblk hLo
     obtain ⟨j, cr, o, rfl, rfl, hj, hcr, hM, hLo, hblk, hB⟩ := hrel
     have hol : o.length = l.length + m.length := hM.1.trans hR.1
     by_cases hjt : j < m.length
     · obtain ⟨ae, rfl, _, q2⟩ := (h'.below hB hP').at_ hjt
       have hok : i + j < o.length := by omega
       have q3 := hblk.cell hok
       have q4 := hblk.free (i + j)
       obtain ⟨hi', lo, s1, c1, s2, c2, b1, b2, b3, b4, b5, b6, b7, b8, b9, b10, he⟩ := mul_round (dg l i) (dg m j) (dg o (i + j)) cr hxi (h'.2.dgLt j) (hLo.dgLt _) hcr
       have hmul := Lib.hid (fun w => mul64_at (dg l i) (dg m j) hi' lo hxi (h'.2.dgLt j) b1 b2 w)
       have hadd1 := fun w => add64_at lo (dg o (i + j)) 0 s1 c1 (by omega) b3 b4 w
       have hadd2 := fun w => add64_at s1 cr 0 s2 c2 (by omega) b5 b6 w
       simp only [Int.cast_ofNat_Int] at hadd1 hadd2
       have hM' := hM.step hok he
       have hblk' := hblk.set (i + j) s2
       have hLo' := hLo.set (i + j) s2 b5
       have hB' := hB.setCell (p := ⟨w.heap.size, i + j, none⟩) (Nat.le_refl _) (.int .u64 (s2 : Int))
       have k1 : (i : Int) + (j : Int) < (l.length : Int) + (m.length : Int) := by omega
       clear he b2 b4 b6 hM hblk hLo hB hok hol
       go_wp2_with fail
       refine (hmul.out _).mono ?_
       rintro e w1 ⟨rfl, rfl⟩
       go_wp2
       go_roundw
       case rel => exact ⟨j + 1, hi' + c1 + c2, o.set (i + j) s2, by go_num, by go_num, by omega, b10, hM', hLo', hblk', hB'⟩
       case measure => simp [intOf]; omega
     · obtain rfl : j = m.length := by omega
       have hR' := hR.step hlt hM
       have q3 := hblk.cell (i := i + m.length) (by omega)
       have q4 := hblk.free (i + m.length)
       have hblk' := hblk.set (i + m.length) cr
       have hLo' := hLo.set (i + m.length) cr hcr
       have hB' := hB.setCell (p := ⟨w.heap.size, i + m.length, none⟩) (Nat.le_refl _) (.int .u64 (cr : Int))
       have k1 : (i : Int) + (m.length : Int) < (l.length : Int) + (m.length : Int) := by omega
       clear hM hblk hLo hB hol
       go_wp2
       go_roundw
       case rel => exact ⟨i + 1, o.set (i + m.length) cr, by go_num, by omega, hR', hLo', hblk', hB'⟩
       case measure => simp [intOf]; omega
  · obtain rfl : i = l.length := by omega
    have hfin := hR.fin
    rw [Hx.out, Hy.out] at hfin
    have hol := hR.1
    have hOB : OB wo w.heap.size (some ⟨w.heap.size, 0, none⟩) (l.length + m.length) o0 := OB.of_blk hblk (Nat.le_refl _) hLo (by omega) (by unfold maxLen; omega)
    have ht := trim_any _ _ _ _ _ hOB.rn
    have hOB' := hOB.trim
    rw [hfin, hol] at ht
    rw [hfin] at hOB'
    have Ht := Lib.hid ht
    clear hblk hLo ht hfin hOB hR hol
    go_wp2_with fail
    refine Ht.out.mono ?_
    rintro e w1 ⟨rfl, rfl⟩
    go_wp2
    go_ret
    exact ⟨_, _, rfl, hOB', hB⟩
end Go.Proofs.YtaemogcomplhiaaGreatDoor

namespace Go.Proofs.YtaemogcomplhiaaGreatDoor
open Go.RowKit

theorem OB.recap {w : World} {base : Nat} {A : Option Addr} {c c' : Nat} {l : List Nat} (h : OB w base A c l) (hc : l.length ≤ c') (hc' : c' ≤ maxLen) : OB w base A c' l := ⟨h.1, hc, hc', h.2.2.2⟩
theorem OB.trim32 {w : World} {base : Nat} {A : Option Addr} {c : Nat} {l : List Nat} (h : OB w base A c l) (hl : Dig l) : OB w base A (digs 4294967296 (val 4294967296 l)).length (digs 4294967296 (val 4294967296 l)) := by
 obtain ⟨n, _, e⟩ := hl.cut
 rw [← e]
 have := h.take n
 exact this.recap (Nat.le_refl _) (by have := this.cap; unfold maxLen; omega)
theorem Dig.set {l : List Nat} (h : Dig l) (i x : Nat) (hx : x < 4294967296) : Dig (l.set i x) := set_lt h hx
theorem Dig.dgLt {l : List Nat} (h : Dig l) (i : Nat) : dg l i < 4294967296 := getD_lt (by omega) h i
theorem Dig.digs (x : Nat) : Dig (Go.Proofs.YtaemogcomplhiaaGreatDoor.digs 4294967296 x) := digs_lt (by omega) x

def FromAt (l o : List Nat) (i : Nat) : Prop := o.length = 2 * l.length ∧ Dig o ∧ val 4294967296 (o.take (2 * i)) = val 18446744073709551616 (l.take i)
theorem pow_two_mul (i : Nat) : 4294967296 ^ (2 * i) = 18446744073709551616 ^ i := by
 rw [Nat.pow_mul]
theorem FromAt.zero (l : List Nat) : FromAt l (List.replicate (2 * l.length) 0) 0 := ⟨by simp, by intro x hx; simp at hx; omega, by simp⟩
theorem FromAt.step {l o : List Nat} {i p q : Nat} (h : FromAt l o i) (hi : i < l.length) (hp : p < 4294967296) (hq : q < 4294967296) (he : p + 4294967296 * q = dg l i) : FromAt l ((o.set (2 * i) p).set (2 * i + 1) q) (i + 1) := by
 obtain ⟨h1, h2, h3⟩ := h
 refine ⟨by simpa using h1, (h2.set _ _ hp).set _ _ hq, ?_⟩
 rw [show 2 * (i + 1) = 2 * i + 1 + 1 by omega, val_take_set _ (by simp; omega), val_take_set _ (by omega), h3, val_take_getD, ← he, Nat.pow_succ, pow_two_mul]
 simp only [Nat.mul_add, Nat.mul_assoc, Nat.add_assoc]
theorem FromAt.fin {l o : List Nat} (h : FromAt l o l.length) : val 4294967296 o = val 18446744073709551616 l := by
 obtain ⟨h1, _, h3⟩ := h
 rwa [List.take_of_length_le (by omega), List.take_length] at h3

set_option maxRecDepth 100000 in
set_option maxHeartbeats 1000000 in
theorem from_any (P : Nat → Prop) (A : Option Addr) (c : Nat) (l : List Nat) (w : World) (h : RN w P A c l) (hP : ∀ b, P b → b < w.heap.size) (hl : l.length < 100000) :
 Calls Tryz.prog 13 #[.slice A l.length c] w fun e w' => ∃ A1 c1, e = .returned (.slice A1 (digs 4294967296 (val 18446744073709551616 l)).length c1) ∧
  OB w' w.heap.size A1 c1 (digs 4294967296 (val 18446744073709551616 l)) ∧ Below w.heap.size w w' := by
 obtain ⟨h1, h2, h3⟩ := h.cap
 have hmk := run_make_row' (P := Tryz.prog) 28 65 (.int .u64 0) 8 Tryz.underlying28 info64 rfl .i64 .i64 (2 * l.length) (by omega) (by omega)
 simp only [Int.natCast_mul, Int.cast_ofNat_Int] at hmk
 go_enter Tryz.func13, Tryz.ntmps13
 go_wp2
 go_loopw [4] (fun iv wr => ∃ (i : Nat) (o : List Nat), iv = .int .i64 (i : Int) ∧ i ≤ l.length ∧ FromAt l o i ∧ Lim o ∧ Blk wr w.heap.size o ∧ Below w.heap.size w wr) (fun iv _ => l.length - (intOf iv).toNat)
 case atStart => exact ⟨0, List.replicate (2 * l.length) 0, rfl, by omega, FromAt.zero _, ⟨by simp, by simp; omega⟩, Blk.made w _, (Below.refl _ w).alloc (Nat.le_refl _) _⟩
 case round =>
  obtain ⟨i, o, rfl, hi, hF, hLo, hblk, hB⟩ := hrel
  by_cases hlt : i < l.length
  · obtain ⟨ad, rfl, had, q1⟩ := (h.below hB hP).at_ hlt
    have hol := hF.1
    have hxi := h.2.dgLt i
    obtain ⟨p, q, hp, hq, he, e1, e2⟩ : ∃ p q : Nat, p < 4294967296 ∧ q < 4294967296 ∧ p + 4294967296 * q = dg l i ∧ (dg l i : Int) % 4294967296 = (p : Int) ∧ (dg l i : Int) / 4294967296 = (q : Int) :=
     ⟨dg l i % 4294967296, dg l i / 4294967296, by omega, by omega, by omega, by omega, by omega⟩
    have q3 := hblk.cell (i := 2 * i) (by omega)
    have q4 := hblk.free (2 * i)
    have hblk1 := hblk.set (2 * i) p
    have q5 := hblk1.cell (i := 2 * i + 1) (by simp; omega)
    have q6 := hblk1.free (2 * i + 1)
    have hblk2 := hblk1.set (2 * i + 1) q
    have hLo' := (hLo.set (2 * i) p (by omega)).set (2 * i + 1) q (by omega)
    have hB1 := hB.setCell (p := ⟨w.heap.size, 2 * i, none⟩) (Nat.le_refl _) (.int .u64 (p : Int))
    have q7 := ((h.below hB1 hP).cells i hlt)
    have hB2 := hB1.setCell (p := ⟨w.heap.size, 2 * i + 1, none⟩) (Nat.le_refl _) (.int .u64 (q : Int))
    have hF' := hF.step hlt hp hq he
    have k1 : (2 : Int) * (i : Int) < 2 * (l.length : Int) := by omega
    have k2 : (2 : Int) * (i : Int) + 1 < 2 * (l.length : Int) := by omega
    clear hF hLo hblk hB hblk1 hB1 he hol hp hq
    go_wp2
    go_roundw
    case rel => exact ⟨i + 1, (o.set (2 * i) p).set (2 * i + 1) q, by go_num, by omega, hF', hLo', hblk2, hB2⟩
    case measure => simp [intOf]; omega
  · obtain rfl : i = l.length := by omega
    have hfin := hF.fin
    have hOB : OB wr w.heap.size (some ⟨w.heap.size, 0, none⟩) (2 * l.length) o := OB.of_blk hblk (Nat.le_refl _) hLo (by have := hF.1; omega) (by unfold maxLen; omega)
    have ht := refTrim_any _ _ _ _ _ hOB.rn hF.2.1
    have hOB' := hOB.trim32 hF.2.1
    rw [hfin, hF.1] at ht
    rw [hfin] at hOB'
    have Ht := Lib.hid ht
    clear hblk hLo ht hfin hOB hF
    go_wp2_with fail
    refine Ht.out.mono ?_
    rintro e w1 ⟨rfl, rfl⟩
    go_wp2
    go_ret
    exact ⟨_, _, rfl, hOB', hB⟩

set_option maxHeartbeats 400000 in
theorem refOf_any (x : Nat) (w : World) (hx : x < 18446744073709551616) :
 Calls Tryz.prog 48 #[.int .u64 (x : Int)] w fun e w' => ∃ A' c', e = .returned (.slice A' (digs 4294967296 x).length c') ∧ OB w' w.heap.size A' c' (digs 4294967296 x) ∧ Below w.heap.size w w' := by
 have hv : val 18446744073709551616 [x] = x := by simp
 have hm := fun P A c w h hP => from_any P A c [x] w h hP (by simp)
 rw [hv] at hm
 have Hm := Lib.hid hm
 clear hm hv
 go_enter Tryz.func48, Tryz.ntmps48
 go_wp2_with fail
 refine (Hm.out (In w.heap.size (w.heap.size + 1)) _ _ _ ⟨RS.fresh #[.int .u64 (x : Int)] 65 1 1 rfl (by unfold maxLen; omega) ⟨Nat.le_refl _, by omega⟩, by simpa [Lim] using hx⟩ (fun b hb => by have := hb.2; simp; omega)).mono ?_
 rintro e w1 ⟨A', c', rfl, hO, hB⟩
 go_wp2
 go_ret
 exact ⟨A', c', rfl, hO.mono (by simp), ((Below.refl _ w).alloc (Nat.le_refl _) _).trans (hB.mono (by simp))⟩

def pairs : List Nat → List Nat
 | [] => []
 | [a] => [a]
 | a :: b :: r => (a + 4294967296 * b) :: pairs r
theorem pairs_val : ∀ l : List Nat, val 18446744073709551616 (pairs l) = val 4294967296 l
 | [] => rfl
 | [a] => by simp [pairs]
 | a :: b :: r => by simp only [pairs, val_cons, pairs_val r]; omega
theorem pairs_lt : ∀ {l : List Nat}, Dig l → ∀ x ∈ pairs l, x < 18446744073709551616
  | [], _, x, hx => by cases hx
  | [a], h, x, hx => by
    have := h a (by simp)
    simp only [pairs, List.mem_singleton] at hx
    omega
  | a :: b :: r, h, x, hx => by
    have h1 := h a (by simp)
    have h2 := h b (by simp)
    simp only [pairs, List.mem_cons] at hx
    rcases hx with rfl | hx
    · omega
    · exact pairs_lt (fun y hy => h y (by simp [hy])) x hx
theorem pairs_ne : ∀ {l : List Nat}, l ≠ [] → pairs l ≠ []
 | [], h => absurd rfl h
 | [a], _ => by simp [pairs]
 | a :: b :: r, _ => by simp [pairs]
theorem pairs_last : ∀ {l : List Nat} (h : l ≠ []), l.getLast h ≠ 0 → ∀ h' : pairs l ≠ [], (pairs l).getLast h' ≠ 0
  | [], h, _, _ => absurd rfl h
  | [a], _, h, h' => by simpa [pairs] using h
  | [a, b], _, h, h' => by
    simp at h
    simp [pairs]
    omega
  | a :: b :: d :: r, _, h, h' => by
    have e : pairs (a :: b :: d :: r) = (a + 4294967296 * b) :: pairs (d :: r) := rfl
    have hne : pairs (d :: r) ≠ [] := pairs_ne (by simp)
    simp only [e, List.getLast_cons hne]
    exact pairs_last (by simp) (by simpa using h) hne
theorem pairs_digs (x : Nat) : pairs (digs 4294967296 x) = digs 18446744073709551616 x := by
 have h1 := pairs_val (digs 4294967296 x)
 rw [val_digs (by omega)] at h1
 have h2 := digs_val (B := 18446744073709551616) (by omega) (pairs_lt (Dig.digs x)) fun hne => by
  have hne' : digs 4294967296 x ≠ [] := by intro e; rw [e] at hne; exact hne rfl
  exact pairs_last hne' (digs_last (by omega) x hne') hne
 rw [h1] at h2
 exact h2.symm
theorem pairs_length : ∀ l : List Nat, (pairs l).length = (l.length + 1) / 2
 | [] => rfl
 | [a] => by simp [pairs]
 | a :: b :: r => by simp only [pairs, List.length_cons, pairs_length r]; omega
theorem dg_cons_zero (a : Nat) (l : List Nat) : dg (a :: l) 0 = a := rfl
theorem dg_cons_succ (a : Nat) (l : List Nat) (i : Nat) : dg (a :: l) (i + 1) = dg l i := rfl
theorem dg_nil (i : Nat) : dg [] i = 0 := rfl
theorem pairs_dg : ∀ (l : List Nat) (k : Nat), dg (pairs l) k = dg l (2 * k) + 4294967296 * dg l (2 * k + 1)
  | [], k => by simp [pairs, dg_nil]
  | [a], 0 => by simp [pairs, dg_cons_zero, dg_cons_succ, dg_nil]
  | [a], k + 1 => by rw [show 2 * (k + 1) = 2 * k + 1 + 1 by omega]; simp [pairs, dg_cons_succ, dg_nil]
  | a :: b :: r, 0 => by simp [pairs, dg_cons_zero, dg_cons_succ]
  | a :: b :: r, k + 1 => by
    rw [show 2 * (k + 1) = 2 * k + 1 + 1 by omega]
    simp only [pairs, dg_cons_succ, pairs_dg r k]
theorem take_succ_dg {l : List Nat} {k : Nat} (h : k < l.length) : l.take (k + 1) = l.take k ++ [dg l k] := by
 rw [List.take_succ_eq_append_getElem h, dg, getD_eq' h]

theorem own_block_le {w : World} {base n size : Nat} {e : TypeId} {v : Value} {xs : List Value} (h : w.ownsRow base e size v n xs) {j : Nat} (hj : v.ownBlock = some j) : base ≤ j := by
 obtain ⟨h0, ⟨rfl, _⟩ | ⟨g, cap, cur, rfl, hg, _⟩⟩ := h
 · simp [Value.ownBlock] at hj
 · simp [Value.ownBlock] at hj
   omega

set_option maxRecDepth 100000 in
set_option maxHeartbeats 1000000 in
theorem to_any (P : Nat → Prop) (A : Option Addr) (c : Nat) (x : Nat) (w : World) (h : RN w P A c (digs 4294967296 x)) (hP : ∀ b, P b → b < w.heap.size) :
 Calls Tryz.prog 47 #[.slice A (digs 4294967296 x).length c] w fun e w' => ∃ A1 c1, e = .returned (.slice A1 (digs 18446744073709551616 x).length c1) ∧
  OB w' w.heap.size A1 c1 (digs 18446744073709551616 x) ∧ Below w.heap.size w w' := by
 obtain ⟨i0, hi, hz0, hz1, hz2⟩ := info_parts info64
 obtain ⟨h1, h2, h3⟩ := h.cap
 have hx := pairs_digs x
 have hd := Dig.digs x
 rw [← hx]
 generalize digs 4294967296 x = l at *
 have hpl := pairs_length l
 have hpd := pairs_dg l
 have hplt := pairs_lt hd
 generalize pairs l = m at *
 clear hx
 have Hpd := Lib.hid hpd
 have Hpl := Lib.hid hpl
 have hmb : m.length ≤ 1000000 := by omega
 clear hpd hpl
 have hLm : Lim m := ⟨hplt, hmb⟩
 go_enter Tryz.func47, Tryz.ntmps47
 go_wp2
 go_loopw [3, 4] (fun lv iv wr => ∃ (k : Nat), iv = .int .i64 (2 * (k : Int)) ∧ k ≤ m.length ∧ wr.ownsRow w.heap.size 65 1 lv k (nts (m.take k)) ∧ Below w.heap.size w wr) (fun _ iv _ => l.length + 1 - (intOf iv).toNat)
 case atStart => exact ⟨0, rfl, by omega, World.ownsRow_nil _ _ _ _, Below.refl _ _⟩
 case round =>
  obtain ⟨k, rfl, hk, hO, hB⟩ := hrel
  have hkl := Hpl.out
  by_cases hlt : k < m.length
  · obtain ⟨ad, rfl, had, q1⟩ := (h.below hB hP).at_ (i := 2 * k) (by omega)
    have hd1 := hd.dgLt (2 * k)
    have hd2 := hd.dgLt (2 * k + 1)
    have he := Hpd.out k
    have hmk := hLm.dgLt k
    have hs := hB.size
    have htk := take_succ_dg hlt
    have k1 : (2 : Int) * (k : Int) < (l.length : Int) := by omega
    by_cases h2 : 2 * k + 1 < l.length
    · have q2 := (h.below hB hP).cells (2 * k + 1) h2
      rw [add_succ] at q2
      have k2 : (2 : Int) * (k : Int) + 1 < (l.length : Int) := by omega
      have e1 : (dg l (2 * k) : Int) + (dg l (2 * k + 1) : Int) * 4294967296 = (dg m k : Int) := by omega
      clear he hkl
      go_wp2_with (at_builtin; refine wpList_append_rs _ rfl _ _ 24 rfl w.heap.size 65 i0 (.int .u64 0) 1 8 Tryz.underlying24 hi hz0 hz1 hz2 rfl (by decide) _ k (nts (m.take k)) rfl (hO.alloc _) (In wr.heap.size (wr.heap.size + 1)) (some ⟨wr.heap.size, 0, none⟩) 1 1 [.int .u64 (dg m k : Int)] rfl (RS.fresh #[.int .u64 (dg m k : Int)] 65 1 1 rfl (by unfold maxLen; omega) ⟨Nat.le_refl _, by omega⟩) (by simp [Value.oneCell']) (k + 1) rfl (by unfold maxLen; omega) (by omega) (by simp; omega) ?_)
      intro A' c' w1 hown hgrow hblk
      go_wp2
      go_roundw
      case rel => exact ⟨k + 1, by go_num, by omega, by rw [htk]; simpa [nts] using hown, (hB.alloc hs _).grown hgrow (by simp; omega) (by intro j hj; exact own_block_le hO hj)⟩
      case measure => simp [intOf]; omega
    · have e1 : dg l (2 * k) = dg m k := by rw [he, dg_none (by omega : l.length ≤ 2 * k + 1)]; omega
      have k2 : ¬ (2 : Int) * (k : Int) + 1 < (l.length : Int) := by omega
      rw [e1] at q1
      clear he hkl e1
      go_wp2_with (at_builtin; refine wpList_append_rs _ rfl _ _ 24 rfl w.heap.size 65 i0 (.int .u64 0) 1 8 Tryz.underlying24 hi hz0 hz1 hz2 rfl (by decide) _ k (nts (m.take k)) rfl (hO.alloc _) (In wr.heap.size (wr.heap.size + 1)) (some ⟨wr.heap.size, 0, none⟩) 1 1 [.int .u64 (dg m k : Int)] rfl (RS.fresh #[.int .u64 (dg m k : Int)] 65 1 1 rfl (by unfold maxLen; omega) ⟨Nat.le_refl _, by omega⟩) (by simp [Value.oneCell']) (k + 1) rfl (by unfold maxLen; omega) (by omega) (by simp; omega) ?_)
      intro A' c' w1 hown hgrow hblk
      go_wp2
      go_roundw
      case rel => exact ⟨k + 1, by go_num, by omega, by rw [htk]; simpa [nts] using hown, (hB.alloc hs _).grown hgrow (by simp; omega) (by intro j hj; exact own_block_le hO hj)⟩
      case measure => simp [intOf]; omega
  · obtain rfl : k = m.length := by omega
    have k1 : ¬ (2 : Int) * (m.length : Int) < (l.length : Int) := by omega
    obtain ⟨A1, c1, rfl⟩ := own_shape hO
    rw [List.take_length] at hO
    clear hkl
    go_wp2
    go_ret
    exact ⟨_, _, rfl, OB.of_own hO hLm, hB⟩
end Go.Proofs.YtaemogcomplhiaaGreatDoor

namespace Go.Proofs.YtaemogcomplhiaaGreatDoor
open Go.RowKit

def SameTo (l m : List Nat) (k : Nat) : Prop := ∀ j, j < k → dg l j = dg m j
theorem SameTo.step {l m : List Nat} {k : Nat} (h : SameTo l m k) (he : dg l k = dg m k) : SameTo l m (k + 1) := fun j hj => by
 rcases Nat.lt_or_ge j k with h1 | h1
 · exact h j h1
 · obtain rfl : j = k := by omega
   exact he
theorem SameTo.fin {l m : List Nat} (h : SameTo l m l.length) (hl : l.length = m.length) : l = m := by
 apply List.ext_getElem hl
 intro i h1 h2
 have := h i h1
 rwa [dg, dg, getD_eq' h1, getD_eq' h2] at this

def RL (w : World) (P : Nat → Prop) (A : Option Addr) (c : Nat) (l : List Nat) : Prop := RS w P 1 A l.length c (nts l) ∧ (∀ x ∈ l, x < 18446744073709551616) ∧ l.length ≤ 17592186044416
theorem RL.take {w : World} {P : Nat → Prop} {A : Option Addr} {c : Nat} {l : List Nat} (h : RL w P A c l) {n : Nat} (hn : n ≤ 1000000) (hn' : n ≤ l.length) : RN w P A c (l.take n) := by
 have := h.1.pre hn'
 rw [Nat.mul_one, nts_take] at this
 refine ⟨by rw [List.length_take, Nat.min_eq_left hn']; exact this, fun x hx => h.2.1 x (List.mem_of_mem_take hx), by rw [List.length_take]; omega⟩
theorem RL.below {w w' : World} {P : Nat → Prop} {A : Option Addr} {c B : Nat} {l : List Nat} (h : RL w P A c l) (hb : Below B w w') (hB : ∀ b, P b → b < B) : RL w' P A c l := ⟨h.1.below hb hB, h.2⟩

set_option maxHeartbeats 400000 in
theorem cut_any (P : Nat → Prop) (A : Option Addr) (c : Nat) (l : List Nat) (n : Nat) (w : World) (h : RL w P A c l) (hn : n ≤ 100000) :
 Calls Tryz.prog 28 #[.slice A l.length c, .int .i64 (n : Int)] w fun e w' => ∃ A1 c1, e = .returned (.slice A1 (l.take n).length c1) ∧ OB w' w.heap.size A1 c1 (l.take n) ∧ Below w.heap.size w w' := by
 obtain ⟨i0, hi, hz0, hz1, hz2⟩ := info_parts info64
 obtain ⟨⟨h1, h2, _⟩, h4, h5⟩ := id h
 unfold maxLen at h2
 by_cases hl : l.length < n
 · have ht : l.take n = l := List.take_of_length_le (by omega)
   have hR : RN w P A c l := ⟨h.1, h4, by omega⟩
   rw [ht]
   have hlB : decide (l.length < n) = true := by simpa using hl
   clear ht h4
   go_enter Tryz.func28, Tryz.ntmps28
   go_wp2_with (at_builtin; refine wpList_append_rs _ rfl _ _ 24 rfl w.heap.size 65 i0 (.int .u64 0) 1 8 Tryz.underlying24 hi hz0 hz1 hz2 rfl (by decide) _ 0 [] rfl (World.ownsRow_nil _ _ _ _) P A l.length c (nts l) rfl hR.1 (oneCell_nts l) l.length (by omega) (by unfold maxLen; omega) (by omega) (Nat.le_refl _) ?_)
   intro A' c' w1 hown hgrow hblk
   go_wp2
   go_ret
   exact ⟨A', c', rfl, OB.of_own (by simpa using hown) hR.2, (Below.refl _ w).grown hgrow (Nat.le_refl _) (by intro k hk; simp [Value.ownBlock] at hk)⟩
 · have hR := h.take (n := n) (by omega) (by omega)
   have hlen : (l.take n).length = n := by rw [List.length_take]; omega
   have hlB : decide (l.length < n) = false := by simpa using hl
   have k1 : (n : Int) ≤ (c : Int) := by omega
   generalize l.take n = d at *
   subst hlen
   clear h4 hl
   go_enter Tryz.func28, Tryz.ntmps28
   go_wp2_with (at_builtin; refine wpList_append_rs _ rfl _ _ 24 rfl w.heap.size 65 i0 (.int .u64 0) 1 8 Tryz.underlying24 hi hz0 hz1 hz2 rfl (by decide) _ 0 [] rfl (World.ownsRow_nil _ _ _ _) P A d.length c (nts d) rfl hR.1 (oneCell_nts d) d.length (by omega) (by unfold maxLen; omega) (by omega) (Nat.le_refl _) ?_)
   intro A' c' w1 hown hgrow hblk
   go_wp2
   go_ret
   exact ⟨A', c', rfl, OB.of_own (by simpa using hown) hR.2, (Below.refl _ w).grown hgrow (Nat.le_refl _) (by intro k hk; simp [Value.ownBlock] at hk)⟩
end Go.Proofs.YtaemogcomplhiaaGreatDoor

namespace Go.Proofs.YtaemogcomplhiaaGreatDoor
open Go.RowKit

set_option maxRecDepth 100000 in
set_option maxHeartbeats 2000000 in
theorem refAdd_any (P P' : Nat → Prop) (A A' : Option Addr) (c c' : Nat) (x y : Nat) (w : World) (h : RN w P A c (digs 4294967296 x)) (h' : RN w P' A' c' (digs 4294967296 y)) (hP : ∀ b, P b → b < w.heap.size) (hP' : ∀ b, P' b → b < w.heap.size)
 (hl : (digs 4294967296 x).length < 100000) (hl' : (digs 4294967296 y).length < 100000) :
 Calls Tryz.prog 50 #[.slice A (digs 4294967296 x).length c, .slice A' (digs 4294967296 y).length c'] w fun e w' => ∃ A1 c1, e = .returned (.slice A1 (digs 4294967296 (x + y)).length c1) ∧
  OB w' w.heap.size A1 c1 (digs 4294967296 (x + y)) ∧ Below w.heap.size w w' := by
 have hx := val_digs (B := 4294967296) (by omega) x
 have hy := val_digs (B := 4294967296) (by omega) y
 have dx := Dig.digs x
 have dy := Dig.digs y
 generalize digs 4294967296 x = l at *
 generalize digs 4294967296 y = m at *
 have Hx := Lib.hid hx
 have Hy := Lib.hid hy
 clear hx hy
 obtain ⟨h1, h2, h3⟩ := h.cap
 obtain ⟨g1, g2, g3⟩ := h'.cap
 go_enter Tryz.func50, Tryz.ntmps50
 go_upto_if 14 with fail
 go_cut [5] (fun s5 wx => ∃ n : Nat, s5 = .int .i64 (n : Int) ∧ l.length ≤ n ∧ m.length ≤ n ∧ n < 100000 ∧ w = wx)
 case first =>
  by_cases hs : l.length < m.length
  · go_wp2_with fail
    go_meet
    case rel => exact ⟨m.length, rfl, by omega, by omega, by omega, rfl⟩
  · go_wp2_with fail
    go_meet
    case rel => exact ⟨l.length, rfl, by omega, by omega, by omega, rfl⟩
 case rest =>
  obtain ⟨n, rfl, hln, hmn, hn, rfl⟩ := hcut
  have hmk := run_make_row' (P := Tryz.prog) 28 65 (.int .u64 0) 8 Tryz.underlying28 info64 rfl .i64 .i64 (n + 1) (by omega) (by omega)
  simp only [Int.natCast_add, Int.cast_ofNat_Int] at hmk
  go_wp2
  go_loopw [7, 8] (fun cv iv wr => ∃ (k cr : Nat) (o : List Nat), iv = .int .i64 (k : Int) ∧ cv = .int .u64 (cr : Int) ∧ k ≤ n + 1 ∧ (k ≤ n → cr ≤ 1) ∧ (k = n + 1 → cr = 0) ∧ AddAt 4294967296 l m o k cr ∧ Hid (o.length = n + 1) ∧ Dig o ∧ Blk wr w.heap.size o ∧ Below w.heap.size w wr) (fun _ iv _ => n + 1 - (intOf iv).toNat)
  case atStart => exact ⟨0, 0, List.replicate (n + 1) 0, rfl, rfl, by omega, by omega, by omega, AddAt.zero _ _ _ _, Lib.hid (by simp), by intro x hx; simp at hx; omega, Blk.made w _, (Below.refl _ w).alloc (Nat.le_refl _) _⟩
  case round =>
   obtain ⟨k, cr, o, rfl, rfl, hk, hcr, hcr0, hA, Ho, hD, hblk, hB⟩ := hrel
   by_cases hlt : k ≤ n
   · have hok : k < o.length := by have := Ho.out; omega
     have q3 := hblk.cell hok
     have q4 := hblk.free k
     have hcr1 := hcr hlt
     have b1 := dx.dgLt k
     have b2 := dy.dgLt k
     obtain ⟨s, cr', hs, hcr', he, hend⟩ : ∃ s c' : Nat, s < 4294967296 ∧ c' ≤ 1 ∧ s + 4294967296 * c' = dg l k + dg m k + cr ∧ (k = n → c' = 0) := by
      refine ⟨(dg l k + dg m k + cr) % 4294967296, (dg l k + dg m k + cr) / 4294967296, by omega, by omega, by omega, fun e => ?_⟩
      rw [dg_none (by omega : l.length ≤ k), dg_none (by omega : m.length ≤ k)]
      omega
     have hA' := hA.step hok he
     have hblk' := hblk.set k s
     have hD' := hD.set k s hs
     have hB' := hB.setCell (p := ⟨w.heap.size, k, none⟩) (Nat.le_refl _) (.int .u64 (s : Int))
     have Ho' : Hid ((o.set k s).length = n + 1) := Lib.hid (by rw [List.length_set]; exact Ho.out)
     have k1 : (k : Int) < (n : Int) + 1 := by omega
     by_cases hm1 : k < l.length
     · obtain ⟨ad, rfl, had, q1⟩ := (h.below hB hP).at_ hm1
       by_cases hm2 : k < m.length
       · obtain ⟨ae, rfl, hae, q2⟩ := (h'.below hB hP').at_ hm2
         have e1 : ((cr : Int) + (dg l k : Int) + (dg m k : Int)) % 4294967296 = (s : Int) := by omega
         have e2 : ((cr : Int) + (dg l k : Int) + (dg m k : Int)) / 4294967296 = (cr' : Int) := by omega
         clear he hA hblk hD hB hok hcr
         go_wp2
         go_roundw
         case rel => exact ⟨k + 1, cr', o.set k s, by go_num, (by first | rfl | exact congrArg (Value.int .u64) e2), by omega, fun _ => hcr', fun e => hend (by omega), hA', Ho', hD', hblk', hB'⟩
         case measure => simp [intOf]; omega
       · have e0 : dg m k = 0 := dg_none (by omega)
         have e1 : ((cr : Int) + (dg l k : Int)) % 4294967296 = (s : Int) := by omega
         have e2 : ((cr : Int) + (dg l k : Int)) / 4294967296 = (cr' : Int) := by omega
         clear he hA hblk hD hB hok hcr e0
         go_wp2
         go_roundw
         case rel => exact ⟨k + 1, cr', o.set k s, by go_num, (by first | rfl | exact congrArg (Value.int .u64) e2), by omega, fun _ => hcr', fun e => hend (by omega), hA', Ho', hD', hblk', hB'⟩
         case measure => simp [intOf]; omega
     · by_cases hm2 : k < m.length
       · obtain ⟨ae, rfl, hae, q2⟩ := (h'.below hB hP').at_ hm2
         have e0 : dg l k = 0 := dg_none (by omega)
         have e1 : ((cr : Int) + (dg m k : Int)) % 4294967296 = (s : Int) := by omega
         have e2 : ((cr : Int) + (dg m k : Int)) / 4294967296 = (cr' : Int) := by omega
         clear he hA hblk hD hB hok hcr e0
         go_wp2
         go_roundw
         case rel => exact ⟨k + 1, cr', o.set k s, by go_num, (by first | rfl | exact congrArg (Value.int .u64) e2), by omega, fun _ => hcr', fun e => hend (by omega), hA', Ho', hD', hblk', hB'⟩
         case measure => simp [intOf]; omega
       · have e0 : dg l k = 0 := dg_none (by omega)
         have e00 : dg m k = 0 := dg_none (by omega)
         have e1 : ((cr : Int)) % 4294967296 = (s : Int) := by omega
         have e2 : ((cr : Int)) / 4294967296 = (cr' : Int) := by omega
         clear he hA hblk hD hB hok hcr e0 e00
         go_wp2
         go_roundw
         case rel => exact ⟨k + 1, cr', o.set k s, by go_num, (by first | rfl | exact congrArg (Value.int .u64) e2), by omega, fun _ => hcr', fun e => hend (by omega), hA', Ho', hD', hblk', hB'⟩
         case measure => simp [intOf]; omega
   · obtain rfl : k = n + 1 := by omega
     have hcr1 := hcr0 rfl
     subst hcr1
     have hfin : val 4294967296 o = x + y := by
      have := hA
      unfold AddAt at this
      rwa [List.take_of_length_le (by rw [Ho.out]; omega), List.take_of_length_le (by omega), List.take_of_length_le (by omega), Hx.out, Hy.out, Nat.mul_zero, Nat.add_zero] at this
     have hLo : Lim o := ⟨fun z hz => by have := hD z hz; omega, by rw [Ho.out]; omega⟩
     have hOB : OB wr w.heap.size (some ⟨w.heap.size, 0, none⟩) (n + 1) o := OB.of_blk hblk (Nat.le_refl _) hLo (by have := Ho.out; omega) (by unfold maxLen; omega)
     have ht := refTrim_any _ _ _ _ _ hOB.rn hD
     have hOB' := hOB.trim32 hD
     rw [hfin, Ho.out] at ht
     rw [hfin] at hOB'
     have Ht := Lib.hid ht
     clear hblk hLo ht hfin hOB hA hcr hcr0
     go_wp2_with fail
     refine Ht.out.mono ?_
     rintro e w1 ⟨rfl, rfl⟩
     go_wp2
     go_ret
     exact ⟨_, _, rfl, hOB', hB⟩
end Go.Proofs.YtaemogcomplhiaaGreatDoor

namespace Go.Proofs.YtaemogcomplhiaaGreatDoor
open Go.RowKit

set_option maxRecDepth 100000 in
set_option maxHeartbeats 2000000 in
theorem refSub_any (P P' : Nat → Prop) (A A' : Option Addr) (c c' : Nat) (x y : Nat) (w : World) (h : RN w P A c (digs 4294967296 x)) (h' : RN w P' A' c' (digs 4294967296 y)) (hP : ∀ b, P b → b < w.heap.size) (hP' : ∀ b, P' b → b < w.heap.size)
 (hl : (digs 4294967296 x).length < 100000) (hle : y ≤ x) :
 Calls Tryz.prog 81 #[.slice A (digs 4294967296 x).length c, .slice A' (digs 4294967296 y).length c'] w fun e w' => ∃ A1 c1, e = .returned (.slice A1 (digs 4294967296 (x - y)).length c1) ∧
  OB w' w.heap.size A1 c1 (digs 4294967296 (x - y)) ∧ Below w.heap.size w w' := by
 have hx := val_digs (B := 4294967296) (by omega) x
 have hy := val_digs (B := 4294967296) (by omega) y
 have hml := digs_length_mono (B := 4294967296) (by omega) hle
 have dx := Dig.digs x
 have dy := Dig.digs y
 generalize digs 4294967296 x = l at *
 generalize digs 4294967296 y = m at *
 have Hx := Lib.hid hx
 have Hy := Lib.hid hy
 clear hx hy
 obtain ⟨h1, h2, h3⟩ := h.cap
 obtain ⟨g1, g2, g3⟩ := h'.cap
 have hmk := run_make_row' (P := Tryz.prog) 28 65 (.int .u64 0) 8 Tryz.underlying28 info64 rfl .i64 .i64 l.length (by omega) (by omega)
 go_enter Tryz.func81, Tryz.ntmps81
 go_wp2
 go_loopw [6, 7] (fun cv iv wr => ∃ (k cr : Nat) (o : List Nat), iv = .int .i64 (k : Int) ∧ cv = .int .u64 (cr : Int) ∧ k ≤ l.length ∧ cr ≤ 1 ∧ SubAt 4294967296 l m o k cr ∧ Hid (o.length = l.length) ∧ Dig o ∧ Blk wr w.heap.size o ∧ Below w.heap.size w wr) (fun _ iv _ => l.length - (intOf iv).toNat)
 case atStart => exact ⟨0, 0, List.replicate l.length 0, rfl, rfl, by omega, by omega, SubAt.zero _ _ _ _, Lib.hid (by simp), by intro x hx; simp at hx; omega, Blk.made w _, (Below.refl _ w).alloc (Nat.le_refl _) _⟩
 case round =>
  obtain ⟨k, cr, o, rfl, rfl, hk, hcr, hA, Ho, hD, hblk, hB⟩ := hrel
  by_cases hlt : k < l.length
  · have hok : k < o.length := by have := Ho.out; omega
    have q3 := hblk.cell hok
    have q4 := hblk.free k
    have b1 := dx.dgLt k
    have b2 := dy.dgLt k
    obtain ⟨ad, rfl, had, q1⟩ := (h.below hB hP).at_ hlt
    by_cases hm2 : k < m.length
    · obtain ⟨ae, rfl, hae, q2⟩ := (h'.below hB hP').at_ hm2
      by_cases hb : dg l k < cr + dg m k
      · obtain ⟨s, hs, e1⟩ : ∃ s : Nat, s < 4294967296 ∧ (dg l k : Int) + 4294967296 - ((cr : Int) + (dg m k : Int)) = (s : Int) := ⟨dg l k + 4294967296 - (cr + dg m k), by omega, by omega⟩
        have hA' := hA.step (s := s) (c' := 1) hok (by omega)
        have hblk' := hblk.set k s
        have hD' := hD.set k s hs
        have hB' := hB.setCell (p := ⟨w.heap.size, k, none⟩) (Nat.le_refl _) (.int .u64 (s : Int))
        have Ho' : Hid ((o.set k s).length = l.length) := Lib.hid (by rw [List.length_set]; exact Ho.out)
        have t1 : (dg l k : Int) < (cr : Int) + (dg m k : Int) := by omega
        clear hA hblk hD hB hok hb
        go_wp2
        go_roundw
        case rel => exact ⟨k + 1, 1, o.set k s, by go_num, by go_num, by omega, by omega, hA', Ho', hD', hblk', hB'⟩
        case measure => simp [intOf]; omega
      · obtain ⟨s, hs, e1⟩ : ∃ s : Nat, s < 4294967296 ∧ (dg l k : Int) - ((cr : Int) + (dg m k : Int)) = (s : Int) := ⟨dg l k - (cr + dg m k), by omega, by omega⟩
        have hA' := hA.step (s := s) (c' := 0) hok (by omega)
        have hblk' := hblk.set k s
        have hD' := hD.set k s hs
        have hB' := hB.setCell (p := ⟨w.heap.size, k, none⟩) (Nat.le_refl _) (.int .u64 (s : Int))
        have Ho' : Hid ((o.set k s).length = l.length) := Lib.hid (by rw [List.length_set]; exact Ho.out)
        have t1 : ¬ (dg l k : Int) < (cr : Int) + (dg m k : Int) := by omega
        clear hA hblk hD hB hok hb
        go_wp2
        go_roundw
        case rel => exact ⟨k + 1, 0, o.set k s, by go_num, by go_num, by omega, by omega, hA', Ho', hD', hblk', hB'⟩
        case measure => simp [intOf]; omega
    · have e0 : dg m k = 0 := dg_none (by omega)
      by_cases hb : dg l k < cr
      · obtain ⟨s, hs, e1⟩ : ∃ s : Nat, s < 4294967296 ∧ (dg l k : Int) + 4294967296 - (cr : Int) = (s : Int) := ⟨dg l k + 4294967296 - cr, by omega, by omega⟩
        have hA' := hA.step (s := s) (c' := 1) hok (by omega)
        have hblk' := hblk.set k s
        have hD' := hD.set k s hs
        have hB' := hB.setCell (p := ⟨w.heap.size, k, none⟩) (Nat.le_refl _) (.int .u64 (s : Int))
        have Ho' : Hid ((o.set k s).length = l.length) := Lib.hid (by rw [List.length_set]; exact Ho.out)
        clear hA hblk hD hB hok e0
        go_wp2
        go_roundw
        case rel => exact ⟨k + 1, 1, o.set k s, by go_num, by go_num, by omega, by omega, hA', Ho', hD', hblk', hB'⟩
        case measure => simp [intOf]; omega
      · obtain ⟨s, hs, e1⟩ : ∃ s : Nat, s < 4294967296 ∧ (dg l k : Int) - (cr : Int) = (s : Int) := ⟨dg l k - cr, by omega, by omega⟩
        have hA' := hA.step (s := s) (c' := 0) hok (by omega)
        have hblk' := hblk.set k s
        have hD' := hD.set k s hs
        have hB' := hB.setCell (p := ⟨w.heap.size, k, none⟩) (Nat.le_refl _) (.int .u64 (s : Int))
        have Ho' : Hid ((o.set k s).length = l.length) := Lib.hid (by rw [List.length_set]; exact Ho.out)
        clear hA hblk hD hB hok e0
        go_wp2
        go_roundw
        case rel => exact ⟨k + 1, 0, o.set k s, by go_num, by go_num, by omega, by omega, hA', Ho', hD', hblk', hB'⟩
        case measure => simp [intOf]; omega
  · obtain rfl : k = l.length := by omega
    have hfin := hA.fin Ho.out hD rfl hml (by rw [Hx.out, Hy.out]; exact hle)
    rw [Hx.out, Hy.out] at hfin
    have hLo : Lim o := ⟨fun z hz => by have := hD z hz; omega, by rw [Ho.out]; omega⟩
    have hOB : OB wr w.heap.size (some ⟨w.heap.size, 0, none⟩) l.length o := OB.of_blk hblk (Nat.le_refl _) hLo (by have := Ho.out; omega) (by unfold maxLen; omega)
    have ht := refTrim_any _ _ _ _ _ hOB.rn hD
    have hOB' := hOB.trim32 hD
    rw [hfin, Ho.out] at ht
    rw [hfin] at hOB'
    have Ht := Lib.hid ht
    clear hblk hLo ht hfin hOB hA
    go_wp2_with fail
    refine Ht.out.mono ?_
    rintro e w1 ⟨rfl, rfl⟩
    go_wp2
    go_ret
    exact ⟨_, _, rfl, hOB', hB⟩

set_option maxRecDepth 100000 in
set_option maxHeartbeats 2000000 in
theorem refMul_any (P P' : Nat → Prop) (A A' : Option Addr) (c c' : Nat) (x y : Nat) (w : World) (h : RN w P A c (digs 4294967296 x)) (h' : RN w P' A' c' (digs 4294967296 y)) (hP : ∀ b, P b → b < w.heap.size) (hP' : ∀ b, P' b → b < w.heap.size)
 (hl : (digs 4294967296 x).length < 100000) (hl' : (digs 4294967296 y).length < 100000) :
 Calls Tryz.prog 80 #[.slice A (digs 4294967296 x).length c, .slice A' (digs 4294967296 y).length c'] w fun e w' => ∃ A1 c1, e = .returned (.slice A1 (digs 4294967296 (x * y)).length c1) ∧
  OB w' w.heap.size A1 c1 (digs 4294967296 (x * y)) ∧ Below w.heap.size w w' := by
 have hx := val_digs (B := 4294967296) (by omega) x
 have hy := val_digs (B := 4294967296) (by omega) y
 have dx := Dig.digs x
 have dy := Dig.digs y
 generalize digs 4294967296 x = l at *
 generalize digs 4294967296 y = m at *
 have Hx := Lib.hid hx
 have Hy := Lib.hid hy
 clear hx hy
 obtain ⟨h1, h2, h3⟩ := h.cap
 obtain ⟨g1, g2, g3⟩ := h'.cap
 have hmk := run_make_row' (P := Tryz.prog) 28 65 (.int .u64 0) 8 Tryz.underlying28 info64 rfl .i64 .i64 (l.length + m.length) (by omega) (by omega)
 simp only [Int.natCast_add] at hmk
 go_enter Tryz.func80, Tryz.ntmps80
 go_wp2
 go_loopw [6] (fun iv wr => ∃ (i : Nat) (o : List Nat), iv = .int .i64 (i : Int) ∧ i ≤ l.length ∧ RowAt 4294967296 l m o i ∧ Dig o ∧ Blk wr w.heap.size o ∧ Below w.heap.size w wr) (fun iv _ => l.length - (intOf iv).toNat)
 case atStart => exact ⟨0, List.replicate (l.length + m.length) 0, rfl, by omega, RowAt.zero _ _ _, by intro x hx; simp at hx; omega, Blk.made w _, (Below.refl _ w).alloc (Nat.le_refl _) _⟩
 case round =>
  obtain ⟨i, o0, rfl, hi, hR, hD, hblk, hB⟩ := hrel
  obtain ⟨wo, rfl⟩ : ∃ wo, wo = wr := ⟨_, rfl⟩
  by_cases hlt : i < l.length
  · obtain ⟨ad, rfl, had, q1⟩ := (h.below hB hP).at_ hlt
    have hxi := dx.dgLt i
    go_wp2
    go_loopw [7, 9] (fun cv jv wr => ∃ (j cr : Nat) (o : List Nat), jv = .int .i64 (j : Int) ∧ cv = .int .u64 (cr : Int) ∧ j ≤ m.length ∧ cr < 4294967296 ∧ MulAt 4294967296 o0 m (dg l i) i o j cr ∧ Dig o ∧ Blk wr w.heap.size o ∧ Below w.heap.size w wr) (fun _ jv _ => m.length - (intOf jv).toNat)
    case atStart => exact ⟨0, 0, o0, rfl, rfl, by omega, by omega, MulAt.zero _ _ _ _ _, hD, hblk, hB⟩
    case round =>
     clear q1 hB hblk hD
     obtain ⟨j, cr, o, rfl, rfl, hj, hcr, hM, hD, hblk, hB⟩ := hrel
     have hol : o.length = l.length + m.length := hM.1.trans hR.1
     by_cases hjt : j < m.length
     · obtain ⟨ae, rfl, hae, q2⟩ := (h'.below hB hP').at_ hjt
       have hok : i + j < o.length := by omega
       have q3 := hblk.cell hok
       have q4 := hblk.free (i + j)
       have b2 := dy.dgLt j
       have b3 := hD.dgLt (i + j)
       have hb := mul_bound hxi b2 b3 hcr
       obtain ⟨pr, hpr⟩ : ∃ pr, dg l i * dg m j = pr := ⟨_, rfl⟩
       have Hpr := Lib.hid (show (dg l i : Int) * (dg m j : Int) = (pr : Int) by rw [← hpr, Int.natCast_mul])
       rw [hpr] at hb
       obtain ⟨s, cr', hs, hcr', he⟩ : ∃ s c' : Nat, s < 4294967296 ∧ c' < 4294967296 ∧ s + 4294967296 * c' = pr + dg o (i + j) + cr :=
        ⟨(pr + dg o (i + j) + cr) % 4294967296, (pr + dg o (i + j) + cr) / 4294967296, by omega, by omega, by omega⟩
       have e1 : ((cr : Int) + ((dg o (i + j) : Int) + (pr : Int))) % 4294967296 = (s : Int) := by omega
       have e2 : ((cr : Int) + ((dg o (i + j) : Int) + (pr : Int))) / 4294967296 = (cr' : Int) := by omega
       have hM' := hM.step hok (by rw [hpr]; exact he)
       have hblk' := hblk.set (i + j) s
       have hD' := hD.set (i + j) s hs
       have hB' := hB.setCell (p := ⟨w.heap.size, i + j, none⟩) (Nat.le_refl _) (.int .u64 (s : Int))
       have k1 : (i : Int) + (j : Int) < (l.length : Int) + (m.length : Int) := by omega
       have k3 : (pr : Int) < 18446744073709551616 := by omega
       have k4 : (cr : Int) + ((dg o (i + j) : Int) + (pr : Int)) < 18446744073709551616 := by omega
       clear he hM hblk hD hB hok hol hb hpr
       have hpr := Hpr.out
       go_wp2
       go_quiet (fail)
       go_wp2
       go_roundw
       case rel => exact ⟨j + 1, cr', o.set (i + j) s, by go_num, (by first | rfl | exact congrArg (Value.int .u64) e2), by omega, hcr', hM', hD', hblk', below_drewN hB' _⟩
       case measure => simp [intOf]; omega
     · obtain rfl : j = m.length := by omega
       have hR' := hR.step hlt hM
       have q3 := hblk.cell (i := i + m.length) (by omega)
       have q4 := hblk.free (i + m.length)
       have hblk' := hblk.set (i + m.length) cr
       have hD' := hD.set (i + m.length) cr hcr
       have hB' := hB.setCell (p := ⟨w.heap.size, i + m.length, none⟩) (Nat.le_refl _) (.int .u64 (cr : Int))
       have k1 : (i : Int) + (m.length : Int) < (l.length : Int) + (m.length : Int) := by omega
       clear hM hblk hD hB hol
       go_wp2
       go_roundw
       case rel => exact ⟨i + 1, o.set (i + m.length) cr, by go_num, by omega, hR', hD', hblk', hB'⟩
       case measure => simp [intOf]; omega
  · obtain rfl : i = l.length := by omega
    have hfin := hR.fin
    rw [Hx.out, Hy.out] at hfin
    have hol := hR.1
    have hLo : Lim o0 := ⟨fun z hz => by have := hD z hz; omega, by omega⟩
    have hOB : OB wo w.heap.size (some ⟨w.heap.size, 0, none⟩) (l.length + m.length) o0 := OB.of_blk hblk (Nat.le_refl _) hLo (by omega) (by unfold maxLen; omega)
    have ht := refTrim_any _ _ _ _ _ hOB.rn hD
    have hOB' := hOB.trim32 hD
    rw [hfin, hol] at ht
    rw [hfin] at hOB'
    have Ht := Lib.hid ht
    clear hblk hLo ht hfin hOB hR hol
    go_wp2_with fail
    refine Ht.out.mono ?_
    rintro e w1 ⟨rfl, rfl⟩
    go_wp2
    go_ret
    exact ⟨_, _, rfl, hOB', hB⟩
end Go.Proofs.YtaemogcomplhiaaGreatDoor

namespace Go.Proofs.YtaemogcomplhiaaGreatDoor

def GuessAt (b u u1 y1 y0 q r : Nat) : Prop := q * y1 + r = u ∧ (u * b + u1) / (y1 * b + y0) ≤ q ∧ q ≤ b + 1
structure GuessOk (b u u1 y1 y0 : Nat) : Prop where
 hb : 2 ≤ b
 hy : b ≤ 2 * y1
 hy1 : y1 < b
 hy0 : y0 < b
 hu1 : u1 < b
 hu : u < y1 * b + y0
section
variable {b u u1 y1 y0 q r : Nat}
theorem GuessOk.start (h : GuessOk b u u1 y1 y0) : GuessAt b u u1 y1 y0 (u / y1) (u - u / y1 * y1) ∧ u - u / y1 * y1 < b ∧ u / y1 * y1 ≤ u := by
 obtain ⟨hb, hy, hy1, hy0, hu1, hu⟩ := h
 have h1 : u / y1 * y1 ≤ u := Nat.div_mul_le_self u y1
 have h2 : u < u / y1 * y1 + y1 := Nat.lt_div_mul_add (by omega)
 generalize hG : u / y1 = G at *
 have h3 : G ≤ b + 1 := by
  rcases Nat.lt_or_ge (b + 1) G with h | h
  · have h6 : (b + 2) * y1 ≤ G * y1 := Nat.mul_le_mul_right _ h
    rw [Nat.add_mul, Nat.mul_comm b] at h6
    omega
  · exact h
 have h4 : (u * b + u1) / (y1 * b + y0) ≤ G := by
  apply Nat.le_of_lt_succ
  apply Nat.div_lt_of_lt_mul
  have h5 : (y1 * b + y0) * (G + 1) = (G * y1 + y1) * b + y0 * (G + 1) := by
   rw [Nat.mul_add, Nat.add_mul, Nat.mul_one, Nat.mul_add, Nat.mul_one, Nat.add_mul, Nat.mul_right_comm, Nat.mul_comm y1 G]
   omega
  have h7 : (u + 1) * b ≤ (G * y1 + y1) * b := Nat.mul_le_mul_right _ h2
  rw [Nat.add_mul, Nat.one_mul] at h7
  show _ < _ * (G + 1)
  rw [h5]
  omega
 unfold GuessAt
 generalize G * y1 = p at *
 exact ⟨⟨by omega, h4, h3⟩, by omega, h1⟩
theorem GuessOk.quo_lt (h : GuessOk b u u1 y1 y0) : (u * b + u1) / (y1 * b + y0) < b := by
 obtain ⟨hb, hy, hy1, hy0, hu1, hu⟩ := h
 apply Nat.div_lt_of_lt_mul
 have h1 : (u + 1) * b ≤ (y1 * b + y0) * b := Nat.mul_le_mul_right _ hu
 rw [Nat.add_mul, Nat.one_mul] at h1
 omega
theorem GuessAt.le (h : GuessOk b u u1 y1 y0) (hg : GuessAt b u u1 y1 y0 q r) (hd : q * y0 ≤ b * r + u1) : q = (u * b + u1) / (y1 * b + y0) := by
 obtain ⟨h1, h2, h3⟩ := hg
 have hD : 0 < y1 * b + y0 := by have := Nat.mul_pos (show 0 < y1 by have := h.hy; have := h.hb; omega) (show 0 < b by have := h.hb; omega); omega
 refine Nat.le_antisymm ((Nat.le_div_iff_mul_le hD).2 ?_) h2
 have e : q * (y1 * b + y0) = q * y1 * b + q * y0 := by rw [Nat.mul_add, Nat.mul_assoc]
 have e2 : u * b = q * y1 * b + b * r := by rw [← h1, Nat.add_mul, Nat.mul_comm r]
 omega
theorem GuessAt.gt (h : GuessOk b u u1 y1 y0) (hg : GuessAt b u u1 y1 y0 q r) (hd : b ≤ q ∨ b * r + u1 < q * y0) : (u * b + u1) / (y1 * b + y0) < q := by
 obtain ⟨h1, h2, h3⟩ := hg
 rcases hd with hd | hd
 · have := h.quo_lt; omega
 · apply Nat.div_lt_of_lt_mul
   have e : (y1 * b + y0) * q = q * y1 * b + q * y0 := by rw [Nat.mul_comm, Nat.mul_add, Nat.mul_assoc]
   have e2 : u * b = q * y1 * b + b * r := by rw [← h1, Nat.add_mul, Nat.mul_comm r]
   omega
theorem GuessAt.step (h : GuessOk b u u1 y1 y0) (hg : GuessAt b u u1 y1 y0 q r) (hd : b ≤ q ∨ b * r + u1 < q * y0) : GuessAt b u u1 y1 y0 (q - 1) (r + y1) ∧ 1 ≤ q := by
 have h4 := hg.gt h hd
 obtain ⟨h1, h2, h3⟩ := hg
 obtain ⟨n, rfl⟩ : ∃ n, q = n + 1 := ⟨q - 1, by have := Nat.zero_le ((u * b + u1) / (y1 * b + y0)); omega⟩
 refine ⟨⟨?_, by rw [Nat.add_sub_cancel]; exact Nat.le_of_lt_succ h4, by omega⟩, by omega⟩
 rw [Nat.add_mul] at h1
 rw [Nat.add_sub_cancel]
 omega
theorem GuessAt.out (h : GuessOk b u u1 y1 y0) (hg : GuessAt b u u1 y1 y0 q r) (hq : q ≤ b) (hr : b ≤ r) : q = (u * b + u1) / (y1 * b + y0) := by
 refine hg.le h ?_
 have h1 : q * y0 ≤ b * b := Nat.mul_le_mul hq (by have := h.hy0; omega)
 have h2 : b * b ≤ b * r := Nat.mul_le_mul_left _ hr
 omega
theorem GuessAt.mul_le (hg : GuessAt b u u1 y1 y0 q r) (hy0 : y0 < b) : q * y0 < b * b := by
 obtain ⟨_, _, h3⟩ := hg
 obtain ⟨n, rfl⟩ : ∃ n, b = n + 1 := ⟨b - 1, by omega⟩
 have h1 : q * y0 ≤ (n + 2) * n := Nat.mul_le_mul (by omega) (by omega)
 have h2 : (n + 2) * n = n * n + 2 * n := by rw [Nat.add_mul]
 have h3 : (n + 1) * (n + 1) = n * n + 2 * n + 1 := by simp only [Nat.add_mul, Nat.mul_add]; omega
 omega
end
theorem rest_of {N D : Nat} (hD : 0 < D) : N / D * D ≤ N ∧ N - N / D * D < D := by
 have h1 := Nat.div_mul_le_self N D
 have h2 := Nat.lt_div_mul_add (a := N) hD
 omega
theorem two_steps {b N D u1 u0 : Nat} (hD : 0 < D) (r q0 : Nat) (hr : r = N * b + u1 - (N * b + u1) / D * D) (hq : q0 = (r * b + u0) / D) :
 (N * b + u1) / D * b + q0 = ((N * b + u1) * b + u0) / D ∧ r * b + u0 - q0 * D = ((N * b + u1) * b + u0) % D := by
 have h1 := rest_of (N := N * b + u1) hD
 generalize N * b + u1 = M at *
 have e : M = M / D * D + r := by omega
 have e2 : M * b + u0 = (M / D * b) * D + (r * b + u0) := by
  have : M * b = (M / D * D + r) * b := by rw [← e]
  rw [this, Nat.add_mul, Nat.mul_right_comm, Nat.add_assoc]
 have hd : (M * b + u0) / D = M / D * b + (r * b + u0) / D := by
  rw [e2, Nat.add_comm, Nat.add_mul_div_right _ _ hD, Nat.add_comm]
 have hm : (M * b + u0) % D = (r * b + u0) % D := by
  rw [e2, Nat.add_comm, Nat.add_mul_mod_self_right]
 rw [hd, hm, hq]
 refine ⟨rfl, ?_⟩
 have h5 := Nat.div_add_mod (r * b + u0) D
 have h6 : (r * b + u0) / D * D = D * ((r * b + u0) / D) := Nat.mul_comm _ _
 omega
theorem le_of_log {y k : Nat} (hy : y ≠ 0) (h : Lib.bitLen y = k) (hlt : y < 18446744073709551616) : 1 ≤ k ∧ k ≤ 64 ∧ 2 ^ (k - 1) ≤ y ∧ y < 2 ^ k := by
 have h1 := Lib.bitLenAux_bounds 64 y hlt hy
 have h2 := Lib.bitLen_le y 64 (Nat.le_refl _) hlt
 subst h
 exact ⟨h1.1, h2, h1.2⟩
theorem shift_of {y : Nat} (hy : y ≠ 0) (hlt : y < 18446744073709551616) : ∃ s, s < 64 ∧ Lib.bitLen y = 64 - s ∧ 9223372036854775808 ≤ y * 2 ^ s ∧ y * 2 ^ s < 18446744073709551616 := by
 obtain ⟨h1, h2, h3, h4⟩ := le_of_log hy rfl hlt
 refine ⟨64 - Lib.bitLen y, by omega, by omega, ?_, ?_⟩
 · have : 2 ^ (Lib.bitLen y - 1) * 2 ^ (64 - Lib.bitLen y) ≤ y * 2 ^ (64 - Lib.bitLen y) := Nat.mul_le_mul_right _ h3
   rw [← Nat.pow_add, show Lib.bitLen y - 1 + (64 - Lib.bitLen y) = 63 by omega] at this
   simpa using this
 · have : y * 2 ^ (64 - Lib.bitLen y) < 2 ^ Lib.bitLen y * 2 ^ (64 - Lib.bitLen y) := Nat.mul_lt_mul_of_pos_right h4 (Nat.pow_pos (by omega))
   rw [← Nat.pow_add, show Lib.bitLen y + (64 - Lib.bitLen y) = 64 by omega] at this
   simpa using this
theorem moved {hi lo y s : Nat} (hs : s < 64) (hlo : lo < 18446744073709551616) (h : hi < y) (hy : y * 2 ^ s < 18446744073709551616) :
 hi * 2 ^ s + lo / 2 ^ (64 - s) < y * 2 ^ s ∧ lo / 2 ^ (64 - s) < 2 ^ s ∧ (hi * 2 ^ s + lo / 2 ^ (64 - s)) * 18446744073709551616 + lo * 2 ^ s % 18446744073709551616 = (hi * 18446744073709551616 + lo) * 2 ^ s ∧ hi * 2 ^ s < 18446744073709551616 := by
 have e64 : (18446744073709551616 : Nat) = 2 ^ s * 2 ^ (64 - s) := by rw [← Nat.pow_add, show s + (64 - s) = 64 by omega]
 have h1 : lo / 2 ^ (64 - s) < 2 ^ s := by
  apply Nat.div_lt_of_lt_mul
  rw [Nat.mul_comm, ← e64]; exact hlo
 have h2 : (hi + 1) * 2 ^ s ≤ y * 2 ^ s := Nat.mul_le_mul_right _ h
 rw [Nat.add_mul, Nat.one_mul] at h2
 refine ⟨by omega, h1, ?_, by have := Nat.pow_pos (n := s) (show 0 < 2 by omega); omega⟩
 have h3 : lo * 2 ^ s / 18446744073709551616 = lo / 2 ^ (64 - s) := by
  rw [e64, Nat.mul_comm lo, Nat.mul_div_mul_left _ _ (Nat.pow_pos (by omega))]
 have h4 := Nat.div_add_mod (lo * 2 ^ s) 18446744073709551616
 rw [h3] at h4
 rw [Nat.add_mul, Nat.add_mul, Nat.mul_right_comm hi]
 omega
end Go.Proofs.YtaemogcomplhiaaGreatDoor

namespace Go.Proofs.YtaemogcomplhiaaGreatDoor
open Go.RowKit

theorem or_shift (i a b : Nat) (h : b < 2 ^ i) : a * 2 ^ i ||| b = a * 2 ^ i + b := by
 rw [Nat.mul_comm, Nat.two_pow_add_eq_or_of_lt h]
theorem mask32 (x : Nat) : x &&& 4294967295 = x % 4294967296 := by
 have h := Nat.and_two_pow_sub_one_eq_mod x 32
 rwa [show 2 ^ 32 - 1 = 4294967295 by decide, show 2 ^ 32 = 4294967296 by decide] at h
theorem and_mask32 (x : Nat) (hx : x < 18446744073709551616) : bits .and .u64 (x : Int) 4294967295 = ((x % 4294967296 : Nat) : Int) := by
 have h := bits_and_u64_nat x 4294967295 hx (by omega)
 rw [mask32] at h
 exact h
theorem halves (x : Nat) (hx : x < 18446744073709551616) : ∃ a b : Nat, a < 4294967296 ∧ b < 4294967296 ∧ a * 4294967296 + b = x ∧ (x : Int) / 4294967296 = (a : Int) ∧ bits .and .u64 (x : Int) 4294967295 = (b : Int) := by
 have h := Nat.div_add_mod x 4294967296
 have h2 := Nat.mod_lt x (show 0 < 4294967296 by omega)
 have h3 := and_mask32 x hx
 have h4 : (x : Int) / 4294967296 = ((x / 4294967296 : Nat) : Int) := by omega
 generalize x / 4294967296 = a at *
 generalize x % 4294967296 = b at *
 exact ⟨a, b, by omega, h2, by omega, h4, h3⟩
theorem join4 (a b c d : Nat) (h : b * 4294967296 + c = d) : (a * 4294967296 + b) * 4294967296 + c = a * 18446744073709551616 + d := by
 rw [← h, Nat.add_mul, Nat.mul_assoc, Nat.add_assoc]
theorem wrap_diff (a b r k l : Nat) (h : b + r = a) (hr : r < 18446744073709551616) : IntKind.u64.wrap (((a - 18446744073709551616 * k : Int)) - ((b : Int) - 18446744073709551616 * l)) = (r : Int) := by
 simp [IntKind.wrap, IntKind.bits, IntKind.signed]
 omega
theorem ret_uu {a b c d : Int} (h : a = b) (h' : c = d) : Ending.returned (.tuple #[.int .u64 a, .int .u64 c]) = .returned (.tuple #[.int .u64 b, .int .u64 d]) := by rw [h, h']

set_option maxHeartbeats 400000 in
theorem div64_zero (lo y : Nat) (w : World) (hlo : lo < 18446744073709551616) (hy : 0 < y) (hy' : y < 18446744073709551616) :
 Calls Tryz.prog 133 #[.int .u64 0, .int .u64 (lo : Int), .int .u64 (y : Int)] w fun e w' => e = .returned (.tuple #[.int .u64 ((lo / y : Nat) : Int), .int .u64 ((lo % y : Nat) : Int)]) ∧ ∃ n, w' = w.drewN n := by
 have h0 : ((y : Int) == 0) = false := eqB (by omega)
 have h1 : (0 : Int) < (y : Int) := by omega
 have hq : IntKind.u64.wrap ((lo : Int) / (y : Int)) = ((lo / y : Nat) : Int) := by
  have h : lo / y ≤ lo := Nat.div_le_self lo y
  rw [← Int.natCast_ediv]
  generalize lo / y = z at *
  exact IntWalk.u64_in _ (by omega)
 go_enter Tryz.func133, Tryz.ntmps133
 go_wp2
 go_quiet (fail)
 go_wp2
 go_ret2
 exact ⟨ret_uu (by simp) (by simp), _, rfl⟩

set_option maxRecDepth 100000 in
set_option maxHeartbeats 4000000 in
theorem div64_pos (hi lo y : Nat) (w : World) (hlo : lo < 18446744073709551616) (h0 : 0 < hi) (hhi : hi < y) (hy' : y < 18446744073709551616) :
 Calls Tryz.prog 133 #[.int .u64 (hi : Int), .int .u64 (lo : Int), .int .u64 (y : Int)] w fun e w' => e = .returned (.tuple #[.int .u64 (((hi * 18446744073709551616 + lo) / y : Nat) : Int), .int .u64 (((hi * 18446744073709551616 + lo) % y : Nat) : Int)]) ∧ ∃ n, w' = w.drewN n := by
 have n0 : ((y : Int) == 0) = false := eqB (by omega)
 have n1 : ((hi : Int) == 0) = false := eqB (by omega)
 have n2 : ¬ (y : Int) ≤ (hi : Int) := by omega
 obtain ⟨s, hs, hbl, hY1, hY2⟩ := shift_of (y := y) (by omega) hy'
 have hlz := (Tryz.bits_LeadingZeros64 (y : Int) w (by omega) (by omega))
 rw [Int.toNat_natCast, hbl, show (64 - ((64 - s : Nat) : Int)) = (s : Int) by omega] at hlz
 have Hlz := Lib.hid hlz
 clear hlz hbl
 obtain ⟨m1, m2, m3, m4⟩ := moved hs hlo hhi hY2
 obtain ⟨H, hH⟩ : ∃ H, hi * 2 ^ s = H := ⟨_, rfl⟩
 obtain ⟨L1, hL1⟩ : ∃ L1, lo / 2 ^ (64 - s) = L1 := ⟨_, rfl⟩
 obtain ⟨Y, hY⟩ : ∃ Y, y * 2 ^ s = Y := ⟨_, rfl⟩
 obtain ⟨L, hL⟩ : ∃ L, lo * 2 ^ s % 18446744073709551616 = L := ⟨_, rfl⟩
 have hor : H ||| L1 = H + L1 := by rw [← hH]; exact or_shift s hi L1 (by rw [← hL1]; exact m2)
 have f1 : IntKind.u64.wrap ((y : Int) * 2 ^ s) = (Y : Int) := by
  rw [show ((y : Int) * 2 ^ s) = (Y : Int) by rw [← hY]; simp]
  exact IntWalk.u64_in _ (by omega)
 have f4 : IntKind.u64.wrap ((hi : Int) * 2 ^ s) = (H : Int) := by
  rw [show ((hi : Int) * 2 ^ s) = (H : Int) by rw [← hH]; simp]
  exact IntWalk.u64_in _ (by omega)
 have f5 : (lo : Int) / 2 ^ (64 - s) = (L1 : Int) := by rw [← hL1]; simp
 have f7 : IntKind.u64.wrap ((lo : Int) * 2 ^ s) = (L : Int) := by
  rw [← hL]
  simp [IntKind.wrap, IntKind.bits, IntKind.signed]
 have k1 : (s : Int) < 64 := by omega
 rw [hH] at m1 m3 m4
 rw [hL1] at m1 m2 m3
 rw [hY] at m1 hY1 hY2
 rw [hL] at m3
 have hLlt : L < 18446744073709551616 := by rw [← hL]; exact Nat.mod_lt _ (by omega)
 obtain ⟨U, hU⟩ : ∃ U, H + L1 = U := ⟨_, rfl⟩
 rw [hU] at m1 m3 hor
 have f6 : bits .or .u64 (H : Int) (L1 : Int) = (U : Int) := by
  rw [bits_or_u64_nat H L1 (by omega) (by omega), hor]
 obtain ⟨y1, y0, hy1, hy0, hyy, f2, f3⟩ : ∃ y1 y0 : Nat, y1 < 4294967296 ∧ y0 < 4294967296 ∧ y1 * 4294967296 + y0 = Y ∧ (Y : Int) / 4294967296 = (y1 : Int) ∧ bits .and .u64 (Y : Int) 4294967295 = (y0 : Int)  := halves Y hY2
 obtain ⟨u1, u0, hu1, hu0, huu, f8, f9⟩ : ∃ u1 u0 : Nat, u1 < 4294967296 ∧ u0 < 4294967296 ∧ u1 * 4294967296 + u0 = L ∧ (L : Int) / 4294967296 = (u1 : Int) ∧ bits .and .u64 (L : Int) 4294967295 = (u0 : Int)  := halves L hLlt
 have G : GuessOk 4294967296 U u1 y1 y0 := ⟨by omega, by omega, hy1, hy0, hu1, by omega⟩
 obtain ⟨hg, hr, hp⟩ := G.start
 obtain ⟨q, hq⟩ : ∃ q, U / y1 = q := ⟨_, rfl⟩
 rw [hq] at hg hr hp
 obtain ⟨p, hp'⟩ : ∃ p, q * y1 = p := ⟨_, rfl⟩
 rw [hp'] at hg hr hp
 obtain ⟨r, hr'⟩ : ∃ r, U - p = r := ⟨_, rfl⟩
 rw [hr'] at hg hr
 have hqU : q ≤ U := by rw [← hq]; exact Nat.div_le_self U y1
 have f10 : IntKind.u64.wrap ((U : Int) / (y1 : Int)) = (q : Int) := by rw [← Int.natCast_ediv, hq]; exact IntWalk.u64_in _ (by omega)
 have f10' : IntKind.u64.wrap ((U : Int).tdiv (y1 : Int)) = (q : Int) := by rw [Int.tdiv_eq_ediv_of_nonneg (by omega)]; exact f10
 have f11 : IntKind.u64.wrap ((q : Int) * (y1 : Int)) = (p : Int) := by rw [← Int.natCast_mul, hp']; exact IntWalk.u64_in _ (by omega)
 have f12 : (U : Int) - (p : Int) = (r : Int) := by omega
 have n3 : ((y1 : Int) == 0) = false := eqB (by omega)
 have n4 : ¬ y1 = 0 := by omega
 have HY := Lib.hid hY
 clear hH hL1 hY hL hor hU hq hp' hr' hp
 go_enter Tryz.func133, Tryz.ntmps133
 go_wp2_with fail
 refine Hlz.out.mono ?_
 rintro e w1 ⟨rfl, rfl⟩
 go_upto_block 0 with fail
 go_cut [15, 16] (fun s15 s16 wx => ∃ Q r' : Nat, s15 = .int .u64 (Q : Int) ∧ s16 = .int .u64 (r' : Int) ∧ Hid (Q = (U * 4294967296 + u1) / (y1 * 4294967296 + y0)) ∧ w1 = wx)
 case first =>
  go_wp2_with fail
  go_loop [15, 16] (fun qv rv => ∃ q r : Nat, qv = .int .u64 (q : Int) ∧ rv = .int .u64 (r : Int) ∧ GuessAt 4294967296 U u1 y1 y0 q r ∧ r < 4294967296) (fun qv _ => (intOf qv).toNat)
  case atStart => exact ⟨q, r, rfl, rfl, hg, hr⟩
  case round =>
   clear hg hr
   obtain ⟨q, r, rfl, rfl, hg, hr⟩ := hrel
   have hml := hg.mul_le hy0
   obtain ⟨z, hz⟩ : ∃ z, q * y0 = z := ⟨_, rfl⟩
   rw [hz] at hml
   have hqb := hg.2.2
   by_cases h1 : 4294967296 ≤ q ∨ 4294967296 * r + u1 < q * y0
   · obtain ⟨hg', hq1⟩ := hg.step G h1
     obtain ⟨n, rfl⟩ : ∃ n, q = n + 1 := ⟨q - 1, by omega⟩
     rw [Nat.add_sub_cancel] at hg'
     have g1 : IntKind.u64.wrap (((n : Int) + 1) * (y0 : Int)) = (z : Int) := by
      rw [show ((n : Int) + 1) * (y0 : Int) = (z : Int) by rw [← hz]; simp]
      exact IntWalk.u64_in _ (by omega)
     rw [hz] at h1
     have hout := fun h => hg'.out G (by omega) h
     have Hout := Lib.hid hout
     clear hout hg hz hml
     by_cases h3 : 4294967296 ≤ r + y1
     · have hQ := Lib.hid (Hout.out h3)
       by_cases h4 : 4294967296 ≤ n + 1
       · have i4 : (4294967296 : Int) ≤ (n : Int) + 1 := by omega
         have i3 : (4294967296 : Int) ≤ (r : Int) + (y1 : Int) := by omega
         clear h1 h3 h4
         go_wp2
         go_meet
         case rel => exact ⟨n, _, by go_num, rfl, hQ, rfl⟩
       · have i5 : (4294967296 : Int) * (r : Int) + (u1 : Int) < (z : Int) := by omega
         have i4 : ¬ (4294967296 : Int) ≤ (n : Int) + 1 := by omega
         have i3 : (4294967296 : Int) ≤ (r : Int) + (y1 : Int) := by omega
         clear h1 h3 h4
         go_wp2
         go_meet
         case rel => exact ⟨n, _, by go_num, rfl, hQ, rfl⟩
     · by_cases h4 : 4294967296 ≤ n + 1
       · have i4 : (4294967296 : Int) ≤ (n : Int) + 1 := by omega
         have i3 : ¬ (4294967296 : Int) ≤ (r : Int) + (y1 : Int) := by omega
         have H3 := Lib.hid h3
         clear h1 h3 h4
         go_wp2
         go_round
         case rel => exact ⟨n, r + y1, by go_num, by go_num, hg', by have := H3.out; omega⟩
         case measure => simp [intOf]
       · have i5 : (4294967296 : Int) * (r : Int) + (u1 : Int) < (z : Int) := by omega
         have i4 : ¬ (4294967296 : Int) ≤ (n : Int) + 1 := by omega
         have i3 : ¬ (4294967296 : Int) ≤ (r : Int) + (y1 : Int) := by omega
         have H3 := Lib.hid h3
         clear h1 h3 h4
         go_wp2
         go_round
         case rel => exact ⟨n, r + y1, by go_num, by go_num, hg', by have := H3.out; omega⟩
         case measure => simp [intOf]
   · have hQ := Lib.hid (hg.le G (by omega))
     have g1 : IntKind.u64.wrap ((q : Int) * (y0 : Int)) = (z : Int) := by
      rw [show (q : Int) * (y0 : Int) = (z : Int) by rw [← hz]; simp]
      exact IntWalk.u64_in _ (by omega)
     have i4 : ¬ (4294967296 : Int) ≤ (q : Int) := by omega
     have i5 : ¬ (4294967296 : Int) * (r : Int) + (u1 : Int) < (z : Int) := by omega
     clear h1 hg hz hml
     go_wp2
     go_meet
     case rel => exact ⟨q, _, rfl, rfl, hQ, rfl⟩
 case rest =>
  clear hg hr hqU f10 f10' f11 f12
  obtain ⟨Q, r', rfl, rfl, HQ, rfl⟩ := hcut
  have hQ := HQ.out
  rw [hyy] at hQ
  have hQb := G.quo_lt
  rw [hyy, ← hQ] at hQb
  have hYpos : 0 < Y := by omega
  have hrest := rest_of (N := U * 4294967296 + u1) hYpos
  rw [← hQ] at hrest
  obtain ⟨p3, hp3⟩ : ∃ p3, Q * Y = p3 := ⟨_, rfl⟩
  rw [hp3] at hrest
  obtain ⟨R, hR⟩ : ∃ R, U * 4294967296 + u1 - p3 = R := ⟨_, rfl⟩
  rw [hR] at hrest
  obtain ⟨hr1, hr2⟩ := hrest
  obtain ⟨a1, k1', ha1, ha1b, ha1e⟩ : ∃ a1 k1 : Nat, IntKind.u64.wrap ((U : Int) * 4294967296) = (a1 : Int) ∧ (a1 : Int) ≤ 18446744069414584320 ∧ (a1 : Int) = (U : Int) * 4294967296 - 18446744073709551616 * k1 := by
   refine ⟨U * 4294967296 % 18446744073709551616, U / 4294967296, ?_, by omega, by omega⟩
   simp [IntKind.wrap, IntKind.bits, IntKind.signed]
  obtain ⟨a3, k3, ha3, ha3e⟩ : ∃ a3 k3 : Nat, IntKind.u64.wrap ((Q : Int) * (Y : Int)) = (a3 : Int) ∧ (a3 : Int) = (p3 : Int) - 18446744073709551616 * k3 := by
   rw [show (Q : Int) * (Y : Int) = (p3 : Int) by rw [← hp3]; simp]
   exact ⟨p3 % 18446744073709551616, p3 / 18446744073709551616, by simp [IntKind.wrap, IntKind.bits, IntKind.signed], by omega⟩
  have hd : IntKind.u64.wrap ((a1 : Int) + (u1 : Int) - (a3 : Int)) = (R : Int) := by
   have := wrap_diff (U * 4294967296 + u1) p3 R k1' k3 (by omega) (by omega)
   rw [ha3e, ha1e, ← this]
   congr 1
   simp
   omega
  have G2 : GuessOk 4294967296 R u0 y1 y0 := ⟨by omega, by omega, hy1, hy0, hu0, by omega⟩
  obtain ⟨hg, hr, hp⟩ := G2.start
  obtain ⟨qq, hq⟩ : ∃ q, R / y1 = q := ⟨_, rfl⟩
  rw [hq] at hg hr hp
  obtain ⟨pp, hp'⟩ : ∃ p, qq * y1 = p := ⟨_, rfl⟩
  rw [hp'] at hg hr hp
  obtain ⟨rr, hr'⟩ : ∃ r, R - pp = r := ⟨_, rfl⟩
  rw [hr'] at hg hr
  have hqU : qq ≤ R := by rw [← hq]; exact Nat.div_le_self R y1
  have f10 : IntKind.u64.wrap ((R : Int) / (y1 : Int)) = (qq : Int) := by rw [← Int.natCast_ediv, hq]; exact IntWalk.u64_in _ (by omega)
  have f10' : IntKind.u64.wrap ((R : Int).tdiv (y1 : Int)) = (qq : Int) := by rw [Int.tdiv_eq_ediv_of_nonneg (by omega)]; exact f10
  have f11 : IntKind.u64.wrap ((qq : Int) * (y1 : Int)) = (pp : Int) := by rw [← Int.natCast_mul, hp']; exact IntWalk.u64_in _ (by omega)
  have f12 : (R : Int) - (pp : Int) = (rr : Int) := by omega
  have hts := two_steps (b := 4294967296) (N := U) (u1 := u1) (u0 := u0) hYpos R _ (by rw [← hQ, hp3]; exact hR.symm) rfl
  rw [← hQ] at hts
  have Hts := Lib.hid hts
  have Hp3 := Lib.hid hp3
  have HR := Lib.hid hR
  clear hts hQ hp3 hR ha1e ha3e hq hp' hr' hp hr1
  go_upto_block 2 with fail
  go_cut [18, 16] (fun s18 s16 wx => ∃ Q r' : Nat, s18 = .int .u64 (Q : Int) ∧ s16 = .int .u64 (r' : Int) ∧ Hid (Q = (R * 4294967296 + u0) / (y1 * 4294967296 + y0)) ∧ w1 = wx)
  case first =>
   go_wp2_with fail
   go_loop [18, 16] (fun qv rv => ∃ q r : Nat, qv = .int .u64 (q : Int) ∧ rv = .int .u64 (r : Int) ∧ GuessAt 4294967296 R u0 y1 y0 q r ∧ r < 4294967296) (fun qv _ => (intOf qv).toNat)
   case atStart => exact ⟨qq, rr, rfl, rfl, hg, hr⟩
   case round =>
    clear hg hr
    obtain ⟨q, r, rfl, rfl, hg, hr⟩ := hrel
    have hml := hg.mul_le hy0
    obtain ⟨z, hz⟩ : ∃ z, q * y0 = z := ⟨_, rfl⟩
    rw [hz] at hml
    have hqb := hg.2.2
    by_cases h1 : 4294967296 ≤ q ∨ 4294967296 * r + u0 < q * y0
    · obtain ⟨hg', hq1⟩ := hg.step G2 h1
      obtain ⟨n, rfl⟩ : ∃ n, q = n + 1 := ⟨q - 1, by omega⟩
      rw [Nat.add_sub_cancel] at hg'
      have g1 : IntKind.u64.wrap (((n : Int) + 1) * (y0 : Int)) = (z : Int) := by
       rw [show ((n : Int) + 1) * (y0 : Int) = (z : Int) by rw [← hz]; simp]
       exact IntWalk.u64_in _ (by omega)
      rw [hz] at h1
      have hout := fun h => hg'.out G2 (by omega) h
      have Hout := Lib.hid hout
      clear hout hg hz hml
      by_cases h3 : 4294967296 ≤ r + y1
      · have hQ := Lib.hid (Hout.out h3)
        by_cases h4 : 4294967296 ≤ n + 1
        · have i4 : (4294967296 : Int) ≤ (n : Int) + 1 := by omega
          have i3 : (4294967296 : Int) ≤ (r : Int) + (y1 : Int) := by omega
          clear h1 h3 h4
          go_wp2
          go_meet
          case rel => exact ⟨n, _, by go_num, rfl, hQ, rfl⟩
        · have i5 : (4294967296 : Int) * (r : Int) + (u0 : Int) < (z : Int) := by omega
          have i4 : ¬ (4294967296 : Int) ≤ (n : Int) + 1 := by omega
          have i3 : (4294967296 : Int) ≤ (r : Int) + (y1 : Int) := by omega
          clear h1 h3 h4
          go_wp2
          go_meet
          case rel => exact ⟨n, _, by go_num, rfl, hQ, rfl⟩
      · by_cases h4 : 4294967296 ≤ n + 1
        · have i4 : (4294967296 : Int) ≤ (n : Int) + 1 := by omega
          have i3 : ¬ (4294967296 : Int) ≤ (r : Int) + (y1 : Int) := by omega
          have H3 := Lib.hid h3
          clear h1 h3 h4
          go_wp2
          go_round
          case rel => exact ⟨n, r + y1, by go_num, by go_num, hg', by have := H3.out; omega⟩
          case measure => simp [intOf]
        · have i5 : (4294967296 : Int) * (r : Int) + (u0 : Int) < (z : Int) := by omega
          have i4 : ¬ (4294967296 : Int) ≤ (n : Int) + 1 := by omega
          have i3 : ¬ (4294967296 : Int) ≤ (r : Int) + (y1 : Int) := by omega
          have H3 := Lib.hid h3
          clear h1 h3 h4
          go_wp2
          go_round
          case rel => exact ⟨n, r + y1, by go_num, by go_num, hg', by have := H3.out; omega⟩
          case measure => simp [intOf]
    · have hQ := Lib.hid (hg.le G2 (by omega))
      have g1 : IntKind.u64.wrap ((q : Int) * (y0 : Int)) = (z : Int) := by
       rw [show (q : Int) * (y0 : Int) = (z : Int) by rw [← hz]; simp]
       exact IntWalk.u64_in _ (by omega)
      have i4 : ¬ (4294967296 : Int) ≤ (q : Int) := by omega
      have i5 : ¬ (4294967296 : Int) * (r : Int) + (u0 : Int) < (z : Int) := by omega
      clear h1 hg hz hml
      go_wp2
      go_meet
      case rel => exact ⟨q, _, rfl, rfl, hQ, rfl⟩
  case rest =>
   clear hg hr hqU f10 f10' f11 f12
   obtain ⟨Q0, r2, rfl, rfl, HQ0, rfl⟩ := hcut
   have hQ0 := HQ0.out
   rw [hyy] at hQ0
   have hQ0b := G2.quo_lt
   rw [hyy, ← hQ0] at hQ0b
   obtain ⟨e1, e2⟩ := Hts.out
   rw [← hQ0] at e1 e2
   have hrest2 := rest_of (N := R * 4294967296 + u0) hYpos
   rw [← hQ0] at hrest2
   have hM0 : (U * 4294967296 + u1) * 4294967296 + u0 = U * 18446744073709551616 + L := join4 U u1 u0 L huu
   have hM := hM0.trans m3
   rw [hM] at e1 e2
   have hYs := HY.out
   rw [← hYs, Nat.mul_div_mul_right _ _ (Nat.pow_pos (by omega))] at e1
   rw [← hYs, Nat.mul_mod_mul_right] at e2
   rw [hYs] at e2
   obtain ⟨p4, hp4⟩ : ∃ p4, Q0 * Y = p4 := ⟨_, rfl⟩
   rw [hp4] at hrest2 e2
   obtain ⟨T, hT⟩ : ∃ T, (hi * 18446744073709551616 + lo) % y = T := ⟨_, rfl⟩
   obtain ⟨V, hV⟩ : ∃ V, (hi * 18446744073709551616 + lo) / y = V := ⟨_, rfl⟩
   rw [hT] at e2
   rw [hV] at e1
   obtain ⟨S, hS⟩ : ∃ S, T * 2 ^ s = S := ⟨_, rfl⟩
   rw [hS] at e2
   have hS2 : (S : Int) / 2 ^ s = (T : Int) := by
    rw [← hS]
    have : T * 2 ^ s / 2 ^ s = T := Nat.mul_div_cancel _ (Nat.pow_pos (by omega))
    rw [show ((2 : Int) ^ s) = ((2 ^ s : Nat) : Int) by simp, ← Int.natCast_ediv, this]
   obtain ⟨b1, k5, hb1, hb1b, hb1e⟩ : ∃ a1 k1 : Nat, IntKind.u64.wrap ((R : Int) * 4294967296) = (a1 : Int) ∧ (a1 : Int) ≤ 18446744069414584320 ∧ (a1 : Int) = (R : Int) * 4294967296 - 18446744073709551616 * k1 := by
    refine ⟨R * 4294967296 % 18446744073709551616, R / 4294967296, ?_, by omega, by omega⟩
    simp [IntKind.wrap, IntKind.bits, IntKind.signed]
   obtain ⟨b3, k6, hb3, hb3e⟩ : ∃ a3 k3 : Nat, IntKind.u64.wrap ((Q0 : Int) * (Y : Int)) = (a3 : Int) ∧ (a3 : Int) = (p4 : Int) - 18446744073709551616 * k3 := by
    rw [show (Q0 : Int) * (Y : Int) = (p4 : Int) by rw [← hp4]; simp]
    exact ⟨p4 % 18446744073709551616, p4 / 18446744073709551616, by simp [IntKind.wrap, IntKind.bits, IntKind.signed], by omega⟩
   have hd2 : IntKind.u64.wrap ((b1 : Int) + (u0 : Int) - (b3 : Int)) = (S : Int) := by
    have := wrap_diff (R * 4294967296 + u0) p4 S k5 k6 (by omega) (by omega)
    rw [hb3e, hb1e, ← this]
    congr 1
    simp
    omega
   have He1 := Lib.hid e1
   have HT := Lib.hid hT
   have HV := Lib.hid hV
   clear e1 e2 hQ0 hp4 hS hT hV hb1e hb3e hrest2 hM hM0 hYs
   go_wp2
   go_ret2
   exact ⟨ret_uu (by rw [HV.out, ← He1.out]; simp) (by rw [HT.out]), 0, rfl⟩
end Go.Proofs.YtaemogcomplhiaaGreatDoor
