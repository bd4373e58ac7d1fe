/- zfield: Mul, Montgomery's product. -/
import Derived.Test.YtldhmjfjbalakaaGreatZMulN
import Derived.BigQuiet
import Derived.Deep.DeepCutAuto
namespace Go.Proofs.YtldhmjfjbalakaaGreat
open Go.RowKit

set_option maxRecDepth 100000 in
set_option maxHeartbeats 8000000 in
theorem zmul_any {g n inv M : Nat} {ml ol rl : List Nat} (a b : List Nat) (w : World) (hF : FF w g n inv M ml ol rl) (ha : Elt M a) (hb : Elt M b) :
    Calls Tryz.prog 117 #[.pointer (some ⟨g, 0, none⟩), EV a, EV b] w fun e w' => ∃ o, e = .returned (EV o) ∧ Elt M o ∧ val 18446744073709551616 o * 18446744073709551616 ^ n % M = val 18446744073709551616 a * val 18446744073709551616 b % M ∧ Below w.heap.size w w' := by
  have hg := hF.fld.lt
  have h0 := hF.fld.n0
  have hn := hF.nle
  have hn1 := hF.npos
  have ta := ha.take hF
  have tb := hb.take hF
  obtain ⟨a0, a1, a2, a3, a4, a5, hae⟩ := six ha.six
  obtain ⟨b0, b1, b2, b3, b4, b5, hbe⟩ := six hb.six
  obtain ⟨l1, l2, l3, l4, hz, hB0⟩ := lay4 w (.cells #[.int .u64 (a0 : Int), .int .u64 (a1 : Int), .int .u64 (a2 : Int), .int .u64 (a3 : Int), .int .u64 (a4 : Int), .int .u64 (a5 : Int)] 135)
    (.cells #[.int .u64 (b0 : Int), .int .u64 (b1 : Int), .int .u64 (b2 : Int), .int .u64 (b3 : Int), .int .u64 (b4 : Int), .int .u64 (b5 : Int)] 135) (.cells #[.int .u64 0, .int .u64 0, .int .u64 0, .int .u64 0, .int .u64 0, .int .u64 0] 135)
    (.cells #[.int .u64 0, .int .u64 0, .int .u64 0, .int .u64 0, .int .u64 0, .int .u64 0, .int .u64 0, .int .u64 0] 170)
  have hva : EV a = .agg #[.int .u64 (a0 : Int), .int .u64 (a1 : Int), .int .u64 (a2 : Int), .int .u64 (a3 : Int), .int .u64 (a4 : Int), .int .u64 (a5 : Int)] := by rw [hae]; rfl
  have hvb : EV b = .agg #[.int .u64 (b0 : Int), .int .u64 (b1 : Int), .int .u64 (b2 : Int), .int .u64 (b3 : Int), .int .u64 (b4 : Int), .int .u64 (b5 : Int)] := by rw [hbe]; rfl
  rw [hva, hvb]
  have h00 := (hB0.cell (p := ⟨g, 0, none⟩) hg).trans h0
  go_enter Tryz.func117, Tryz.ntmps117
  go_wp2_with fail
  generalize (((w.alloc (.cells #[.int .u64 (a0 : Int), .int .u64 (a1 : Int), .int .u64 (a2 : Int), .int .u64 (a3 : Int), .int .u64 (a4 : Int), .int .u64 (a5 : Int)] 135)).alloc
    (.cells #[.int .u64 (b0 : Int), .int .u64 (b1 : Int), .int .u64 (b2 : Int), .int .u64 (b3 : Int), .int .u64 (b4 : Int), .int .u64 (b5 : Int)] 135)).alloc (.cells #[.int .u64 0, .int .u64 0, .int .u64 0, .int .u64 0, .int .u64 0, .int .u64 0] 135)).alloc
    (.cells #[.int .u64 0, .int .u64 0, .int .u64 0, .int .u64 0, .int .u64 0, .int .u64 0, .int .u64 0, .int .u64 0] 170) = W0 at *
  have A0 : ARow W0 w.heap.size 135 a := by rw [hae]; exact l1
  have B0 : ARow W0 (w.heap.size + 1) 135 b := by rw [hbe]; exact l2
  have T0 : ARow W0 (w.heap.size + 1 + 1 + 1) 170 [0, 0, 0, 0, 0, 0, 0, 0] := l4
  have hW0 : w.heap.size + 4 ≤ W0.heap.size := by omega
  have Ha := Lib.hid ha
  have Hb := Lib.hid hb
  have Hae := Lib.hid hae
  have Hbe := Lib.hid hbe
  have HF := Lib.hid hF
  clear l1 l2 l4 hz ha hb hae hbe hva hvb hF
  have hmg : Hid (∀ j, j < 6 → True) := Lib.hid fun _ _ => trivial
  go_loopw [24] (fun iv wr => ∃ (i : Nat) (o : List Nat), iv = .int .i64 (i : Int) ∧ i ≤ n ∧ Hid (MontT 18446744073709551616 M a b (val 18446744073709551616 (o.take (n + 1))) i) ∧ Hid (o.length = 8) ∧ Hid (∀ x ∈ o, x < 18446744073709551616) ∧ ARow wr (w.heap.size + 1 + 1 + 1) 170 o ∧ Below (w.heap.size + 1 + 1 + 1) W0 wr) (fun iv _ => n - (intOf iv).toNat)
  case atStart => exact ⟨0, _, rfl, by omega, Lib.hid (by
    have h1 : val 18446744073709551616 (([0, 0, 0, 0, 0, 0, 0, 0] : List Nat).take (n + 1)) = 0 := val_zeros fun x hx => by have := List.mem_of_mem_take hx; simp at this; exact this
    rw [h1]; exact MontT.zero _ _ (by have := HF.out.big; omega)), Lib.hid rfl, Lib.hid (by simp), T0, Below.refl _ _⟩
  case round =>
    obtain ⟨i, o, rfl, hi, HM, Ho, Hlo, hblk, hB⟩ := hrel
    have hBw : Below w.heap.size w wr := hB0.trans (hB.mono (by omega))
    have c0 := (HF.out.below hBw hg).fld.n0
    by_cases hlt : i < n
    · have dai : dg a i < 18446744073709551616 := getD_lt (by omega) Ha.out.lim i
      obtain ⟨ai, hai⟩ : ∃ ai, dg a i = ai := ⟨_, rfl⟩
      rw [hai] at dai
      have Hai := Lib.hid hai
      have ki6 : (i : Int) < 6 := by omega
      have hstart := FirstAt.zero 18446744073709551616 o b ai
      have Hstart := Lib.hid hstart
      clear hai hstart hBw
      go_wp2_with fail
      go_loopw [11, 28] (fun cv jv wr => ∃ (j cr : Nat) (o1 : List Nat), jv = .int .i64 (j : Int) ∧ cv = .int .u64 (cr : Int) ∧ j ≤ n ∧ cr < 18446744073709551616 ∧ Hid (FirstAt 18446744073709551616 o b o1 ai j cr) ∧ Hid (∀ x ∈ o1, x < 18446744073709551616) ∧ ARow wr (w.heap.size + 1 + 1 + 1) 170 o1 ∧ Below (w.heap.size + 1 + 1 + 1) W0 wr) (fun _ jv _ => n - (intOf jv).toNat)
      case atStart => exact ⟨0, 0, o, rfl, rfl, by omega, by omega, Hstart, Hlo, hblk, hB⟩
      case round =>
        clear hblk hB c0
        obtain ⟨j, cr, o1, rfl, rfl, hj, hcr, HA, Hlo1, hblk, hB⟩ := hrel
        have hl1 : o1.length = 8 := by have := HA.out.1; have := Ho.out; omega
        have hBw : Below w.heap.size w wr := hB0.trans (hB.mono (by omega))
        have hAr := A0.below hB (by omega)
        have hBr := B0.below hB (by omega)
        by_cases hjt : j < n
        · have q1 := hAr.cell (i := i) (by rw [Ha.out.six]; omega)
          rw [Hai.out] at q1
          have q2 := hBr.cell (i := j) (by rw [Hb.out.six]; omega)
          have q3 := hblk.cell (i := j) (by omega)
          have q4 := hblk.free j
          have db : dg b j < 18446744073709551616 := getD_lt (by omega) Hb.out.lim j
          have d1 : dg o1 j < 18446744073709551616 := getD_lt (by omega) Hlo1.out j
          obtain ⟨hi', lo, s1, c1, s2, c2, b1, b2, b3, b4, b5, b6, b7, b8, b9, b10, he⟩ := mul_round ai (dg b j) (dg o1 j) cr dai db d1 hcr
          have hmul := Lib.hid (fun k => (mul64_at ai (dg b j) hi' lo dai db b1 b2 (World.drewN wr k)).mono fun e w' (h : e = _ ∧ _ = w') => (⟨h.1, h.2.symm⟩ : e = .returned (.tuple #[.int .u64 (hi' : Int), .int .u64 (lo : Int)]) ∧ w' = World.drewN wr k))
          have hadd1 := fun w => add64_at lo (dg o1 j) 0 s1 c1 (by omega) b3 b4 w
          have hadd2 := fun w => add64_at s1 cr 0 s2 c2 (by omega) b5 b6 w
          simp only [Int.cast_ofNat_Int] at hadd1 hadd2
          have hA' := Lib.hid (HA.out.step (s := s2) (c' := hi' + c1 + c2) (by have := Ho.out; omega) (by rw [he]; omega))
          have hblk' := hblk.set j s2
          have hB' := hB.setCell (p := ⟨w.heap.size + 1 + 1 + 1, j, none⟩) (Nat.le_refl _) (.int .u64 (s2 : Int))
          have Hlo' : Hid (∀ x ∈ o1.set j s2, x < 18446744073709551616) := Lib.hid (set_lt Hlo1.out b5)
          have kj8 : (j : Int) < 8 := by omega
          have kj6 : (j : Int) < 6 := by omega
          have hl8 : (o1.set j s2).length = 8 := by simpa using hl1
          clear he b2 b4 b6 HA hB hBw hAr hBr hl1 hblk
          go_wp2_with fail
          go_quiet (first | (go_at_call 134; exact Calls.quiet_of_same (hmul.out _)))
          go_wp2_with fail
          go_roundw
          case rel => exact ⟨j + 1, hi' + c1 + c2, o1.set j s2, by go_num, by go_num, by omega, b10, hA', Hlo', hblk', below_drewN hB' _⟩
          case measure => simp [intOf]; omega
        · obtain rfl : j = n := by omega
          have q3 := hblk.cell (i := j) (by omega)
          have q4 := hblk.free j
          have d1 : dg o1 j < 18446744073709551616 := getD_lt (by omega) Hlo1.out j
          obtain ⟨s, c1, hs1, hs2, hs3⟩ := carry_of (dg o1 j) cr 0 d1 hcr (by omega)
          have hadd := fun w => add64_at (dg o1 j) cr 0 s c1 (by omega) hs1 hs3 w
          simp only [Int.cast_ofNat_Int] at hadd
          obtain ⟨hl2, hv2⟩ := HA.out.fin (s := s) (c' := c1) (by have := Ho.out; omega) (.inr tb) (by omega)
          have hlim2 : ∀ x ∈ (o1.set j s).set (j + 1) c1, x < 18446744073709551616 := set_lt (set_lt Hlo1.out hs1) (by omega)
          have hblk1 := hblk.set j s
          have q5 := hblk1.cell (i := j + 1) (by simp; omega)
          have q6 := hblk1.free (j + 1)
          have hblk2 := hblk1.set (j + 1) c1
          have hB2 := (hB.setCell (p := ⟨w.heap.size + 1 + 1 + 1, j, none⟩) (Nat.le_refl _) (.int .u64 (s : Int))).setCell (p := ⟨w.heap.size + 1 + 1 + 1, j + 1, none⟩) (Nat.le_refl _) (.int .u64 (c1 : Int))
          have kj8 : (j : Int) < 8 := by omega
          have kj9 : (j : Int) + 1 < 8 := by omega
          have hl2' : ((o1.set j s).set (j + 1) c1).length = 8 := by rw [hl2]; exact Ho.out
          generalize ho2 : (o1.set j s).set (j + 1) c1 = o2 at *
          have hW2 := hB2.size
          have m0 : dg ml 0 < 18446744073709551616 := getD_lt (by omega) HF.out.mlt 0
          have t0 : dg o2 0 < 18446744073709551616 := getD_lt (by omega) hlim2 0
          have HV2 := Lib.hid hv2
          have Hl2 := Lib.hid hl2'
          have Hlim2 := Lib.hid hlim2
          clear hs3 HA hv2 hl2 hl2' hlim2 hblk hblk1 hB ho2 hBw hAr hBr
          go_wp2_with fail
          generalize (World.setCell wr ⟨w.heap.size + 1 + 1 + 1, j, none⟩ (.int .u64 (s : Int))).setCell ⟨w.heap.size + 1 + 1 + 1, j + 1, none⟩ (.int .u64 (c1 : Int)) = W2 at *
          have hBw2 : Below w.heap.size w W2 := hB0.trans (hB2.mono (by omega))
          have hF2 := HF.out.below hBw2 hg
          have i7 := hF2.fld.inv_
          have i1 := hF2.fld.m_ (j := 0) (by omega)
          have e0 := hblk2.cell (i := 0) (by have := Hl2.out; omega)
          obtain ⟨u, hu⟩ : ∃ u, dg o2 0 * inv % 18446744073709551616 = u := ⟨_, rfl⟩
          have hub : u < 18446744073709551616 := by rw [← hu]; exact Nat.mod_lt _ (by omega)
          have hwu := wrap_mul (dg o2 0) inv
          rw [hu] at hwu
          have hV0 : (val 18446744073709551616 (o.take (j + 1)) + ai * val 18446744073709551616 b) % 18446744073709551616 = dg o2 0 := by rw [← HV2.out]; exact val_take_mod Hlim2.out (by omega) _
          have hM0 : M % 18446744073709551616 = dg ml 0 := by
            obtain ⟨k, hk⟩ : ∃ k, j = k + 1 := ⟨j - 1, by omega⟩
            rw [← HF.out.mtake, hk]
            exact val_take_mod HF.out.mlt (by omega) _
          have hz := low_gone (by omega) HF.out.invV hV0 hM0 hu.symm
          obtain ⟨hi', lo, c2, b1, b2, b3, b4, b5, b6⟩ := low_parts hub m0 t0 hz
          have hmul := Lib.hid (fun w => mul64_at u (dg ml 0) hi' lo hub m0 b1 b2 w)
          have hadd3 := fun w => add64_at lo (dg o2 0) 0 0 c2 (by omega) (by omega) b4 w
          simp only [Int.cast_ofNat_Int] at hadd3
          obtain ⟨p0, hp0⟩ : ∃ p0, p0 + 1 = j := ⟨j - 1, by omega⟩
          have Hs0 := Lib.hid (ShiftAt.zero (t := o2) (m := ml) (u := u) (c := hi' + c2) b6)
          have Hu := Lib.hid (show u = (val 18446744073709551616 (o.take (j + 1)) + dg a i * val 18446744073709551616 b) % 18446744073709551616 * inv % 18446744073709551616 by rw [Hai.out, hV0, hu])
          have Hp0 := Lib.hid hp0
          clear hu hV0 hM0 hz b2 b4 b6 hp0
          go_quiet (fail)
          go_wp2_with fail
          refine (hmul.out _).mono ?_
          rintro e w3 ⟨rfl, rfl⟩
          go_wp2_with fail
          have hblk3 : ARow (W2.drewN nq) (w.heap.size + 1 + 1 + 1) 170 o2 := hblk2
          have hB3 := below_drewN hB2 nq
          clear hblk2 hB2 e0 i7 i1 hF2 hBw2 q3 q4 q5 q6 hmul
          generalize W2.drewN nq = W3 at *
          go_loopw [11, 18] (fun cv qv wr => ∃ (k cr : Nat) (o3 : List Nat), qv = .int .i64 ((k : Int) + 1) ∧ cv = .int .u64 (cr : Int) ∧ k + 1 ≤ j ∧ cr < 18446744073709551616 ∧ Hid (ShiftAt 18446744073709551616 o2 ml o3 u k cr) ∧ Hid (∀ x ∈ o3, x < 18446744073709551616) ∧ ARow wr (w.heap.size + 1 + 1 + 1) 170 o3 ∧ Below (w.heap.size + 1 + 1 + 1) W0 wr) (fun _ qv _ => j - (intOf qv).toNat)
          case atStart => exact ⟨0, hi' + c2, o2, rfl, by go_num, by omega, b5, Hs0, Hlim2, hblk3, hB3⟩
          case round =>
            clear hblk3 hB3
            obtain ⟨k, cr, o3, rfl, rfl, hk, hcr, HS, Hlo3, hblk, hB⟩ := hrel
            have hl3 : o3.length = 8 := by have := HS.out.1; have := Hl2.out; omega
            have hBw : Below w.heap.size w wr := hB0.trans (hB.mono (by omega))
            have hFr := (HF.out.below hBw hg).fld
            by_cases hkt : k + 1 < j
            · have i1 := hFr.m_ (j := k + 1) (by omega)
              have q3 := hblk.cell (i := k + 1) (by omega)
              have q4 := hblk.free k
              have q5 := hblk.cell (i := k) (by omega)
              have dm : dg ml (k + 1) < 18446744073709551616 := getD_lt (by omega) HF.out.mlt (k + 1)
              have d1 : dg o3 (k + 1) < 18446744073709551616 := getD_lt (by omega) Hlo3.out (k + 1)
              obtain ⟨hi', lo, s1, c1, s2, c2, b1, b2, b3, b4, b5, b6, b7, b8, b9, b10, he⟩ := mul_round u (dg ml (k + 1)) (dg o3 (k + 1)) cr hub dm d1 hcr
              have hmul := Lib.hid (fun w => mul64_at u (dg ml (k + 1)) hi' lo hub dm b1 b2 w)
              have hadd1 := fun w => add64_at lo (dg o3 (k + 1)) 0 s1 c1 (by omega) b3 b4 w
              have hadd2 := fun w => add64_at s1 cr 0 s2 c2 (by omega) b5 b6 w
              simp only [Int.cast_ofNat_Int] at hadd1 hadd2
              have hS' := Lib.hid (HS.out.step (s := s2) (c' := hi' + c1 + c2) (by have := Hl2.out; omega) (by rw [he]; omega))
              have hblk' := hblk.set k s2
              have hB' := hB.setCell (p := ⟨w.heap.size + 1 + 1 + 1, k, none⟩) (Nat.le_refl _) (.int .u64 (s2 : Int))
              have Hlo' : Hid (∀ x ∈ o3.set k s2, x < 18446744073709551616) := Lib.hid (set_lt Hlo3.out b5)
              have kj8 : (k : Int) + 1 < 8 := by omega
              have kj6 : (k : Int) + 1 < 6 := by omega
              have kk8 : (k : Int) < 8 := by omega
              clear he b2 b4 b6 HS hB hBw hFr hl3 hblk
              go_wp2_with fail
              refine (hmul.out _).mono ?_
              rintro e w3 ⟨rfl, rfl⟩
              go_wp2
              go_roundw
              case rel => exact ⟨k + 1, hi' + c1 + c2, o3.set k s2, by go_num, by go_num, by omega, b10, hS', Hlo', hblk', hB'⟩
              case measure => simp [intOf]; omega
            · have hkj : k + 1 = j := by omega
              have q3 := hblk.cell (i := j) (by omega)
              have q4 := hblk.free k
              have q5 := hblk.cell (i := k) (by omega)
              have d1 : dg o3 j < 18446744073709551616 := getD_lt (by omega) Hlo3.out j
              obtain ⟨s, c1, hs1, hs2, hs3⟩ := carry_of (dg o3 j) cr 0 d1 hcr (by omega)
              have hadd := fun w => add64_at (dg o3 j) cr 0 s c1 (by omega) hs1 hs3 w
              simp only [Int.cast_ofNat_Int] at hadd
              obtain ⟨hl4, hv4⟩ := HS.out.fin (s := s) (c' := c1) (by have := Hl2.out; omega) (by rw [hkj, HF.out.mtake, HF.out.mval]) (by rw [hkj]; omega)
              rw [HF.out.mval, show k + 3 = j + 2 by omega, HV2.out] at hv4
              have hM4 := MontT.step (by omega) HM.out (by rw [Hai.out]; exact dai) Hu.out rfl (T4 := val 18446744073709551616 (((o3.set k s).set (k + 1) (dg o3 (k + 2) + c1)).take (k + 2))) (by rw [Hai.out]; exact hv4.symm)
              have htop : dg o3 (k + 2) + c1 ≤ 1 := by
                have e1 := val_take_getD 18446744073709551616 ((o3.set k s).set (k + 1) (dg o3 (k + 2) + c1)) (k + 1)
                rw [getD_set_eq (by simp; omega)] at e1
                have e2 := hM4.1
                have e3 := HF.out.room
                rw [← hkj] at e3
                exact top_small e1 e2 (Nat.le_of_lt e3) Hb.out.lt
              have hlim4 : ∀ x ∈ (o3.set k s).set (k + 1) (dg o3 (k + 2) + c1), x < 18446744073709551616 := set_lt (set_lt Hlo3.out hs1) (by omega)
              rw [show k + 2 = j + 1 by omega, hkj] at hM4 hlim4 hl4
              rw [show k + 2 = j + 1 by omega] at htop
              have hblk1 := hblk.set k s
              have q6 := hblk1.cell (i := j + 1) (by simp; omega)
              rw [getD_set_ne (by omega)] at q6
              have q7 := hblk1.cell (i := j) (by simp; omega)
              have q8 := hblk1.free j
              have hblk2 := hblk1.set j (dg o3 (j + 1) + c1)
              have hB2 := (hB.setCell (p := ⟨w.heap.size + 1 + 1 + 1, k, none⟩) (Nat.le_refl _) (.int .u64 (s : Int))).setCell (p := ⟨w.heap.size + 1 + 1 + 1, j, none⟩) (Nat.le_refl _) (.int .u64 ((dg o3 (j + 1) + c1 : Nat) : Int))
              have kj8 : (j : Int) < 8 := by omega
              have kj9 : (j : Int) + 1 < 8 := by omega
              have kk8 : (k : Int) < 8 := by omega
              have hl5 : ((o3.set k s).set j (dg o3 (j + 1) + c1)).length = 8 := by simpa using hl3
              have HM4 := Lib.hid hM4
              have Hlim4 := Lib.hid hlim4
              have Hl5 := Lib.hid hl5
              have hwt := IntWalk.u64_in ((dg o3 (j + 1) : Int) + (c1 : Int)) (by omega)
              have Hwt := Lib.hid hwt
              have Hkj := Lib.hid hkj
              clear hs3 HS hv4 hM4 hlim4 hl4 hl5 hblk hblk1 hB hBw hFr htop hkj hwt
              go_upto_region 30 with fail
              have i0 : (j : Int) - 1 = (k : Int) := by have := Hkj.out; omega
              go_upto_region 31 with fail
              have hwt := Hwt.out
              go_wp2_with fail
              refine ⟨⟨i + 1, (o3.set k s).set j (dg o3 (j + 1) + c1), by go_num, by omega, HM4, Hl5, Hlim4, by simpa using hblk2, by simpa using hB2⟩, by simp [intOf]; omega⟩
    · obtain rfl : i = n := by omega
      obtain ⟨hTb, kk, hTk⟩ := HM.out
      have hFr := HF.out.below hBw hg
      have hT : val 18446744073709551616 (o.take i) + 18446744073709551616 ^ i * dg o i = val 18446744073709551616 (o.take (i + 1)) := (val_take_getD _ _ _).symm
      have q1 := hblk.cell (i := i) (by have := Ho.out; omega)
      have hbel := zbelow_any (w.heap.size + 1 + 1 + 1) (dg o i) o wr hFr.fld hFr.mlt hblk (by omega) Ho.out Hlo.out hn hn1 (by rw [hFr.mtake, hFr.mval]) (getD_lt (by omega) Hlo.out i) (by rw [hT, hFr.mval]; have := Hb.out.lt; omega)
      rw [hT, hFr.mval] at hbel
      have hoff := offM_mod (v := val 18446744073709551616 (o.take (i + 1))) (M := M) (R := 18446744073709551616 ^ i) hTk
      rw [ta] at hoff
      have hltm := offM_lt (v := val 18446744073709551616 (o.take (i + 1))) (M := M) (by have := Hb.out.lt; omega)
      have Hoff := Lib.hid hoff
      have Hltm := Lib.hid hltm
      have Hbel := Lib.hid hbel
      have ki8 : (i : Int) < 8 := by omega
      clear hbel hT hFr hTb hTk hoff hltm hblk
      go_wp2_with fail
      refine Hbel.out.mono ?_
      rintro e w2 ⟨o2, rfl, ho6, hlim, hv2, hB2⟩
      obtain ⟨x0, x1, x2, x3, x4, x5, hoe⟩ := six ho6
      have hrb := (hB2.block (w.heap.size + 1 + 1) (by have := hB.size; omega)).trans ((hB.block (w.heap.size + 1 + 1) (by omega)).trans l3)
      obtain ⟨r0, r1, r2, r3, r4, r5⟩ := cells6 hrb
      have z := fun i => blk_free hrb i
      have z0 := z 0
      have z1 := z 1
      have z2 := z 2
      have z3 := z 3
      have z4 := z 4
      have z5 := z 5
      have hrb' := hrb
      have hBf : Below w.heap.size w w2 := hBw.trans (hB2.mono hBw.size)
      have Hv2 := Lib.hid hv2
      have Ho6 := Lib.hid ho6
      have Hlim := Lib.hid hlim
      have Hoe := Lib.hid hoe
      have hve : EV o2 = .agg #[.int .u64 (x0 : Int), .int .u64 (x1 : Int), .int .u64 (x2 : Int), .int .u64 (x3 : Int), .int .u64 (x4 : Int), .int .u64 (x5 : Int)] := by rw [hoe]; rfl
      rw [hve]
      clear hve hoe hv2 ho6 hlim z hrb hB2 hB Hbel
      go_wp2_with fail
      refine end6 rfl rfl rfl (six_set hrb' _ _ _ _ _ _) ?_
      exact ⟨o2, by rw [Hoe.out]; rfl, ⟨Ho6.out, Hlim.out, by rw [Hv2.out]; exact Hltm.out⟩, by rw [Hv2.out]; exact Hoff.out, six_below hBf (by omega) _ _ _ _ _ _⟩
end Go.Proofs.YtldhmjfjbalakaaGreat
