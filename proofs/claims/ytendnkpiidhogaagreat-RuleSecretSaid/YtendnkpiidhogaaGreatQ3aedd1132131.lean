/- zfield: Mul, Montgomery's product. zfield: elements in Montgomery's form, plain laws. zfield: To. Newton's inverse of a limb: plain law. Plain arithmetic of shifts of numbers: nothing of the program. What limb.Shl and Shr compute. What limb.Quo computes: a divisor of two limbs or more. zfield.New: a field made ready. -/
import Derived.Test.YtendnkpiidhogaaGreatQf05bb8c9902c
import Derived.BigQuiet
import Derived.Deep.DeepCutAuto
import Derived.Deep.RegionWith
import Derived.RegionTactic
import Derived.ChangeAlike
namespace Go.Proofs.YtendnkpiidhogaaGreat
open Go.RowKit

set_option maxRecDepth 100000 in
set_option maxHeartbeats 8000000 in
theorem zmul_any {g n inv M : Nat} {ml ol rl : List Nat} (a b : List Nat) (w : World) (hF : FF w g n inv M ml ol rl) (ha : Elt M a) (hb : Elt M b) :
 Calls Tryz.prog 175 #[.pointer (some ⟨g, 0, none⟩), EV a, EV b] w fun e w' => ∃ o, e = .returned (EV o) ∧ Elt M o ∧ val 18446744073709551616 o * 18446744073709551616 ^ n % M = val 18446744073709551616 a * val 18446744073709551616 b % M ∧ Below w.heap.size w w' := by
 have hg := hF.fld.lt
 have h0 := hF.fld.n0
 have hn := hF.nle
 have hn1 := hF.npos
 have ta := ha.take hF
 have tb := hb.take hF
 obtain ⟨a0, a1, a2, a3, a4, a5, hae⟩ := six ha.six
 obtain ⟨b0, b1, b2, b3, b4, b5, hbe⟩ := six hb.six
 obtain ⟨l1, l2, l3, l4, hz, hB0⟩ := lay4 w (.cells #[.int .u64 (a0 : Int), .int .u64 (a1 : Int), .int .u64 (a2 : Int), .int .u64 (a3 : Int), .int .u64 (a4 : Int), .int .u64 (a5 : Int)] 160)
  (.cells #[.int .u64 (b0 : Int), .int .u64 (b1 : Int), .int .u64 (b2 : Int), .int .u64 (b3 : Int), .int .u64 (b4 : Int), .int .u64 (b5 : Int)] 160) (.cells #[.int .u64 0, .int .u64 0, .int .u64 0, .int .u64 0, .int .u64 0, .int .u64 0] 160)
  (.cells #[.int .u64 0, .int .u64 0, .int .u64 0, .int .u64 0, .int .u64 0, .int .u64 0, .int .u64 0, .int .u64 0] 232)
 have hva : EV a = .agg #[.int .u64 (a0 : Int), .int .u64 (a1 : Int), .int .u64 (a2 : Int), .int .u64 (a3 : Int), .int .u64 (a4 : Int), .int .u64 (a5 : Int)] := by rw [hae]; rfl
 have hvb : EV b = .agg #[.int .u64 (b0 : Int), .int .u64 (b1 : Int), .int .u64 (b2 : Int), .int .u64 (b3 : Int), .int .u64 (b4 : Int), .int .u64 (b5 : Int)] := by rw [hbe]; rfl
 rw [hva, hvb]
 have h00 := (hB0.cell (p := ⟨g, 0, none⟩) hg).trans h0
 go_enter Tryz.func175, Tryz.ntmps175
 go_wp2_with fail
 generalize (((w.alloc (.cells #[.int .u64 (a0 : Int), .int .u64 (a1 : Int), .int .u64 (a2 : Int), .int .u64 (a3 : Int), .int .u64 (a4 : Int), .int .u64 (a5 : Int)] 160)).alloc
  (.cells #[.int .u64 (b0 : Int), .int .u64 (b1 : Int), .int .u64 (b2 : Int), .int .u64 (b3 : Int), .int .u64 (b4 : Int), .int .u64 (b5 : Int)] 160)).alloc (.cells #[.int .u64 0, .int .u64 0, .int .u64 0, .int .u64 0, .int .u64 0, .int .u64 0] 160)).alloc
  (.cells #[.int .u64 0, .int .u64 0, .int .u64 0, .int .u64 0, .int .u64 0, .int .u64 0, .int .u64 0, .int .u64 0] 232) = W0 at *
 have A0 : ARow W0 w.heap.size 160 a := by rw [hae]; exact l1
 have B0 : ARow W0 (w.heap.size + 1) 160 b := by rw [hbe]; exact l2
 have T0 : ARow W0 (w.heap.size + 1 + 1 + 1) 232 [0, 0, 0, 0, 0, 0, 0, 0] := l4
 have hW0 : w.heap.size + 4 ≤ W0.heap.size := by omega
 have Ha := Lib.hid ha
 have Hb := Lib.hid hb
 have Hae := Lib.hid hae
 have Hbe := Lib.hid hbe
 have HF := Lib.hid hF
 clear l1 l2 l4 hz ha hb hae hbe hva hvb hF
 have hmg : Hid (∀ j, j < 6 → True) := Lib.hid fun _ _ => trivial
 go_loopw [24] (fun iv wr => ∃ (i : Nat) (o : List Nat), iv = .int .i64 (i : Int) ∧ i ≤ n ∧ Hid (MontT 18446744073709551616 M a b (val 18446744073709551616 (o.take (n + 1))) i) ∧ Hid (o.length = 8) ∧ Hid (∀ x ∈ o, x < 18446744073709551616) ∧ ARow wr (w.heap.size + 1 + 1 + 1) 232 o ∧ Below (w.heap.size + 1 + 1 + 1) W0 wr) (fun iv _ => n - (intOf iv).toNat)
 case atStart => exact ⟨0, _, rfl, by omega, Lib.hid (by
  have h1 : val 18446744073709551616 (([0, 0, 0, 0, 0, 0, 0, 0] : List Nat).take (n + 1)) = 0 := val_zeros fun x hx => by have := List.mem_of_mem_take hx; simp at this; exact this
  rw [h1]; exact MontT.zero _ _ (by have := HF.out.big; omega)), Lib.hid rfl, Lib.hid (by simp), T0, Below.refl _ _⟩
 case round =>
  obtain ⟨i, o, rfl, hi, HM, Ho, Hlo, hblk, hB⟩ := hrel
  have hBw : Below w.heap.size w wr := hB0.trans (hB.mono (by omega))
  have c0 := (HF.out.below hBw hg).fld.n0
  by_cases hlt : i < n
  · have dai : dg a i < 18446744073709551616 := getD_lt (by omega) Ha.out.lim i
    obtain ⟨ai, hai⟩ : ∃ ai, dg a i = ai := ⟨_, rfl⟩
    rw [hai] at dai
    have Hai := Lib.hid hai
    have ki6 : (i : Int) < 6 := by omega
    have hstart := FirstAt.zero 18446744073709551616 o b ai
    have Hstart := Lib.hid hstart
    clear hai hstart hBw
    go_wp2_with fail
    go_loopw [11, 28] (fun cv jv wr => ∃ (j cr : Nat) (o1 : List Nat), jv = .int .i64 (j : Int) ∧ cv = .int .u64 (cr : Int) ∧ j ≤ n ∧ cr < 18446744073709551616 ∧ Hid (FirstAt 18446744073709551616 o b o1 ai j cr) ∧ Hid (∀ x ∈ o1, x < 18446744073709551616) ∧ ARow wr (w.heap.size + 1 + 1 + 1) 232 o1 ∧ Below (w.heap.size + 1 + 1 + 1) W0 wr) (fun _ jv _ => n - (intOf jv).toNat)
    case atStart => exact ⟨0, 0, o, rfl, rfl, by omega, by omega, Hstart, Hlo, hblk, hB⟩
    case round =>
     clear hblk hB c0
     obtain ⟨j, cr, o1, rfl, rfl, hj, hcr, HA, Hlo1, hblk, hB⟩ := hrel
     have hl1 : o1.length = 8 := by have := HA.out.1; have := Ho.out; omega
     have hBw : Below w.heap.size w wr := hB0.trans (hB.mono (by omega))
     have hAr := A0.below hB (by omega)
     have hBr := B0.below hB (by omega)
     by_cases hjt : j < n
     · have q1 := hAr.cell (i := i) (by rw [Ha.out.six]; omega)
       rw [Hai.out] at q1
       have q2 := hBr.cell (i := j) (by rw [Hb.out.six]; omega)
       have q3 := hblk.cell (i := j) (by omega)
       have q4 := hblk.free j
       have db : dg b j < 18446744073709551616 := getD_lt (by omega) Hb.out.lim j
       have d1 : dg o1 j < 18446744073709551616 := getD_lt (by omega) Hlo1.out j
       obtain ⟨hi', lo, s1, c1, s2, c2, b1, b2, b3, b4, b5, b6, b7, b8, b9, b10, he⟩ := mul_round ai (dg b j) (dg o1 j) cr dai db d1 hcr
       have hmul := Lib.hid (fun k => (mul64_at ai (dg b j) hi' lo dai db b1 b2 (World.drewN wr k)).mono fun e w' (h : e = _ ∧ _ = w') => (⟨h.1, h.2.symm⟩ : e = .returned (.tuple #[.int .u64 (hi' : Int), .int .u64 (lo : Int)]) ∧ w' = World.drewN wr k))
       have hadd1 := fun w => add64_at lo (dg o1 j) 0 s1 c1 (by omega) b3 b4 w
       have hadd2 := fun w => add64_at s1 cr 0 s2 c2 (by omega) b5 b6 w
       simp only [Int.cast_ofNat_Int] at hadd1 hadd2
       have hA' := Lib.hid (HA.out.step (s := s2) (c' := hi' + c1 + c2) (by have := Ho.out; omega) (by rw [he]; omega))
       have hblk' := hblk.set j s2
       have hB' := hB.setCell (p := ⟨w.heap.size + 1 + 1 + 1, j, none⟩) (Nat.le_refl _) (.int .u64 (s2 : Int))
       have Hlo' : Hid (∀ x ∈ o1.set j s2, x < 18446744073709551616) := Lib.hid (set_lt Hlo1.out b5)
       have kj8 : (j : Int) < 8 := by omega
       have kj6 : (j : Int) < 6 := by omega
       have hl8 : (o1.set j s2).length = 8 := by simpa using hl1
       clear he b2 b4 b6 HA hB hBw hAr hBr hl1 hblk
       go_wp2_with fail
       go_quiet (first | (go_at_call 163; exact Calls.quiet_of_same (hmul.out _)))
       go_wp2_with fail
       go_roundw
       case rel => exact ⟨j + 1, hi' + c1 + c2, o1.set j s2, by go_num, by go_num, by omega, b10, hA', Hlo', hblk', below_drewN hB' _⟩
       case measure => simp [intOf]; omega
     · obtain rfl : j = n := by omega
       have q3 := hblk.cell (i := j) (by omega)
       have q4 := hblk.free j
       have d1 : dg o1 j < 18446744073709551616 := getD_lt (by omega) Hlo1.out j
       obtain ⟨s, c1, hs1, hs2, hs3⟩ := carry_of (dg o1 j) cr 0 d1 hcr (by omega)
       have hadd := fun w => add64_at (dg o1 j) cr 0 s c1 (by omega) hs1 hs3 w
       simp only [Int.cast_ofNat_Int] at hadd
       obtain ⟨hl2, hv2⟩ := HA.out.fin (s := s) (c' := c1) (by have := Ho.out; omega) (.inr tb) (by omega)
       have hlim2 : ∀ x ∈ (o1.set j s).set (j + 1) c1, x < 18446744073709551616 := set_lt (set_lt Hlo1.out hs1) (by omega)
       have hblk1 := hblk.set j s
       have q5 := hblk1.cell (i := j + 1) (by simp; omega)
       have q6 := hblk1.free (j + 1)
       have hblk2 := hblk1.set (j + 1) c1
       have hB2 := (hB.setCell (p := ⟨w.heap.size + 1 + 1 + 1, j, none⟩) (Nat.le_refl _) (.int .u64 (s : Int))).setCell (p := ⟨w.heap.size + 1 + 1 + 1, j + 1, none⟩) (Nat.le_refl _) (.int .u64 (c1 : Int))
       have kj8 : (j : Int) < 8 := by omega
       have kj9 : (j : Int) + 1 < 8 := by omega
       have hl2' : ((o1.set j s).set (j + 1) c1).length = 8 := by rw [hl2]; exact Ho.out
       generalize ho2 : (o1.set j s).set (j + 1) c1 = o2 at *
       have hW2 := hB2.size
       have m0 : dg ml 0 < 18446744073709551616 := getD_lt (by omega) HF.out.mlt 0
       have t0 : dg o2 0 < 18446744073709551616 := getD_lt (by omega) hlim2 0
       have HV2 := Lib.hid hv2
       have Hl2 := Lib.hid hl2'
       have Hlim2 := Lib.hid hlim2
       clear hs3 HA hv2 hl2 hl2' hlim2 hblk hblk1 hB ho2 hBw hAr hBr
       go_wp2_with fail
       generalize (World.setCell wr ⟨w.heap.size + 1 + 1 + 1, j, none⟩ (.int .u64 (s : Int))).setCell ⟨w.heap.size + 1 + 1 + 1, j + 1, none⟩ (.int .u64 (c1 : Int)) = W2 at *
       have hBw2 : Below w.heap.size w W2 := hB0.trans (hB2.mono (by omega))
       have hF2 := HF.out.below hBw2 hg
       have i7 := hF2.fld.inv_
       have i1 := hF2.fld.m_ (j := 0) (by omega)
       have e0 := hblk2.cell (i := 0) (by have := Hl2.out; omega)
       obtain ⟨u, hu⟩ : ∃ u, dg o2 0 * inv % 18446744073709551616 = u := ⟨_, rfl⟩
       have hub : u < 18446744073709551616 := by rw [← hu]; exact Nat.mod_lt _ (by omega)
       have hwu := wrap_mul (dg o2 0) inv
       rw [hu] at hwu
       have hV0 : (val 18446744073709551616 (o.take (j + 1)) + ai * val 18446744073709551616 b) % 18446744073709551616 = dg o2 0 := by rw [← HV2.out]; exact val_take_mod Hlim2.out (by omega) _
       have hM0 : M % 18446744073709551616 = dg ml 0 := by
        obtain ⟨k, hk⟩ : ∃ k, j = k + 1 := ⟨j - 1, by omega⟩
        rw [← HF.out.mtake, hk]
        exact val_take_mod HF.out.mlt (by omega) _
       have hz := low_gone (by omega) HF.out.invV hV0 hM0 hu.symm
       obtain ⟨hi', lo, c2, b1, b2, b3, b4, b5, b6⟩ := low_parts hub m0 t0 hz
       have hmul := Lib.hid (fun w => mul64_at u (dg ml 0) hi' lo hub m0 b1 b2 w)
       have hadd3 := fun w => add64_at lo (dg o2 0) 0 0 c2 (by omega) (by omega) b4 w
       simp only [Int.cast_ofNat_Int] at hadd3
       obtain ⟨p0, hp0⟩ : ∃ p0, p0 + 1 = j := ⟨j - 1, by omega⟩
       have Hs0 := Lib.hid (ShiftAt.zero (t := o2) (m := ml) (u := u) (c := hi' + c2) b6)
       have Hu := Lib.hid (show u = (val 18446744073709551616 (o.take (j + 1)) + dg a i * val 18446744073709551616 b) % 18446744073709551616 * inv % 18446744073709551616 by rw [Hai.out, hV0, hu])
       have Hp0 := Lib.hid hp0
       clear hu hV0 hM0 hz b2 b4 b6 hp0
       go_quiet (fail)
       go_wp2_with fail
       refine (hmul.out _).mono ?_
       rintro e w3 ⟨rfl, rfl⟩
       go_wp2_with fail
       have hblk3 : ARow (W2.drewN nq) (w.heap.size + 1 + 1 + 1) 232 o2 := hblk2
       have hB3 := below_drewN hB2 nq
       clear hblk2 hB2 e0 i7 i1 hF2 hBw2 q3 q4 q5 q6 hmul
       generalize W2.drewN nq = W3 at *
       go_loopw [11, 18] (fun cv qv wr => ∃ (k cr : Nat) (o3 : List Nat), qv = .int .i64 ((k : Int) + 1) ∧ cv = .int .u64 (cr : Int) ∧ k + 1 ≤ j ∧ cr < 18446744073709551616 ∧ Hid (ShiftAt 18446744073709551616 o2 ml o3 u k cr) ∧ Hid (∀ x ∈ o3, x < 18446744073709551616) ∧ ARow wr (w.heap.size + 1 + 1 + 1) 232 o3 ∧ Below (w.heap.size + 1 + 1 + 1) W0 wr) (fun _ qv _ => j - (intOf qv).toNat)
       case atStart => exact ⟨0, hi' + c2, o2, rfl, by go_num, by omega, b5, Hs0, Hlim2, hblk3, hB3⟩
       case round =>
        clear hblk3 hB3
        obtain ⟨k, cr, o3, rfl, rfl, hk, hcr, HS, Hlo3, hblk, hB⟩ := hrel
        have hl3 : o3.length = 8 := by have := HS.out.1; have := Hl2.out; omega
        have hBw : Below w.heap.size w wr := hB0.trans (hB.mono (by omega))
        have hFr := (HF.out.below hBw hg).fld
        by_cases hkt : k + 1 < j
        · have i1 := hFr.m_ (j := k + 1) (by omega)
          have q3 := hblk.cell (i := k + 1) (by omega)
          have q4 := hblk.free k
          have q5 := hblk.cell (i := k) (by omega)
          have dm : dg ml (k + 1) < 18446744073709551616 := getD_lt (by omega) HF.out.mlt (k + 1)
          have d1 : dg o3 (k + 1) < 18446744073709551616 := getD_lt (by omega) Hlo3.out (k + 1)
          obtain ⟨hi', lo, s1, c1, s2, c2, b1, b2, b3, b4, b5, b6, b7, b8, b9, b10, he⟩ := mul_round u (dg ml (k + 1)) (dg o3 (k + 1)) cr hub dm d1 hcr
          have hmul := Lib.hid (fun w => mul64_at u (dg ml (k + 1)) hi' lo hub dm b1 b2 w)
          have hadd1 := fun w => add64_at lo (dg o3 (k + 1)) 0 s1 c1 (by omega) b3 b4 w
          have hadd2 := fun w => add64_at s1 cr 0 s2 c2 (by omega) b5 b6 w
          simp only [Int.cast_ofNat_Int] at hadd1 hadd2
          have hS' := Lib.hid (HS.out.step (s := s2) (c' := hi' + c1 + c2) (by have := Hl2.out; omega) (by rw [he]; omega))
          have hblk' := hblk.set k s2
          have hB' := hB.setCell (p := ⟨w.heap.size + 1 + 1 + 1, k, none⟩) (Nat.le_refl _) (.int .u64 (s2 : Int))
          have Hlo' : Hid (∀ x ∈ o3.set k s2, x < 18446744073709551616) := Lib.hid (set_lt Hlo3.out b5)
          have kj8 : (k : Int) + 1 < 8 := by omega
          have kj6 : (k : Int) + 1 < 6 := by omega
          have kk8 : (k : Int) < 8 := by omega
          clear he b2 b4 b6 HS hB hBw hFr hl3 hblk
          go_wp2_with fail
          refine (hmul.out _).mono ?_
          rintro e w3 ⟨rfl, rfl⟩
          go_wp2
          go_roundw
          case rel => exact ⟨k + 1, hi' + c1 + c2, o3.set k s2, by go_num, by go_num, by omega, b10, hS', Hlo', hblk', hB'⟩
          case measure => simp [intOf]; omega
        · have hkj : k + 1 = j := by omega
          have q3 := hblk.cell (i := j) (by omega)
          have q4 := hblk.free k
          have q5 := hblk.cell (i := k) (by omega)
          have d1 : dg o3 j < 18446744073709551616 := getD_lt (by omega) Hlo3.out j
          obtain ⟨s, c1, hs1, hs2, hs3⟩ := carry_of (dg o3 j) cr 0 d1 hcr (by omega)
          have hadd := fun w => add64_at (dg o3 j) cr 0 s c1 (by omega) hs1 hs3 w
          simp only [Int.cast_ofNat_Int] at hadd
          obtain ⟨hl4, hv4⟩ := HS.out.fin (s := s) (c' := c1) (by have := Hl2.out; omega) (by rw [hkj, HF.out.mtake, HF.out.mval]) (by rw [hkj]; omega)
          rw [HF.out.mval, show k + 3 = j + 2 by omega, HV2.out] at hv4
          have hM4 := MontT.step (by omega) HM.out (by rw [Hai.out]; exact dai) Hu.out rfl (T4 := val 18446744073709551616 (((o3.set k s).set (k + 1) (dg o3 (k + 2) + c1)).take (k + 2))) (by rw [Hai.out]; exact hv4.symm)
          have htop : dg o3 (k + 2) + c1 ≤ 1 := by
           have e1 := val_take_getD 18446744073709551616 ((o3.set k s).set (k + 1) (dg o3 (k + 2) + c1)) (k + 1)
           rw [getD_set_eq (by simp; omega)] at e1
           have e2 := hM4.1
           have e3 := HF.out.room
           rw [← hkj] at e3
           exact top_small e1 e2 (Nat.le_of_lt e3) Hb.out.lt
          have hlim4 : ∀ x ∈ (o3.set k s).set (k + 1) (dg o3 (k + 2) + c1), x < 18446744073709551616 := set_lt (set_lt Hlo3.out hs1) (by omega)
          rw [show k + 2 = j + 1 by omega, hkj] at hM4 hlim4 hl4
          rw [show k + 2 = j + 1 by omega] at htop
          have hblk1 := hblk.set k s
          have q6 := hblk1.cell (i := j + 1) (by simp; omega)
          rw [getD_set_ne (by omega)] at q6
          have q7 := hblk1.cell (i := j) (by simp; omega)
          have q8 := hblk1.free j
          have hblk2 := hblk1.set j (dg o3 (j + 1) + c1)
          have hB2 := (hB.setCell (p := ⟨w.heap.size + 1 + 1 + 1, k, none⟩) (Nat.le_refl _) (.int .u64 (s : Int))).setCell (p := ⟨w.heap.size + 1 + 1 + 1, j, none⟩) (Nat.le_refl _) (.int .u64 ((dg o3 (j + 1) + c1 : Nat) : Int))
          have kj8 : (j : Int) < 8 := by omega
          have kj9 : (j : Int) + 1 < 8 := by omega
          have kk8 : (k : Int) < 8 := by omega
          have hl5 : ((o3.set k s).set j (dg o3 (j + 1) + c1)).length = 8 := by simpa using hl3
          have HM4 := Lib.hid hM4
          have Hlim4 := Lib.hid hlim4
          have Hl5 := Lib.hid hl5
          have hwt := IntWalk.u64_in ((dg o3 (j + 1) : Int) + (c1 : Int)) (by omega)
          have Hwt := Lib.hid hwt
          have Hkj := Lib.hid hkj
          clear hs3 HS hv4 hM4 hlim4 hl4 hl5 hblk hblk1 hB hBw hFr htop hkj hwt
          go_upto_region 30 with fail
          have i0 : (j : Int) - 1 = (k : Int) := by have := Hkj.out; omega
          go_upto_region 31 with fail
          have hwt := Hwt.out
          go_wp2_with fail
          refine ⟨⟨i + 1, (o3.set k s).set j (dg o3 (j + 1) + c1), by go_num, by omega, HM4, Hl5, Hlim4, by simpa using hblk2, by simpa using hB2⟩, by simp [intOf]; omega⟩
  · obtain rfl : i = n := by omega
    obtain ⟨hTb, kk, hTk⟩ := HM.out
    have hFr := HF.out.below hBw hg
    have hT : val 18446744073709551616 (o.take i) + 18446744073709551616 ^ i * dg o i = val 18446744073709551616 (o.take (i + 1)) := (val_take_getD _ _ _).symm
    have q1 := hblk.cell (i := i) (by have := Ho.out; omega)
    have hbel := zbelow_any (w.heap.size + 1 + 1 + 1) (dg o i) o wr hFr.fld hFr.mlt hblk (by omega) Ho.out Hlo.out hn hn1 (by rw [hFr.mtake, hFr.mval]) (getD_lt (by omega) Hlo.out i) (by rw [hT, hFr.mval]; have := Hb.out.lt; omega)
    rw [hT, hFr.mval] at hbel
    have hoff := offM_mod (v := val 18446744073709551616 (o.take (i + 1))) (M := M) (R := 18446744073709551616 ^ i) hTk
    rw [ta] at hoff
    have hltm := offM_lt (v := val 18446744073709551616 (o.take (i + 1))) (M := M) (by have := Hb.out.lt; omega)
    have Hoff := Lib.hid hoff
    have Hltm := Lib.hid hltm
    have Hbel := Lib.hid hbel
    have ki8 : (i : Int) < 8 := by omega
    clear hbel hT hFr hTb hTk hoff hltm hblk
    go_wp2_with fail
    refine Hbel.out.mono ?_
    rintro e w2 ⟨o2, rfl, ho6, hlim, hv2, hB2⟩
    obtain ⟨x0, x1, x2, x3, x4, x5, hoe⟩ := six ho6
    have hrb := (hB2.block (w.heap.size + 1 + 1) (by have := hB.size; omega)).trans ((hB.block (w.heap.size + 1 + 1) (by omega)).trans l3)
    obtain ⟨r0, r1, r2, r3, r4, r5⟩ := cells6 hrb
    have z := fun i => blk_free hrb i
    have z0 := z 0
    have z1 := z 1
    have z2 := z 2
    have z3 := z 3
    have z4 := z 4
    have z5 := z 5
    have hrb' := hrb
    have hBf : Below w.heap.size w w2 := hBw.trans (hB2.mono hBw.size)
    have Hv2 := Lib.hid hv2
    have Ho6 := Lib.hid ho6
    have Hlim := Lib.hid hlim
    have Hoe := Lib.hid hoe
    have hve : EV o2 = .agg #[.int .u64 (x0 : Int), .int .u64 (x1 : Int), .int .u64 (x2 : Int), .int .u64 (x3 : Int), .int .u64 (x4 : Int), .int .u64 (x5 : Int)] := by rw [hoe]; rfl
    rw [hve]
    clear hve hoe hv2 ho6 hlim z hrb hB2 hB Hbel
    go_wp2_with fail
    refine end6 rfl rfl rfl (six_set hrb' _ _ _ _ _ _) ?_
    exact ⟨o2, by rw [Hoe.out]; rfl, ⟨Ho6.out, Hlim.out, by rw [Hv2.out]; exact Hltm.out⟩, by rw [Hv2.out]; exact Hoff.out, six_below hBf (by omega) _ _ _ _ _ _⟩
end Go.Proofs.YtendnkpiidhogaaGreat

namespace Go.Proofs.YtendnkpiidhogaaGreat
open Go.RowKit

theorem add_cancel_mod {a b c M : Nat} (h : (a + c) % M = (b + c) % M) : a % M = b % M := by
 have h1 := congrArg (fun z : Nat => (z : Int)) h
 simp only [Int.natCast_emod, Int.natCast_add] at h1
 have h2 : ((a : Int) + c - c) % M = ((b : Int) + c - c) % M := by rw [Int.sub_emod, h1, ← Int.sub_emod]
 rw [Int.add_sub_cancel, Int.add_sub_cancel] at h2
 exact_mod_cast h2
theorem sub_mod_form {x y M R : Nat} (hM : 0 < M) (hy : y ≤ M) : subM (x * R % M) (y * R % M) M = (x + M - y) * R % M := by
 have h1 := Nat.mod_lt (x * R) hM
 have h2 := Nat.mod_lt (y * R) hM
 rw [subM_mod h1 h2]
 refine add_cancel_mod (c := y * R % M) ?_
 rw [show x * R % M + M - y * R % M + y * R % M = x * R % M + M by omega, Nat.add_mod_right, Nat.mod_mod]
 rw [Nat.add_mod_mod, ← Nat.add_mul, show x + M - y + y = x + M by omega, Nat.add_mul, Nat.add_mul_mod_self_left]
theorem off_mod {x M : Nat} (h : x < 2 * M) : offM x M = x % M := by
 rw [offM]
 split
 · rw [Nat.mod_eq_of_lt (by assumption)]
 · rw [show x = x - M + M by omega, Nat.add_mod_right, Nat.mod_eq_of_lt (by omega)]; omega
structure FE (M n : Nat) (l : List Nat) (x : Nat) : Prop where
 elt : Elt M l
 form : val 18446744073709551616 l = x * 18446744073709551616 ^ n % M
theorem FE.mod {M n : Nat} {l : List Nat} {x : Nat} (h : FE M n l x) : FE M n l (x % M) := ⟨h.elt, by rw [Nat.mod_mul_mod]; exact h.form⟩
theorem FE.zero_iff {w : World} {g n inv M : Nat} {ml ol rl l : List Nat} {x : Nat} (h : FE M n l x) (hF : FF w g n inv M ml ol rl) : l = [0, 0, 0, 0, 0, 0] ↔ x % M = 0 := by
 constructor
 · intro hz
   have h1 := h.form
   rw [hz] at h1
   have h2 : x * 18446744073709551616 ^ n % M = 0 * 18446744073709551616 ^ n % M := by rw [← h1]; simp
   have := cancelR hF.invV h2
   simpa using this
 · intro hz
   have h1 := h.form
   rw [← Nat.mod_mul_mod, hz, Nat.zero_mul, Nat.zero_mod] at h1
   obtain ⟨a, b, c, d, e, f, rfl⟩ := six h.elt.six
   simp only [val_cons, val_nil] at h1
   simp
   omega

set_option maxRecDepth 100000 in
theorem fmul_any {g n inv M : Nat} {ml ol rl : List Nat} {a b : List Nat} {x y : Nat} (w : World) (hF : FF w g n inv M ml ol rl) (ha : FE M n a x) (hb : FE M n b y) :
 Calls Tryz.prog 175 #[.pointer (some ⟨g, 0, none⟩), EV a, EV b] w fun e w' => ∃ o, e = .returned (EV o) ∧ FE M n o (x * y) ∧ Below w.heap.size w w' := by
 refine (zmul_any a b w hF ha.elt hb.elt).mono ?_
 rintro e w' ⟨o, rfl, ho, hv, hB⟩
 refine ⟨o, rfl, ⟨ho, ?_⟩, hB⟩
 rw [ha.form, hb.form, ← Nat.mul_mod] at hv
 have h1 : val 18446744073709551616 o * 18446744073709551616 ^ n % M = (x * y * 18446744073709551616 ^ n) * 18446744073709551616 ^ n % M := by
  rw [hv]
  congr 1
  generalize 18446744073709551616 ^ n = R
  rw [Nat.mul_mul_mul_comm, Nat.mul_assoc (x * y)]
 have h2 := cancelR hF.invV h1
 rwa [Nat.mod_eq_of_lt ho.lt] at h2
theorem fadd_any {g n inv M : Nat} {ml ol rl : List Nat} {a b : List Nat} {x y : Nat} (w : World) (hF : FF w g n inv M ml ol rl) (ha : FE M n a x) (hb : FE M n b y) :
 Calls Tryz.prog 174 #[.pointer (some ⟨g, 0, none⟩), EV a, EV b] w fun e w' => ∃ o, e = .returned (EV o) ∧ FE M n o (x + y) ∧ Below w.heap.size w w' := by
 refine (zadd_any a b w hF ha.elt hb.elt).mono ?_
 rintro e w' ⟨o, rfl, ho, hv, hB⟩
 refine ⟨o, rfl, ⟨ho, ?_⟩, hB⟩
 have h1 := ha.elt.lt
 have h2 := hb.elt.lt
 rw [hv, off_mod (by omega), ha.form, hb.form, ← Nat.add_mod, ← Nat.add_mul]
theorem fsub_any {g n inv M : Nat} {ml ol rl : List Nat} {a b : List Nat} {x y : Nat} (w : World) (hF : FF w g n inv M ml ol rl) (ha : FE M n a x) (hb : FE M n b y) (hy : y ≤ M) :
 Calls Tryz.prog 176 #[.pointer (some ⟨g, 0, none⟩), EV a, EV b] w fun e w' => ∃ o, e = .returned (EV o) ∧ FE M n o (x + M - y) ∧ Below w.heap.size w w' := by
 refine (zsub_any a b w hF ha.elt hb.elt).mono ?_
 rintro e w' ⟨o, rfl, ho, hv, hB⟩
 refine ⟨o, rfl, ⟨ho, ?_⟩, hB⟩
 rw [hv, ha.form, hb.form, sub_mod_form (by have := hF.big; omega) hy]
theorem curve_eq {x y b M : Nat} (hM : 3 < M) : (y * y + M - (((x * x + M - 3) * x + b) % M)) % M = 0 ↔ y * y % M = ((x * x % M * x % M + M - 3 * x % M) % M + b) % M := by
 have h0 : 0 < M := by omega
 have hr := Nat.mod_lt ((x * x + M - 3) * x + b) h0
 have e1 : (y * y + M - (((x * x + M - 3) * x + b) % M)) % M = 0 ↔ y * y % M = ((x * x + M - 3) * x + b) % M := by
  constructor
  · intro h
    have h1 : (y * y + M - (((x * x + M - 3) * x + b) % M) + (((x * x + M - 3) * x + b) % M)) % M = (0 + ((x * x + M - 3) * x + b) % M) % M := by rw [Nat.add_mod, h, Nat.mod_mod, Nat.zero_add]
    rw [show y * y + M - (((x * x + M - 3) * x + b) % M) + (((x * x + M - 3) * x + b) % M) = y * y + M by omega, Nat.add_mod_right, Nat.zero_add, Nat.mod_mod] at h1
    exact h1
  · intro h
    have h1 : (y * y + M - (((x * x + M - 3) * x + b) % M) + (((x * x + M - 3) * x + b) % M)) % M = (0 + ((x * x + M - 3) * x + b) % M) % M := by
     rw [show y * y + M - (((x * x + M - 3) * x + b) % M) + (((x * x + M - 3) * x + b) % M) = y * y + M by omega, Nat.add_mod_right, Nat.zero_add, Nat.mod_mod]
     exact h
    have h2 := add_cancel_mod h1
    rwa [Nat.zero_mod] at h2
 have h3 := Nat.mod_lt (3 * x) h0
 have h4 : (x * x + M - 3) * x % M = (x * x % M * x % M + M - 3 * x % M) % M := by
  refine add_cancel_mod (c := 3 * x) ?_
  rw [← Nat.add_mul, show x * x + M - 3 + 3 = x * x + M by omega, Nat.add_mul, Nat.add_mul_mod_self_left]
  rw [Nat.add_mod (x * x % M * x % M + M - 3 * x % M), ← Nat.mod_mod (3 * x) M, ← Nat.add_mod, Nat.mod_mod, show x * x % M * x % M + M - 3 * x % M + 3 * x % M = x * x % M * x % M + M by omega, Nat.add_mod_right, Nat.mod_mod, Nat.mod_mul_mod]
 rw [e1, Nat.add_mod ((x * x + M - 3) * x), h4, Nat.add_mod_mod]
end Go.Proofs.YtendnkpiidhogaaGreat

namespace Go.Proofs.YtendnkpiidhogaaGreat
open Go.RowKit

structure FR (w : World) (g n inv M : Nat) (ml ol rl : List Nat) : Prop where
 ff : FF w g n inv M ml ol rl
 oelt : Elt M ol
 oval : val 18446744073709551616 ol = 18446744073709551616 ^ n % M
 relt : Elt M rl
 rval : val 18446744073709551616 rl = 18446744073709551616 ^ n * 18446744073709551616 ^ n % M
theorem FR.below {w w' : World} {g n inv M B : Nat} {ml ol rl : List Nat} (h : FR w g n inv M ml ol rl) (hb : Below B w w') (hg : g < B) : FR w' g n inv M ml ol rl :=
 ⟨h.ff.below hb hg, h.oelt, h.oval, h.relt, h.rval⟩
theorem Fld.r_ {w : World} {g n inv : Nat} {ml ol rl : List Nat} (h : Fld w g n inv ml ol rl) {j : Nat} (hj : j < 6) : w.cell? ⟨g, 14 + j, none⟩ = some (.int .u64 (dg rl j : Int)) := by
 rw [blk_cell h.blk (14 + j)]
 obtain ⟨a, b, c, d, e, f, rfl⟩ := six h.m6
 obtain ⟨a, b, c, d, e, f, rfl⟩ := six h.o6
 obtain ⟨a, b, c, d, e, f, rfl⟩ := six h.r6
 match j, hj with
 | 0, _ | 1, _ | 2, _ | 3, _ | 4, _ | 5, _ => rfl

theorem copy_into {dT sT : TypeId} (hdT : Tryz.prog.underlying dT = some (.slice 139)) (w : World) (g o dLen dCap : Nat) (cur : List Value) (ty : TypeId) (hg : w.heap[g]? = some (.cells cur.toArray ty (0, 0))) (P : Nat → Prop) (A : Option Addr) (c : Nat) (a : List Nat) (h : RN w P A c a) (hle : a.length ≤ dLen) (hfit : o + a.length ≤ cur.length) :
    ∃ W', (Builtin.copy_ #[dT, sT] 3 #[.slice (some ⟨g, o, none⟩) dLen dCap, .slice A a.length c]).run Tryz.prog w = .ok (goInt a.length) W' ∧ W'.heap[g]? = some (.cells (cur.take o ++ nts a ++ cur.drop (o + a.length)).toArray ty (0, 0)) ∧
      (∀ B w0, B ≤ g → Below B w0 w → Below B w0 W') ∧ (∀ k, k ≠ g → W'.heap[k]? = w.heap[k]?) ∧ W'.heap.size = w.heap.size := by
  rcases Nat.eq_zero_or_pos a.length with h0 | hpos
  · obtain rfl := List.eq_nil_of_length_eq_zero h0
    refine ⟨w, run_copy_none w dT sT 3 139 (some ⟨g, o, none⟩) A dLen dCap 0 c hdT info64size (Nat.min_eq_left (Nat.zero_le _)), ?_, fun _ _ _ h => h, fun _ _ => rfl, rfl⟩
    rw [hg]
    simp [nts]
  · obtain ⟨ad, rfl, _, _⟩ := h.at_ hpos
    have hr := run_copy_row (P := Tryz.prog) w dT sT 3 139 g o dLen dCap ad a.length c cur.toArray ty (nts a) hdT info64size hg (by rw [nts_length]; exact (Nat.min_eq_left hle).symm) (fun j v hj => by
      have hj' : j < a.length := by have := (List.getElem?_eq_some_iff.1 hj).1; simpa [nts] using this
      rw [h.cells j hj']
      rw [nts_get hj'] at hj
      exact hj) (by rw [nts_length]; simpa using hfit) (oneCell_nts a)
    rw [nts_length] at hr
    refine ⟨_, hr, setRow_heap w g _ _ _ _ hg, fun B w0 hB hb => setRow_below hb hB _, fun k hk => ?_, by simp [World.setRow]⟩
    simp [World.setRow, Array.getElem?_modify, show ¬ g = k from fun e => hk e.symm]

set_option maxRecDepth 100000 in
set_option maxHeartbeats 2000000 in
theorem zto_any {g n inv M : Nat} {ml ol rl : List Nat} (P : Nat → Prop) (A : Option Addr) (c : Nat) (a : List Nat) (w : World) (hF : FR w g n inv M ml ol rl) (h : RN w P A c a) (hP : ∀ b, P b → b < w.heap.size) (hl : a.length ≤ 6) (hlt : val 18446744073709551616 a < M) :
    Calls Tryz.prog 172 #[.pointer (some ⟨g, 0, none⟩), .slice A a.length c] w fun e w' => ∃ o, e = .returned (EV o) ∧ FE M n o (val 18446744073709551616 a) ∧ Below w.heap.size w w' := by
  have hg := hF.ff.fld.lt
  have l1 : ((w.alloc (.cells #[.int .u64 0, .int .u64 0, .int .u64 0, .int .u64 0, .int .u64 0, .int .u64 0] 160)).alloc (.cells #[.int .u64 0, .int .u64 0, .int .u64 0, .int .u64 0, .int .u64 0, .int .u64 0] 160)).heap[w.heap.size]? = some (.cells #[.int .u64 0, .int .u64 0, .int .u64 0, .int .u64 0, .int .u64 0, .int .u64 0] 160 (0, 0)) := (Below.heap_alloc _ _ _ (by simp)).trans (heap_alloc_new w _)
  have l2 : ((w.alloc (.cells #[.int .u64 0, .int .u64 0, .int .u64 0, .int .u64 0, .int .u64 0, .int .u64 0] 160)).alloc (.cells #[.int .u64 0, .int .u64 0, .int .u64 0, .int .u64 0, .int .u64 0, .int .u64 0] 160)).heap[w.heap.size + 1]? = some (.cells ([.int .u64 0, .int .u64 0, .int .u64 0, .int .u64 0, .int .u64 0, .int .u64 0] : List Value).toArray 160 (0, 0)) := by
    have := heap_alloc_new (w.alloc (.cells #[.int .u64 0, .int .u64 0, .int .u64 0, .int .u64 0, .int .u64 0, .int .u64 0] 160)) (.cells #[.int .u64 0, .int .u64 0, .int .u64 0, .int .u64 0, .int .u64 0, .int .u64 0] 160)
    rw [World.size_alloc] at this
    exact this
  have hB0 : Below w.heap.size w ((w.alloc (.cells #[.int .u64 0, .int .u64 0, .int .u64 0, .int .u64 0, .int .u64 0, .int .u64 0] 160)).alloc (.cells #[.int .u64 0, .int .u64 0, .int .u64 0, .int .u64 0, .int .u64 0, .int .u64 0] 160)) := ((Below.refl _ w).alloc (Nat.le_refl _) _).alloc (by simp) _
  obtain ⟨W', hcp, hw1, hw2, hw3, hw4⟩ := copy_into (dT := 89) (sT := 106) Tryz.underlying89 _ (w.heap.size + 1) 0 6 6 _ 160 l2 P A c a (h.below hB0 hP) hl (by simp; omega)
  have hB1 := hw2 w.heap.size w (by omega) hB0
  have hrb := (hw3 w.heap.size (by omega)).trans l1
  clear l1 l2 hw2 hw3 hw4 hB0
  have hpad : (([.int .u64 0, .int .u64 0, .int .u64 0, .int .u64 0, .int .u64 0, .int .u64 0] : List Value).take 0 ++ nts a ++ ([.int .u64 0, .int .u64 0, .int .u64 0, .int .u64 0, .int .u64 0, .int .u64 0] : List Value).drop (0 + a.length)) = nts (a ++ List.replicate (6 - a.length) 0) := by
    have e : ([.int .u64 0, .int .u64 0, .int .u64 0, .int .u64 0, .int .u64 0, .int .u64 0] : List Value) = List.replicate 6 (.int .u64 0) := rfl
    rw [e, List.take_zero, List.nil_append, Nat.zero_add, List.drop_replicate]
    simp [nts]
  rw [hpad] at hw1
  have hp6 : (a ++ List.replicate (6 - a.length) 0).length = 6 := by simp; omega
  have hpv : val 18446744073709551616 (a ++ List.replicate (6 - a.length) 0) = val 18446744073709551616 a := val_pad _ _ _
  have hpl : ∀ x ∈ a ++ List.replicate (6 - a.length) 0, x < 18446744073709551616 := fun x hx => by
    rcases List.mem_append.1 hx with h1 | h1
    · exact h.2.1 x h1
    · have := (List.mem_replicate.1 h1).2; omega
  generalize a ++ List.replicate (6 - a.length) 0 = pa at *
  have hpe : Elt M pa := ⟨hp6, hpl, by rw [hpv]; exact hlt⟩
  obtain ⟨x0, x1, x2, x3, x4, x5, hxe⟩ := six hp6
  obtain ⟨y0, y1, y2, y3, y4, y5, hye⟩ := six hF.relt.six
  have hcb : W'.heap[w.heap.size + 1]? = some (.cells #[.int .u64 (x0 : Int), .int .u64 (x1 : Int), .int .u64 (x2 : Int), .int .u64 (x3 : Int), .int .u64 (x4 : Int), .int .u64 (x5 : Int)] 160 (0, 0)) := by rw [hxe] at hw1; exact hw1
  obtain ⟨e0, e1, e2, e3, e4, e5⟩ := cells6 hcb
  have hFr := hF.below hB1 hg
  have f := fun j (hj : j < 6) => hFr.ff.fld.r_ hj
  have f0 := f 0 (by omega)
  have f1 := f 1 (by omega)
  have f2 := f 2 (by omega)
  have f3 := f 3 (by omega)
  have f4 := f 4 (by omega)
  have f5 := f 5 (by omega)
  rw [hye] at f0 f1 f2 f3 f4 f5
  simp only [Nat.add_zero, Nat.reduceAdd, dg_cons_zero, dg_cons_succ] at f0 f1 f2 f3 f4 f5
  have hmul := zmul_any pa rl W'.drew (hFr.ff.below ((Below.refl W'.heap.size W').drew) (by have := hB1.size; omega)) hpe hF.relt
  have hva : EV pa = .agg #[.int .u64 (x0 : Int), .int .u64 (x1 : Int), .int .u64 (x2 : Int), .int .u64 (x3 : Int), .int .u64 (x4 : Int), .int .u64 (x5 : Int)] := by rw [hxe]; rfl
  have hvb : EV rl = .agg #[.int .u64 (y0 : Int), .int .u64 (y1 : Int), .int .u64 (y2 : Int), .int .u64 (y3 : Int), .int .u64 (y4 : Int), .int .u64 (y5 : Int)] := by rw [hye]; rfl
  rw [hva, hvb] at hmul
  have Hmul := Lib.hid hmul
  have HF := Lib.hid hF
  have Hpv := Lib.hid hpv
  have z0 := blk_free hrb 0
  have zB1 := hB1.size
  have hlt1 : w.heap.size < W'.heap.size := blk_lt hrb
  clear hmul hva hvb hcb hw1 hpad hp6 hpl hpe hxe hye f hF hFr hlt
  go_enter Tryz.func172, Tryz.ntmps172
  go_wp2_with fail
  go_region_with (first
    | (go_at_call 175
       refine Hmul.out.mono ?_
       rintro e w2 ⟨o2, rfl, ho2, hv2, hB2⟩
       have hrb2 := (hB2.block w.heap.size hlt1).trans hrb
       obtain ⟨u0, u1, u2, u3, u4, u5, hoe⟩ := six ho2.six
       obtain ⟨r0, r1, r2, r3, r4, r5⟩ := cells6 hrb2
       have z0 := blk_free hrb2 0
       have z1 := blk_free hrb2 1
       have z2 := blk_free hrb2 2
       have z3 := blk_free hrb2 3
       have z4 := blk_free hrb2 4
       have z5 := blk_free hrb2 5
       have hve : EV o2 = .agg #[.int .u64 (u0 : Int), .int .u64 (u1 : Int), .int .u64 (u2 : Int), .int .u64 (u3 : Int), .int .u64 (u4 : Int), .int .u64 (u5 : Int)] := by rw [hoe]; rfl
       rw [hve]
       have Hoe := Lib.hid hoe
       have Hv2 := Lib.hid hv2
       clear hve hoe hv2))
  all_goals
    go_wp2
    refine end6 rfl rfl rfl (six_set hrb2 _ _ _ _ _ _) ?_
    refine ⟨o2, by rw [Hoe.out]; rfl, ⟨ho2, ?_⟩, six_below (hB1.trans ((⟨hB2.os, hB2.tape, hB2.output, hB2.size, hB2.block⟩ : Below W'.heap.size W' w2).mono zB1)) (Nat.le_refl _) _ _ _ _ _ _⟩
    have h1 : val 18446744073709551616 o2 * 18446744073709551616 ^ n % M = (val 18446744073709551616 a * 18446744073709551616 ^ n) * 18446744073709551616 ^ n % M := by
      rw [Hv2.out, Hpv.out, HF.out.rval, Nat.mul_mod_mod, Nat.mul_assoc]
    have h2 := cancelR HF.out.ff.invV h1
    rwa [Nat.mod_eq_of_lt ho2.lt] at h2
end Go.Proofs.YtendnkpiidhogaaGreat

namespace Go.Proofs.YtendnkpiidhogaaGreat

def NewtAt (m : Int) (r : Nat) (y : Int) : Prop := ∃ t, m * y = 1 + 2 ^ (2 ^ r) * t
theorem NewtAt.zero {m : Int} (h : m % 2 = 1) : NewtAt m 0 1 := ⟨(m - 1) / 2, by omega⟩
theorem NewtAt.step {m y : Int} {r : Nat} (h : NewtAt m r y) (hr : r < 6) : NewtAt m (r + 1) (y * ((2 - m * y % 18446744073709551616) % 18446744073709551616) % 18446744073709551616) := by
 obtain ⟨t, ht⟩ := h
 obtain ⟨z, hz⟩ := newton_wrap (m := m) (y := y)
 have hj : ∃ j, 2 ^ r + 2 ^ r + j = 64 := by
  have : r = 0 ∨ r = 1 ∨ r = 2 ∨ r = 3 ∨ r = 4 ∨ r = 5 := by omega
  rcases this with rfl | rfl | rfl | rfl | rfl | rfl
  · exact ⟨62, rfl⟩
  · exact ⟨60, rfl⟩
  · exact ⟨56, rfl⟩
  · exact ⟨48, rfl⟩
  · exact ⟨32, rfl⟩
  · exact ⟨0, rfl⟩
 obtain ⟨j, hj⟩ := hj
 obtain ⟨s, hs⟩ := newton (z := z) ht hz hj
 exact ⟨s, by rw [Nat.pow_succ, Nat.mul_two]; exact hs⟩
theorem NewtAt.fin {m : Int} {y : Int} (h : NewtAt m 6 y) : ∃ t, m * y = 1 + 18446744073709551616 * t := by
 obtain ⟨t, ht⟩ := h
 exact ⟨t, ht⟩
theorem val_pow (n : Nat) : val 18446744073709551616 (List.replicate n 0 ++ [1]) = 18446744073709551616 ^ n := by
 rw [val_append, val_replicate, List.length_replicate]; simp
theorem dig_mul {x y M k : Nat} (hx : x ≤ M) (hy : y ≤ M) (hM : (digs 18446744073709551616 M).length ≤ k) : (digs 18446744073709551616 (x * y)).length ≤ k + k := by
 have h1 := lt_pow_digs (B := 18446744073709551616) (by omega) M
 have h2 : 18446744073709551616 ^ (digs 18446744073709551616 M).length ≤ 18446744073709551616 ^ k := Nat.pow_le_pow_right (by omega) hM
 refine digs_length_of_lt (by omega) ?_
 rw [Nat.pow_add]
 have h3 : x * y ≤ M * M := Nat.mul_le_mul hx hy
 have h4 : M * M < 18446744073709551616 ^ k * 18446744073709551616 ^ k := Nat.mul_lt_mul'' (by omega) (by omega)
 omega
end Go.Proofs.YtendnkpiidhogaaGreat

namespace Go.Proofs.YtendnkpiidhogaaGreat

theorem up_parts {x k : Nat} (hx : x < 18446744073709551616) (hk : k < 64) : ∃ hi lo t, x / 2 ^ (64 - k) = hi ∧ x * 2 ^ k % 18446744073709551616 = lo ∧ lo + 18446744073709551616 * hi = x * 2 ^ k ∧ lo = t * 2 ^ k ∧ lo + 2 ^ k ≤ 18446744073709551616 ∧ hi < 2 ^ k := by
 have e64 : (18446744073709551616 : Nat) = 2 ^ k * 2 ^ (64 - k) := by rw [← Nat.pow_add, show k + (64 - k) = 64 by omega]
 have hpos : 0 < 2 ^ k := Nat.pow_pos (by omega)
 have h1 : x * 2 ^ k / 18446744073709551616 = x / 2 ^ (64 - k) := by rw [e64, Nat.mul_comm x, Nat.mul_div_mul_left _ _ hpos]
 have h2 : x * 2 ^ k % 18446744073709551616 = (x % 2 ^ (64 - k)) * 2 ^ k := by
  rw [e64, Nat.mul_comm x, Nat.mul_mod_mul_left, Nat.mul_comm]
 have h3 := Nat.div_add_mod (x * 2 ^ k) 18446744073709551616
 refine ⟨_, _, _, rfl, rfl, by rw [← h1]; omega, h2, ?_, ?_⟩
 · have h4 : x % 2 ^ (64 - k) + 1 ≤ 2 ^ (64 - k) := Nat.mod_lt _ (Nat.pow_pos (by omega))
   have h5 : (x % 2 ^ (64 - k) + 1) * 2 ^ k ≤ 2 ^ (64 - k) * 2 ^ k := Nat.mul_le_mul_right _ h4
   rw [Nat.add_mul, Nat.one_mul, Nat.mul_comm (2 ^ (64 - k)), ← e64, ← h2] at h5
   exact h5
 · apply Nat.div_lt_of_lt_mul
   rw [Nat.mul_comm, ← e64]; exact hx
def ShlAt (l o : List Nat) (w k i : Nat) : Prop := val 18446744073709551616 o = 2 ^ (64 * w + k) * val 18446744073709551616 (l.take i) ∧ (∀ j, i + w < j → dg o j = 0) ∧ dg o (i + w) < 2 ^ k
theorem dg_replicate (n j : Nat) : dg (List.replicate n 0) j = 0 := by
 rw [dg, List.getD_eq_getElem?_getD, List.getElem?_replicate]
 split <;> rfl
theorem ShlAt.zero (l : List Nat) (w k n : Nat) : ShlAt l (List.replicate n 0) w k 0 := by
 refine ⟨by rw [val_replicate]; simp, fun j _ => dg_replicate n j, by rw [dg_replicate]; exact Nat.pow_pos (by omega)⟩
theorem ShlAt.step {l o : List Nat} {w k i hi lo : Nat} (h : ShlAt l o w k i) (ho : i + w + 1 < o.length) (he : lo + 18446744073709551616 * hi = dg l i * 2 ^ k) (hh : hi < 2 ^ k) : ShlAt l ((o.set (i + w) (dg o (i + w) + lo)).set (i + w + 1) hi) w k (i + 1) := by
 obtain ⟨h1, h2, h3⟩ := h
 refine ⟨?_, fun j hj => by rw [getD_set_ne (by omega), getD_set_ne (by omega)]; exact h2 j (by omega), by rw [show i + 1 + w = i + w + 1 by omega, getD_set_eq (by simp; omega)]; exact hh⟩
 have s1 := val_set' 18446744073709551616 (show i + w < o.length by omega) (dg o (i + w) + lo)
 have s2 := val_set' 18446744073709551616 (l := o.set (i + w) (dg o (i + w) + lo)) (n := i + w + 1) (by simp; omega) hi
 rw [getD_set_ne (by omega : i + w ≠ i + w + 1), h2 (i + w + 1) (by omega)] at s2
 rw [val_take_getD, Nat.mul_add, ← h1]
 have e : 2 ^ (64 * w + k) * (18446744073709551616 ^ i * dg l i) = 18446744073709551616 ^ (i + w) * (dg l i * 2 ^ k) := by
  rw [Nat.pow_add, Nat.pow_mul, show (2 : Nat) ^ 64 = 18446744073709551616 by decide, Nat.pow_add]
  generalize 18446744073709551616 ^ w = a
  generalize 18446744073709551616 ^ i = b
  generalize 2 ^ k = c
  generalize dg l i = d
  rw [Nat.mul_comm b d, ← Nat.mul_assoc, Nat.mul_comm _ b, Nat.mul_assoc a, Nat.mul_comm c d, ← Nat.mul_assoc b a]
 rw [e, ← he, Nat.mul_add, ← Nat.mul_assoc, ← Nat.pow_succ]
 rw [Nat.mul_add] at s1
 generalize 18446744073709551616 ^ (i + w + 1) * hi = q1 at *
 generalize 18446744073709551616 ^ (i + w) * lo = q2 at *
 generalize 18446744073709551616 ^ (i + w) * dg o (i + w) = q3 at *
 generalize val 18446744073709551616 (o.set (i + w) (dg o (i + w) + lo)) = q4 at *
 generalize val 18446744073709551616 ((o.set (i + w) (dg o (i + w) + lo)).set (i + w + 1) hi) = q5 at *
 generalize val 18446744073709551616 o = q6 at *
 omega
theorem ShlAt.fin {l o : List Nat} {w k : Nat} (h : ShlAt l o w k l.length) : val 18446744073709551616 o = val 18446744073709551616 l * 2 ^ (64 * w + k) := by
 have := h.1
 rwa [List.take_length, Nat.mul_comm] at this
theorem shr_digit {x k : Nat} {l : List Nat} (hk : k < 64) (i w : Nat) (hx : dg l (i + w + 1) = x) (hl : ∀ y ∈ l, y < 18446744073709551616) :
    ∃ t, x * 2 ^ (64 - k) % 18446744073709551616 = t * 2 ^ (64 - k) ∧ dg l (i + w) / 2 ^ k < 2 ^ (64 - k) ∧ dg l (i + w) / 2 ^ k + t * 2 ^ (64 - k) < 18446744073709551616 ∧
      val 18446744073709551616 l / 2 ^ (64 * (i + w) + k) % 18446744073709551616 = dg l (i + w) / 2 ^ k + t * 2 ^ (64 - k) := by
  have e64 : (18446744073709551616 : Nat) = 2 ^ k * 2 ^ (64 - k) := by rw [← Nat.pow_add, show k + (64 - k) = 64 by omega]
  have hpos : 0 < 2 ^ (64 - k) := Nat.pow_pos (by omega)
  have hd : dg l (i + w) < 18446744073709551616 := getD_lt (by omega) hl _
  have h1 : dg l (i + w) / 2 ^ k < 2 ^ (64 - k) := Nat.div_lt_of_lt_mul (by rw [← e64]; exact hd)
  have h2 : x * 2 ^ (64 - k) % 18446744073709551616 = (x % 2 ^ k) * 2 ^ (64 - k) := by
    rw [e64, Nat.mul_mod_mul_right]
  have h4 : (x % 2 ^ k + 1) * 2 ^ (64 - k) ≤ 2 ^ k * 2 ^ (64 - k) := Nat.mul_le_mul_right _ (Nat.mod_lt _ (Nat.pow_pos (by omega)))
  rw [← e64, Nat.add_mul, Nat.one_mul] at h4
  refine ⟨x % 2 ^ k, h2, h1, by omega, ?_⟩
  have hv : val 18446744073709551616 l / 2 ^ (64 * (i + w) + k) = dg l (i + w) / 2 ^ k + 2 ^ (64 - k) * (x + 18446744073709551616 * val 18446744073709551616 (l.drop (i + w + 2))) := by
    have hs := val_shift (m := 64) l hl (i + w) k (by omega)
    have h6 : val 18446744073709551616 l = val 18446744073709551616 (l.take (i + w)) + 18446744073709551616 ^ (i + w) * (dg l (i + w) + 18446744073709551616 * (x + 18446744073709551616 * val 18446744073709551616 (l.drop (i + w + 2)))) := by
      have dgdrop : ∀ j, val 18446744073709551616 (l.drop j) = dg l j + 18446744073709551616 * val 18446744073709551616 (l.drop (j + 1)) := fun j => by
        rcases Nat.lt_or_ge j l.length with h | h
        · rw [List.drop_eq_getElem_cons h, val_cons, dg, getD_eq' h]
        · rw [List.drop_eq_nil_of_le h, List.drop_eq_nil_of_le (by omega), dg, List.getD_eq_getElem?_getD, List.getElem?_eq_none h]
          simp
      rw [← hx, ← dgdrop (i + w + 1), ← dgdrop (i + w)]
      rcases Nat.lt_or_ge l.length (i + w) with h | h
      · rw [List.take_of_length_le (by omega), List.drop_eq_nil_of_le (by omega)]; simp
      · exact val_take_drop _ _ h
    have h7 : val 18446744073709551616 (l.take (i + w)) < 18446744073709551616 ^ (i + w) := by
      refine Nat.lt_of_lt_of_le (val_lt fun y hy => hl y (List.mem_of_mem_take hy)) (Nat.pow_le_pow_right (by omega) ?_)
      rw [List.length_take]; omega
    rw [Nat.pow_add, Nat.pow_mul, show (2 : Nat) ^ 64 = 18446744073709551616 by decide, ← Nat.div_div_eq_div_mul, h6, Nat.add_mul_div_left _ _ (Nat.pow_pos (by omega)), Nat.div_eq_of_lt h7, Nat.zero_add]
    generalize x + 18446744073709551616 * val 18446744073709551616 (l.drop (i + w + 2)) = v
    have : dg l (i + w) + 18446744073709551616 * v = dg l (i + w) + 2 ^ k * (2 ^ (64 - k) * v) := by rw [← Nat.mul_assoc, ← e64]
    rw [this, Nat.add_mul_div_left _ _ (Nat.pow_pos (by omega))]
  rw [hv, Nat.mul_add, ← Nat.add_assoc]
  have h8 : 2 ^ (64 - k) * (18446744073709551616 * val 18446744073709551616 (l.drop (i + w + 2))) = 18446744073709551616 * (2 ^ (64 - k) * val 18446744073709551616 (l.drop (i + w + 2))) := Nat.mul_left_comm _ _ _
  rw [h8, Nat.add_mul_mod_self_left]
  have h9 : x * 2 ^ (64 - k) = 18446744073709551616 * (x * 2 ^ (64 - k) / 18446744073709551616) + (x % 2 ^ k) * 2 ^ (64 - k) := by
    have := Nat.div_add_mod (x * 2 ^ (64 - k)) 18446744073709551616
    rw [h2] at this; omega
  rw [Nat.mul_comm (2 ^ (64 - k)) x, h9, Nat.add_comm (18446744073709551616 * _), ← Nat.add_assoc, Nat.add_mul_mod_self_left]
  exact Nat.mod_eq_of_lt (by omega)
def ShrAt (l o : List Nat) (w k i : Nat) : Prop := ∀ j, j < i → dg o j = val 18446744073709551616 l / 2 ^ (64 * (j + w) + k) % 18446744073709551616
theorem digit_of_val {B : Nat} {o : List Nat} (x : Nat) (hd : ∀ j, j < o.length → dg o j = x / B ^ j % B) (hx : x < B ^ o.length) : val B o = x := by
  have : ∀ i, i ≤ o.length → val B (o.take i) = x % B ^ i := by
    intro i
    induction i with
    | zero => intro _; simp [Nat.mod_one]
    | succ i ih =>
      intro hi
      rw [val_take_getD, ih (by omega), hd i (by omega), Nat.pow_succ, Nat.mod_mul]
  have h := this o.length (Nat.le_refl _)
  rw [List.take_length, Nat.mod_eq_of_lt hx] at h
  exact h
theorem ShrAt.fin {l o : List Nat} {w k : Nat} (h : ShrAt l o w k o.length) (hl : ∀ x ∈ l, x < 18446744073709551616) (hn : l.length = o.length + w) : val 18446744073709551616 o = val 18446744073709551616 l / 2 ^ (64 * w + k) := by
 apply digit_of_val
 · intro j hj
   rw [h j hj, Nat.div_div_eq_div_mul]
   congr 2
   rw [show (18446744073709551616 : Nat) = 2 ^ 64 by decide, ← Nat.pow_mul, ← Nat.pow_add]
   congr 1
   omega
 · apply Nat.div_lt_of_lt_mul
   have h1 := val_lt hl
   rw [hn, Nat.pow_add] at h1
   rw [Nat.pow_add, Nat.pow_mul, show (2 : Nat) ^ 64 = 18446744073709551616 by decide]
   have h2 : 18446744073709551616 ^ o.length * 18446744073709551616 ^ w * 1 ≤ 18446744073709551616 ^ o.length * 18446744073709551616 ^ w * 2 ^ k := Nat.mul_le_mul_left _ (Nat.pow_pos (by omega))
   have h3 : 18446744073709551616 ^ w * 2 ^ k * 18446744073709551616 ^ o.length = 18446744073709551616 ^ o.length * 18446744073709551616 ^ w * 2 ^ k := by
    rw [Nat.mul_comm, Nat.mul_assoc]
   rw [h3]
   omega
end Go.Proofs.YtendnkpiidhogaaGreat

namespace Go.Proofs.YtendnkpiidhogaaGreat
open Go.RowKit

set_option maxRecDepth 100000 in
set_option maxHeartbeats 2000000 in
theorem shl_yes (P : Nat → Prop) (A : Option Addr) (c : Nat) (a : List Nat) (n : Nat) (w : World) (h : RN w P A c a) (hP : ∀ b, P b → b < w.heap.size) (hl : a.length < 100000) (hn : n ≤ 65536) (hv : 0 < val 18446744073709551616 a) :
 Calls Tryz.prog 208 #[.slice A a.length c, .int .i64 (n : Int)] w fun e w' => ∃ A1 c1, e = .returned (.slice A1 (digs 18446744073709551616 (val 18446744073709551616 a * 2 ^ n)).length c1) ∧
  OB w' w.heap.size A1 c1 (digs 18446744073709551616 (val 18446744073709551616 a * 2 ^ n)) ∧ c1 ≤ a.length + n / 64 + 1 ∧ (∃ o, A1 = some ⟨w.heap.size, 0, none⟩ ∧ Blk w' w.heap.size o ∧ o.length = c1 ∧ digs 18446744073709551616 (val 18446744073709551616 a * 2 ^ n) = o.take (digs 18446744073709551616 (val 18446744073709551616 a * 2 ^ n)).length) ∧ Below w.heap.size w w' := by
 have ta := Lib.hid (trim_any P A c a w h)
 have la := digs_length_le (B := 18446744073709551616) (by omega) h.2.1
 replace h := h.trim
 have hne : 0 < (digs 18446744073709551616 (val 18446744073709551616 a)).length := by rw [digs_pos (by omega) hv]; simp
 generalize val 18446744073709551616 a = x at *
 have hx := val_digs (B := 18446744073709551616) (by omega) x
 generalize digs 18446744073709551616 x = l at *
 have la' : l.length < 100000 := by omega
 have Hla := Lib.hid la
 have Hx := Lib.hid hx
 clear hl hx hv la
 obtain ⟨h1, h2, h3⟩ := h.cap
 obtain ⟨s, k, hk, hnk⟩ : ∃ s k, k < 64 ∧ n = 64 * s + k := ⟨n / 64, n % 64, by omega, by omega⟩
 have e1 : (n : Int) / 64 = (s : Int) := by omega
 have e2 : (n : Int) % 64 = (k : Int) := by omega
 have hs : s ≤ 1024 := by omega
 have hne' : ((l.length : Int) == 0) = false := eqB (by omega)
 have hmk := run_make_row' (P := Tryz.prog) 106 139 (.int .u64 0) 8 Tryz.underlying106 info64 rfl .i64 .i64 (l.length + s + 1) (by omega) (by omega)
 simp only [Int.natCast_add, Int.cast_ofNat_Int] at hmk
 have hk1 : (k : Int) < 64 := by omega
 have Hnk := Lib.hid hnk
 clear hne hnk
 go_enter Tryz.func208, Tryz.ntmps208
 go_wp2_with fail
 refine ta.out.mono ?_
 rintro e w1 ⟨rfl, rfl⟩
 go_wp2
 go_loopw [36] (fun iv wr => ∃ (i : Nat) (o : List Nat), iv = .int .i64 (i : Int) ∧ i ≤ l.length ∧ ShlAt l o s k i ∧ Hid (o.length = l.length + s + 1) ∧ Lim o ∧ Blk wr w.heap.size o ∧ Below w.heap.size w wr) (fun iv _ => l.length - (intOf iv).toNat)
 case atStart => exact ⟨0, List.replicate (l.length + s + 1) 0, rfl, by omega, ShlAt.zero _ _ _ _, Lib.hid (by simp), ⟨by simp, by simp; omega⟩, Blk.made w _, (Below.refl _ w).alloc (Nat.le_refl _) _⟩
 case round =>
  obtain ⟨i, o, rfl, hi, hS, Ho, hLo, hblk, hB⟩ := hrel
  by_cases hlt : i < l.length
  · obtain ⟨ad, rfl, had, q1⟩ := (h.below hB hP).at_ hlt
    have hol := Ho.out
    obtain ⟨hi', lo, t, p1, p2, p3, p4, p5, p6⟩ := up_parts (h.2.dgLt i) hk
    have hS' := hS.step (by omega) p3 p6
    obtain ⟨y, hy⟩ : ∃ y, dg o (i + s) + lo = y := ⟨_, rfl⟩
    rw [hy] at hS'
    have hyl : y < 18446744073709551616 := by have := hS.2.2; omega
    have hhl : hi' < 18446744073709551616 := by
     have : 2 ^ k ≤ 2 ^ 63 := Nat.pow_le_pow_right (by omega) (by omega)
     omega
    have f1 : IntKind.u64.wrap ((dg l i : Int) * 2 ^ k) = (lo : Int) := by
     rw [← p2]
     simp [IntKind.wrap, IntKind.bits, IntKind.signed]
    have f2 : bits .or .u64 (dg o (i + s) : Int) (lo : Int) = (y : Int) := by
     rw [bits_or_u64_nat _ _ (hLo.dgLt _) (by omega), Nat.or_comm, p4, or_shift _ _ _ hS.2.2, ← p4, ← hy, Nat.add_comm]
    have f3 : (dg l i : Int) / 2 ^ (64 - k) = (hi' : Int) := by rw [← p1]; simp
    have q3 := hblk.cell (i := i + s) (by omega)
    have q4 := hblk.free (i + s)
    have hblk1 := hblk.set (i + s) y
    have q5 := hblk1.cell (i := i + s + 1) (by simp; omega)
    have q6 := hblk1.free (i + s + 1)
    have hblk2 := hblk1.set (i + s + 1) hi'
    have hLo' := (hLo.set (i + s) y hyl).set (i + s + 1) hi' hhl
    have hB2 := (hB.setCell (p := ⟨w.heap.size, i + s, none⟩) (Nat.le_refl _) (.int .u64 (y : Int))).setCell (p := ⟨w.heap.size, i + s + 1, none⟩) (Nat.le_refl _) (.int .u64 (hi' : Int))
    have Ho' : Hid (((o.set (i + s) y).set (i + s + 1) hi').length = l.length + s + 1) := Lib.hid (by simpa using Ho.out)
    have k1 : (i : Int) + (s : Int) + 1 < (l.length : Int) + (s : Int) + 1 := by omega
    clear hS hLo hblk hB hblk1 hol p1 p2 p3 p4 p5 p6 hyl hhl hy
    go_wp2
    go_roundw
    case rel => exact ⟨i + 1, (o.set (i + s) y).set (i + s + 1) hi', by go_num, by omega, hS', Ho', hLo', hblk2, hB2⟩
    case measure => simp [intOf]; omega
  · obtain rfl : i = l.length := by omega
    have hfin := hS.fin
    rw [Hx.out, ← Hnk.out] at hfin
    have hOB : OB wr w.heap.size (some ⟨w.heap.size, 0, none⟩) (l.length + s + 1) o := OB.of_blk hblk (Nat.le_refl _) hLo (by have := Ho.out; omega) (by unfold maxLen; omega)
    have ht := trim_any _ _ _ _ _ hOB.rn
    have hOB' := hOB.trim
    have hpre : digs 18446744073709551616 (val 18446744073709551616 o) = o.take (digs 18446744073709551616 (val 18446744073709551616 o)).length := by
     obtain ⟨n, hn, e⟩ := hLo.trim
     rw [e, List.length_take, Nat.min_eq_left hn]
    rw [hfin, Ho.out] at ht
    rw [hfin] at hOB' hpre
    have Hpre := Lib.hid hpre
    have Hblk := Lib.hid hblk
    have Ht := Lib.hid ht
    have hcc : Hid (l.length + s + 1 ≤ a.length + n / 64 + 1) := Lib.hid (by have := Hla.out; have := Hnk.out; omega)
    clear hblk hLo ht hfin hOB hS hpre
    go_wp2_with fail
    refine Ht.out.mono ?_
    rintro e w1 ⟨rfl, rfl⟩
    go_wp2
    go_ret
    exact ⟨_, _, rfl, hOB', hcc.out, ⟨o, rfl, Hblk.out, Ho.out, Hpre.out⟩, hB⟩

set_option maxRecDepth 100000 in
set_option maxHeartbeats 2000000 in
theorem shr_any (P : Nat → Prop) (A : Option Addr) (c : Nat) (a : List Nat) (n : Nat) (w : World) (h : RN w P A c a) (hP : ∀ b, P b → b < w.heap.size) (hl : a.length < 100000) (hn : n ≤ 9223372036854775807) :
 Calls Tryz.prog 202 #[.slice A a.length c, .int .i64 (n : Int)] w fun e w' => ∃ A1 c1, e = .returned (.slice A1 (digs 18446744073709551616 (val 18446744073709551616 a / 2 ^ n)).length c1) ∧
  OB w' w.heap.size A1 c1 (digs 18446744073709551616 (val 18446744073709551616 a / 2 ^ n)) ∧ Below w.heap.size w w' := by
 have ta := Lib.hid (trim_any P A c a w h)
 have la := digs_length_le (B := 18446744073709551616) (by omega) h.2.1
 replace h := h.trim
 generalize val 18446744073709551616 a = x at *
 have hx := val_digs (B := 18446744073709551616) (by omega) x
 generalize digs 18446744073709551616 x = l at *
 have la' : l.length < 100000 := by omega
 have Hx := Lib.hid hx
 obtain ⟨h1, h2, h3⟩ := h.cap
 obtain ⟨s, k, hk, hnk⟩ : ∃ s k, k < 64 ∧ n = 64 * s + k := ⟨n / 64, n % 64, by omega, by omega⟩
 have e1 : (n : Int) / 64 = (s : Int) := by omega
 have e2 : (n : Int) % 64 = (k : Int) := by omega
 have e4 : IntKind.i64.wrap ((n : Int) / 64) = (s : Int) := by rw [e1]; exact IntWalk.i64_in _ (by omega)
 have hsb : (s : Int) ≤ 144115188075855871 := by omega
 by_cases hs : s < l.length
 · obtain ⟨m, hm⟩ : ∃ m, l.length = m + s := ⟨l.length - s, by omega⟩
   have em : (l.length : Int) - (s : Int) = (m : Int) := by omega
   have hmk := run_make_row' (P := Tryz.prog) 106 139 (.int .u64 0) 8 Tryz.underlying106 info64 rfl .i64 .i64 m (by omega) (by omega)
   have hk1 : (k : Int) < 64 := by omega
   have hs' : (s : Int) < (l.length : Int) := by omega
   have hs2 : ¬ (l.length : Int) ≤ (s : Int) := by omega
   have Hnk := Lib.hid hnk
   have Hm := Lib.hid hm
   have hmb : m ≤ 100000 := by omega
   clear hl hx la hnk hn hm hsb hs
   go_enter Tryz.func202, Tryz.ntmps202
   go_wp2_with fail
   refine ta.out.mono ?_
   rintro e w1 ⟨rfl, rfl⟩
   go_wp2
   go_loopw [32] (fun iv wr => ∃ (i : Nat) (o : List Nat), iv = .int .i64 (i : Int) ∧ i ≤ m ∧ ShrAt l o s k i ∧ Hid (o.length = m) ∧ Lim o ∧ Blk wr w.heap.size o ∧ Below w.heap.size w wr) (fun iv _ => m - (intOf iv).toNat)
   case atStart => exact ⟨0, List.replicate m 0, rfl, by omega, fun j hj => by omega, Lib.hid (by simp), ⟨by simp, by simp; omega⟩, Blk.made w _, (Below.refl _ w).alloc (Nat.le_refl _) _⟩
   case round =>
    obtain ⟨i, o, rfl, hi, hS, Ho, hLo, hblk, hB⟩ := hrel
    have hol := Ho.out
    have hml := Hm.out
    by_cases hlt : i < m
    · obtain ⟨ad, rfl, had, q1⟩ := (h.below hB hP).at_ (i := i + s) (by omega)
      obtain ⟨t, p1, p2, p3, p4⟩ := shr_digit hk i s rfl h.2.1
      obtain ⟨z, hz⟩ : ∃ z, t * 2 ^ (64 - k) = z := ⟨_, rfl⟩
      obtain ⟨y1, hy1⟩ : ∃ y1, dg l (i + s) / 2 ^ k = y1 := ⟨_, rfl⟩
      obtain ⟨y, hy⟩ : ∃ y, y1 + z = y := ⟨_, rfl⟩
      have hor : (y1 ||| z) = y := by rw [Nat.or_comm, ← hz, or_shift _ _ _ (by rw [← hy1]; exact p2), hz, ← hy, Nat.add_comm]
      rw [hz] at p1 p3 p4
      rw [hy1] at p2 p3 p4
      rw [hy] at p3 p4
      have f1 : (dg l (i + s) : Int) / 2 ^ k = (y1 : Int) := by rw [← hy1]; simp
      have hS' : ShrAt l (o.set i y) s k (i + 1) := fun j hj => by
       rcases Nat.lt_or_ge j i with h | h
       · rw [getD_set_ne (by omega)]; exact hS j h
       · obtain rfl : j = i := by omega
         rw [getD_set_eq (by omega)]; exact p4.symm
      have q3 := hblk.cell (i := i) (by omega)
      have q4 := hblk.free i
      have hblk1 := hblk.set i y1
      have hy1l : y1 < 18446744073709551616 := by omega
      have k1 : (i : Int) + (s : Int) < (l.length : Int) := by omega
      by_cases h2 : i + s + 1 < l.length
      · have hB1 := hB.setCell (p := ⟨w.heap.size, i, none⟩) (Nat.le_refl _) (.int .u64 (y1 : Int))
        have q2 := (h.below hB1 hP).cells (i + s + 1) h2
        rw [add_succ] at q2
        have f2 : IntKind.u64.wrap ((dg l (i + s + 1) : Int) * 2 ^ (64 - k)) = (z : Int) := by
         rw [← p1]
         simp [IntKind.wrap, IntKind.bits, IntKind.signed]
        have hzl : z < 18446744073709551616 := by omega
        have f3 : bits .or .u64 (y1 : Int) (z : Int) = (y : Int) := by rw [bits_or_u64_nat _ _ hy1l hzl, hor]
        have q5 := hblk1.cell (i := i) (by simp; omega)
        rw [getD_set_eq (by omega)] at q5
        have q6 := hblk1.free i
        have hblk2 := hblk1.set i y
        rw [List.set_set] at hblk2
        have hLo' := hLo.set i y p3
        have hB2 := hB1.setCell (p := ⟨w.heap.size, i, none⟩) (Nat.le_refl _) (.int .u64 (y : Int))
        have Ho' : Hid ((o.set i y).length = m) := Lib.hid (by simpa using Ho.out)
        have k2 : (i : Int) + (s : Int) + 1 < (l.length : Int) := by omega
        clear hS hLo hblk hB hblk1 hol p1 p2 p3 p4 hz hy1 hy hor hy1l hzl hml hB1
        go_wp2
        go_region
        all_goals
         go_wp2
         go_roundw
         case rel => exact ⟨i + 1, o.set i y, by go_num, by omega, hS', Ho', hLo', hblk2, below_drewN hB2 1⟩
         case measure => simp [intOf]; omega
      · have hzz : z = 0 := by
         rw [dg_none (by omega : l.length ≤ i + s + 1), Nat.zero_mul, Nat.zero_mod] at p1
         exact p1.symm
        have hyy : y1 = y := by omega
        subst hyy
        have hLo' := hLo.set i y1 p3
        have hB2 := hB.setCell (p := ⟨w.heap.size, i, none⟩) (Nat.le_refl _) (.int .u64 (y1 : Int))
        have Ho' : Hid ((o.set i y1).length = m) := Lib.hid (by simpa using Ho.out)
        have k2 : ¬ (i : Int) + (s : Int) + 1 < (l.length : Int) := by omega
        clear hS hLo hblk hB hol p1 p2 p3 p4 hz hy1 hy hor hy1l hml hzz
        go_wp2
        go_roundw
        case rel => exact ⟨i + 1, o.set i y1, by go_num, by omega, hS', Ho', hLo', hblk1, hB2⟩
        case measure => simp [intOf]; omega
    · obtain rfl : i = m := by omega
      have hfin := ShrAt.fin (by rw [hol]; exact hS) h.2.1 (by rw [hol]; exact hml)
      rw [Hx.out, ← Hnk.out] at hfin
      have hOB : OB wr w.heap.size (some ⟨w.heap.size, 0, none⟩) i o := OB.of_blk hblk (Nat.le_refl _) hLo (by omega) (by unfold maxLen; omega)
      have ht := trim_any _ _ _ _ _ hOB.rn
      have hOB' := hOB.trim
      rw [hfin, hol] at ht
      rw [hfin] at hOB'
      have Ht := Lib.hid ht
      clear hblk hLo ht hfin hOB hS hol hml
      go_wp2_with fail
      refine Ht.out.mono ?_
      rintro e w1 ⟨rfl, rfl⟩
      go_wp2
      go_ret
      exact ⟨_, _, rfl, hOB', hB⟩
 · have hz : x / 2 ^ n = 0 := by
    apply Nat.div_eq_of_lt
    have h4 := val_lt h.2.1
    rw [hx] at h4
    refine Nat.lt_of_lt_of_le h4 ?_
    rw [show (18446744073709551616 : Nat) = 2 ^ 64 by decide, ← Nat.pow_mul]
    exact Nat.pow_le_pow_right (by omega) (by omega)
   rw [hz, digs_zero]
   have hs' : ¬ (s : Int) < (l.length : Int) := by omega
   have hs2 : (l.length : Int) ≤ (s : Int) := by omega
   clear hl hx la hnk hn hz hs
   go_enter Tryz.func202, Tryz.ntmps202
   go_wp2_with fail
   refine ta.out.mono ?_
   rintro e w1 ⟨rfl, rfl⟩
   go_wp2
   go_ret
   exact ⟨none, 0, rfl, OB.nil_ _ _, Below.refl _ _⟩
end Go.Proofs.YtendnkpiidhogaaGreat

namespace Go.Proofs.YtendnkpiidhogaaGreat
open Go.RowKit

theorem own_of_blk {w : World} {base g n c : Nat} {o l : List Nat} (h : Blk w g o) (hg : base ≤ g) (hc : o.length = c) (hc' : c ≤ maxLen) (hn : n ≤ c) (hl : l = o.take n) (hlen : l.length = n) :
 w.ownsRow base 139 1 (.slice (some ⟨g, 0, none⟩) n c) n (nts l) :=
 ⟨by simp [nts, hlen], .inr ⟨g, c, (nts o).toArray, rfl, hg, h, hn, hc', by simp [nts, hc], by simp [nts, hl]⟩⟩
theorem quo_setup {y : Nat} (hy : 18446744073709551616 ≤ y) : ∃ n2 s top, (digs 18446744073709551616 y).length = n2 + 2 ∧ dg (digs 18446744073709551616 y) (n2 + 1) = top ∧ top < 18446744073709551616 ∧ s < 64 ∧ Lib.bitLen top = 64 - s ∧
 (digs 18446744073709551616 (y * 2 ^ s)).length = n2 + 2 ∧ 18446744073709551616 ≤ 2 * dg (digs 18446744073709551616 (y * 2 ^ s)) (n2 + 1) ∧ 18446744073709551616 ^ (n2 + 2) ≤ 2 * (y * 2 ^ s) := by
 have hB : (2 : Nat) ≤ 18446744073709551616 := by omega
 have hlt := digs_lt hB y
 have hl : 1 < (digs 18446744073709551616 y).length := by
  rcases Nat.lt_or_ge 1 (digs 18446744073709551616 y).length with h | h
  · exact h
  · have h1 := lt_pow_digs hB y
    have h2 : 18446744073709551616 ^ (digs 18446744073709551616 y).length ≤ 18446744073709551616 ^ 1 := Nat.pow_le_pow_right (by omega) h
    omega
 obtain ⟨n2, hn⟩ : ∃ n2, (digs 18446744073709551616 y).length = n2 + 2 := ⟨(digs 18446744073709551616 y).length - 2, by omega⟩
 obtain ⟨top, ht⟩ : ∃ top, dg (digs 18446744073709551616 y) (n2 + 1) = top := ⟨_, rfl⟩
 have htl : top < 18446744073709551616 := by rw [← ht]; exact getD_lt (by omega) hlt _
 have h0 : top ≠ 0 := by
  rintro rfl
  have h1 := pow_digs_le hB (v := y) (by omega)
  rw [hn] at h1
  have h2 : y = val 18446744073709551616 ((digs 18446744073709551616 y).take (n2 + 1)) := by
   have := val_take_getD 18446744073709551616 (digs 18446744073709551616 y) (n2 + 1)
   rw [ht, Nat.mul_zero, Nat.add_zero, ← hn, List.take_length, val_digs hB] at this
   exact this
  have h3 := val_lt (B := 18446744073709551616) (l := (digs 18446744073709551616 y).take (n2 + 1)) fun x hx => hlt x (List.mem_of_mem_take hx)
  rw [← h2, List.length_take, Nat.min_eq_left (by omega)] at h3
  exact absurd h3 (Nat.not_lt.2 h1)
 obtain ⟨s, hs, hbl, g1, g2⟩ := shift_of h0 htl
 have e64 : (18446744073709551616 : Nat) = 2 ^ (64 - s) * 2 ^ s := by rw [← Nat.pow_add, show 64 - s + s = 64 by omega]
 obtain ⟨k1, k2, k3⟩ := norm_d hB (by decide) e64 hn ht (by omega) g2
 exact ⟨n2, s, top, hn, ht, htl, hs, hbl, k1, k2, k3⟩

theorem guess_ge {L lD : List Nat} {j n n1 n2 : Nat} (hn : n2 + 2 = n) (hn1 : n2 + 1 = n1) (hL : ∀ x ∈ L, x < 18446744073709551616) (hD : ∀ x ∈ lD, x < 18446744073709551616) (hlD : lD.length = n) (hlen : j + n < L.length)
 (htop : 18446744073709551616 ≤ 2 * dg lD n1) (hV : val 18446744073709551616 L < 18446744073709551616 ^ (j + 1) * val 18446744073709551616 lD) :
 (∀ i, j + n + 1 ≤ i → dg L i = 0) ∧ val 18446744073709551616 L / (18446744073709551616 ^ j * val 18446744073709551616 lD) ≤ guessF (dg L (j + n)) (dg L (j + n1)) (dg L (j + n2)) (dg lD n1) (dg lD n2) ∧
  guessF (dg L (j + n)) (dg L (j + n1)) (dg L (j + n2)) (dg lD n1) (dg lD n2) < 18446744073709551616 := by
 subst hn hn1
 have hdl := val_lt hD
 rw [hlD] at hdl
 have hz : ∀ i, j + (n2 + 2) + 1 ≤ i → dg L i = 0 := fun i hi => zero_of_val_lt hL (m := j + (n2 + 2) + 1) (Nat.lt_trans hV (by
  rw [show j + (n2 + 2) + 1 = (j + 1) + (n2 + 2) by omega, Nat.pow_add _ (j + 1)]
  exact Nat.mul_lt_mul_of_pos_left hdl (Nat.pow_pos (by omega)))) hi
 obtain ⟨k1, k2⟩ := guessF_ok (x2 := dg L (j + (n2 + 2))) (getD_lt (by omega) hL (j + (n2 + 1))) (getD_lt (by omega) hL (j + n2)) (getD_lt (by omega) hD (n2 + 1)) (getD_lt (by omega) hD n2) htop
 refine ⟨hz, k2 _ ?_ ?_, k1⟩
 · apply Nat.div_lt_of_lt_mul
   rw [Nat.pow_succ, Nat.mul_right_comm] at hV
   exact hV
 · obtain ⟨rv, hrv, hv⟩ := val_three (t := j + n2) hL (by omega) (fun i hi => hz i (by omega))
   obtain ⟨rd, hd⟩ := val_two (B := 18446744073709551616) (L := lD) (t := n2) (by omega)
   refine quo_three (B := 18446744073709551616) (t := j + n2) (DB := 18446744073709551616 ^ j * val 18446744073709551616 lD) (rd := 18446744073709551616 ^ j * rd) (Nat.div_mul_le_self _ _) ?_ hv hrv
   rw [hd, Nat.mul_add, ← Nat.mul_assoc, ← Nat.pow_add]
theorem Row.alloc_ {w : World} {g : Nat} {l : List Nat} (h : Row w g l) (o : Obj) : Row (w.alloc o) g l := h.of_heap (Below.heap_alloc w o g h.lt)
theorem RN.alloc_ {w : World} {P : Nat → Prop} {A : Option Addr} {c : Nat} {l : List Nat} (h : RN w P A c l) (hP : ∀ b, P b → b < w.heap.size) (o : Obj) : RN (w.alloc o) P A c l := h.below ((Below.refl w.heap.size w).alloc (Nat.le_refl _) o) hP
theorem shl_len (x : Nat) {s : Nat} (hs : s < 64) : (digs 18446744073709551616 (x * 2 ^ s)).length ≤ (digs 18446744073709551616 x).length + 1 := by
 apply digs_length_of_lt (by omega)
 have h1 := lt_pow_digs (B := 18446744073709551616) (by omega) x
 have h2 : 2 ^ s ≤ 2 ^ 64 := Nat.pow_le_pow_right (by omega) (by omega)
 rw [show (2 : Nat) ^ 64 = 18446744073709551616 by decide] at h2
 rw [Nat.pow_succ]
 exact Nat.lt_of_le_of_lt (Nat.mul_le_mul_left _ h2) (Nat.mul_lt_mul_of_pos_right h1 (by omega))

set_option maxRecDepth 100000 in
set_option maxHeartbeats 1000000 in
theorem quo_big (P P' : Nat → Prop) (A A' : Option Addr) (c c' : Nat) (a b : List Nat) (w : World) (h : RN w P A c a) (h' : RN w P' A' c' b) (hP : ∀ b, P b → b < w.heap.size) (hP' : ∀ b, P' b → b < w.heap.size) (hl : a.length < 90000) (hl' : b.length < 90000)
 (hge : val 18446744073709551616 b ≤ val 18446744073709551616 a) (hbig : 18446744073709551616 ≤ val 18446744073709551616 b) :
 Calls Tryz.prog 169 #[.slice A a.length c, .slice A' b.length c'] w fun e w' => ∃ A1 c1 A2 c2, e = .returned (.tuple #[.slice A1 (digs 18446744073709551616 (val 18446744073709551616 a / val 18446744073709551616 b)).length c1, .slice A2 (digs 18446744073709551616 (val 18446744073709551616 a % val 18446744073709551616 b)).length c2, .bool true]) ∧
  OB w' w.heap.size A1 c1 (digs 18446744073709551616 (val 18446744073709551616 a / val 18446744073709551616 b)) ∧ OB w' w.heap.size A2 c2 (digs 18446744073709551616 (val 18446744073709551616 a % val 18446744073709551616 b)) ∧ Below w.heap.size w w' := by
 have ta := Lib.hid (trim_any P A c a w h)
 have tb := trim_any P' A' c' b w h'
 have tc := cmp_any P P' A A' c c' _ _ w h.trim h'.trim
 have la := digs_length_le (B := 18446744073709551616) (by omega) h.2.1
 have lb := digs_length_le (B := 18446744073709551616) (by omega) h'.2.1
 rw [val_digs (by omega), val_digs (by omega)] at tc
 replace h := h.trim
 replace h' := h'.trim
 generalize val 18446744073709551616 a = x at *
 generalize val 18446744073709551616 b = y at *
 have hcv : 0 ≤ cmpV x y := by rcases cmpV_cases x y with h | h | h <;> omega
 generalize cmpV x y = v at tc hcv
 obtain ⟨i0, hi, hz0, hz1, hz2⟩ := info_parts info64
 obtain ⟨n2, s, top, hn, htop, htl, hs, hbl, hDn, hDt, hDp⟩ := quo_setup hbig
 have hxv := val_digs (B := 18446744073709551616) (by omega) x
 have hyv := val_digs (B := 18446744073709551616) (by omega) y
 have hmono : (digs 18446744073709551616 x).length ≤ (digs 18446744073709551616 (x * 2 ^ s)).length := digs_length_mono (by omega) (Nat.le_mul_of_pos_right _ (Nat.pow_pos (by omega)))
 have hmono2 : (digs 18446744073709551616 y).length ≤ (digs 18446744073709551616 x).length := digs_length_mono (by omega) hge
 have hshl := shl_len x hs
 have hX0 : 0 < x := by omega
 have hY0 : 0 < y := by omega
 generalize digs 18446744073709551616 x = l at *
 generalize digs 18446744073709551616 y = m at *
 have T1 := Lib.hid fun W (hW : RN W P A c l) (hp : ∀ b, P b → b < W.heap.size) => shl_yes P A c l s W hW hp (by omega) (by omega) (by rw [hxv]; exact hX0)
 have T2 := Lib.hid fun W (hW : RN W P' A' c' m) (hp : ∀ b, P' b → b < W.heap.size) => shl_yes P' A' c' m s W hW hp (by omega) (by omega) (by rw [hyv]; exact hY0)
 rw [hxv] at T1
 rw [hyv, hDn, hn] at T2
 rw [hn] at tb tc
 have hXD := norm_x (B := 18446744073709551616) (x := x * 2 ^ s) (D := y * 2 ^ s) (n := n2 + 2) (by omega) (by omega) hDp
 have hDlt := lt_pow_digs (B := 18446744073709551616) (by omega) (y * 2 ^ s)
 rw [hDn] at hDlt
 have hDd := digs_lt (B := 18446744073709551616) (by omega) (y * 2 ^ s)
 have hDv := val_digs (B := 18446744073709551616) (by omega) (y * 2 ^ s)
 have hXv := val_digs (B := 18446744073709551616) (by omega) (x * 2 ^ s)
 have hD0 : 0 < y * 2 ^ s := Nat.mul_pos hY0 (Nat.pow_pos (by omega))
 have hqx : (x * 2 ^ s) / (y * 2 ^ s) = x / y := Nat.mul_div_mul_right _ _ (Nat.pow_pos (by omega))
 have hrx : (x * 2 ^ s) % (y * 2 ^ s) / 2 ^ s = x % y := by
  rw [Nat.mul_mod_mul_right]
  exact Nat.mul_div_cancel _ (Nat.pow_pos (by omega))
 generalize y * 2 ^ s = D at *
 generalize x * 2 ^ s = X at *
 generalize digs 18446744073709551616 D = lD at *
 generalize digs 18446744073709551616 X = lX at *
 obtain ⟨n, hn'⟩ : ∃ n, n2 + 2 = n := ⟨_, rfl⟩
 obtain ⟨n1, hn1⟩ : ∃ n1, n2 + 1 = n1 := ⟨_, rfl⟩
 rw [hn'] at hn hDn hDlt hXD tb tc T2
 have HlD := Lib.hid hDn
 rw [hn1] at htop hDt
 obtain ⟨kX, hkX⟩ : ∃ kX, lX.length = kX := ⟨_, rfl⟩
 have hLX : Lim lX → True := fun _ => trivial
 clear hLX
 rw [hkX] at hmono T1 hXD hshl
 obtain ⟨t, htt⟩ : ∃ t, kX + 1 - n = t := ⟨_, rfl⟩
 rw [htt] at hXD
 have hlz := fun w => Tryz.bits_LeadingZeros64 (top : Int) w (by omega) (by omega)
 rw [Int.toNat_natCast, hbl, show (64 - ((64 - s : Nat) : Int)) = (s : Int) by omega] at hlz
 have hge0 : ((n : Int) == 0) = false := eqB (by omega)
 have hge1 : ((n : Int) == 1) = false := eqB (by omega)
 have i1 : (n : Int) - 1 = (n1 : Int) := by omega
 have i2 : n1 < n := by omega
 have i3 : ¬ kX < l.length := by omega
 have i4 : (kX : Int) + 1 - (n : Int) = (t : Int) := by omega
 have hcv' : ¬ v < 0 := by omega
 have hnb : n < 90000 := by omega
 have hlb : l.length < 90000 := by omega
 have hkb : kX ≤ 90001 := by omega
 obtain ⟨ad', rfl, hPad, q1⟩ := h'.at_ (i := n1) (by omega)
 rw [htop] at q1
 have Htb := Lib.hid tb
 have Htc := Lib.hid tc
 have Hlz := Lib.hid hlz
 have Hn2 := Lib.hid hn'
 have Hn1 := Lib.hid hn1
 have HkX := Lib.hid hkX
 have HXD := Lib.hid hXD
 have Htt := Lib.hid htt
 have Hqx := Lib.hid hqx
 have Hrx := Lib.hid hrx
 have HDv := Lib.hid hDv
 have HXv := Lib.hid hXv
 have HDlt := Lib.hid hDlt
 have HDt := Lib.hid hDt
 have Hla := Lib.hid la
 have Hl := Lib.hid hl
 clear tb tc hlz hn' hn1 hkX hXD htt hqx hrx hDv hXv hDlt hDt la hl hbig hge hxv hyv hmono2 hX0 hY0 hDp lb hl' hbl htl htop hcv hDn hmono hshl
 go_enter Tryz.func169, Tryz.ntmps169
 go_wp2_with fail
 refine ta.out.mono ?_
 rintro e w1 ⟨rfl, rfl⟩
 go_wp2_with fail
 refine Htb.out.mono ?_
 rintro e w1 ⟨rfl, rfl⟩
 go_wp2_with fail
 refine Htc.out.mono ?_
 rintro e w1 ⟨rfl, nd, rfl⟩
 obtain ⟨W, hW⟩ : ∃ W, W = w.drewN nd := ⟨_, rfl⟩
 have q2 : W.cell? (ad'.add n1) = some (.int .u64 (top : Int)) := by rw [hW]; exact q1
 have hsz : W.heap.size = w.heap.size := by rw [hW]; rfl
 have hB0 : Below w.heap.size w W := by rw [hW]; exact below_drewN (Below.refl _ _) _
 have hRa : RN W P A c l := by rw [hW]; exact h.drewN _
 have hRb : RN W P' (some ad') c' m := by rw [hW]; exact h'.drewN _
 rw [← hW]
 have T1' := Lib.hid (T1.out W hRa (by rw [hsz]; exact hP))
 have Hsz := Lib.hid hsz
 clear hW q1 T1 hRa h h' hsz
 go_wp2_with fail
 refine (Hlz.out _).mono ?_
 rintro e w1 ⟨rfl, hw1⟩
 obtain rfl : W = w1 := hw1.symm
 go_wp2_with fail
 refine T1'.out.mono ?_
 rintro e w2 ⟨A1, c1, rfl, hO1, hc1, ⟨o, rfl, hblk, ho, hpre⟩, hB1⟩
 have hown := own_of_blk hblk (Nat.le_refl _) ho (by unfold maxLen; have := hO1.cap; omega) (by have := hO1.cap; have := HkX.out; omega) hpre HkX.out
 have hLX := hO1.1
 have hB1s := hB1.size
 clear hblk hpre ho
 go_wp2_with (at_builtin; refine wpList_append_rs _ rfl _ _ 106 rfl W.heap.size 139 i0 (.int .u64 0) 1 8 Tryz.underlying106 hi hz0 hz1 hz2 rfl (by decide) _ kX (nts lX) rfl (hown.alloc _) (In w2.heap.size (w2.heap.size + 1)) (some ⟨w2.heap.size, 0, none⟩) 1 1 [.int .u64 0] rfl (RS.fresh #[.int .u64 0] 139 1 1 rfl (by unfold maxLen; omega) ⟨Nat.le_refl _, by omega⟩) (by simp [Value.oneCell']) (kX + 1) rfl (by unfold maxLen; omega) (by omega) (by simp; omega) ?_)
 intro A2 c2 w3 hown3 hg3 _
 have hlen : (lX ++ [0]).length = kX + 1 := by rw [List.length_append, HkX.out]; rfl
 have hown4 : w3.ownsRow W.heap.size 139 1 (.slice A2 (lX ++ [0]).length c2) (lX ++ [0]).length (nts (lX ++ [0])) := by
  rw [hlen]
  have : nts (lX ++ [0]) = nts lX ++ [.int .u64 0] := by simp [nts]
  rw [this]
  exact hown3
 have hLr : Lim (lX ++ [0]) := ⟨fun x hx => by
  rcases List.mem_append.1 hx with h | h
  · exact hLX.1 x h
  · rw [List.mem_singleton.1 h]; omega, by rw [hlen]; omega⟩
 have hOr := OB.of_own hown4 hLr
 obtain ⟨g, rfl, hg, hrow⟩ := hOr.row (by omega)
 have hcr := hOr.cap
 rw [hlen] at hcr
 have hgl := hrow.lt
 have hB3 : Below W.heap.size W w3 := (hB1.alloc hB1s _).grown hg3 (by simp; omega) (by intro j hj; exact own_block_le hown hj)
 have hvr : val 18446744073709551616 (lX ++ [0]) = X := by rw [val_append, HXv.out]; simp
 generalize lX ++ [0] = R at *
 obtain ⟨p, hp⟩ : ∃ p : Addr, p = ⟨g, 0, none⟩ := ⟨_, rfl⟩
 rw [← hp]
 have Hp := Lib.hid hp
 have T3 := Lib.hid (T2.out w3 (hRb.below hB3 (by rw [Hsz.out]; exact hP')) (by have := hB3.size; have := Hsz.out; intro b hb; have := hP' b hb; omega))
 have hcr2 : kX + 1 ≤ c2 := hcr.1
 have hcr3 : c2 ≤ 9223372036854775807 := hcr.2.1
 clear hp hown hown3 hown4 hO1 hB1 hB1s hcr T2 hRb q2 hg3 hOr
 go_wp2_with fail
 go_loopw [11] (fun rv wr => rv = .slice (some p) (kX + 1) c2 ∧ w3 = wr) (fun _ _ => 0)
 case atStart => exact ⟨rfl, rfl⟩
 case round =>
  obtain ⟨rfl, rfl⟩ := hrel
  go_wp2_with fail
  refine T3.out.mono ?_
  rintro e w4 ⟨A3, c3, rfl, hO3, hc3, ⟨o3, hA3, hu1, hu2, hu3⟩, hB4⟩
  clear hu1 hu2 hu3
  have hAd := hO3.row (by rw [HlD.out]; omega)
  have hRd := hO3.rn
  have hB4s := hB4.size
  have hgq : g < w4.heap.size := by omega
  have hrow4 := hrow.below hB4 hgl
  have hB34 : Below W.heap.size W w4 := hB3.trans (hB4.mono (by have := hB3.size; omega))
  have hB4a := hB34.alloc (by omega) (.cells (madeCells #[.int .u64 0] t) 139)
  have hblkq := Blk.made w4 t
  have hmk := run_make_row' (P := Tryz.prog) 106 139 (.int .u64 0) 8 Tryz.underlying106 info64 rfl .i64 .i64 t (by omega) (by omega)
  have Hs := Lib.hid (Below1.start t)
  clear hO3 hB4 hB34 hrow T3 hA3
  go_wp2_with fail
  go_loopw [14] (fun iv wr => ∃ (k : Nat) (z : Int) (L qs : List Nat), iv = .int .i64 z ∧ Below1 k z ∧ k ≤ t ∧ QuoAt 18446744073709551616 X D L qs k ∧ Hid (L.length = kX + 1) ∧ Hid (qs.length = t) ∧ Lim L ∧ Lim qs ∧ Row wr g L ∧ Blk wr w4.heap.size qs ∧ RN wr (In w3.heap.size w4.heap.size) A3 c3 lD ∧ Below w.heap.size w wr) (fun iv _ => (intOf iv + 1).toNat)
  case atStart => exact ⟨t, _, R, List.replicate t 0, rfl, Hs.out, by omega, by rw [← hvr]; exact QuoAt.start (by simp) (by rw [hvr]; exact HXD.out), Lib.hid hlen, Lib.hid (by simp), hLr, ⟨by simp, by simp; omega⟩, hrow4.alloc_ _, hblkq, hRd.alloc_ (fun b hb => hb.2) _, (hB0.trans (hB4a.mono (by rw [Hsz.out]; exact Nat.le_refl _)))⟩
  case round =>
   obtain ⟨k, z, L, qs, rfl, hz, hk, hQ, HL, Hqs, hLL, hLq, hrw, hbq, hRD, hB⟩ := hrel
   clear hrow4 hblkq hRd hB4a hlen hLr hvr hAd
   rcases hz with ⟨rfl, rfl⟩ | ⟨j, rfl, rfl⟩
   · obtain ⟨v1, v2⟩ := hQ.fin
     rw [Hqx.out] at v1
     have hws := hB.size
     have hWs := Hsz.out
     have hOq : OB wr w.heap.size (some ⟨w4.heap.size, 0, none⟩) t qs := OB.of_blk hbq (by omega) hLq (by have := Hqs.out; omega) (by unfold maxLen; omega)
     have hOr := hrw.ob (base := w.heap.size) (c := c2) (by omega) hLL (by have := HL.out; omega) (by unfold maxLen; omega)
     have tq := trim_any _ _ _ _ _ hOq.rn
     have hOq' := hOq.trim
     rw [v1] at hOq'
     rw [v1, Hqs.out] at tq
     have tr := shr_any _ _ _ _ s wr hOr.rn (fun b hb => hb.2) (by have := HL.out; omega) (by omega)
     rw [v2, Hrx.out, HL.out, ← Hp.out] at tr
     have Tq := Lib.hid tq
     have Tr := Lib.hid tr
     clear hQ hLL hLq hrw hbq hRD hOr hOq tq tr
     go_wp2_with fail
     refine Tq.out.mono ?_
     rintro e w5 ⟨rfl, rfl⟩
     go_wp2_with fail
     refine Tr.out.mono ?_
     rintro e w6 ⟨A6, c6, rfl, hO6, hB6⟩
     go_wp2
     go_ret3
     exact ⟨_, _, _, _, rfl, hOq'.below hB6 (Nat.le_refl _), hO6.mono hws, hB.trans (hB6.mono hws)⟩
   · have hLl := HL.out
     have hlD := HlD.out
     have e2 := Hn2.out
     have e1 := Hn1.out
     have hjt := Htt.out
     obtain ⟨hz0, hge, hgB⟩ := guess_ge (j := j) e2 e1 hLL.1 hDd hlD (by omega) HDt.out (by rw [HDv.out]; exact hQ.2)
     obtain ⟨ad, rfl, had, d1⟩ := hRD.at_ (i := n1) (by omega)
     have d2 := hRD.cells n2 (by omega)
     obtain ⟨y0, hy0⟩ : ∃ y0, j + n = y0 := ⟨_, rfl⟩
     obtain ⟨y1, hy1⟩ : ∃ y1, j + n1 = y1 := ⟨_, rfl⟩
     obtain ⟨y2, hy2⟩ : ∃ y2, j + n2 = y2 := ⟨_, rfl⟩
     rw [hy0, hy1, hy2] at hge hgB
     rw [HDv.out] at hge
     have r0 := hrw.cell Hp.out (j := y0) (by omega)
     have r1 := hrw.cell Hp.out (j := y1) (by omega)
     have r2 := hrw.cell Hp.out (j := y2) (by omega)
     rw [Nat.zero_add] at r0 r1 r2
     have hgs := guess_any (dg L y0) (dg L y1) (dg L y2) (dg lD n1) (dg lD n2)
     have hgs2 := fun w => hgs w (hLL.dgLt y1) (hLL.dgLt y2) (getD_lt (by omega) hDd n1) (getD_lt (by omega) hDd n2) HDt.out
     obtain ⟨G, hG⟩ : ∃ G, guessF (dg L y0) (dg L y1) (dg L y2) (dg lD n1) (dg lD n2) = G := ⟨_, rfl⟩
     rw [hG] at hge hgB hgs2
     have Hgs := Lib.hid hgs2
     have c0 : (j : Int) + (n : Int) = (y0 : Int) := by omega
     have c1' : (y0 : Int) - 1 = (y1 : Int) := by omega
     have c2' : (y0 : Int) - 2 = (y2 : Int) := by omega
     have c3' : (n : Int) - 2 = (n2 : Int) := by omega
     have c4 : y0 + 1 - j = n + 1 := by omega
     have hpj : p.add j = ⟨g, j, none⟩ := by rw [Hp.out, add_off, Nat.zero_add]
     have Hpj := Lib.hid hpj
     have b0 : (y0 : Int) < (kX : Int) + 1 := by omega
     have b1 : (y1 : Int) < (kX : Int) + 1 := by omega
     have b2 : (y2 : Int) < (kX : Int) + 1 := by omega
     have b3 : n2 < n := by omega
     have b4 : j ≤ y0 + 1 := by omega
     have b5 : (y0 : Int) + 1 ≤ (c2 : Int) := by omega
     have b6 : y0 ≤ 90001 := by omega
     clear hgs hgs2 hG e1 e2 hLl hpj
     have Hjt := Lib.hid hjt
     have Hlen : Hid (j + n < L.length) := Lib.hid (by have := HL.out; omega)
     have HlDn := Lib.hid hlD
     have hPg : ∀ b, In w3.heap.size w4.heap.size b → b ≠ g := fun b hb => by have := hb.1; omega
     have hgq' : w4.heap.size ≠ g := by omega
     have hwg : w.heap.size ≤ g := by have := Hsz.out; omega
     clear hjt hlD
     go_wp2_with fail
     go_quiet ((go_at_call 209; exact Calls.quiet_of (Hgs.out _)))
     go_wp2_with fail
     refine (takes_any g j (p.add j) Hpj.out (In w3.heap.size w4.heap.size) (some ad) c3 (c2 - j) n G L lD _ (hrw.drewN _) hLL (hRD.drewN _) hPg HlDn.out Hlen.out hgB).mono ?_
     rintro e w5 ⟨L1, bb, rfl, hrw1, hLL1, ho1, hl1, hv1, hz1⟩
     have hF1 := FixAt.start (n := n) (D := D) hge hgB hz1 hz0 (by rw [HDv.out] at hv1; exact hv1) hLL1.1 (by omega) HDlt.out
     have hbq1 : Blk w5 w4.heap.size qs := (ho1.block _ hgq').trans hbq
     have hRD1 := (hRD.drewN nq).only ho1 hPg
     have hB1' := (below_drewN hB nq).trans (ho1.below hwg)
     have hl1' := Lib.hid (hl1.trans HL.out)
     clear hrw hLL hbq hRD hB ho1 hv1 hz1 hl1 hge hgB r0 r1 r2 d1 d2 hz0
     go_wp2_with fail
     go_loopw [15, 17] (fun gv tv wr => ∃ (G : Nat) (too : Bool) (L' : List Nat), gv = .int .u64 (G : Int) ∧ tv = .bool too ∧ FixAt 18446744073709551616 (val 18446744073709551616 L) j n D L' G too ∧ Hid (L'.length = kX + 1) ∧ Lim L' ∧ Row wr g L' ∧ Blk wr w4.heap.size qs ∧ RN wr (In w3.heap.size w4.heap.size) (some ad) c3 lD ∧ Below w.heap.size w wr) (fun gv _ _ => (intOf gv).toNat)
     case atStart => exact ⟨G, _, L1, rfl, rfl, hF1, hl1', hLL1, hrw1, hbq1, hRD1, hB1'⟩
     case round =>
      clear hF1 hl1' hLL1 hrw1 hbq1 hRD1 hB1'
      obtain ⟨G, too, L', rfl, rfl, hF, HL', hLL, hrw, hbq, hRD, hB⟩ := hrel
      rcases too with _ | _
      · obtain ⟨f1, f2⟩ := hF.fin (by omega) hD0
        have hjq : j < qs.length := by have := Hqs.out; omega
        have hQ' := hQ.step hjq f1 f2
        have q3 := hbq.cell hjq
        have q4 := hbq.free j
        have hbq' := hbq.set j G
        have hLq' := hLq.set j G hF.2.1
        have hB' := hB.setCell (p := ⟨w4.heap.size, j, none⟩) (by show w.heap.size ≤ w4.heap.size; omega) (.int .u64 (G : Int))
        have hRD' : RN (World.setCell _ ⟨w4.heap.size, j, none⟩ (.int .u64 (G : Int))) (In w3.heap.size w4.heap.size) (some ad) c3 lD := hRD.keep fun q hq => World.cell?_of_block (w := _) (Below.heap_setCell _ _ _ q.block (by have := hq.2; show q.block ≠ w4.heap.size; omega))
        have hrw' := hrw.of_heap (Below.heap_setCell _ ⟨w4.heap.size, j, none⟩ (.int .u64 (G : Int)) g (by show g ≠ w4.heap.size; omega))
        have Hqs' : Hid ((qs.set j G).length = t) := Lib.hid (by simpa using Hqs.out)
        have k1 : j < t := by omega
        have Hs' := Lib.hid (Below1.start j)
        clear hF f1 f2 hQ hbq hLq hB hRD hrw
        go_wp2
        go_roundw
        case rel => exact ⟨j, _, L', qs.set j G, rfl, Hs'.out, by omega, hQ', HL', Hqs', hLL, hLq', hrw', hbq', hRD', hB'⟩
        case measure => simp [intOf]
      · have hpos := hF.pos hLL.1 (by omega)
        have hpos' := Nat.lt_of_le_of_lt (Nat.zero_le _) hpos
        clear hpos
        obtain ⟨G, rfl⟩ : ∃ k, G = k + 1 := ⟨G - 1, by omega⟩
        have hgB := hF.2.1
        have hGi : (G : Int) < 18446744073709551616 := by omega
        clear hpos' hgB
        go_wp2_with fail
        refine (gives_any g j (p.add j) Hpj.out (In w3.heap.size w4.heap.size) (some ad) c3 (c2 - j) n L' lD _ hrw hLL hRD hPg HlDn.out (by rw [HL'.out, ← HL.out]; exact Hlen.out)).mono ?_
        rintro e w6 ⟨L2, bb2, rfl, hrw2, hLL2, ho2, hl2, hv2, hz2⟩
        rw [HDv.out] at hv2
        have hF2 := hF.step hLL.1 hLL2.1 (by omega) hD0 HDlt.out hv2 hz2
        have hbq2 : Blk w6 w4.heap.size qs := (ho2.block _ hgq').trans hbq
        have hRD2 := hRD.only ho2 hPg
        have hB2 := hB.trans (ho2.below hwg)
        have r4 := hrw2.cell Hpj.out (j := n) (by rw [hl2, HL'.out, ← HL.out]; exact Hlen.out)
        have HL2 := Lib.hid (hl2.trans HL'.out)
        have k2 : (n : Int) < (n : Int) + 1 := by omega
        clear hF hLL hrw hbq hRD hB ho2 hl2 hv2 hz2
        by_cases hd0 : dg L2 (j + n) = 0
        · rw [hd0] at r4 hF2
          clear hd0
          go_wp2
          go_roundw
          case rel => exact ⟨G, false, L2, by go_num, rfl, by simpa using hF2, HL2, hLL2, hrw2, hbq2, hRD2, hB2⟩
          case measure => simp [intOf]
        · have hdn : ((dg L2 (j + n) : Int) != 0) = true := neB (by omega)
          have hF2' : FixAt 18446744073709551616 (val 18446744073709551616 L) j n D L2 G true := by simpa [hd0] using hF2
          clear hF2
          go_wp2
          go_roundw
          case rel => exact ⟨G, true, L2, by go_num, congrArg Value.bool (by first | exact hdn | (rw [← hy0]; exact hdn)), hF2', HL2, hLL2, hrw2, hbq2, hRD2, hB2⟩
          case measure => simp [intOf]

theorem quo_any (P P' : Nat → Prop) (A A' : Option Addr) (c c' : Nat) (a b : List Nat) (w : World) (h : RN w P A c a) (h' : RN w P' A' c' b) (hP : ∀ b, P b → b < w.heap.size) (hP' : ∀ b, P' b → b < w.heap.size) (hl : a.length < 90000) (hl' : b.length < 90000) (h0 : 0 < val 18446744073709551616 b) :
 Calls Tryz.prog 169 #[.slice A a.length c, .slice A' b.length c'] w fun e w' => ∃ A1 c1 A2 c2, e = .returned (.tuple #[.slice A1 (digs 18446744073709551616 (val 18446744073709551616 a / val 18446744073709551616 b)).length c1, .slice A2 (digs 18446744073709551616 (val 18446744073709551616 a % val 18446744073709551616 b)).length c2, .bool true]) ∧
  OB w' w.heap.size A1 c1 (digs 18446744073709551616 (val 18446744073709551616 a / val 18446744073709551616 b)) ∧ OB w' w.heap.size A2 c2 (digs 18446744073709551616 (val 18446744073709551616 a % val 18446744073709551616 b)) ∧ Below w.heap.size w w' := by
 rcases Nat.lt_or_ge (val 18446744073709551616 a) (val 18446744073709551616 b) with hlt | hge
 · have hq := quo_lt P P' A A' c c' a b w h h' hlt
   rw [Nat.div_eq_of_lt hlt, Nat.mod_eq_of_lt hlt, digs_zero]
   refine hq.mono ?_
   rintro e w' ⟨A1, c1, rfl, hO, hB⟩
   exact ⟨none, 0, A1, c1, rfl, OB.nil_ _ _, hO, hB⟩
 · rcases Nat.lt_or_ge (val 18446744073709551616 b) 18446744073709551616 with h1 | h1
   · exact quo_one P P' A A' c c' a b w h h' hP (by omega) hge h0 h1
   · exact quo_big P P' A A' c c' a b w h h' hP hP' hl hl' hge h1
end Go.Proofs.YtendnkpiidhogaaGreat

namespace Go.Proofs.YtendnkpiidhogaaGreat
open Go.RowKit

def z6 : List Nat := [0, 0, 0, 0, 0, 0]
theorem fc_m (n inv : Nat) (a ol rl : List Nat) (ha : a.length ≤ 6) : (fcells n inv z6 ol rl).take 1 ++ nts a ++ (fcells n inv z6 ol rl).drop (1 + a.length) = fcells n inv (a ++ List.replicate (6 - a.length) 0) ol rl := by
 match a, ha with
 | [], _ | [_], _ | [_, _], _ | [_, _, _], _ | [_, _, _, _], _ | [_, _, _, _, _], _ | [_, _, _, _, _, _], _ => rfl
theorem fc_o (n inv : Nat) (a ml rl : List Nat) (hm : ml.length = 6) (ha : a.length ≤ 6) : (fcells n inv ml z6 rl).take 8 ++ nts a ++ (fcells n inv ml z6 rl).drop (8 + a.length) = fcells n inv ml (a ++ List.replicate (6 - a.length) 0) rl := by
 obtain ⟨_, _, _, _, _, _, rfl⟩ := six hm
 match a, ha with
 | [], _ | [_], _ | [_, _], _ | [_, _, _], _ | [_, _, _, _], _ | [_, _, _, _, _], _ | [_, _, _, _, _, _], _ => rfl
theorem fc_r (n inv : Nat) (a ml ol : List Nat) (hm : ml.length = 6) (ho : ol.length = 6) (ha : a.length ≤ 6) : (fcells n inv ml ol z6).take 14 ++ nts a ++ (fcells n inv ml ol z6).drop (14 + a.length) = fcells n inv ml ol (a ++ List.replicate (6 - a.length) 0) := by
 obtain ⟨_, _, _, _, _, _, rfl⟩ := six hm
 obtain ⟨_, _, _, _, _, _, rfl⟩ := six ho
 match a, ha with
 | [], _ | [_], _ | [_, _], _ | [_, _, _], _ | [_, _, _, _], _ | [_, _, _, _, _], _ | [_, _, _, _, _, _], _ => rfl
theorem fc_inv (n inv : Nat) (ml ol rl : List Nat) (hm : ml.length = 6) : (fcells n 0 ml ol rl).toArray.setIfInBounds 7 (.int .u64 (inv : Int)) = (fcells n inv ml ol rl).toArray := by
 obtain ⟨_, _, _, _, _, _, rfl⟩ := six hm
 simp [fcells, nts]
theorem fc_len (n inv : Nat) (ml ol rl : List Nat) (hm : ml.length = 6) (ho : ol.length = 6) (hr : rl.length = 6) : (fcells n inv ml ol rl).length = 20 := by simp [fcells, nts, hm, ho, hr]
theorem pad_six {a : List Nat} (h : a.length ≤ 6) : (a ++ List.replicate (6 - a.length) 0).length = 6 := by simp; omega
theorem pad_lim {a : List Nat} (h : ∀ x ∈ a, x < 18446744073709551616) : ∀ x ∈ a ++ List.replicate (6 - a.length) 0, x < 18446744073709551616 := fun x hx => by
 rcases List.mem_append.1 hx with h1 | h1
 · exact h x h1
 · have := (List.mem_replicate.1 h1).2; omega

set_option maxRecDepth 100000 in
set_option maxHeartbeats 8000000 in
theorem znew_any (P : Nat → Prop) (A : Option Addr) (c : Nat) (a : List Nat) (M : Nat) (w : World) (h : RN w P A c a) (hM : val 18446744073709551616 a = M) (h1 : 1 < M) (hodd : M % 2 = 1) (_hl : a.length < 40000) (hl6 : (digs 18446744073709551616 M).length ≤ 6) :
 Calls Tryz.prog 171 #[.slice A a.length c] w fun e w' => ∃ g inv ml ol rl, e = .returned (.pointer (some ⟨g, 0, none⟩)) ∧ w.heap.size ≤ g ∧ FR w' g (digs 18446744073709551616 M).length inv M ml ol rl ∧ Below w.heap.size w w' := by
 obtain ⟨i0, hi, hz0, hz1, hz2⟩ := info_parts info64
 have hn1 := norm_any P A c a w h
 have hln := digs_length_le (B := 18446744073709551616) (by omega) h.2.1
 rw [hM] at hn1 hln
 have hvd := val_digs (B := 18446744073709551616) (by omega) M
 have hlim := digs_lt (B := 18446744073709551616) (by omega) M
 have hm0 := dg_zero_mod hlim (by omega)
 rw [hvd] at hm0
 obtain ⟨ml, hml⟩ : ∃ ml, digs 18446744073709551616 M = ml := ⟨_, rfl⟩
 rw [hml] at hn1 hln hvd hm0 hlim hl6 ⊢
 obtain ⟨m0, hm0'⟩ : ∃ m0, dg ml 0 = m0 := ⟨_, rfl⟩
 rw [hm0'] at hm0
 have hm2 : (m0 : Int) % 2 = 1 := by omega
 obtain ⟨n, hn⟩ : ∃ n, ml.length = n := ⟨_, rfl⟩
 have hn0 : 0 < n := by
  rcases Nat.eq_zero_or_pos n with h0 | h0
  · have : ml = [] := List.eq_nil_of_length_eq_zero (hn.trans h0)
    rw [this] at hvd
    simp at hvd
    omega
  · exact h0
 have hn6 : n ≤ 6 := by omega
 have kn : (0 : Int) < (n : Int) := by omega
 rw [hn] at hn1 ⊢
 have Hn1 := Lib.hid hn1
 have Hml := Lib.hid hml
 have Hn := Lib.hid hn
 have Hvd := Lib.hid hvd
 have Hm0 := Lib.hid hm0
 have Hm2 := Lib.hid hm2
 have Hlim := Lib.hid hlim
 clear hn1 hln hml hn hvd hm0 hm2 _hl hodd hM hlim hl6
 go_enter Tryz.func171, Tryz.ntmps171
 go_wp2_with fail
 refine Hn1.out.mono ?_
 rintro e w1 ⟨A1, c1, rfl, hO1, hB1⟩
 have r1 := hO1.rn
 have hG0 := heap_alloc_new w1 (.cells (fcells n 0 z6 z6 z6).toArray 231)
 have hBG : Below w1.heap.size w1 (w1.alloc (.cells (fcells n 0 z6 z6 z6).toArray 231)) := (Below.refl _ w1).alloc (Nat.le_refl _) _
 have r1a := r1.below hBG (fun b hb => hb.2)
 have hcpy := copy_into (dT := 89) (sT := 106) Tryz.underlying89 (w1.alloc (.cells (fcells n 0 z6 z6 z6).toArray 231)) w1.heap.size 1 6 6 (fcells n 0 z6 z6 z6) 231 hG0 _ A1 c1 ml r1a (by rw [Hn.out]; exact hn6) (by rw [fc_len _ _ _ _ _ rfl rfl rfl, Hn.out]; omega)
 rw [fc_m _ _ _ _ _ (by rw [Hn.out]; exact hn6), Hn.out] at hcpy
 obtain ⟨X, hcp, hG1, hX2, hX3, hX4⟩ := hcpy
 have hBX : Below w1.heap.size w1 X := hX2 _ w1 (Nat.le_refl _) hBG
 have r1X := r1.below hBX (fun b hb => hb.2)
 have hfc : (fcells n 0 z6 z6 z6).toArray = #[.int .i64 (n : Int), .int .u64 0, .int .u64 0, .int .u64 0, .int .u64 0, .int .u64 0, .int .u64 0, .int .u64 0, .int .u64 0, .int .u64 0, .int .u64 0, .int .u64 0, .int .u64 0, .int .u64 0, .int .u64 0, .int .u64 0, .int .u64 0, .int .u64 0, .int .u64 0, .int .u64 0] := rfl
 rw [hfc] at hcp
 have hmp6 := pad_six (a := ml) (by rw [Hn.out]; exact hn6)
 have hmpl := pad_lim Hlim.out
 have hmpv : val 18446744073709551616 (ml ++ List.replicate (6 - ml.length) 0) = M := by rw [val_pad]; exact Hvd.out
 have hmpt : val 18446744073709551616 ((ml ++ List.replicate (6 - ml.length) 0).take n) = M := by rw [← Hn.out, List.take_left']; exact Hvd.out; rfl
 rw [Hn.out] at hmp6 hmpl hmpv hmpt
 generalize ml ++ List.replicate (6 - n) 0 = mp at *
 have hGX : w1.heap.size < X.heap.size := blk_lt hG1
 obtain ⟨ad, rfl, hb1, q1⟩ := r1X.at_ (i := 0) (by rw [Hn.out]; exact hn0)
 rw [hm0'] at q1
 have q1b : X.cell? ad = some (.int .u64 (m0 : Int)) := by simpa [Addr.add] using q1
 have Hmp6 := Lib.hid hmp6
 have Hmpl := Lib.hid hmpl
 have Hmpv := Lib.hid hmpv
 have Hmpt := Lib.hid hmpt
 clear hfc hBG hG0 r1a hX2 hX3 hX4 q1 hmp6 hmpl hmpv hmpt
 go_wp2_with fail
 go_loopw [4, 23] (fun iv jv wr => ∃ (y : Int) (r : Nat), jv = .int .i64 (r : Int) ∧ iv = .int .u64 y ∧ r ≤ 6 ∧ NewtAt (m0 : Int) r y ∧ X = wr) (fun _ jv _ => 6 - (intOf jv).toNat)
 case atStart => exact ⟨1, 0, rfl, rfl, by omega, NewtAt.zero Hm2.out, rfl⟩
 case round =>
  obtain ⟨y, r, rfl, rfl, hr, hN, rfl⟩ := hrel
  by_cases hlt : r < 6
  · have hN' := hN.step hlt
    have hw1 : IntKind.u64.wrap ((m0 : Int) * y) = (m0 : Int) * y % 18446744073709551616 := IntKind.wrap_u64 _
    have hw2 : IntKind.u64.wrap (2 - (m0 : Int) * y % 18446744073709551616) = (2 - (m0 : Int) * y % 18446744073709551616) % 18446744073709551616 := IntKind.wrap_u64 _
    have hw3 : IntKind.u64.wrap (y * ((2 - (m0 : Int) * y % 18446744073709551616) % 18446744073709551616)) = y * ((2 - (m0 : Int) * y % 18446744073709551616) % 18446744073709551616) % 18446744073709551616 := IntKind.wrap_u64 _
    generalize (m0 : Int) * y % 18446744073709551616 = x1 at *
    generalize (2 - x1) % 18446744073709551616 = x2 at *
    generalize y * x2 % 18446744073709551616 = x3 at *
    have HN := Lib.hid hN'
    clear hN hN'
    go_wp2
    go_roundw
    case rel => exact ⟨x3, r + 1, by go_num, by first | rfl | simp [hw1, hw2, hw3], by omega, HN.out, by first | rfl | trivial⟩
    case measure => simp [intOf]; omega
  · obtain rfl : r = 6 := by omega
    obtain ⟨t, ht⟩ := hN.fin
    have hinv := neg_inv Hm0.out ht
    have h0 : 0 ≤ (-y) % 18446744073709551616 := Int.emod_nonneg _ (by decide)
    have hlt2 : (-y) % 18446744073709551616 < 18446744073709551616 := Int.emod_lt_of_pos _ (by decide)
    obtain ⟨inv, hv⟩ : ∃ inv : Nat, (-y) % 18446744073709551616 = (inv : Int) := ⟨_, (Int.toNat_of_nonneg h0).symm⟩
    have hneg : IntKind.u64.wrap (-y) = (inv : Int) := by rw [IntKind.wrap_u64]; exact hv
    rw [hv, Int.toNat_natCast] at hinv
    rw [hv] at hlt2
    have Hinv := Lib.hid hinv
    have Hlt2 := Lib.hid hlt2
    have hmk := run_make_row' (P := Tryz.prog) 106 139 (.int .u64 0) 8 Tryz.underlying106 info64 rfl .i64 .i64 n (by omega) (by omega)
    clear ht hinv h0 hv hN hlt hlt2
    have g7 := blk_cell hG1 7
    rw [show (fcells n 0 mp z6 z6).toArray[7]? = some (.int .u64 0) by obtain ⟨_, _, _, _, _, _, e⟩ := six Hmp6.out; rw [e]; rfl] at g7
    have f7 := blk_free hG1 7
    have hG2 := blk_set hG1 7 (.int .u64 (inv : Int))
    rw [fc_inv _ _ _ _ _ Hmp6.out] at hG2
    have hBY : Below w1.heap.size w1 (X.setCell ⟨w1.heap.size, 7, none⟩ (.int .u64 (inv : Int))) := hBX.setCell (p := ⟨w1.heap.size, 7, none⟩) (Nat.le_refl _) _
    have hzY : (X.setCell ⟨w1.heap.size, 7, none⟩ (.int .u64 (inv : Int))).heap.size = X.heap.size := by simp [World.setCell]
    have r1Y := r1.below hBY (fun b hb => hb.2)
    have n0 : (X.setCell ⟨w1.heap.size, 7, none⟩ (.int .u64 (inv : Int))).cell? ⟨w1.heap.size, 0, none⟩ = some (.int .i64 (n : Int)) := by rw [blk_cell hG2 0]; rfl
    go_upto_region 10 with fail
    generalize X.setCell ⟨w1.heap.size, 7, none⟩ (.int .u64 (inv : Int)) = Y at *
    have hGY : w1.heap.size < Y.heap.size := by omega
    clear hzY hG1 r1X q1b g7 f7 hBX hcp hneg
    have hbz := Blk.made Y n
    have hown : (Y.alloc (.cells (madeCells #[.int .u64 0] n) 139)).ownsRow Y.heap.size 139 1 (.slice (some ⟨Y.heap.size, 0, none⟩) n n) n (nts (List.replicate n 0)) :=
     own_of_blk (o := List.replicate n 0) hbz (Nat.le_refl _) (by simp) (by unfold maxLen; omega) (Nat.le_refl _) (by simp) (by simp)
    have hfr : RS ((Y.alloc (.cells (madeCells #[.int .u64 0] n) 139)).alloc (.cells #[.int .u64 1] 139)) (fun _ => True) 1 (some ⟨Y.heap.size + 1, 0, none⟩) 1 1 (nts [1]) := by
     have := RS.fresh (w := Y.alloc (.cells (madeCells #[.int .u64 0] n) 139)) (P := fun _ => True) #[.int .u64 1] 139 1 1 rfl (by unfold maxLen; omega) trivial
     rw [World.size_alloc] at this
     exact this
    have hown' := hown.alloc (.cells #[.int .u64 1] 139)
    have hBZ : Below Y.heap.size Y ((Y.alloc (.cells (madeCells #[.int .u64 0] n) 139)).alloc (.cells #[.int .u64 1] 139)) := ((Below.refl _ Y).alloc (Nat.le_refl _) _).alloc (by simp) _
    have hzZ : ((Y.alloc (.cells (madeCells #[.int .u64 0] n) 139)).alloc (.cells #[.int .u64 1] 139)).heap.size = Y.heap.size + 2 := by simp
    clear hbz hown
    go_wp2_with (at_builtin; generalize (Y.alloc (.cells (madeCells #[.int .u64 0] n) 139)).alloc (.cells #[.int .u64 1] 139) = W at *; refine wpList_append_rs _ rfl _ _ 106 rfl Y.heap.size 139 i0 (.int .u64 0) 1 8 Tryz.underlying106 hi hz0 hz1 hz2 rfl (by decide) (.slice (some ⟨Y.heap.size, 0, none⟩) n n) n _ rfl hown' (fun _ => True) _ 1 1 (nts [1]) rfl hfr (oneCell_nts [1]) (n + 1) rfl (by unfold maxLen; omega) (by omega) (by omega) ?_; intro A2 c2 w2 hown2 hg2 hor2)
    have hzw2 := hg2.size
    have hBw2 : Below Y.heap.size Y w2 := hBZ.grown hg2 (by omega) (fun k hk => by simp [Value.ownBlock] at hk; omega)
    have hs2 := hBw2.size
    have hG3 := (hBw2.block w1.heap.size hGY).trans hG2
    have hLr : Lim (List.replicate n 0 ++ [1]) := ⟨fun x hx => by
     rcases List.mem_append.1 hx with h | h
     · simp at h; omega
     · simp at h; omega, by simp; omega⟩
    have hlr : (List.replicate n 0 ++ [1]).length = n + 1 := by simp
    have hOr : OB w2 Y.heap.size A2 c2 (List.replicate n 0 ++ [1]) := OB.of_own (by rw [hlr]; simpa [nts] using hown2) hLr
    have hvr := val_pow n
    generalize List.replicate n 0 ++ [1] = rlst at *
    have hw1 := hB1.size
    have hY1 := hBY.size
    have hBw := hB1.trans ((hBY.trans (hBw2.mono hY1)).mono hw1)
    have r2 := r1Y.below hBw2 (fun b hb => by have := hb.2; omega)
    have hq1 := quo_any _ _ A2 (some ad) c2 c1 rlst ml w2 hOr.rn r2 (fun b hb => hb.2) (fun b hb => by have := hb.2; omega) (by omega) (by have := Hn.out; omega) (by rw [Hvd.out]; omega)
    rw [hvr, Hvd.out, hlr, Hn.out] at hq1
    obtain ⟨v1, hv1⟩ : ∃ v1, 18446744073709551616 ^ n % M = v1 := ⟨_, rfl⟩
    rw [hv1] at hq1
    have hv1M : v1 < M := by rw [← hv1]; exact Nat.mod_lt _ (by omega)
    have hl1 : (digs 18446744073709551616 v1).length ≤ n := by
     have := digs_length_mono (B := 18446744073709551616) (by omega) (Nat.le_of_lt hv1M)
     rw [Hml.out, Hn.out] at this
     exact this
    have Hq1 := Lib.hid hq1
    have Hv1 := Lib.hid hv1
    clear hq1 hown2 hg2 hor2 hfr hown' hG2 hBZ hOr hvr hlr hLr hmk hv1 n0 hBw2
    refine Hq1.out.mono ?_
    rintro e w3 ⟨A3, c3, A4, c4, rfl, _, hO4, hB3⟩
    have hG4 := (hB3.block w1.heap.size (blk_lt hG3)).trans hG3
    have hs3 := hB3.size
    have hm1 := mul_any _ _ A4 A4 c4 c4 _ _ w3 hO4.rn hO4.rn (fun b hb => hb.2) (fun b hb => hb.2) (by omega) (by omega)
    rw [val_digs (by omega)] at hm1
    have Hm1 := Lib.hid hm1
    clear hm1
    go_wp2_with fail
    refine Hm1.out.mono ?_
    rintro e w4 ⟨A5, c5, rfl, hO5, hB4⟩
    have hs4 := hB4.size
    have hB24 := hB3.trans (hB4.mono hs3)
    have r4 := r2.below hB24 fun b hb => by have := hb.2; omega
    have hl2 : (digs 18446744073709551616 (v1 * v1)).length < 90000 := by
     have := dig_mul (Nat.le_of_lt hv1M) (Nat.le_of_lt hv1M) (show (digs 18446744073709551616 M).length ≤ n by rw [Hml.out, Hn.out]; exact Nat.le_refl _)
     omega
    have hq2 := quo_any _ _ A5 (some ad) c5 c1 _ ml w4 hO5.rn r4 (fun b hb => hb.2) (fun b hb => by have := hb.2; omega) hl2 (by have := Hn.out; omega) (by rw [Hvd.out]; omega)
    rw [val_digs (by omega), Hvd.out, Hn.out] at hq2
    obtain ⟨v2, hv2⟩ : ∃ v2, v1 * v1 % M = v2 := ⟨_, rfl⟩
    rw [hv2] at hq2
    have hv2M : v2 < M := by rw [← hv2]; exact Nat.mod_lt _ (by omega)
    have hl3 : (digs 18446744073709551616 v2).length ≤ n := by
     have := digs_length_mono (B := 18446744073709551616) (by omega) (Nat.le_of_lt hv2M)
     rw [Hml.out, Hn.out] at this
     exact this
    have Hq2 := Lib.hid hq2
    have Hv2 := Lib.hid hv2
    clear hq2 hv2 hl2
    go_wp2_with fail
    refine Hq2.out.mono ?_
    rintro e w5 ⟨A6, c6, A7, c7, rfl, _, hO7, hB5⟩
    have hs5 := hB5.size
    have hB35 := hB4.trans (hB5.mono hs4)
    have hG5 := (hB35.block w1.heap.size (blk_lt hG4)).trans hG4
    have hO4' := hO4.below hB35 (Nat.le_refl _)
    have hBw5 := hBw.trans ((hB3.trans (hB35.mono hs3)).mono (by omega))
    obtain ⟨V1, hcp1, hGa, hVa2, hVa3, hVa4⟩ := copy_into (dT := 89) (sT := 106) Tryz.underlying89 w5 w1.heap.size 8 6 6 (fcells n inv mp z6 z6) 231 hG5 _ A4 c4 _ hO4'.rn (by omega) (by rw [fc_len _ _ _ _ _ Hmp6.out rfl rfl]; omega)
    rw [fc_o _ _ _ _ _ Hmp6.out (by omega)] at hGa
    have hBV1 := hVa2 w.heap.size w (by omega) hBw5
    have r7 : RN V1 (In w4.heap.size w5.heap.size) A7 c7 (digs 18446744073709551616 v2) := hO7.rn.keep fun q hq => World.cell?_of_block (hVa3 q.block (by have := hq.1; omega))
    have ho6 := pad_six (a := digs 18446744073709551616 v1) (by omega)
    have hol := pad_lim (digs_lt (B := 18446744073709551616) (by omega) v1)
    have hov : val 18446744073709551616 (digs 18446744073709551616 v1 ++ List.replicate (6 - (digs 18446744073709551616 v1).length) 0) = v1 := by rw [val_pad]; exact val_digs (by omega) v1
    generalize digs 18446744073709551616 v1 ++ List.replicate (6 - (digs 18446744073709551616 v1).length) 0 = op at *
    obtain ⟨V2, hcp2, hGb, hVb2, hVb3, hVb4⟩ := copy_into (dT := 89) (sT := 106) Tryz.underlying89 V1 w1.heap.size 14 6 6 (fcells n inv mp op z6) 231 hGa _ A7 c7 _ r7 (by omega) (by rw [fc_len _ _ _ _ _ Hmp6.out ho6 rfl]; omega)
    rw [fc_r _ _ _ _ _ Hmp6.out ho6 (by omega)] at hGb
    have hBV2 := hVb2 w.heap.size w (by omega) hBV1
    have hr6 := pad_six (a := digs 18446744073709551616 v2) (by omega)
    have hrl := pad_lim (digs_lt (B := 18446744073709551616) (by omega) v2)
    have hrv : val 18446744073709551616 (digs 18446744073709551616 v2 ++ List.replicate (6 - (digs 18446744073709551616 v2).length) 0) = v2 := by rw [val_pad]; exact val_digs (by omega) v2
    generalize digs 18446744073709551616 v2 ++ List.replicate (6 - (digs 18446744073709551616 v2).length) 0 = rp at *
    have hfin : FR V2 w1.heap.size n inv M mp op rp := ⟨⟨⟨hGb, Hmp6.out, ho6, hr6⟩, Hmpl.out, Hmpv.out, Hmpt.out, hn0, hn6, h1, by have := Hlt2.out; omega, Hinv.out⟩, ⟨ho6, hol, by rw [hov]; exact hv1M⟩, by rw [hov]; exact Hv1.out.symm, ⟨hr6, hrl, by rw [hrv]; exact hv2M⟩, by rw [hrv, ← Hv2.out, ← Hv1.out, ← Nat.mul_mod]⟩
    have Hfin := Lib.hid hfin
    have HB := Lib.hid hBV2
    clear hfin hBV2 hrv hrl hr6 hov hol ho6 hGa hGb hVa2 hVa3 hVb2 hVb3 hG5 r7 hBV1 hO4' hBw5
    go_wp2
    go_ret
    exact ⟨_, inv, mp, op, rp, rfl, hw1, Hfin.out, HB.out⟩
end Go.Proofs.YtendnkpiidhogaaGreat
