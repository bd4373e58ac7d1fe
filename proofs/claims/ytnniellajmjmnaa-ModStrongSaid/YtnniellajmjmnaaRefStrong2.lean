/- What baileyref2's Strong computes. -/
import Derived.Test.YtnniellajmjmnaaRefStrong
namespace Go.Proofs.Ytnniellajmjmnaa
open Go.RowKit

set_option maxRecDepth 100000 in
set_option maxHeartbeats 1000000 in
theorem refStrong_no (A A' : Option Addr) (c c' N W : Nat) (w : World) (h : RU w A c (digs 4294967296 N)) (hno : N % 2 = 0 ∨ N < 2) :
    Calls Try.prog 48 #[.slice A (digs 4294967296 N).length c, .slice A' (digs 4294967296 W).length c'] w fun e w' => e = .returned (.bool (strongB N W)) ∧ Below w.heap.size w w' := by
  have Hs := Lib.hid (strong_even W hno)
  have hle := cmpV_cases N 2
  have hcl : N % 2 = 1 → cmpV N 2 = -1 := fun h1 => by rcases hle with h | h | h <;> omega
  have hce : (cmpV N 2 == 0) = decide (N = 2) := by
    rw [Bool.eq_iff_iff]; simp; omega
  have hof := Lib.hid (refOf_any 1 w (by omega))
  generalize hcv : cmpV N 2 = cv at *
  have Hcv := Lib.hid hcv
  have Hcl := Lib.hid hcl
  have Hce := Lib.hid hce
  clear hno hle hcl hcv hce
  go_enter Try.func48, Try.ntmps48
  go_wp2_with fail
  refine hof.out.mono ?_
  rintro e w1 ⟨A1, c1, rfl, hO1, hB1⟩
  have hof2 := Lib.hid (refOf_any 2 w1 (by omega))
  go_wp2_with fail
  refine hof2.out.mono ?_
  rintro e w2 ⟨A2, c2, rfl, hO2, hB2⟩
  have hB02 := hB1.trans (hB2.mono hB1.size)
  have zn := h.up hB02
  have z2 := hO2.ru
  have Hod := Lib.hid (refOdd_any A c N w2 zn)
  have hcm := Lib.hid fun n => refCmp_any _ _ A A2 c c2 N 2 (w2.drewN n) (zn.ud n) (z2.ud n)
  rw [Hcv.out] at hcm
  clear hof hof2 hO1 hO2 hB1 hB2 h zn z2
  go_wp2_with fail
  refine Hod.out.mono ?_
  rintro e w3 ⟨rfl, rfl⟩
  have hcm0 := Lib.hid (hcm.out 0)
  rcases hodd : decide (N % 2 = 1) with _ | _
  · go_wp2_with fail
    refine hcm0.out.mono ?_
    rintro e w3 ⟨rfl, n1, rfl⟩
    go_wp2
    go_ret
    exact ⟨by rw [Hs.out, ← Hce.out]; simp, below_drewN hB02 n1⟩
  · have hc1 := Hcl.out (of_decide_eq_true hodd)
    subst hc1
    go_wp2_with fail
    refine hcm0.out.mono ?_
    rintro e w3 ⟨rfl, n1, rfl⟩
    have hcm1 := Lib.hid (hcm.out n1)
    go_wp2_with fail
    refine hcm1.out.mono ?_
    rintro e w3 ⟨rfl, n2, rfl⟩
    rw [drewN_add]
    go_wp2
    go_ret
    exact ⟨by rw [Hs.out, ← Hce.out]; simp, below_drewN hB02 _⟩

theorem strong_first {N W : Nat} (h : N % 2 = 1) (h1 : 1 < N) (h2 : nbits N ≤ 4096) (hw : W % N ≠ 0) (hl : lookAt N W 0 = 1) : strongB N W = true := by
  rw [strong_odd h h1 h2, if_neg hw, any_range, any_range_step _ (twos_even (by omega) (by omega))]
  simp [lookYes, hl]
theorem strong_rest {N W : Nat} (h : N % 2 = 1) (h1 : 1 < N) (h2 : nbits N ≤ 4096) (hw : W % N ≠ 0) (hl : lookAt N W 0 ≠ 1) : (List.range' 0 (twos (N - 1) - 0)).any (fun k => decide (lookAt N W k = N - 1)) = strongB N W := by
  rw [strong_odd h h1 h2, if_neg hw, any_range]
  congr 1
  funext k
  unfold lookYes
  by_cases hk : k = 0
  · subst hk; simp [hl]
  · simp [hk]

set_option maxRecDepth 100000 in
set_option maxHeartbeats 4000000 in
theorem refStrong_odd (A A' : Option Addr) (c c' N W : Nat) (w : World) (h : RU w A c (digs 4294967296 N)) (h' : RU w A' c' (digs 4294967296 W)) (hl : (digs 4294967296 N).length < 20000) (hlW : (digs 4294967296 W).length < 40000) (hodd : N % 2 = 1) (hgt : 1 < N) (hmay : nbits N ≤ 4096) :
    Calls Try.prog 48 #[.slice A (digs 4294967296 N).length c, .slice A' (digs 4294967296 W).length c'] w fun e w' => e = .returned (.bool (strongB N W)) ∧ Below w.heap.size w w' := by
  have hcv : cmpV N 2 = 1 := cmpV_gt (by omega)
  have hmi : ((nbits N : Nat) : Int) ≤ 4096 := by omega
  have h2s := twos_le hgt hmay
  have htop := twos_top (x := N - 1) (by omega)
  have hlow := fun k => @twos_low (N - 1) k
  have hw0 := fun h => strong_odd (W := W) hodd hgt hmay ▸ if_pos (c := W % N = 0) h
  have hw1 := @strong_first N W hodd hgt hmay
  have hw2 := @strong_rest N W hodd hgt hmay
  have hlook := lookAt_succ N W
  have hlook0 : (W % N) ^ ((N - 1) / 2 ^ twos (N - 1)) % N = lookAt N W 0 := by rw [lookAt, Nat.pow_zero, Nat.mul_one]
  have hlookN : ∀ k, lookAt N W k < N := fun k => Nat.mod_lt _ (by omega)
  have hnbd : ∀ k, nbits ((N - 1) / 2 ^ k) ≤ 1000000 := fun k => by
    have h1 := lt_of_nbits (x := N) (k := 4096) hmay
    have h2 : (N - 1) / 2 ^ k ≤ N - 1 := Nat.div_le_self _ _
    exact Nat.le_trans (nbits_le (k := 4096) (Nat.lt_of_le_of_lt (Nat.le_trans h2 (Nat.sub_le _ _)) h1)) (by omega)
  have lm : ∀ v, v ≤ N → (digs 4294967296 v).length < 20000 := fun v hv => Nat.lt_of_le_of_lt (digs_length_mono (by omega) hv) hl
  obtain ⟨s, hs⟩ : ∃ s, twos (N - 1) = s := ⟨_, rfl⟩
  rw [hs] at h2s htop hlow hw2 hlook0
  obtain ⟨B, hB⟩ : ∃ B, strongB N W = B := ⟨_, rfl⟩
  have hB0 : W % N = 0 → B = true := fun h0 => by rw [← hB, strong_odd hodd hgt hmay, if_pos h0]
  rw [hB] at hw1 hw2 ⊢
  have Hw1 := Lib.hid hw1
  have Hw2 := Lib.hid hw2
  have HB0 := Lib.hid hB0
  have Hlook := Lib.hid hlook
  have Hlook0 := Lib.hid hlook0
  have HlookN := Lib.hid hlookN
  have Hnbd := Lib.hid hnbd
  have Hlm := Lib.hid lm
  have Htop := Lib.hid htop
  have Hlow := Lib.hid hlow
  have Hgt := Lib.hid hgt
  have Hl := Lib.hid hl
  have HlW := Lib.hid hlW
  have Hbits := Lib.hid fun W h => refBits_any (fun b => b < W.heap.size) A c N W h
  have Hodd := Lib.hid hodd
  have hof := Lib.hid (refOf_any 1 w (by omega))
  generalize nbits N = nb at *
  clear hw0 hw1 hw2 hB0 hlook hlook0 hlookN hnbd lm htop hlow hgt hl hlW hB hs hmay hodd
  go_enter Try.func48, Try.ntmps48
  go_wp2_with fail
  refine hof.out.mono ?_
  rintro e w1 ⟨A1, c1, rfl, hO1, hB1⟩
  have hof2 := Lib.hid (refOf_any 2 w1 (by omega))
  go_wp2_with fail
  refine hof2.out.mono ?_
  rintro e w2 ⟨A2, c2, rfl, hO2, hB2⟩
  have hB02 := hB1.trans (hB2.mono hB1.size)
  have zn := h.up hB02
  have zw := h'.up hB02
  have z1 := hO1.ru.up hB2
  have z2 := hO2.ru
  have hod := refOdd_any A c N w2 zn
  rw [decide_eq_true Hodd.out] at hod
  have Hod := Lib.hid hod
  have hcm := refCmp_any _ _ A A2 c c2 N 2 w2 zn z2
  rw [hcv] at hcm
  have Hcm := Lib.hid hcm
  clear hof hof2 hO1 hO2 hB1 hB2 h h' hod hcm hcv
  go_wp2_with fail
  refine Hod.out.mono ?_
  rintro e w3 ⟨rfl, rfl⟩
  go_wp2_with fail
  refine Hcm.out.mono ?_
  rintro e w3 ⟨rfl, n1, rfl⟩
  have hB03 := below_drewN hB02 n1
  replace zn := zn.ud n1
  replace zw := zw.ud n1
  replace z1 := z1.ud n1
  replace z2 := z2.ud n1
  clear Hod Hcm hB02
  generalize w2.drewN n1 = w3 at *
  have Hbi := Lib.hid (Hbits.out w3 zn)
  go_wp2_with fail
  refine Hbi.out.mono ?_
  rintro e w4 ⟨rfl, rfl⟩
  have Hsu := Lib.hid (refSub_any _ _ A A1 c c1 N 1 w3 zn z1 lt_self lt_self (by have := Hl.out; omega) (by have := Hgt.out; omega))
  go_wp2_with fail
  refine Hsu.out.mono ?_
  rintro e w5 ⟨A5, c5, rfl, hO5, hB5⟩
  have hB05 := hB03.trans (hB5.mono hB03.size)
  replace zn := zn.up hB5
  replace zw := zw.up hB5
  replace z1 := z1.up hB5
  replace z2 := z2.up hB5
  have zl := hO5.ru
  clear Hbi Hsu hO5 hB5 hB03 Hbits
  have hs5 := hB05.size
  obtain ⟨L, hL⟩ : ∃ L, N - 1 = L := ⟨_, rfl⟩
  have hLN : L ≤ N := by omega
  rw [hL] at zl Htop Hlow Hw2 Hlook0 Hnbd ⊢
  clear hL
  go_wp2
  go_loopw [8, 9] (fun dv sv wr => ∃ (k : Nat) (A1 : Option Addr) (c1 : Nat), sv = .int .i64 (k : Int) ∧ dv = .slice A1 (digs 4294967296 (L / 2 ^ k)).length c1 ∧ k ≤ s ∧ RU wr A1 c1 (digs 4294967296 (L / 2 ^ k)) ∧ Below w5.heap.size w5 wr) (fun _ sv _ => s - (intOf sv).toNat)
  case atStart => exact ⟨0, A5, c5, rfl, by rw [Nat.pow_zero, Nat.div_one], by omega, by rw [Nat.pow_zero, Nat.div_one]; exact zl, Below.refl _ _⟩
  case round =>
    obtain ⟨k, A6, c6, rfl, rfl, hk, hd, hB⟩ := hrel
    have hod := refOdd_any A6 c6 (L / 2 ^ k) wr hd
    by_cases hks : k < s
    · rw [decide_eq_false (by rw [Hlow.out k hks]; omega : ¬ L / 2 ^ k % 2 = 1)] at hod
      have Hod := Lib.hid hod
      have Hq := Lib.hid (refQuo_any _ _ A6 A2 c6 c2 (L / 2 ^ k) 2 wr hd (z2.up hB) lt_self lt_self (by have := Hlm.out (L / 2 ^ k) (Nat.le_trans (Nat.div_le_self _ _) hLN); omega) (by omega))
      have e2 : L / 2 ^ k / 2 = L / 2 ^ (k + 1) := half_step L k
      rw [e2] at Hq
      clear hod e2
      go_wp2_with fail
      refine Hod.out.mono ?_
      rintro e w6 ⟨rfl, rfl⟩
      go_wp2_with fail
      refine Hq.out.mono ?_
      rintro e w7 ⟨A7, c7, A8, c8, rfl, hO7, _, hB7⟩
      have hB57 := hB.trans (hB7.mono hB.size)
      have hR7 := hO7.ru
      clear hO7 hB7 Hod Hq
      go_wp2
      go_roundw
      case rel => exact ⟨k + 1, A7, c7, by go_num, rfl, by omega, hR7, hB57⟩
      case measure => simp [intOf]; omega
    · obtain rfl : k = s := by omega
      rw [decide_eq_true Htop.out] at hod
      have Hod := Lib.hid hod
      clear hod Hlow Htop
      have hB0r := hB05.trans (hB.mono hs5)
      replace zn := zn.up hB
      replace zw := zw.up hB
      replace z1 := z1.up hB
      replace zl := zl.up hB
      clear hB hB05 z2
      have Hmw := Lib.hid (refMod_any A' A c' c W N wr zw zn (by have := HlW.out; omega) (by have := Hgt.out; omega))
      go_wp2_with fail
      refine Hod.out.mono ?_
      rintro e w6 ⟨rfl, rfl⟩
      go_wp2_with fail
      refine Hmw.out.mono ?_
      rintro e w7 ⟨A7, c7, rfl, hR7, hB7⟩
      have hB07 := hB0r.trans (hB7.mono hB0r.size)
      replace zn := zn.up hB7
      replace z1 := z1.up hB7
      replace zl := zl.up hB7
      replace hd := hd.up hB7
      clear hB7 hB0r Hod Hmw zw
      by_cases hw : W % N = 0
      · have hBt := HB0.out hw
        rw [hw, digs_zero] at *
        subst hBt
        go_wp2
        go_ret
        exact ⟨by simp, hB07⟩
      · have Hw1 := Lib.hid (Hw1.out hw)
        have Hw2 := Lib.hid (Hw2.out hw)
        obtain ⟨Y, hY⟩ : ∃ Y, W % N = Y := ⟨_, rfl⟩
        rw [hY] at hw hR7 Hlook0 ⊢
        have hYN : Y ≤ N := by rw [← hY]; exact Nat.le_of_lt (Nat.mod_lt _ (by have := Hgt.out; omega))
        have hyne : (((digs 4294967296 Y).length : Int) == 0) = false := eqB (by rw [digs_pos (by omega) (by omega)]; simp; omega)
        have Hex := refExp_any A7 A6 A c7 c6 c Y (L / 2 ^ k) N w7 hR7 hd zn (by have := Hlm.out Y hYN; omega) (by have := Hl.out; omega) (by have := Hgt.out; omega) (Hnbd.out k)
        rw [Hlook0.out] at Hex
        replace Hex := Lib.hid Hex
        clear hY HB0
        go_wp2_with fail
        refine Hex.out.mono ?_
        rintro e w8 ⟨A8, c8, rfl, hR8, hB8⟩
        have hB08 := hB07.trans (hB8.mono hB07.size)
        replace zn := zn.up hB8
        replace z1 := z1.up hB8
        replace zl := zl.up hB8
        have hcm := refCmp_any _ _ A8 A1 c8 c1 (lookAt N W 0) 1 w8 hR8 z1
        clear hB8 hB07 Hex hd hR7
        by_cases h1 : lookAt N W 0 = 1
        · have hBt := Hw1.out h1
          subst hBt
          rw [h1, cmpV_eq] at hcm
          rw [h1]
          have Hcm := Lib.hid hcm
          clear hcm
          go_wp2_with fail
          refine Hcm.out.mono ?_
          rintro e w9 ⟨rfl, n2, rfl⟩
          go_wp2
          go_ret
          exact ⟨by simp, below_drewN hB08 n2⟩
        · have hne : cmpV (lookAt N W 0) 1 ≠ 0 := fun e => h1 (cmpV_zero e)
          have Hw2 := Lib.hid (Hw2.out h1)
          generalize cmpV (lookAt N W 0) 1 = cv at *
          have hcvb : (cv == 0) = false := eqB hne
          have Hcm := Lib.hid hcm
          clear hcm Hw1
          go_wp2_with fail
          refine Hcm.out.mono ?_
          rintro e w9 ⟨rfl, n2, rfl⟩
          have hB09 := below_drewN hB08 n2
          replace zn := zn.ud n2
          replace zl := zl.ud n2
          replace hR8 := hR8.ud n2
          clear Hcm hB08 z1
          generalize w8.drewN n2 = w9 at *
          have hs9 := hB09.size
          go_wp2
          go_loopw [10, 11] (fun xv iv wr => ∃ (i : Nat) (A1 : Option Addr) (c1 : Nat), iv = .int .i64 (i : Int) ∧ xv = .slice A1 (digs 4294967296 (lookAt N W i)).length c1 ∧ i ≤ k ∧ RU wr A1 c1 (digs 4294967296 (lookAt N W i)) ∧ Hid ((List.range' i (k - i)).any (fun j => decide (lookAt N W j = L)) = B) ∧ Below w9.heap.size w9 wr) (fun _ iv _ => k - (intOf iv).toNat)
          case atStart => exact ⟨0, A8, c8, rfl, rfl, by omega, hR8, Hw2, Below.refl _ _⟩
          case round =>
            clear hR8 Hw2
            obtain ⟨i, A9, c9, rfl, rfl, hi, hx, hany, hB⟩ := hrel
            by_cases hik : i < k
            · have hcm := refCmp_any _ _ A9 A5 c9 c5 (lookAt N W i) L wr hx (zl.up hB)
              have hst := any_range_step (fun j => decide (lookAt N W j = L)) hik
              rw [hany.out] at hst
              by_cases hY : lookAt N W i = L
              · rw [hY, cmpV_eq] at hcm
                rw [hY]
                simp only [hY, decide_true, Bool.true_or] at hst
                subst hst
                have Hcm := Lib.hid hcm
                clear hcm hany hx
                go_wp2_with fail
                refine Hcm.out.mono ?_
                rintro e w10 ⟨rfl, n3, rfl⟩
                go_wp2
                go_ret
                exact ⟨by simp, below_drewN (hB09.trans (hB.mono hs9)) n3⟩
              · have hne2 : cmpV (lookAt N W i) L ≠ 0 := fun e => hY (cmpV_zero e)
                simp only [hY, decide_false, Bool.false_or] at hst
                have Hst := Lib.hid hst.symm
                have hlv : (digs 4294967296 (lookAt N W i)).length < 40000 := by have := Hlm.out _ (Nat.le_of_lt (HlookN.out i)); omega
                generalize cmpV (lookAt N W i) L = cw at *
                have hcwb : (cw == 0) = false := eqB hne2
                have Hcm := Lib.hid hcm
                have Hmu := Lib.hid fun n => refMulMod_any A9 A9 A c9 c9 c (lookAt N W i) (lookAt N W i) N (wr.drewN n) (hx.ud n) (hx.ud n) ((zn.up hB).ud n) hlv hlv (by have := Hgt.out; omega)
                rw [← Hlook.out] at Hmu
                clear hcm hany hst hY hne2 hlv
                go_wp2_with fail
                refine Hcm.out.mono ?_
                rintro e w10 ⟨rfl, n3, rfl⟩
                have Hmu3 := Lib.hid (Hmu.out n3)
                clear Hmu
                go_wp2_with fail
                refine Hmu3.out.mono ?_
                rintro e w11 ⟨A11, c11, rfl, hR11, hB11⟩
                have hB911 := (below_drewN hB n3).trans (hB11.mono hB.size)
                clear Hmu3 Hcm hB11
                go_wp2
                go_roundw
                case rel => exact ⟨i + 1, A11, c11, by go_num, rfl, by omega, hR11, Hst, hB911⟩
                case measure => simp [intOf]; omega
            · obtain rfl : i = k := by omega
              have hBf := hany.out
              rw [any_range_end] at hBf
              subst hBf
              clear hany
              go_wp2
              go_ret
              exact ⟨by simp, hB09.trans (hB.mono hs9)⟩
end Go.Proofs.Ytnniellajmjmnaa
