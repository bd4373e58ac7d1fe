/- zfield: Sub. -/
import Derived.Test.YtldhmjfjbalakaaGreatZAdd
import Derived.Deep.RegionWith
namespace Go.Proofs.YtldhmjfjbalakaaGreat
open Go.RowKit

/-- A difference modulo M. -/
def subM (x y M : Nat) : Nat := if y ≤ x then x - y else x + M - y
theorem subM_lt {x y M : Nat} (hx : x < M) (hy : y < M) : subM x y M < M := by unfold subM; split <;> omega
theorem subM_mod {x y M : Nat} (hx : x < M) (hy : y < M) : subM x y M = (x + M - y) % M := by
  unfold subM
  split
  · rw [show x + M - y = x - y + M by omega, Nat.add_mod_right, Nat.mod_eq_of_lt (by omega)]
  · rw [Nat.mod_eq_of_lt (by omega)]
set_option maxRecDepth 100000 in
set_option maxHeartbeats 2000000 in
theorem zsub_any {g n inv M : Nat} {ml ol rl : List Nat} (a b : List Nat) (w : World) (hF : FF w g n inv M ml ol rl) (ha : Elt M a) (hb : Elt M b) :
    Calls Tryz.prog 118 #[.pointer (some ⟨g, 0, none⟩), EV a, EV b] w fun e w' => ∃ o, e = .returned (EV o) ∧ Elt M o ∧ val 18446744073709551616 o = subM (val 18446744073709551616 a) (val 18446744073709551616 b) M ∧ Below w.heap.size w w' := by
  have hg := hF.fld.lt
  have h0 := hF.fld.n0
  have hn := hF.nle
  have hn1 := hF.npos
  have ta := ha.take hF
  have tb := hb.take hF
  obtain ⟨a0, a1, a2, a3, a4, a5, hae⟩ := six ha.six
  obtain ⟨b0, b1, b2, b3, b4, b5, hbe⟩ := six hb.six
  obtain ⟨l1, l2, l3, l4, hz, hB0⟩ := lay4 w (.cells #[.int .u64 (a0 : Int), .int .u64 (a1 : Int), .int .u64 (a2 : Int), .int .u64 (a3 : Int), .int .u64 (a4 : Int), .int .u64 (a5 : Int)] 135)
    (.cells #[.int .u64 (b0 : Int), .int .u64 (b1 : Int), .int .u64 (b2 : Int), .int .u64 (b3 : Int), .int .u64 (b4 : Int), .int .u64 (b5 : Int)] 135) (.cells #[.int .u64 0, .int .u64 0, .int .u64 0, .int .u64 0, .int .u64 0, .int .u64 0] 135)
    (.cells #[.int .u64 0, .int .u64 0, .int .u64 0, .int .u64 0, .int .u64 0, .int .u64 0] 135)
  have hva : EV a = .agg #[.int .u64 (a0 : Int), .int .u64 (a1 : Int), .int .u64 (a2 : Int), .int .u64 (a3 : Int), .int .u64 (a4 : Int), .int .u64 (a5 : Int)] := by rw [hae]; rfl
  have hvb : EV b = .agg #[.int .u64 (b0 : Int), .int .u64 (b1 : Int), .int .u64 (b2 : Int), .int .u64 (b3 : Int), .int .u64 (b4 : Int), .int .u64 (b5 : Int)] := by rw [hbe]; rfl
  rw [hva, hvb]
  have h00 := (hB0.cell (p := ⟨g, 0, none⟩) hg).trans h0
  go_enter Tryz.func118, Tryz.ntmps118
  go_wp2_with fail
  generalize (((w.alloc (.cells #[.int .u64 (a0 : Int), .int .u64 (a1 : Int), .int .u64 (a2 : Int), .int .u64 (a3 : Int), .int .u64 (a4 : Int), .int .u64 (a5 : Int)] 135)).alloc
    (.cells #[.int .u64 (b0 : Int), .int .u64 (b1 : Int), .int .u64 (b2 : Int), .int .u64 (b3 : Int), .int .u64 (b4 : Int), .int .u64 (b5 : Int)] 135)).alloc (.cells #[.int .u64 0, .int .u64 0, .int .u64 0, .int .u64 0, .int .u64 0, .int .u64 0] 135)).alloc
    (.cells #[.int .u64 0, .int .u64 0, .int .u64 0, .int .u64 0, .int .u64 0, .int .u64 0] 135) = W0 at *
  have A0 : ARow W0 w.heap.size 135 a := by rw [hae]; exact l1
  have B0 : ARow W0 (w.heap.size + 1) 135 b := by rw [hbe]; exact l2
  have T0 : ARow W0 (w.heap.size + 1 + 1 + 1) 135 [0, 0, 0, 0, 0, 0] := l4
  have hW0 : w.heap.size + 4 ≤ W0.heap.size := by omega
  have Ha := Lib.hid ha
  have Hb := Lib.hid hb
  have Hae := Lib.hid hae
  have Hbe := Lib.hid hbe
  have HF := Lib.hid hF
  clear l1 l2 l4 hz ha hb hae hbe hva hvb hF
  go_loopw [8, 16] (fun cv iv wr => ∃ (k cr : Nat) (o : List Nat), iv = .int .i64 (k : Int) ∧ cv = .int .u64 (cr : Int) ∧ k ≤ n ∧ cr ≤ 1 ∧ SubAt 18446744073709551616 a b o k cr ∧ Hid (o.length = 6) ∧ Hid (∀ x ∈ o, x < 18446744073709551616) ∧ Hid (∀ p, k ≤ p → dg o p = 0) ∧ ARow wr (w.heap.size + 1 + 1 + 1) 135 o ∧ Below (w.heap.size + 1 + 1 + 1) W0 wr) (fun _ iv _ => n - (intOf iv).toNat)
  case atStart => exact ⟨0, 0, _, rfl, rfl, by omega, by omega, SubAt.zero _ _ _ _, Lib.hid rfl, Lib.hid (by simp), Lib.hid (fun p _ => by match p with | 0 | 1 | 2 | 3 | 4 | 5 => rfl | p + 6 => rfl), T0, Below.refl _ _⟩
  case round =>
    obtain ⟨k, cr, o, rfl, rfl, hk, hcr, hA, Ho, Hlo, Hz, hblk, hB⟩ := hrel
    have hBw : Below w.heap.size w wr := hB0.trans (hB.mono (by omega))
    have hFr := HF.out.below hBw hg
    have c0 := hFr.fld.n0
    have hAr := A0.below hB (by omega)
    have hBr := B0.below hB (by omega)
    by_cases hlt : k < n
    · have q1 := hAr.cell (i := k) (by rw [Ha.out.six]; omega)
      have q2 := hBr.cell (i := k) (by rw [Hb.out.six]; omega)
      have dt : dg a k < 18446744073709551616 := getD_lt (by omega) Ha.out.lim k
      have dm : dg b k < 18446744073709551616 := getD_lt (by omega) Hb.out.lim k
      obtain ⟨s, cr', hs, hcr', he⟩ := borrow_of (dg a k) (dg b k) cr dt dm hcr
      have hok : k < o.length := by have := Ho.out; omega
      have q3 := hblk.cell hok
      have q4 := hblk.free k
      have hA' := hA.step hok he
      have hblk' := hblk.set k s
      have hB' := hB.setCell (p := ⟨w.heap.size + 1 + 1 + 1, k, none⟩) (Nat.le_refl _) (.int .u64 (s : Int))
      have Ho' : Hid ((o.set k s).length = 6) := Lib.hid (by rw [List.length_set]; exact Ho.out)
      have Hlo' : Hid (∀ x ∈ o.set k s, x < 18446744073709551616) := Lib.hid (set_lt Hlo.out hs)
      have Hz' : Hid (∀ p, k + 1 ≤ p → dg (o.set k s) p = 0) := Lib.hid fun p hp => by rw [getD_set_ne (by omega)]; exact Hz.out p (by omega)
      have hsub := fun w => sub64_at (dg a k) (dg b k) cr s cr' hcr dt dm hs he hcr' w
      have ki6 : (k : Int) < 6 := by omega
      clear he hA hblk hB hok hBw hFr hAr hBr
      go_wp2_with fail
      have hfar : ∀ q : Addr, q.block < w.heap.size + 1 + 1 + 1 → (wr.setCell ⟨w.heap.size + 1 + 1 + 1, k, none⟩ (.int .u64 (s : Int))).drew.cell? q = wr.cell? q := fun q hq => World.cell?_of_block (Below.heap_setCell _ _ _ _ (by show q.block ≠ w.heap.size + 1 + 1 + 1; omega))
      have f1 := (hfar ⟨w.heap.size, k, none⟩ (by show w.heap.size < _; omega)).trans q1
      have f2 := (hfar ⟨w.heap.size + 1, k, none⟩ (by show w.heap.size + 1 < _; omega)).trans q2
      clear hfar
      go_region_held3 (fun w' => w'.cell? ⟨w.heap.size, k, none⟩ = some (.int .u64 (dg a k : Int)) ∧ w'.cell? ⟨w.heap.size + 1, k, none⟩ = some (.int .u64 (dg b k : Int))) (first | exact ⟨q1, q2⟩ | exact ⟨f1, f2⟩ | go_keep) (fail)
      go_wp2
      go_roundw
      case rel => exact ⟨k + 1, cr', o.set k s, by go_num, rfl, by omega, hcr', hA', Ho', Hlo', Hz', hblk', hB'.drew⟩
      case measure => simp [intOf]; omega
    · obtain rfl : k = n := by omega
      have hdif : val 18446744073709551616 o + val 18446744073709551616 b = val 18446744073709551616 a + 18446744073709551616 ^ k * cr := by
        have h1 : val 18446744073709551616 (o.take k) + val 18446744073709551616 (b.take k) = val 18446744073709551616 (a.take k) + 18446744073709551616 ^ k * cr := hA
        rw [ta, tb, val_take_zeros Hz.out] at h1
        exact h1
      have hvo : val 18446744073709551616 o < 18446744073709551616 ^ k := by rw [← val_take_zeros Hz.out]; exact val_take_lt Hlo.out k
      have hroom := hFr.room
      have hal := Ha.out.lt
      have hbl := Hb.out.lt
      have hrb := (hB.block (w.heap.size + 1 + 1) (by omega)).trans l3
      rcases Nat.eq_zero_or_pos cr with h0c | h0c
      · subst h0c
        have hv2 : val 18446744073709551616 o = subM (val 18446744073709551616 a) (val 18446744073709551616 b) M := by
          rw [Nat.mul_zero, Nat.add_zero] at hdif
          rw [subM, if_pos (by omega)]
          omega
        obtain ⟨x0, x1, x2, x3, x4, x5, hoe⟩ := six Ho.out
        have hcb : wr.heap[w.heap.size + 1 + 1 + 1]? = some (.cells #[.int .u64 (x0 : Int), .int .u64 (x1 : Int), .int .u64 (x2 : Int), .int .u64 (x3 : Int), .int .u64 (x4 : Int), .int .u64 (x5 : Int)] 135 (0, 0)) := by
          rw [hoe] at hblk; exact hblk
        obtain ⟨e0, e1, e2, e3, e4, e5⟩ := cells6 hcb
        obtain ⟨r0, r1, r2, r3, r4, r5⟩ := cells6 hrb
        have z := fun i => blk_free hrb i
        have z0 := z 0
        have z1 := z 1
        have z2 := z 2
        have z3 := z 3
        have z4 := z 4
        have z5 := z 5
        have hrb' := hrb
        have Hv2 := Lib.hid hv2
        have Hoe := Lib.hid hoe
        clear hv2 hoe hcb hrb z hdif hvo hroom hal hbl hA hblk hFr hAr hBr hB
        go_wp2_with fail
        refine end6 rfl rfl rfl (six_set hrb' _ _ _ _ _ _) ?_
        exact ⟨o, by rw [Hoe.out]; rfl, ⟨Ho.out, Hlo.out, by rw [Hv2.out]; exact subM_lt Ha.out.lt Hb.out.lt⟩, Hv2.out, six_below hBw (by omega) _ _ _ _ _ _⟩
      · obtain rfl : cr = 1 := by omega
        rw [Nat.mul_one] at hdif
        have Hdif := Lib.hid hdif
        have Hvo := Lib.hid hvo
        have Hroom := Lib.hid hroom
        have hB1 := hB
        have hblk1 := hblk
        have hAs := AddAt.zero 18446744073709551616 o ml o
        have HBw := Lib.hid hBw
        clear hA hdif hvo hroom hal hbl hFr hAr hBr hrb hB hblk hBw
        go_wp2_with fail
        have HT := Lib.hid (⟨Ho.out, Hlo.out, Hz.out⟩ : o.length = 6 ∧ (∀ x ∈ o, x < 18446744073709551616) ∧ ∀ p, k ≤ p → dg o p = 0)
        go_loopw [10, 40] (fun cv iv wx => ∃ (j cr : Nat) (o2 : List Nat), iv = .int .i64 (j : Int) ∧ cv = .int .u64 (cr : Int) ∧ j ≤ k ∧ cr ≤ 1 ∧ AddAt 18446744073709551616 o ml o2 j cr ∧ Hid (∀ p, j ≤ p → dg o2 p = dg o p) ∧ Hid (o2.length = 6) ∧ Hid (∀ x ∈ o2, x < 18446744073709551616) ∧ Hid (∀ p, k ≤ p → dg o2 p = 0) ∧ ARow wx (w.heap.size + 1 + 1 + 1) 135 o2 ∧ Below (w.heap.size + 1 + 1 + 1) W0 wx) (fun _ iv _ => k - (intOf iv).toNat)
        case atStart => exact ⟨0, 0, o, rfl, rfl, by omega, by omega, hAs, Lib.hid fun _ _ => rfl, Ho, Hlo, Hz, hblk1, hB1⟩
        case round =>
          clear hAs hblk1 hB1
          obtain ⟨j, cr, o2, rfl, rfl, hj, hcr2, hA, Hsame, Ho2, Hlo2, Hz2, hblk, hB⟩ := hrel
          have hBw : Below w.heap.size w wr := hB0.trans (hB.mono (by omega))
          have hFr := HF.out.below hBw hg
          have c0 := hFr.fld.n0
          by_cases hlt2 : j < k
          · have q1 := hblk.cell (i := j) (by have := Ho2.out; omega)
            rw [Hsame.out j (Nat.le_refl _)] at q1
            have q2 := hFr.fld.m_ (j := j) (by omega)
            have dt : dg o j < 18446744073709551616 := getD_lt (by omega) HT.out.2.1 j
            have dm : dg ml j < 18446744073709551616 := getD_lt (by omega) hFr.mlt j
            obtain ⟨s, cr', hs, hcr', he⟩ := carry_of (dg o j) (dg ml j) cr dt dm hcr2
            have hok : j < o2.length := by have := Ho2.out; omega
            have q4 := hblk.free j
            have hA' := hA.step hok (by omega)
            have hblk' := hblk.set j s
            have hB' := hB.setCell (p := ⟨w.heap.size + 1 + 1 + 1, j, none⟩) (Nat.le_refl _) (.int .u64 (s : Int))
            have Ho' : Hid ((o2.set j s).length = 6) := Lib.hid (by rw [List.length_set]; exact Ho2.out)
            have Hlo' : Hid (∀ x ∈ o2.set j s, x < 18446744073709551616) := Lib.hid (set_lt Hlo2.out hs)
            have Hz' : Hid (∀ p, k ≤ p → dg (o2.set j s) p = 0) := Lib.hid fun p hp => by rw [getD_set_ne (by omega)]; exact Hz2.out p hp
            have Hs' : Hid (∀ p, j + 1 ≤ p → dg (o2.set j s) p = dg o p) := Lib.hid fun p hp => by rw [getD_set_ne (by omega)]; exact Hsame.out p (by omega)
            have hadd := fun w => add64_at (dg o j) (dg ml j) cr s cr' hcr2 hs (by omega) w
            have ki6 : (j : Int) < 6 := by omega
            clear he hA hblk hB hok hBw hFr
            go_wp2_with fail
            go_region_with (fail)
            all_goals
              go_wp2
              go_roundw
              case rel =>
                refine ⟨_, _, _, _, _, _, _, _, _, _, _, _, _, _, _, _, _, _, _, _, _, _, ?_, rfl⟩
                exact ⟨j + 1, cr', o2.set j s, by go_num, rfl, by omega, hcr', hA', Hs', Ho', Hlo', Hz', hblk', hB'.drew⟩
              case measure => simp [intOf]; omega
          · obtain rfl : j = k := by omega
            have hsum : val 18446744073709551616 o2 + 18446744073709551616 ^ j * cr = val 18446744073709551616 o + M := by
              have h1 : val 18446744073709551616 (o2.take j) + 18446744073709551616 ^ j * cr = val 18446744073709551616 (o.take j) + val 18446744073709551616 (ml.take j) := hA
              rwa [val_take_zeros Hz2.out, val_take_zeros HT.out.2.2, hFr.mtake] at h1
            have hv2 : val 18446744073709551616 o2 = subM (val 18446744073709551616 a) (val 18446744073709551616 b) M := by
              have h1 := Hdif.out
              have h2 := Hroom.out
              have h3 := Ha.out.lt
              have h4 := Hb.out.lt
              have h5 : val 18446744073709551616 o2 < 18446744073709551616 ^ j := by rw [← val_take_zeros Hz2.out]; exact val_take_lt Hlo2.out j
              have h6 := Hvo.out
              generalize 18446744073709551616 ^ j = R at *
              have h7 : cr = 0 ∨ cr = 1 := by omega
              rw [subM, if_neg (by omega)]
              rcases h7 with rfl | rfl
              · rw [Nat.mul_zero] at hsum; omega
              · omega
            have hrb := (hB.block (w.heap.size + 1 + 1) (by omega)).trans l3
            obtain ⟨x0, x1, x2, x3, x4, x5, hoe⟩ := six Ho2.out
            have hcb : wr.heap[w.heap.size + 1 + 1 + 1]? = some (.cells #[.int .u64 (x0 : Int), .int .u64 (x1 : Int), .int .u64 (x2 : Int), .int .u64 (x3 : Int), .int .u64 (x4 : Int), .int .u64 (x5 : Int)] 135 (0, 0)) := by
              rw [hoe] at hblk; exact hblk
            obtain ⟨e0, e1, e2, e3, e4, e5⟩ := cells6 hcb
            obtain ⟨r0, r1, r2, r3, r4, r5⟩ := cells6 hrb
            have z := fun i => blk_free hrb i
            have z0 := z 0
            have z1 := z 1
            have z2 := z 2
            have z3 := z 3
            have z4 := z 4
            have z5 := z 5
            have hrb' := hrb
            have Hv2 := Lib.hid hv2
            have Hoe := Lib.hid hoe
            clear hv2 hoe hcb hrb z hsum hA hblk hFr hB
            go_wp2_with fail
            refine end6 rfl rfl rfl (six_set hrb' _ _ _ _ _ _) ?_
            exact ⟨o2, by rw [Hoe.out]; rfl, ⟨Ho2.out, Hlo2.out, by rw [Hv2.out]; exact subM_lt Ha.out.lt Hb.out.lt⟩, Hv2.out, six_below hBw (by omega) _ _ _ _ _ _⟩
end Go.Proofs.YtldhmjfjbalakaaGreat
