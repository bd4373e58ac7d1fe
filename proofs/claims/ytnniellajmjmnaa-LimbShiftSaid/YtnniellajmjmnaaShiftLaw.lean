/- LimbShift: shifts, bits and their iterator are right: the walk of the law. -/
import Derived.Test.YtnniellajmjmnaaShiftAll
import Derived.Sort.CutIn
import Derived.Stop.RegionWithIn
import Derived.Deep.DeepMust
import Derived.Sort.AtCallIn
import Derived.StillTailTactics
import Derived.ControlIn
import Derived.Deep.RegionHeld3
namespace Go.Proofs.Ytnniellajmjmnaa
open Go.RowKit Go.Shelf

attribute [local go_sem] Oper.semAt_some

/-- What the law has in hand behind its first lines: n taken down if it was great. -/
def ShiftOk (x : Nat) (n : Int) (U D : List Nat) : Prop := ((n < 0 ∨ 65536 < n) ∧ U = [] ∧ (n < 0 → D = [])) ∨ ∃ k : Nat, n = (k : Int) ∧ k ≤ 5000 ∧ U = digs 18446744073709551616 (x * 2 ^ k) ∧ D = digs 18446744073709551616 (x / 2 ^ k)
theorem ShiftOk.of {x : Nat} {n : Int} {U D : List Nat} (hu : UpOk x n U) (hd : DownOk x n D) (h : ¬ (5000 < n ∧ n ≤ 65536)) : ShiftOk x n U D := by
  by_cases h0 : n < 0 ∨ 65536 < n
  · exact .inl ⟨h0, hu.1 h0, hd.1⟩
  · obtain ⟨k, rfl⟩ : ∃ k : Nat, n = (k : Int) := ⟨n.toNat, by omega⟩
    exact .inr ⟨k, rfl, by omega, hu.2 k rfl (by omega), hd.2 k rfl⟩

/-- The law's boxes: most, the result, begun's word, x. -/
structure Fr (w : World) (gb gx : Nat) (most : Int) (xs : Value) (W : World) : Prop where
  m : W.heap[w.heap.size]? = some (.cells #[.int .i64 most] 3 (0, 0))
  r : W.heap[w.heap.size + 1]? = some (.cells #[.bool false] 4 (0, 0))
  b : W.heap[gb]? = some (.cells #[.bool true] 4 (0, 0))
  x : W.heap[gx]? = some (.cells #[xs] 26 (0, 0))
  below : Below w.heap.size w W
theorem Fr.up {w W W' : World} {gb gx : Nat} {most : Int} {xs : Value} (h : Fr w gb gx most xs W) (hB : Below W.heap.size W W') : Fr w gb gx most xs W' :=
  ⟨(hB.block _ (blk_lt h.m)).trans h.m, (hB.block _ (blk_lt h.r)).trans h.r, (hB.block _ (blk_lt h.b)).trans h.b, (hB.block _ (blk_lt h.x)).trans h.x, h.below.trans (hB.mono h.below.size)⟩

theorem Fr.drew {w W : World} {gb gx : Nat} {most : Int} {xs : Value} (h : Fr w gb gx most xs W) : Fr w gb gx most xs W.drew :=
  ⟨h.m, h.r, h.b, h.x, below_drewN h.below 1⟩
theorem nb_le {a : List Nat} (h : Lim a) (hl : a.length ≤ 20) : nbits (val 18446744073709551616 a) ≤ 1280 := by
  have hnb : nbits (val 18446744073709551616 a) ≤ 64 * a.length := by
    apply nbits_le
    have := val_lt h.1
    rwa [show (18446744073709551616 : Nat) = 2 ^ 64 by decide, ← Nat.pow_mul] at this
  omega
theorem RN.drew {w : World} {P : Nat → Prop} {A : Option Addr} {c : Nat} {l : List Nat} (h : RN w P A c l) : RN w.drew P A c l := h
theorem RU.drew {w : World} {A : Option Addr} {c : Nat} {l : List Nat} (h : RU w A c l) : RU w.drew A c l := h

set_option maxRecDepth 100000 in
set_option maxHeartbeats 4000000 in
theorem shift_any (P : Nat → Prop) (A : Option Addr) (c : Nat) (l : List Nat) (n i most : Int) (w : World) (h : RL w P A c l) (hP : ∀ b, P b → b < w.heap.size) (hn0 : -9223372036854775808 ≤ n) (hn1 : n ≤ 9223372036854775807) (hi1 : i ≤ 9223372036854775807) :
    Calls Try.prog 4 #[.slice A l.length c, .int .i64 n, .int .i64 i, .int .i64 most] w fun e w' => e = .returned (.bool true) ∧ Below w.heap.size w w' := by
  have hla : (l.take 20).length ≤ 20 := by rw [List.length_take]; omega
  have fa := fun w h => few_any P A c l w h
  generalize l.take 20 = a at *
  have Fa := Lib.hid fa
  clear fa
  refine (callsIn_wide (n := 6)).1 ?_
  refine callsIn_of_wp_marks Try.func4 rfl trivial ?_ rfl
  simp only [Try.ntmps4, List.size_toArray, List.length_cons, List.length_nil, Nat.reduceAdd, Nat.reduceSub, Array.replicate_succ, Array.replicate_zero, List.push_toArray, List.append_toArray, List.nil_append, List.cons_append]
  gi_wp2
  have hw0 : Below w.heap.size w ((w.alloc (.cells #[.int .i64 most] 3)).alloc (.cells #[.bool false] 4)) := ((Below.refl _ w).alloc (Nat.le_refl _) _).alloc (by simp) _
  have hm0 : ((w.alloc (.cells #[.int .i64 most] 3)).alloc (.cells #[.bool false] 4)).heap[w.heap.size]? = some (.cells #[.int .i64 most] 3 (0, 0)) := (Below.heap_alloc _ _ _ (by simp)).trans (heap_alloc_new w _)
  have hr0 : ((w.alloc (.cells #[.int .i64 most] 3)).alloc (.cells #[.bool false] 4)).heap[w.heap.size + 1]? = some (.cells #[.bool false] 4 (0, 0)) := by
    have := heap_alloc_new (w.alloc (.cells #[.int .i64 most] 3)) (.cells #[.bool false] 4)
    simpa using this
  obtain ⟨W0, hW0⟩ : ∃ W0, (w.alloc (.cells #[.int .i64 most] 3)).alloc (.cells #[.bool false] 4) = W0 := ⟨_, rfl⟩
  have hs0 : Hid (W0.heap.size = w.heap.size + 2) := Lib.hid (by rw [← hW0]; simp)
  rw [hW0] at hw0 hm0 hr0 ⊢
  clear hW0
  refine ⟨trivial, (callsIn_wide.2 (begun_any W0)).mono ?_⟩
  rintro e w1 ⟨rfl, hB1⟩
  have hm1 := (hB1.block _ (blk_lt hm0)).trans hm0
  have hr1 := (hB1.block _ (blk_lt hr0)).trans hr0
  have hw1 := hw0.trans (hB1.mono hw0.size)
  clear hm0 hr0 hw0 hB1
  gi_wp2
  have hb2 := heap_alloc_new w1 (.cells #[.bool true] 4)
  have hm2 := (Below.heap_alloc w1 (.cells #[.bool true] 4) _ (blk_lt hm1)).trans hm1
  have hr2 := (Below.heap_alloc w1 (.cells #[.bool true] 4) _ (blk_lt hr1)).trans hr1
  have hw2 := hw1.alloc hw1.size (.cells #[.bool true] 4)
  refine ⟨trivial, (callsIn_wide.2 (Fa.out _ (h.below hw2 hP))).mono ?_⟩
  rintro e w3 ⟨A3, c3, rfl, hO3, hB3⟩
  have hb3 := (hB3.block _ (blk_lt hb2)).trans hb2
  have hm3 := (hB3.block _ (blk_lt hm2)).trans hm2
  have hr3 := (hB3.block _ (blk_lt hr2)).trans hr2
  have hw3 := hw2.trans (hB3.mono hw2.size)
  have ra := hO3.ru
  have lx := digs32_len ra.2 hla
  clear hb2 hm2 hr2 hw2 hm1 hr1 hw1 hO3 hB3 Fa h hP
  gi_wp2
  refine ⟨trivial, (callsIn_wide.2 (from_any _ A3 c3 a w3 ra lt_self (by omega))).mono ?_⟩
  rintro e w4 ⟨A4, c4, rfl, hO4, hB4⟩
  have hb4 := (hB4.block _ (blk_lt hb3)).trans hb3
  have hm4 := (hB4.block _ (blk_lt hm3)).trans hm3
  have hr4 := (hB4.block _ (blk_lt hr3)).trans hr3
  have hw4 := hw3.trans (hB4.mono hw3.size)
  have rx := hO4.ru
  replace ra := ra.up hB4
  clear hb3 hm3 hr3 hw3 hO4 hB4
  gi_wp2
  obtain ⟨xs, hxs⟩ : ∃ xs, Value.slice A4 (digs 4294967296 (val 18446744073709551616 a)).length c4 = xs := ⟨_, rfl⟩
  have hal : Below w4.heap.size w4 (w4.alloc (.cells #[xs] 26)) := (Below.refl _ _).alloc (Nat.le_refl _) _
  have hF : Fr w w1.heap.size w4.heap.size most xs (w4.alloc (.cells #[xs] 26)) :=
    ⟨(hal.block _ (blk_lt hm4)).trans hm4, (hal.block _ (blk_lt hr4)).trans hr4, (hal.block _ (blk_lt hb4)).trans hb4, heap_alloc_new w4 _, hw4.trans (hal.mono hw4.size)⟩
  replace ra := ra.up hal
  replace rx := rx.up hal
  rw [hxs]
  obtain ⟨gb, hgb⟩ : ∃ gb, w1.heap.size = gb := ⟨_, rfl⟩
  obtain ⟨gx, hgx⟩ : ∃ gx, w4.heap.size = gx := ⟨_, rfl⟩
  rw [hgb, hgx] at hF ⊢
  have Hxs := Lib.hid hxs
  clear hb4 hm4 hr4 hw4 hal hxs hgb hgx
  generalize w4.alloc (.cells #[xs] 26) = W5 at *
  refine ⟨trivial, (callsIn_wide.2 (shl_all _ A3 c3 a n W5 ra lt_self (by omega))).mono ?_⟩
  rintro e w6 ⟨A6, c6, U, rfl, hO6, hU, hB6⟩
  have hF6 := hF.up hB6
  have ru := hO6.ru
  replace ra := ra.up hB6
  replace rx := rx.up hB6
  clear hF hB6 hO6
  gi_wp2
  refine ⟨trivial, (callsIn_wide.2 (shr_all _ A3 c3 a n w6 ra lt_self (by omega) hn1)).mono ?_⟩
  rintro e w7 ⟨A7, c7, V, rfl, hO7, hV, hB7⟩
  have hF7 := hF6.up hB7
  have rv := hO7.ru
  replace ra := ra.up hB7
  replace rx := rx.up hB7
  replace ru := ru.up hB7
  clear hF6 hB7 hO7
  gi_upto_region 6 with fail
  gi_cut [36] from 31 (fun s36 wx => s36 = .bool (decide (5000 < n ∧ n ≤ 65536)) ∧ w7 = wx)
  case first =>
    by_cases h1 : 5000 < n
    · by_cases h2 : n ≤ 65536
      · gi_wp2
        gi_meet
        case rel => exact ⟨by simp [h1, h2], rfl⟩
      · gi_wp2
        gi_meet
        case rel => exact ⟨by simp [h2], rfl⟩
    · gi_wp2
      gi_meet
      case rel => exact ⟨by simp; omega, rfl⟩
  case rest =>
    obtain ⟨rfl, rfl⟩ := hcut
    gi_upto_if 36 with fail
    gi_cut [1, 11, 12] from 31 (fun s1 s11 s12 wx => ∃ (n' : Int) (A6 A7 : Option Addr) (c6 c7 : Nat) (U V : List Nat), s1 = .int .i64 n' ∧ s11 = .slice A6 U.length c6 ∧ s12 = .slice A7 V.length c7 ∧ ShiftOk (val 18446744073709551616 a) n' U V ∧
      RU wx A3 c3 a ∧ RU wx A4 c4 (digs 4294967296 (val 18446744073709551616 a)) ∧ RU wx A6 c6 U ∧ RU wx A7 c7 V ∧ Fr w gb gx most xs wx)
    case first =>
      by_cases hn5 : 5000 < n ∧ n ≤ 65536
      · have hd5 : decide (5000 < n ∧ n ≤ 65536) = true := by simp [hn5]
        rw [hd5]
        clear hd5 hU hV ru rv
        obtain ⟨k, rfl⟩ : ∃ k : Nat, n = (k : Int) := ⟨n.toNat, by omega⟩
        obtain ⟨q, hq⟩ : ∃ q, k % 5001 = q := ⟨_, rfl⟩
        have e1 : (k : Int) % 5001 = (q : Int) := by omega
        have e2 : (k : Int).tmod 5001 = (q : Int) := by rw [Int.tmod_eq_emod_of_nonneg (by omega)]; exact e1
        have hq5 : q ≤ 5000 := by omega
        have hk : k ≤ 65536 := by omega
        clear hq hn5 hn0 hn1
        gi_wp2
        refine ⟨trivial, (callsIn_wide.2 (shl_all _ A3 c3 a (q : Int) _ ra lt_self (by omega))).mono ?_⟩
        rintro e w8 ⟨A8, c8, U, rfl, hO8, hU, hB8⟩
        have hF8 := hF7.up hB8
        have ru := hO8.ru
        replace ra := ra.up hB8
        replace rx := rx.up hB8
        clear hF7 hB8 hO8
        gi_wp2
        refine ⟨trivial, (callsIn_wide.2 (shr_all _ A3 c3 a (q : Int) w8 ra lt_self (by omega) (by omega))).mono ?_⟩
        rintro e w9 ⟨A9, c9, V, rfl, hO9, hV, hB9⟩
        have hF9 := hF8.up hB9
        have rv := hO9.ru
        replace ra := ra.up hB9
        replace rx := rx.up hB9
        replace ru := ru.up hB9
        clear hF8 hB9 hO9
        gi_wp2
        gi_meet
        case rel => exact ⟨(q : Int), A8, A9, c8, c9, U, V, rfl, rfl, rfl, ShiftOk.of hU hV (by omega), ra, rx, ru, rv, hF9⟩
      · have hd5 : decide (5000 < n ∧ n ≤ 65536) = false := by simp [hn5]
        rw [hd5]
        have hOk := ShiftOk.of hU hV hn5
        clear hd5 hU hV hn5
        gi_wp2
        gi_meet
        case rel => exact ⟨n, A6, A7, c6, c7, U, V, rfl, rfl, rfl, hOk, ra, rx, ru, rv, hF7⟩
    case rest =>
      clear hU hV ra rx ru rv hF7 hn0 hn1
      obtain ⟨n, A6, A7, c6, c7, U, V, rfl, rfl, rfl, hOk, ra, rx, ru, rv, hF⟩ := hcut
      gi_upto_region 10 with fail
      gi_cut [50] from 51 (fun s50 wx => s50 = .bool (decide (n < 0 ∨ 65536 < n)) ∧ wc = wx)
      case first =>
        by_cases h1 : n < 0
        · gi_wp2
          gi_meet
          case rel => exact ⟨by simp [h1], rfl⟩
        · gi_wp2
          gi_meet
          case rel => exact ⟨by simp; omega, rfl⟩
      case rest =>
        obtain ⟨rfl, rfl⟩ := hcut
        gi_upto_if 50 with fail
        gi_cut [13, 14] from 31 (fun _ _ wx => RU wx A3 c3 a ∧ RU wx A4 c4 (digs 4294967296 (val 18446744073709551616 a)) ∧ Fr w gb gx most xs wx)
        case first =>
          rcases hOk with ⟨hn, rfl, hV⟩ | ⟨k, rfl, hk, rfl, rfl⟩
          · have hd5 : decide (n < 0 ∨ 65536 < n) = true := by simp [hn]
            rw [hd5]
            clear hd5
            by_cases h1 : n < 0
            · have hV0 := hV h1
              subst hV0
              gi_wp2
              gi_meet
              case rel => exact ⟨ra, rx, hF⟩
            · gi_wp2
              gi_meet
              case rel => exact ⟨ra, rx, hF⟩
          · have hd5 : decide ((k : Int) < 0 ∨ 65536 < (k : Int)) = false := by simp; omega
            rw [hd5]
            clear hd5
            gi_upto_region 13 with fail
            gi_cut [13, 14] from 31 (fun s13 _ wx => ∃ A c, s13 = .slice A (digs 4294967296 (val 18446744073709551616 a / 2 ^ k)).length c ∧ RU wx A c (digs 4294967296 (val 18446744073709551616 a / 2 ^ k)) ∧
              RU wx A3 c3 a ∧ RU wx A4 c4 (digs 4294967296 (val 18446744073709551616 a)) ∧ RU wx A6 c6 (digs 18446744073709551616 (val 18446744073709551616 a * 2 ^ k)) ∧ RU wx A7 c7 (digs 18446744073709551616 (val 18446744073709551616 a / 2 ^ k)) ∧ Fr w gb gx most xs wx)
            case first =>
              have hx0 := blk_cell hF.x 0
              have hgx := blk_lt hF.x
              simp only [List.getElem?_toArray, List.getElem?_cons_zero] at hx0
              have hp0 : 0 < 2 ^ k := Nat.pow_pos (by omega)
              have rad := RU.drew ra
              have rxd := RU.drew rx
              have rud := RU.drew ru
              have rvd := RU.drew rv
              have hFd := hF.drew
              clear ra rx ru rv hF
              refine wpIn_wide.2 ?_
              go_region_held3 (fun w' => w'.cell? ⟨gx, 0, none⟩ = some xs)
                (first | exact hx0 | exact hx8 | exact hx9)
                (first
                  | (go_at_call 24; refine (power2_any k _ (by omega)).mono ?_; rintro e w8 ⟨A8, c8, rfl, hO8, hB8⟩; have hx8 := (hB8.cell (p := ⟨gx, 0, none⟩) hgx).trans hx0)
                  | (go_at_call 23; have H := refQuo_any _ _ A4 A8 c4 c8 _ _ w8 (rxd.up hB8) hO8.ru lt_self lt_self (by omega) hp0; rw [Hxs.out] at H; refine H.mono ?_; clear H; rintro e w9 ⟨A9, c9, v2, rfl, hO9, hB9⟩; have hBd := hB8.trans (hB9.mono hB8.size); have hx9 := (hBd.cell (p := ⟨gx, 0, none⟩) hgx).trans hx0))
              go_wp2
              go_meet
              case rel => exact ⟨A9, c9, rfl, hO9.ru, rad.up hBd, rxd.up hBd, rud.up hBd, rvd.up hBd, hFd.up hBd⟩
            case rest =>
              clear ra rx ru rv hF
              obtain ⟨A13, c13, rfl, rq, ra, rx, ru, rv, hF⟩ := hcut
              gi_upto_region 14 with fail
              gi_cut [82] from 31 (fun s82 wx => s82 = .bool false ∧ RU wx A3 c3 a ∧ RU wx A4 c4 (digs 4294967296 (val 18446744073709551616 a)) ∧ Fr w gb gx most xs wx)
              case first =>
                have hx0 := blk_cell hF.x 0
                have hgx := blk_lt hF.x
                simp only [List.getElem?_toArray, List.getElem?_cons_zero] at hx0
                have rad := RU.drew ra
                have rxd := RU.drew rx
                have rud := RU.drew ru
                have rvd := RU.drew rv
                have rqd := RU.drew rq
                have hFd := hF.drew
                have lp2 := pow2_len k
                have Lp2 := Lib.hid lp2
                clear ra rx ru rv rq hF lp2
                refine wpIn_wide.2 ?_
                go_region_held3 (fun w' => w'.cell? ⟨gx, 0, none⟩ = some xs)
                  (first | exact hx0 | exact hx8 | exact hx9 | exact hx10 | exact hx11)
                  (first
                    | (go_at_call 24; refine (power2_any k _ (by omega)).mono ?_; rintro e w8 ⟨A8, c8, rfl, hO8, hB8⟩; have hx8 := (hB8.cell (p := ⟨gx, 0, none⟩) hgx).trans hx0)
                    | (go_at_call 19; have H := refMul_any _ _ A4 A8 c4 c8 _ _ w8 (rxd.up hB8) hO8.ru lt_self lt_self (by omega) (by rw [Lp2.out]; omega); rw [Hxs.out] at H; refine H.mono ?_; clear H; rintro e w9 ⟨A9, c9, rfl, hO9, hB9⟩; have hBd := hB8.trans (hB9.mono hB8.size); have hx9 := (hBd.cell (p := ⟨gx, 0, none⟩) hgx).trans hx0)
                    | (go_at_call_has 20 A6; have H := is_yes _ _ A6 A9 c6 c9 _ w9 (rud.up hBd) hO9.ru lt_self lt_self; refine H.mono ?_; clear H; rintro e w10 ⟨rfl, hB10⟩; have hBe := hBd.trans (hB10.mono hBd.size); have hx10 := (hBe.cell (p := ⟨gx, 0, none⟩) hgx).trans hx0)
                    | (go_at_call_has 20 A7; have H := is_yes _ _ A7 A13 c7 c13 _ w10 (rvd.up hBe) (rqd.up hBe) lt_self lt_self; refine H.mono ?_; clear H; rintro e w11 ⟨rfl, hB11⟩; have hBf := hBe.trans (hB11.mono hBe.size); have hx11 := (hBf.cell (p := ⟨gx, 0, none⟩) hgx).trans hx0))
                go_wp2
                go_meet
                case rel => exact ⟨rfl, rad.up hBf, rxd.up hBf, hFd.up hBf⟩
              case rest =>
                clear rq ru rv ra rx hF
                obtain ⟨rfl, ra, rx, hF⟩ := hcut
                gi_wp2
                gi_meet
                case rel => exact ⟨ra, rx, hF⟩
        case rest =>
          clear hOk ra rx ru rv hF
          obtain ⟨ra, rx, hF⟩ := hcut
          have hx0 := blk_cell hF.x 0
          simp only [List.getElem?_toArray, List.getElem?_cons_zero] at hx0
          have hnb := nb_le ra.2 hla
          have Hbx := Lib.hid (refBits_any _ A4 c4 _ _ rx)
          gi_wp2
          rw [← Hxs.out]
          refine ⟨trivial, (callsIn_wide.2 Hbx.out).mono ?_⟩
          rintro e w' ⟨rfl, rfl⟩
          rw [Hxs.out]
          have hd1 : Below wc.heap.size wc (wc.alloc (.cells #[.int .i64 (nbits (val 18446744073709551616 a) : Int)] 3)) := (Below.refl _ _).alloc (Nat.le_refl _) _
          have ra1 := ra.up hd1
          have hF1 := hF.up hd1
          have rx1 := rx.up hd1
          have hb1 := heap_alloc_new wc (.cells #[.int .i64 (nbits (val 18446744073709551616 a) : Int)] 3)
          have Hea := Lib.hid (each_any _ A3 c3 a _ ra1 lt_self)
          clear ra rx hF hd1 Hbx hx0
          gi_wp2
          refine ⟨trivial, (callsIn_wide.2 Hea.out).mono ?_⟩
          rintro e w3 ⟨A9, c9, rfl, hb9, hO9, hB9⟩
          have ra3 := ra1.up hB9
          have rx3 := rx1.up hB9
          have hF3 := hF1.up hB9
          have hb3 := (hB9.block _ (blk_lt hb1)).trans hb1
          clear ra1 rx1 hF1 hB9 hb1 Hea
          obtain ⟨gs, hgs⟩ : ∃ gs, (wc.alloc (.cells #[.int .i64 (nbits (val 18446744073709551616 a) : Int)] 3)).heap.size = gs := ⟨_, rfl⟩
          obtain ⟨g15, hg15⟩ : ∃ g15, wc.heap.size = g15 := ⟨_, rfl⟩
          rw [hgs] at hb9 hO9 ⊢
          rw [hg15] at hb3 ⊢
          clear hgs hg15
          obtain ⟨X, hX⟩ : ∃ X, val 18446744073709551616 a = X := ⟨_, rfl⟩
          rw [hX] at hb9 hO9 rx3 hb3 Hxs hnb ⊢
          have HX := Lib.hid hX
          clear hX
          obtain ⟨nb, hnb'⟩ : ∃ nb, nbits X = nb := ⟨_, rfl⟩
          rw [hnb'] at hb3 hnb ⊢
          have Hnb := Lib.hid hnb'
          clear hnb'
          have hnil := fun w => eql_nil2 w (.func 71) #[] #[.pointer (some ⟨gs, 0, none⟩)]
          have c15 := blk_cell hb3 0
          simp only [List.getElem?_toArray, List.getElem?_cons_zero] at c15
          gi_wp2
          have hz9 := blk_lt hb9
          have c9b := blk_cell hb9 0
          simp only [List.getElem?_toArray, List.getElem?_cons_zero] at c9b
          have hz3 : w3.heap.size ≤ (w3.alloc (.cells #[.int .i64 (nb : Int)] 3)).heap.size := by simp
          have hB0 : Below w3.heap.size w3 (w3.alloc (.cells #[.int .i64 (nb : Int)] 3)) := (Below.refl _ _).alloc (Nat.le_refl _) _
          have hst := each_stops 5 gs w3.heap.size (by omega) (In gs w3.heap.size) A9 c9 (digs 18446744073709551616 X) (w3.alloc (.cells #[.int .i64 (nb : Int)] 3)) (fun b hb => hb.2) hz9 hz3
            ((hB0.cell (p := ⟨gs, 0, none⟩) hz9).trans c9b) (hO9.rn.below hB0 (fun b hb => hb.2))
          rw [val_digs (by omega), Hnb.out] at hst
          have hbk := heap_alloc_new w3 (.cells #[.int .i64 (nb : Int)] 3)
          have hk0 := blk_cell hbk 0
          have hk1 := blk_free hbk 0
          simp only [List.getElem?_toArray, List.getElem?_cons_zero] at hk0
          have z15 := blk_lt hb3
          have zF : w.heap.size + 1 < w3.heap.size := blk_lt hF3.r
          have zm : w.heap.size < w3.heap.size := blk_lt hF3.m
          have zb : gb < w3.heap.size := blk_lt hF3.b
          have zx : gx < w3.heap.size := blk_lt hF3.x
          have Hst := Lib.hid hst
          clear hst hnil c9b
          refine' wpIn_rangeFunc_ownF rfl (by omega) (gf := 71) (lb := #[.pointer (some ⟨gs, 0, none⟩)]) rfl trivial (enters_of Try.func71 (by kernel_rfl) rfl)
            Hst.out belowK_t (belowK_b (by simp)) (Below.refl _ _) (fun _ => rfl)
            (fun pre W => (pre = upTo (bitAt X) pre.length ∧ W.cell? ⟨w3.heap.size, 0, none⟩ = some (.int .i64 ((nb : Int) - (pre.length : Int))) ∧ W.frozen? ⟨w3.heap.size, 0, none⟩ = false) ∧ Below w3.heap.size w3 W)
            (fun c pre W => (c = .ret ∧ ∀ k, pre = upTo (bitAt X) k → W.cell? ⟨w.heap.size + 1, 0, none⟩ = some (.bool true)) ∧ Below w.heap.size w W)
            (OwnFrom.and (Own.from (fun s A B row hs hg hr => ⟨hs.1, cell_kept hs.2.1 hg hr, (frozen_kept hs.2.1 hg hr).trans hs.2.2⟩) _) (ownFrom_below (Nat.le_refl _) (by simp)))
            (fun c => OwnFrom.and (Own.from (fun s A B row hs hg hr => ⟨hs.1, fun k hk => cell_kept (hs.2 k hk) hg hr⟩) _) (ownFrom_below (Nat.le_refl _) (by simp; omega)))
            ⟨⟨rfl, by simp, hk1⟩, hB0⟩ _ ?assign ?body ?done ?stop
          case assign =>
            intro l x W K hK
            gi_wp2
            exact hK
          case body =>
            rintro l pre ⟨j, b⟩ W ⟨⟨hpre, hc, hf⟩, hB⟩ hlen
            clear hk0 hk1 hbk hz3 hB0 hz9 hb9 hO9 Hst
            obtain ⟨m, hm⟩ : ∃ m, pre.length + m + 1 = nb := ⟨nb - 1 - pre.length, by omega⟩
            have hlm : pre.length = nb - 1 - m := by omega
            rw [show (nb : Int) - (pre.length : Int) = (m : Int) + 1 by omega] at hc
            have hbad : ∀ k, pre ++ [(j, b)] = upTo (bitAt X) k → (j, b) = (m, X / 2 ^ m % 2) := by
              intro k hk
              have hkl := congrArg List.length hk
              rw [upTo_length] at hkl
              simp at hkl
              subst hkl
              rw [upTo_succ] at hk
              have := List.append_inj_right' hk rfl
              simp only [List.cons.injEq, and_true, bitAt, Hnb.out] at this
              rw [show nb - 1 - pre.length = m by omega] at this
              exact this
            have hgood : (j, b) = (m, X / 2 ^ m % 2) → pre ++ [(j, b)] = upTo (bitAt X) (pre ++ [(j, b)]).length := by
              intro he
              rw [List.length_append, List.length_singleton, upTo_succ, ← hpre, he, bitAt, Hnb.out, show nb - 1 - pre.length = m by omega]
            have hr0 := (hB.block _ zF).trans hF3.r
            have hr1 := blk_cell hr0 0
            have hr2 := blk_free hr0 0
            have hm1 := blk_cell ((hB.block _ zm).trans hF3.m) 0
            have hb1 := blk_cell ((hB.block _ zb).trans hF3.b) 0
            have hx1 := blk_cell ((hB.block _ zx).trans hF3.x) 0
            have h15 := blk_cell ((hB.block _ z15).trans hb3) 0
            simp only [List.getElem?_toArray, List.getElem?_cons_zero] at hr1 hm1 hb1 hx1 h15
            have hB1 : Below w3.heap.size w3 (W.setCell ⟨w3.heap.size, 0, none⟩ (.int .i64 (m : Int))) := hB.setCell (p := ⟨w3.heap.size, 0, none⟩) (Nat.le_refl _) _
            have hBw : Below w.heap.size w (W.setCell ⟨w3.heap.size, 0, none⟩ (.int .i64 (m : Int))) := hF3.below.trans (hB1.mono (Nat.le_of_lt zm))
            have hbit := refBit_any _ A4 c4 X (m : Int) _ (rx3.below hB1 (fun b hb => hb)) (by omega)
            rw [show bitOf X (m : Int) = X / 2 ^ m % 2 by simp [bitOf, show ¬ (m : Int) < 0 by omega]] at hbit
            obtain ⟨bb, hbb⟩ : ∃ bb, X / 2 ^ m % 2 = bb := ⟨_, rfl⟩
            rw [hbb] at hbit hbad hgood
            rw [Hxs.out] at hbit
            have Hbit := Lib.hid hbit
            have Hbad := Lib.hid hbad
            have Hgood := Lib.hid hgood
            have Hm := Lib.hid hm
            have Hpre := Lib.hid hpre
            have hmb : m < 1280 := by omega
            have hr3 := blk_cell ((hB1.block _ zF).trans hF3.r) 0
            simp only [List.getElem?_toArray, List.getElem?_cons_zero] at hr3
            have Hr3 := Lib.hid hr3
            clear hbit hbad hgood hm hpre hlm hbb hr0 hlen hb3 rx3 ra3 hr3
            have hBr : ∀ W', Below (w.heap.size + 1) (W.setCell ⟨w3.heap.size, 0, none⟩ (.int .i64 (m : Int))) W' → Below w.heap.size w W' := fun W' h => hBw.trans (h.mono (by omega))
            by_cases hj : j = m
            · subst hj
              by_cases hb : b = bb
              · subst hb
                by_cases hmo : (nb : Int) - (j : Int) = most
                · have t1 : ((nb : Int) - (j : Int) == most) = true := by simp [hmo]
                  clear hmo Hbad Hgood
                  gi_wp2
                  refine ⟨trivial, (callsIn_wide.2 Hbit.out).mono ?_⟩
                  rintro e w' ⟨rfl, rfl⟩
                  gi_wp2
                  exact ⟨(KeepsOthers.setCell _ _ _).trans (KeepsOthers.setCell _ _ _), ⟨rfl, fun _ _ => World.cell?_setCell_same' _ _ _ (by rw [Hr3.out]; rfl)⟩, hBr _ ((Below.refl _ _).setCell (p := ⟨w.heap.size + 1, 0, none⟩) (Nat.le_refl _) _)⟩
                · have t1 : ((nb : Int) - (j : Int) == most) = false := by simp [hmo]
                  clear hmo Hbad
                  gi_wp2
                  refine ⟨trivial, (callsIn_wide.2 Hbit.out).mono ?_⟩
                  rintro e w' ⟨rfl, rfl⟩
                  gi_wp2
                  refine ⟨KeepsOthers.setCell _ _ _, (Below.refl _ W).setCell (p := ⟨w3.heap.size, 0, none⟩) (Nat.le_refl _) _, ⟨Hgood.out (by simp), ?_, ?_⟩, hB1⟩
                  · rw [World.cell?_setCell_same' _ _ _ (by rw [hc]; rfl), show (nb : Int) - ((pre ++ [(j, b)]).length : Int) = (j : Int) by have := Hm.out; simp; omega]
                  · rw [World.frozen?_setCell]; exact hf
              · have t1 : ((b : Int) != (bb : Int)) = true := by simp; omega
                have t2 : (b != bb) = true := by simpa using hb
                clear Hgood
                gi_wp2
                refine ⟨trivial, (callsIn_wide.2 Hbit.out).mono ?_⟩
                rintro e w' ⟨rfl, rfl⟩
                gi_wp2
                exact ⟨(KeepsOthers.setCell _ _ _).trans (KeepsOthers.setCell _ _ _), ⟨rfl, fun k hk => absurd (Hbad.out k hk) (by simp; omega)⟩, hBr _ ((Below.refl _ _).setCell (p := ⟨w.heap.size + 1, 0, none⟩) (Nat.le_refl _) _)⟩
            · have t1 : ((j : Int) != (m : Int)) = true := by simp; omega
              have t2 : (j != m) = true := by simpa using hj
              clear Hbit Hgood
              gi_wp2
              refine ⟨trivial, ?_⟩
              gi_wp2
              exact ⟨(KeepsOthers.setCell _ _ _).trans (KeepsOthers.setCell _ _ _), ⟨rfl, fun k hk => absurd (Hbad.out k hk) (by simp; omega)⟩, hBr _ ((Below.refl _ _).setCell (p := ⟨w.heap.size + 1, 0, none⟩) (Nat.le_refl _) _)⟩
          case done =>
            rintro D ys W hD rfl ⟨⟨_, hc, hf⟩, hB⟩ hK
            rw [upTo_length, show (nb : Int) - (nb : Int) = 0 by omega] at hc
            have hr0 := (hB.block _ zF).trans hF3.r
            have hr1 := blk_cell hr0 0
            have hr2 := blk_free hr0 0
            have hb1 := blk_cell ((hB.block _ zb).trans hF3.b) 0
            have hx1 := blk_cell ((hB.block _ zx).trans hF3.x) 0
            have h15 := blk_cell ((hB.block _ z15).trans hb3) 0
            simp only [List.getElem?_toArray, List.getElem?_cons_zero] at hr1 hb1 hx1 h15
            have hBw : Below w.heap.size w W := hF3.below.trans (hB.mono (Nat.le_of_lt zm))
            have k1 := bits_any _ A3 c3 a _ (RN.drew (ra3.below hB (fun b hb => hb)))
            have k2 := bit_any _ A3 c3 a i _ (RN.drew (ra3.below hB (fun b hb => hb))) hi1
            have k3 := refBit_any _ A4 c4 X i _ (RN.drew (rx3.below hB (fun b hb => hb))) hi1
            rw [HX.out, Hnb.out] at k1
            rw [HX.out] at k2
            rw [Hxs.out] at k3
            have K1 := Lib.hid k1
            have K2 := Lib.hid k2
            have K3 := Lib.hid k3
            clear k1 k2 k3 hr0 hb3 ra3 rx3 hF3 hk0 hk1 hbk hz3 hB0 hz9 hb9 hO9 Hst
            gi_wp2
            refine wpIn_wide.2 ?_
            go_still_tail 20, (by kernel_rfl)
            still_call (K1.out.mono fun e w' h => ⟨h.1, h.2.symm⟩)
            repeat still_step
            still_call (K2.out.mono fun e w' h => ⟨h.1, h.2.symm⟩)
            repeat still_step
            still_call (K3.out.mono fun e w' h => ⟨h.1, h.2.symm⟩)
            repeat still_step
            refine wpStill_nil ?_
            change wpList _ _ _ _ _ W.drew
            clear K1 K2 K3
            go_wp2
            gi_wp2
            have hK' : (W.setCell ⟨w.heap.size + 1, 0, none⟩ (.bool true)).drew.heap[D]? = some (.deferred (some [])) := (KeepsOthers.setCell W ⟨w.heap.size + 1, 0, none⟩ (.bool true)).same D _ hK rfl
            have hc4 : (W.setCell ⟨w.heap.size + 1, 0, none⟩ (.bool true)).drew.cell? ⟨w.heap.size + 1, 0, none⟩ = some (.bool true) := World.cell?_setCell_same' W ⟨w.heap.size + 1, 0, none⟩ (.bool true) (by rw [hr1]; rfl)
            have hc5 := cell_kept hc4 (grownBy_putObj' _ D (.deferred none)) (fun r e => by cases e; exact ⟨_, hK', rfl⟩)
            refine ⟨by simp, .inl ⟨_, _, rfl, run_takeDeferred hK', .bool true, ?_, rfl, (below_drewN (hBw.setCell (p := ⟨w.heap.size + 1, 0, none⟩) (by simp) _) 1).trans (belowK_b (w := w) (Nat.le_refl _) _ D _ _ (by simp at hD; omega) hK' rfl rfl)⟩⟩
            simp [results, Try.f4, go_sem, hc5]
          case stop =>
            rintro D c pre W hD ⟨k, _, _, hk⟩ ⟨⟨rfl, hok⟩, hB⟩ hK
            have hc1 := hok k hk
            clear hok hk
            gi_wp2
            have hc5 := cell_kept hc1 (grownBy_putObj' _ D (.deferred none)) (fun r e => by cases e; exact ⟨_, hK, rfl⟩)
            refine ⟨by simp, .inl ⟨_, _, rfl, run_takeDeferred hK, .bool true, ?_, rfl, hB.trans (belowK_b (w := w) (Nat.le_refl _) _ D _ _ (by simp at hD; omega) hK rfl rfl)⟩⟩
            simp [results, Try.f4, go_sem, hc5]
end Go.Proofs.Ytnniellajmjmnaa
