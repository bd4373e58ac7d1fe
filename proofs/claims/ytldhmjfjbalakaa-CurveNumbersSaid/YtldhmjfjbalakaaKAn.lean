/- zfield.New: a field made ready. curve.of: a curve's numbers. -/
import Derived.Test.YtldhmjfjbalakaaKAk
import Derived.Test.YtldhmjfjbalakaaKAm
import Derived.Deep.DeepCutAuto
import Derived.Sort.AtCall
import Derived.Deep.RegionHeld3
namespace Go.Proofs.Ytldhmjfjbalakaa
open Go.RowKit

def z6 : List Nat := [0, 0, 0, 0, 0, 0]
theorem fc_m (n inv : Nat) (a ol rl : List Nat) (ha : a.length ≤ 6) : (fcells n inv z6 ol rl).take 1 ++ nts a ++ (fcells n inv z6 ol rl).drop (1 + a.length) = fcells n inv (a ++ List.replicate (6 - a.length) 0) ol rl := by
  match a, ha with
  | [], _ | [_], _ | [_, _], _ | [_, _, _], _ | [_, _, _, _], _ | [_, _, _, _, _], _ | [_, _, _, _, _, _], _ => rfl
theorem fc_o (n inv : Nat) (a ml rl : List Nat) (hm : ml.length = 6) (ha : a.length ≤ 6) : (fcells n inv ml z6 rl).take 8 ++ nts a ++ (fcells n inv ml z6 rl).drop (8 + a.length) = fcells n inv ml (a ++ List.replicate (6 - a.length) 0) rl := by
  obtain ⟨_, _, _, _, _, _, rfl⟩ := six hm
  match a, ha with
  | [], _ | [_], _ | [_, _], _ | [_, _, _], _ | [_, _, _, _], _ | [_, _, _, _, _], _ | [_, _, _, _, _, _], _ => rfl
theorem fc_r (n inv : Nat) (a ml ol : List Nat) (hm : ml.length = 6) (ho : ol.length = 6) (ha : a.length ≤ 6) : (fcells n inv ml ol z6).take 14 ++ nts a ++ (fcells n inv ml ol z6).drop (14 + a.length) = fcells n inv ml ol (a ++ List.replicate (6 - a.length) 0) := by
  obtain ⟨_, _, _, _, _, _, rfl⟩ := six hm
  obtain ⟨_, _, _, _, _, _, rfl⟩ := six ho
  match a, ha with
  | [], _ | [_], _ | [_, _], _ | [_, _, _], _ | [_, _, _, _], _ | [_, _, _, _, _], _ | [_, _, _, _, _, _], _ => rfl
theorem fc_inv (n inv : Nat) (ml ol rl : List Nat) (hm : ml.length = 6) : (fcells n 0 ml ol rl).toArray.setIfInBounds 7 (.int .u64 (inv : Int)) = (fcells n inv ml ol rl).toArray := by
  obtain ⟨_, _, _, _, _, _, rfl⟩ := six hm
  simp [fcells, nts]
theorem fc_len (n inv : Nat) (ml ol rl : List Nat) (hm : ml.length = 6) (ho : ol.length = 6) (hr : rl.length = 6) : (fcells n inv ml ol rl).length = 20 := by simp [fcells, nts, hm, ho, hr]
theorem pad_six {a : List Nat} (h : a.length ≤ 6) : (a ++ List.replicate (6 - a.length) 0).length = 6 := by simp; omega
theorem pad_lim {a : List Nat} (h : ∀ x ∈ a, x < 18446744073709551616) : ∀ x ∈ a ++ List.replicate (6 - a.length) 0, x < 18446744073709551616 := fun x hx => by
  rcases List.mem_append.1 hx with h1 | h1
  · exact h x h1
  · have := (List.mem_replicate.1 h1).2; omega

set_option maxRecDepth 100000 in
set_option maxHeartbeats 8000000 in
theorem znew_any (P : Nat → Prop) (A : Option Addr) (c : Nat) (a : List Nat) (M : Nat) (w : World) (h : RN w P A c a) (hM : val 18446744073709551616 a = M) (h1 : 1 < M) (hodd : M % 2 = 1) (hl : a.length < 40000) (hl6 : (digs 18446744073709551616 M).length ≤ 6) :
    Calls Try.prog 69 #[.slice A a.length c] w fun e w' => ∃ g inv ml ol rl, e = .returned (.pointer (some ⟨g, 0, none⟩)) ∧ w.heap.size ≤ g ∧ FR w' g (digs 18446744073709551616 M).length inv M ml ol rl ∧ Below w.heap.size w w' := by
  obtain ⟨i0, hi, hz0, hz1, hz2⟩ := info_parts info64
  have hn1 := norm_any P A c a w h
  have hln := digs_length_le (B := 18446744073709551616) (by omega) h.2.1
  rw [hM] at hn1 hln
  have hvd := val_digs (B := 18446744073709551616) (by omega) M
  have hlim := digs_lt (B := 18446744073709551616) (by omega) M
  have hm0 := dg_zero_mod hlim (by omega)
  rw [hvd] at hm0
  obtain ⟨ml, hml⟩ : ∃ ml, digs 18446744073709551616 M = ml := ⟨_, rfl⟩
  rw [hml] at hn1 hln hvd hm0 hlim hl6 ⊢
  obtain ⟨m0, hm0'⟩ : ∃ m0, dg ml 0 = m0 := ⟨_, rfl⟩
  rw [hm0'] at hm0
  have hm2 : (m0 : Int) % 2 = 1 := by omega
  obtain ⟨n, hn⟩ : ∃ n, ml.length = n := ⟨_, rfl⟩
  have hn0 : 0 < n := by
    rcases Nat.eq_zero_or_pos n with h0 | h0
    · have : ml = [] := List.eq_nil_of_length_eq_zero (hn.trans h0)
      rw [this] at hvd
      simp at hvd
      omega
    · exact h0
  have hn6 : n ≤ 6 := by omega
  have kn : (0 : Int) < (n : Int) := by omega
  rw [hn] at hn1 ⊢
  have Hn1 := Lib.hid hn1
  have Hml := Lib.hid hml
  have Hn := Lib.hid hn
  have Hvd := Lib.hid hvd
  have Hm0 := Lib.hid hm0
  have Hm2 := Lib.hid hm2
  have Hlim := Lib.hid hlim
  clear hn1 hln hml hn hvd hm0 hm2 hl hodd hM hlim hl6
  go_enter Try.func69, Try.ntmps69
  go_wp2_with fail
  refine Hn1.out.mono ?_
  rintro e w1 ⟨A1, c1, rfl, hO1, hB1⟩
  have r1 := hO1.rn
  have hG0 := heap_alloc_new w1 (.cells (fcells n 0 z6 z6 z6).toArray 137)
  have hBG : Below w1.heap.size w1 (w1.alloc (.cells (fcells n 0 z6 z6 z6).toArray 137)) := (Below.refl _ w1).alloc (Nat.le_refl _) _
  have r1a := r1.below hBG (fun b hb => hb.2)
  have hcpy := copy_into (dT := 22) (sT := 23) Try.underlying22 (w1.alloc (.cells (fcells n 0 z6 z6 z6).toArray 137)) w1.heap.size 1 6 6 (fcells n 0 z6 z6 z6) 137 hG0 _ A1 c1 ml r1a (by rw [Hn.out]; exact hn6) (by rw [fc_len _ _ _ _ _ rfl rfl rfl, Hn.out]; omega)
  rw [fc_m _ _ _ _ _ (by rw [Hn.out]; exact hn6), Hn.out] at hcpy
  obtain ⟨X, hcp, hG1, hX2, hX3, hX4⟩ := hcpy
  have hBX : Below w1.heap.size w1 X := hX2 _ w1 (Nat.le_refl _) hBG
  have r1X := r1.below hBX (fun b hb => hb.2)
  have hfc : (fcells n 0 z6 z6 z6).toArray = #[.int .i64 (n : Int), .int .u64 0, .int .u64 0, .int .u64 0, .int .u64 0, .int .u64 0, .int .u64 0, .int .u64 0, .int .u64 0, .int .u64 0, .int .u64 0, .int .u64 0, .int .u64 0, .int .u64 0, .int .u64 0, .int .u64 0, .int .u64 0, .int .u64 0, .int .u64 0, .int .u64 0] := rfl
  rw [hfc] at hcp
  have hmp6 := pad_six (a := ml) (by rw [Hn.out]; exact hn6)
  have hmpl := pad_lim Hlim.out
  have hmpv : val 18446744073709551616 (ml ++ List.replicate (6 - ml.length) 0) = M := by rw [val_pad]; exact Hvd.out
  have hmpt : val 18446744073709551616 ((ml ++ List.replicate (6 - ml.length) 0).take n) = M := by rw [← Hn.out, List.take_left']; exact Hvd.out; rfl
  rw [Hn.out] at hmp6 hmpl hmpv hmpt
  generalize ml ++ List.replicate (6 - n) 0 = mp at *
  have hGX : w1.heap.size < X.heap.size := blk_lt hG1
  obtain ⟨ad, rfl, hb1, q1⟩ := r1X.at_ (i := 0) (by rw [Hn.out]; exact hn0)
  rw [hm0'] at q1
  have q1b : X.cell? ad = some (.int .u64 (m0 : Int)) := by simpa [Addr.add] using q1
  have Hmp6 := Lib.hid hmp6
  have Hmpl := Lib.hid hmpl
  have Hmpv := Lib.hid hmpv
  have Hmpt := Lib.hid hmpt
  clear hfc hBG hG0 r1a hX2 hX3 hX4 q1 hmp6 hmpl hmpv hmpt
  go_wp2_with fail
  go_loopw [4, 23] (fun iv jv wr => ∃ (y : Int) (r : Nat), jv = .int .i64 (r : Int) ∧ iv = .int .u64 y ∧ r ≤ 6 ∧ NewtAt (m0 : Int) r y ∧ X = wr) (fun _ jv _ => 6 - (intOf jv).toNat)
  case atStart => exact ⟨1, 0, rfl, rfl, by omega, NewtAt.zero Hm2.out, rfl⟩
  case round =>
    obtain ⟨y, r, rfl, rfl, hr, hN, rfl⟩ := hrel
    by_cases hlt : r < 6
    · have hN' := hN.step hlt
      have hw1 : IntKind.u64.wrap ((m0 : Int) * y) = (m0 : Int) * y % 18446744073709551616 := IntKind.wrap_u64 _
      have hw2 : IntKind.u64.wrap (2 - (m0 : Int) * y % 18446744073709551616) = (2 - (m0 : Int) * y % 18446744073709551616) % 18446744073709551616 := IntKind.wrap_u64 _
      have hw3 : IntKind.u64.wrap (y * ((2 - (m0 : Int) * y % 18446744073709551616) % 18446744073709551616)) = y * ((2 - (m0 : Int) * y % 18446744073709551616) % 18446744073709551616) % 18446744073709551616 := IntKind.wrap_u64 _
      generalize (m0 : Int) * y % 18446744073709551616 = x1 at *
      generalize (2 - x1) % 18446744073709551616 = x2 at *
      generalize y * x2 % 18446744073709551616 = x3 at *
      have HN := Lib.hid hN'
      clear hN hN'
      go_wp2
      go_roundw
      case rel => exact ⟨x3, r + 1, by go_num, by first | rfl | simp [hw1, hw2, hw3], by omega, HN.out, by first | rfl | trivial⟩
      case measure => simp [intOf]; omega
    · obtain rfl : r = 6 := by omega
      obtain ⟨t, ht⟩ := hN.fin
      have hinv := neg_inv Hm0.out ht
      have h0 : 0 ≤ (-y) % 18446744073709551616 := Int.emod_nonneg _ (by decide)
      have hlt2 : (-y) % 18446744073709551616 < 18446744073709551616 := Int.emod_lt_of_pos _ (by decide)
      obtain ⟨inv, hv⟩ : ∃ inv : Nat, (-y) % 18446744073709551616 = (inv : Int) := ⟨_, (Int.toNat_of_nonneg h0).symm⟩
      have hneg : IntKind.u64.wrap (-y) = (inv : Int) := by rw [IntKind.wrap_u64]; exact hv
      rw [hv, Int.toNat_natCast] at hinv
      rw [hv] at hlt2
      have Hinv := Lib.hid hinv
      have Hlt2 := Lib.hid hlt2
      have hmk := run_make_row' (P := Try.prog) 23 72 (.int .u64 0) 8 Try.underlying23 info64 rfl .i64 .i64 n (by omega) (by omega)
      clear ht hinv h0 hv hN hlt hlt2
      have g7 := blk_cell hG1 7
      rw [show (fcells n 0 mp z6 z6).toArray[7]? = some (.int .u64 0) by obtain ⟨_, _, _, _, _, _, e⟩ := six Hmp6.out; rw [e]; rfl] at g7
      have f7 := blk_free hG1 7
      have hG2 := blk_set hG1 7 (.int .u64 (inv : Int))
      rw [fc_inv _ _ _ _ _ Hmp6.out] at hG2
      have hBY : Below w1.heap.size w1 (X.setCell ⟨w1.heap.size, 7, none⟩ (.int .u64 (inv : Int))) := hBX.setCell (p := ⟨w1.heap.size, 7, none⟩) (Nat.le_refl _) _
      have hzY : (X.setCell ⟨w1.heap.size, 7, none⟩ (.int .u64 (inv : Int))).heap.size = X.heap.size := by simp [World.setCell]
      have r1Y := r1.below hBY (fun b hb => hb.2)
      have n0 : (X.setCell ⟨w1.heap.size, 7, none⟩ (.int .u64 (inv : Int))).cell? ⟨w1.heap.size, 0, none⟩ = some (.int .i64 (n : Int)) := by rw [blk_cell hG2 0]; rfl
      go_upto_region 10 with fail
      generalize X.setCell ⟨w1.heap.size, 7, none⟩ (.int .u64 (inv : Int)) = Y at *
      have hGY : w1.heap.size < Y.heap.size := by omega
      clear hzY hG1 r1X q1b g7 f7 hBX hcp hneg
      have hbz := Blk.made Y n
      have hown : (Y.alloc (.cells (madeCells #[.int .u64 0] n) 72)).ownsRow Y.heap.size 72 1 (.slice (some ⟨Y.heap.size, 0, none⟩) n n) n (nts (List.replicate n 0)) :=
        own_of_blk (o := List.replicate n 0) hbz (Nat.le_refl _) (by simp) (by unfold maxLen; omega) (Nat.le_refl _) (by simp) (by simp)
      have hfr : RS ((Y.alloc (.cells (madeCells #[.int .u64 0] n) 72)).alloc (.cells #[.int .u64 1] 72)) (fun _ => True) 1 (some ⟨Y.heap.size + 1, 0, none⟩) 1 1 (nts [1]) := by
        have := RS.fresh (w := Y.alloc (.cells (madeCells #[.int .u64 0] n) 72)) (P := fun _ => True) #[.int .u64 1] 72 1 1 rfl (by unfold maxLen; omega) trivial
        rw [World.size_alloc] at this
        exact this
      have hown' := hown.alloc (.cells #[.int .u64 1] 72)
      have hBZ : Below Y.heap.size Y ((Y.alloc (.cells (madeCells #[.int .u64 0] n) 72)).alloc (.cells #[.int .u64 1] 72)) := ((Below.refl _ Y).alloc (Nat.le_refl _) _).alloc (by simp) _
      have hzZ : ((Y.alloc (.cells (madeCells #[.int .u64 0] n) 72)).alloc (.cells #[.int .u64 1] 72)).heap.size = Y.heap.size + 2 := by simp
      clear hbz hown
      go_wp2_with (at_builtin; generalize (Y.alloc (.cells (madeCells #[.int .u64 0] n) 72)).alloc (.cells #[.int .u64 1] 72) = W at *; refine wpList_append_rs _ rfl _ _ 23 rfl Y.heap.size 72 i0 (.int .u64 0) 1 8 Try.underlying23 hi hz0 hz1 hz2 rfl (by decide) (.slice (some ⟨Y.heap.size, 0, none⟩) n n) n _ rfl hown' (fun _ => True) _ 1 1 (nts [1]) rfl hfr (oneCell_nts [1]) (n + 1) rfl (by unfold maxLen; omega) (by omega) (by omega) ?_; intro A2 c2 w2 hown2 hg2 hor2)
      have hzw2 := hg2.size
      have hBw2 : Below Y.heap.size Y w2 := hBZ.grown hg2 (by omega) (fun k hk => by simp [Value.ownBlock] at hk; omega)
      have hs2 := hBw2.size
      have hG3 := (hBw2.block w1.heap.size hGY).trans hG2
      have hLr : Lim (List.replicate n 0 ++ [1]) := ⟨fun x hx => by
        rcases List.mem_append.1 hx with h | h
        · simp at h; omega
        · simp at h; omega, by simp; omega⟩
      have hlr : (List.replicate n 0 ++ [1]).length = n + 1 := by simp
      have hOr : OB w2 Y.heap.size A2 c2 (List.replicate n 0 ++ [1]) := OB.of_own (by rw [hlr]; simpa [nts] using hown2) hLr
      have hvr := val_pow n
      generalize List.replicate n 0 ++ [1] = rlst at *
      have hw1 := hB1.size
      have hY1 := hBY.size
      have hBw := hB1.trans ((hBY.trans (hBw2.mono hY1)).mono hw1)
      have r2 := r1Y.below hBw2 (fun b hb => by have := hb.2; omega)
      have hq1 := quo_any _ _ A2 (some ad) c2 c1 rlst ml w2 hOr.rn r2 (fun b hb => hb.2) (fun b hb => by have := hb.2; omega) (by omega) (by have := Hn.out; omega) (by rw [Hvd.out]; omega)
      rw [hvr, Hvd.out, hlr, Hn.out] at hq1
      obtain ⟨v1, hv1⟩ : ∃ v1, 18446744073709551616 ^ n % M = v1 := ⟨_, rfl⟩
      rw [hv1] at hq1
      have hv1M : v1 < M := by rw [← hv1]; exact Nat.mod_lt _ (by omega)
      have hl1 : (digs 18446744073709551616 v1).length ≤ n := by
        have := digs_length_mono (B := 18446744073709551616) (by omega) (Nat.le_of_lt hv1M)
        rw [Hml.out, Hn.out] at this
        exact this
      have Hq1 := Lib.hid hq1
      have Hv1 := Lib.hid hv1
      clear hq1 hown2 hg2 hor2 hfr hown' hG2 hBZ hOr hvr hlr hLr hmk hv1 n0 hBw2
      refine Hq1.out.mono ?_
      rintro e w3 ⟨A3, c3, A4, c4, rfl, _, hO4, hB3⟩
      have hG4 := (hB3.block w1.heap.size (blk_lt hG3)).trans hG3
      have hs3 := hB3.size
      have hm1 := mul_any _ _ A4 A4 c4 c4 _ _ w3 hO4.rn hO4.rn (fun b hb => hb.2) (fun b hb => hb.2) (by omega) (by omega)
      rw [val_digs (by omega)] at hm1
      have Hm1 := Lib.hid hm1
      clear hm1
      go_wp2_with fail
      refine Hm1.out.mono ?_
      rintro e w4 ⟨A5, c5, rfl, hO5, hB4⟩
      have hs4 := hB4.size
      have hB24 := hB3.trans (hB4.mono hs3)
      have r4 := r2.below hB24 fun b hb => by have := hb.2; omega
      have hl2 : (digs 18446744073709551616 (v1 * v1)).length < 90000 := by
        have := dig_mul (Nat.le_of_lt hv1M) (Nat.le_of_lt hv1M) (show (digs 18446744073709551616 M).length ≤ n by rw [Hml.out, Hn.out]; exact Nat.le_refl _)
        omega
      have hq2 := quo_any _ _ A5 (some ad) c5 c1 _ ml w4 hO5.rn r4 (fun b hb => hb.2) (fun b hb => by have := hb.2; omega) hl2 (by have := Hn.out; omega) (by rw [Hvd.out]; omega)
      rw [val_digs (by omega), Hvd.out, Hn.out] at hq2
      obtain ⟨v2, hv2⟩ : ∃ v2, v1 * v1 % M = v2 := ⟨_, rfl⟩
      rw [hv2] at hq2
      have hv2M : v2 < M := by rw [← hv2]; exact Nat.mod_lt _ (by omega)
      have hl3 : (digs 18446744073709551616 v2).length ≤ n := by
        have := digs_length_mono (B := 18446744073709551616) (by omega) (Nat.le_of_lt hv2M)
        rw [Hml.out, Hn.out] at this
        exact this
      have Hq2 := Lib.hid hq2
      have Hv2 := Lib.hid hv2
      clear hq2 hv2 hl2
      go_wp2_with fail
      refine Hq2.out.mono ?_
      rintro e w5 ⟨A6, c6, A7, c7, rfl, _, hO7, hB5⟩
      have hs5 := hB5.size
      have hB35 := hB4.trans (hB5.mono hs4)
      have hG5 := (hB35.block w1.heap.size (blk_lt hG4)).trans hG4
      have hO4' := hO4.below hB35 (Nat.le_refl _)
      have hBw5 := hBw.trans ((hB3.trans (hB35.mono hs3)).mono (by omega))
      obtain ⟨V1, hcp1, hGa, hVa2, hVa3, hVa4⟩ := copy_into (dT := 22) (sT := 23) Try.underlying22 w5 w1.heap.size 8 6 6 (fcells n inv mp z6 z6) 137 hG5 _ A4 c4 _ hO4'.rn (by omega) (by rw [fc_len _ _ _ _ _ Hmp6.out rfl rfl]; omega)
      rw [fc_o _ _ _ _ _ Hmp6.out (by omega)] at hGa
      have hBV1 := hVa2 w.heap.size w (by omega) hBw5
      have r7 : RN V1 (In w4.heap.size w5.heap.size) A7 c7 (digs 18446744073709551616 v2) := hO7.rn.keep fun q hq => World.cell?_of_block (hVa3 q.block (by have := hq.1; omega))
      have ho6 := pad_six (a := digs 18446744073709551616 v1) (by omega)
      have hol := pad_lim (digs_lt (B := 18446744073709551616) (by omega) v1)
      have hov : val 18446744073709551616 (digs 18446744073709551616 v1 ++ List.replicate (6 - (digs 18446744073709551616 v1).length) 0) = v1 := by rw [val_pad]; exact val_digs (by omega) v1
      generalize digs 18446744073709551616 v1 ++ List.replicate (6 - (digs 18446744073709551616 v1).length) 0 = op at *
      obtain ⟨V2, hcp2, hGb, hVb2, hVb3, hVb4⟩ := copy_into (dT := 22) (sT := 23) Try.underlying22 V1 w1.heap.size 14 6 6 (fcells n inv mp op z6) 137 hGa _ A7 c7 _ r7 (by omega) (by rw [fc_len _ _ _ _ _ Hmp6.out ho6 rfl]; omega)
      rw [fc_r _ _ _ _ _ Hmp6.out ho6 (by omega)] at hGb
      have hBV2 := hVb2 w.heap.size w (by omega) hBV1
      have hr6 := pad_six (a := digs 18446744073709551616 v2) (by omega)
      have hrl := pad_lim (digs_lt (B := 18446744073709551616) (by omega) v2)
      have hrv : val 18446744073709551616 (digs 18446744073709551616 v2 ++ List.replicate (6 - (digs 18446744073709551616 v2).length) 0) = v2 := by rw [val_pad]; exact val_digs (by omega) v2
      generalize digs 18446744073709551616 v2 ++ List.replicate (6 - (digs 18446744073709551616 v2).length) 0 = rp at *
      have hfin : FR V2 w1.heap.size n inv M mp op rp := ⟨⟨⟨hGb, Hmp6.out, ho6, hr6⟩, Hmpl.out, Hmpv.out, Hmpt.out, hn0, hn6, h1, by have := Hlt2.out; omega, Hinv.out⟩, ⟨ho6, hol, by rw [hov]; exact hv1M⟩, by rw [hov]; exact Hv1.out.symm, ⟨hr6, hrl, by rw [hrv]; exact hv2M⟩, by rw [hrv, ← Hv2.out, ← Hv1.out, ← Nat.mul_mod]⟩
      have Hfin := Lib.hid hfin
      have HB := Lib.hid hBV2
      clear hfin hBV2 hrv hrl hr6 hov hol ho6 hGa hGb hVa2 hVa3 hVb2 hVb3 hG5 r7 hBV1 hO4' hBw5
      go_wp2
      go_ret
      exact ⟨_, inv, mp, op, rp, rfl, hw1, Hfin.out, HB.out⟩
end Go.Proofs.Ytldhmjfjbalakaa

namespace Go.Proofs.Ytldhmjfjbalakaa
open Go.RowKit

def kcells (size : Nat) (sp sn sb sx sy fp : Value) (tl fl : List Nat) : List Value := [Value.int .i64 (size : Int), sp, sn, sb, sx, sy, fp] ++ nts tl ++ nts fl
/-- A curve's numbers, in a record k. -/
structure Num (w : World) (P : Nat → Prop) (k g size n inv M bb : Nat) (pl nl bl xl yl ml ol rl tl fl : List Nat) (Ap An Ab Ax Ay : Option Addr) (cp cn cb cx cy : Nat) : Prop where
  blk : w.heap[k]? = some (.cells (kcells size (.slice Ap pl.length cp) (.slice An nl.length cn) (.slice Ab bl.length cb) (.slice Ax xl.length cx) (.slice Ay yl.length cy) (.pointer (some ⟨g, 0, none⟩)) tl fl).toArray 105 (0, 0))
  p : RN w P Ap cp pl
  nn : RN w P An cn nl
  b : RN w P Ab cb bl
  x : RN w P Ax cx xl
  y : RN w P Ay cy yl
  fr : FR w g n inv M ml ol rl
  pv : val 18446744073709551616 pl = M
  three : FE M n tl 3
  fb : FE M n fl bb

theorem set6 {w : World} {g i : Nat} {v a b c d e f : Value} (j : Nat) (h1 : i < j) (_h2 : i < 100) (h : w.cell? ⟨g, i, none⟩ = some v) :
    ((((((w.setCell ⟨g, j, none⟩ a).setCell ⟨g, j + 1, none⟩ b).setCell ⟨g, j + 2, none⟩ c).setCell ⟨g, j + 3, none⟩ d).setCell ⟨g, j + 4, none⟩ e).setCell ⟨g, j + 5, none⟩ f).cell? ⟨g, i, none⟩ = some v := by
  have key : ∀ (w : World) (k : Nat) (u : Value), i < k → (w.setCell ⟨g, k, none⟩ u).cell? ⟨g, i, none⟩ = w.cell? ⟨g, i, none⟩ := fun w k u hk => by
    have hne : k ≠ i := by omega
    simp [go_sem, hne]
  rw [key _ _ _ (by omega), key _ _ _ (by omega), key _ _ _ (by omega), key _ _ _ (by omega), key _ _ _ (by omega), key _ _ _ (by omega)]
  exact h
theorem kcells_zero {w : World} {k size : Nat} {sp sn sb sx sy fp : Value} {ty : TypeId} (h : w.heap[k]? = some (.cells (kcells size sp sn sb sx sy fp z6 z6).toArray ty (0, 0))) : ∀ i, 7 ≤ i → i < 19 → w.cell? ⟨k, i, none⟩ = some (.int .u64 0) ∧ w.frozen? ⟨k, i, none⟩ = false := by
  intro i h1 h2
  refine ⟨?_, blk_free h i⟩
  rw [blk_cell h i]
  obtain ⟨j, rfl⟩ : ∃ j, i = j + 7 := ⟨i - 7, by omega⟩
  match j, h2 with
  | 0, _ | 1, _ | 2, _ | 3, _ | 4, _ | 5, _ | 6, _ | 7, _ | 8, _ | 9, _ | 10, _ | 11, _ => rfl
  | j + 12, h2 => omega
/-- Six cells amid a record's are laid. -/
theorem six_mid {w : World} {g j : Nat} {ty : TypeId} {x0 x1 x2 x3 x4 x5 a b c d e f : Value} (pre post : List Value) (hj : pre.length = j) (h : w.heap[g]? = some (.cells (pre ++ x0 :: x1 :: x2 :: x3 :: x4 :: x5 :: post).toArray ty (0, 0))) :
    ((((((w.setCell ⟨g, j, none⟩ a).setCell ⟨g, j + 1, none⟩ b).setCell ⟨g, j + 2, none⟩ c).setCell ⟨g, j + 3, none⟩ d).setCell ⟨g, j + 4, none⟩ e).setCell ⟨g, j + 5, none⟩ f).heap[g]? = some (.cells (pre ++ a :: b :: c :: d :: e :: f :: post).toArray ty (0, 0)) := by
  subst hj
  rw [blk_set (blk_set (blk_set (blk_set (blk_set (blk_set h pre.length a) (pre.length + 1) b) (pre.length + 2) c) (pre.length + 3) d) (pre.length + 4) e) (pre.length + 5) f]
  simp only [List.setIfInBounds_toArray]
  rw [List.set_append_right _ _ (by omega), List.set_append_right _ _ (by omega), List.set_append_right _ _ (by omega), List.set_append_right _ _ (by omega), List.set_append_right _ _ (by omega), List.set_append_right _ _ (by omega)]
  simp
theorem twelve {w : World} {g size : Nat} {sp sn sb sx sy fp : Value} {ty : TypeId} (h : w.heap[g]? = some (.cells (kcells size sp sn sb sx sy fp z6 z6).toArray ty (0, 0))) (u0 u1 u2 u3 u4 u5 v0 v1 v2 v3 v4 v5 : Nat) :
    ((((((((((((w.setCell ⟨g, 7, none⟩ (.int .u64 (u0 : Int))).setCell ⟨g, 8, none⟩ (.int .u64 (u1 : Int))).setCell ⟨g, 9, none⟩ (.int .u64 (u2 : Int))).setCell ⟨g, 10, none⟩ (.int .u64 (u3 : Int))).setCell ⟨g, 11, none⟩ (.int .u64 (u4 : Int))).setCell ⟨g, 12, none⟩ (.int .u64 (u5 : Int))).setCell ⟨g, 13, none⟩ (.int .u64 (v0 : Int))).setCell ⟨g, 14, none⟩ (.int .u64 (v1 : Int))).setCell ⟨g, 15, none⟩ (.int .u64 (v2 : Int))).setCell ⟨g, 16, none⟩ (.int .u64 (v3 : Int))).setCell ⟨g, 17, none⟩ (.int .u64 (v4 : Int))).setCell ⟨g, 18, none⟩ (.int .u64 (v5 : Int))).heap[g]? = some (.cells (kcells size sp sn sb sx sy fp [u0, u1, u2, u3, u4, u5] [v0, v1, v2, v3, v4, v5]).toArray ty (0, 0)) ∧
    (∀ b, b ≠ g → ((((((((((((w.setCell ⟨g, 7, none⟩ (.int .u64 (u0 : Int))).setCell ⟨g, 8, none⟩ (.int .u64 (u1 : Int))).setCell ⟨g, 9, none⟩ (.int .u64 (u2 : Int))).setCell ⟨g, 10, none⟩ (.int .u64 (u3 : Int))).setCell ⟨g, 11, none⟩ (.int .u64 (u4 : Int))).setCell ⟨g, 12, none⟩ (.int .u64 (u5 : Int))).setCell ⟨g, 13, none⟩ (.int .u64 (v0 : Int))).setCell ⟨g, 14, none⟩ (.int .u64 (v1 : Int))).setCell ⟨g, 15, none⟩ (.int .u64 (v2 : Int))).setCell ⟨g, 16, none⟩ (.int .u64 (v3 : Int))).setCell ⟨g, 17, none⟩ (.int .u64 (v4 : Int))).setCell ⟨g, 18, none⟩ (.int .u64 (v5 : Int))).heap[b]? = w.heap[b]?) ∧ ((((((((((((w.setCell ⟨g, 7, none⟩ (.int .u64 (u0 : Int))).setCell ⟨g, 8, none⟩ (.int .u64 (u1 : Int))).setCell ⟨g, 9, none⟩ (.int .u64 (u2 : Int))).setCell ⟨g, 10, none⟩ (.int .u64 (u3 : Int))).setCell ⟨g, 11, none⟩ (.int .u64 (u4 : Int))).setCell ⟨g, 12, none⟩ (.int .u64 (u5 : Int))).setCell ⟨g, 13, none⟩ (.int .u64 (v0 : Int))).setCell ⟨g, 14, none⟩ (.int .u64 (v1 : Int))).setCell ⟨g, 15, none⟩ (.int .u64 (v2 : Int))).setCell ⟨g, 16, none⟩ (.int .u64 (v3 : Int))).setCell ⟨g, 17, none⟩ (.int .u64 (v4 : Int))).setCell ⟨g, 18, none⟩ (.int .u64 (v5 : Int))).heap.size = w.heap.size ∧ ∀ B w0, B ≤ g → Below B w0 w → Below B w0 ((((((((((((w.setCell ⟨g, 7, none⟩ (.int .u64 (u0 : Int))).setCell ⟨g, 8, none⟩ (.int .u64 (u1 : Int))).setCell ⟨g, 9, none⟩ (.int .u64 (u2 : Int))).setCell ⟨g, 10, none⟩ (.int .u64 (u3 : Int))).setCell ⟨g, 11, none⟩ (.int .u64 (u4 : Int))).setCell ⟨g, 12, none⟩ (.int .u64 (u5 : Int))).setCell ⟨g, 13, none⟩ (.int .u64 (v0 : Int))).setCell ⟨g, 14, none⟩ (.int .u64 (v1 : Int))).setCell ⟨g, 15, none⟩ (.int .u64 (v2 : Int))).setCell ⟨g, 16, none⟩ (.int .u64 (v3 : Int))).setCell ⟨g, 17, none⟩ (.int .u64 (v4 : Int))).setCell ⟨g, 18, none⟩ (.int .u64 (v5 : Int))) := by
  refine ⟨?_, ?_, by simp [World.setCell], ?_⟩
  · have h1 := six_mid [Value.int .i64 (size : Int), sp, sn, sb, sx, sy, fp] (nts z6) (j := 7) (ty := ty) (x0 := .int .u64 0) (x1 := .int .u64 0) (x2 := .int .u64 0) (x3 := .int .u64 0) (x4 := .int .u64 0) (x5 := .int .u64 0) rfl (a := .int .u64 (u0 : Int)) (b := .int .u64 (u1 : Int)) (c := .int .u64 (u2 : Int)) (d := .int .u64 (u3 : Int)) (e := .int .u64 (u4 : Int)) (f := .int .u64 (u5 : Int)) (h.trans (by simp [kcells, nts, z6]))
    have h2 := six_mid ([Value.int .i64 (size : Int), sp, sn, sb, sx, sy, fp] ++ nts [u0, u1, u2, u3, u4, u5]) [] (j := 13) (ty := ty) (x0 := .int .u64 0) (x1 := .int .u64 0) (x2 := .int .u64 0) (x3 := .int .u64 0) (x4 := .int .u64 0) (x5 := .int .u64 0) (by simp [nts]) (a := .int .u64 (v0 : Int)) (b := .int .u64 (v1 : Int)) (c := .int .u64 (v2 : Int)) (d := .int .u64 (v3 : Int)) (e := .int .u64 (v4 : Int)) (f := .int .u64 (v5 : Int)) (h1.trans (by simp [kcells, nts, z6]))
    exact h2.trans (by simp [kcells, nts])
  · intro b hb
    repeat rw [Below.heap_setCell _ _ _ _ hb]
  · intro B w0 hB h0
    exact ((((((((((((h0.setCell (p := ⟨g, 7, none⟩) hB (.int .u64 (u0 : Int))).setCell (p := ⟨g, 8, none⟩) hB (.int .u64 (u1 : Int))).setCell (p := ⟨g, 9, none⟩) hB (.int .u64 (u2 : Int))).setCell (p := ⟨g, 10, none⟩) hB (.int .u64 (u3 : Int))).setCell (p := ⟨g, 11, none⟩) hB (.int .u64 (u4 : Int))).setCell (p := ⟨g, 12, none⟩) hB (.int .u64 (u5 : Int))).setCell (p := ⟨g, 13, none⟩) hB (.int .u64 (v0 : Int))).setCell (p := ⟨g, 14, none⟩) hB (.int .u64 (v1 : Int))).setCell (p := ⟨g, 15, none⟩) hB (.int .u64 (v2 : Int))).setCell (p := ⟨g, 16, none⟩) hB (.int .u64 (v3 : Int))).setCell (p := ⟨g, 17, none⟩) hB (.int .u64 (v4 : Int))).setCell (p := ⟨g, 18, none⟩) hB (.int .u64 (v5 : Int)))
def p256p : List Nat := [18446744073709551615, 4294967295, 0, 18446744069414584321]
def p256n : List Nat := [17562291160714782033, 13611842547513532036, 18446744073709551615, 18446744069414584320]
def p256b : List Nat := [4309448131093880907, 7285987128567378166, 12964664127075681980, 6540974713487397863]
def p256x : List Nat := [17627433388654248598, 8575836109218198432, 17923454489921339634, 7716867327612699207]
def p256y : List Nat := [14678990851816772085, 3156516839386865358, 10297457778147434006, 5756518291402817435]
def Lits (l : List Nat) : Prop := (∀ x ∈ l, x < 18446744073709551616) ∧ l.length ≤ 6
theorem RN.lits (w : World) (l : List Nat) (h : Lits l) : RN (w.alloc (.cells (nts l).toArray 72)) (In w.heap.size (w.heap.size + 1)) (some ⟨w.heap.size, 0, none⟩) l.length l := by
  have hb : Blk (w.alloc (.cells (nts l).toArray 72)) w.heap.size l := heap_alloc_new w _
  have := (OB.of_blk (c := l.length) hb (base := w.heap.size) (Nat.le_refl _) ⟨h.1, by have := h.2; omega⟩ (Nat.le_refl _) (by have := h.2; unfold maxLen; omega)).rn
  exact this.mono fun b hb => by have := hb.2; rw [World.size_alloc] at this; exact ⟨hb.1, this⟩
/-- Five rows of limbs and a record are laid. -/
theorem five_lits (w : World) (l1 l2 l3 l4 l5 : List Nat) (o : Obj) (h1 : Lits l1) (h2 : Lits l2) (h3 : Lits l3) (h4 : Lits l4) (h5 : Lits l5) :
    ∀ W, W = (((((w.alloc (.cells (nts l1).toArray 72)).alloc (.cells (nts l2).toArray 72)).alloc (.cells (nts l3).toArray 72)).alloc (.cells (nts l4).toArray 72)).alloc (.cells (nts l5).toArray 72)).alloc o →
    RN W (In w.heap.size (w.heap.size + 5)) (some ⟨w.heap.size, 0, none⟩) l1.length l1 ∧ RN W (In w.heap.size (w.heap.size + 5)) (some ⟨w.heap.size + 1, 0, none⟩) l2.length l2 ∧ RN W (In w.heap.size (w.heap.size + 5)) (some ⟨w.heap.size + 1 + 1, 0, none⟩) l3.length l3 ∧
    RN W (In w.heap.size (w.heap.size + 5)) (some ⟨w.heap.size + 1 + 1 + 1, 0, none⟩) l4.length l4 ∧ RN W (In w.heap.size (w.heap.size + 5)) (some ⟨w.heap.size + 1 + 1 + 1 + 1, 0, none⟩) l5.length l5 ∧ W.heap[w.heap.size + 1 + 1 + 1 + 1 + 1]? = some o ∧ W.heap.size = w.heap.size + 6 ∧ Below w.heap.size w W := by
  rintro W rfl
  have r1 := RN.lits w l1 h1
  have r2 := RN.lits (w.alloc (.cells (nts l1).toArray 72)) l2 h2
  have r3 := RN.lits ((w.alloc (.cells (nts l1).toArray 72)).alloc (.cells (nts l2).toArray 72)) l3 h3
  have r4 := RN.lits (((w.alloc (.cells (nts l1).toArray 72)).alloc (.cells (nts l2).toArray 72)).alloc (.cells (nts l3).toArray 72)) l4 h4
  have r5 := RN.lits ((((w.alloc (.cells (nts l1).toArray 72)).alloc (.cells (nts l2).toArray 72)).alloc (.cells (nts l3).toArray 72)).alloc (.cells (nts l4).toArray 72)) l5 h5
  have e := heap_alloc_new (((((w.alloc (.cells (nts l1).toArray 72)).alloc (.cells (nts l2).toArray 72)).alloc (.cells (nts l3).toArray 72)).alloc (.cells (nts l4).toArray 72)).alloc (.cells (nts l5).toArray 72)) o
  have b6 : Below (w.heap.size + 5) (((((w.alloc (.cells (nts l1).toArray 72)).alloc (.cells (nts l2).toArray 72)).alloc (.cells (nts l3).toArray 72)).alloc (.cells (nts l4).toArray 72)).alloc (.cells (nts l5).toArray 72)) ((((((w.alloc (.cells (nts l1).toArray 72)).alloc (.cells (nts l2).toArray 72)).alloc (.cells (nts l3).toArray 72)).alloc (.cells (nts l4).toArray 72)).alloc (.cells (nts l5).toArray 72)).alloc o) := (Below.refl _ _).alloc (by simp <;> omega) _
  simp only [World.size_alloc] at r2 r3 r4 r5 e
  have s4 := (r4.below ((Below.refl (w.heap.size + 4) _).alloc (by simp <;> omega) (.cells (nts l5).toArray 72)) (fun b hb => by have := hb.2; omega)).below b6 (fun b hb => by have := hb.2; omega)
  have s3 := ((r3.below ((Below.refl (w.heap.size + 3) _).alloc (by simp <;> omega) (.cells (nts l4).toArray 72)) (fun b hb => by have := hb.2; omega)).below ((Below.refl (w.heap.size + 4) _).alloc (by simp <;> omega) (.cells (nts l5).toArray 72)) (fun b hb => by have := hb.2; omega)).below b6 (fun b hb => by have := hb.2; omega)
  have s2 := (((r2.below ((Below.refl (w.heap.size + 2) _).alloc (by simp) (.cells (nts l3).toArray 72)) (fun b hb => by have := hb.2; omega)).below ((Below.refl (w.heap.size + 3) _).alloc (by simp <;> omega) (.cells (nts l4).toArray 72)) (fun b hb => by have := hb.2; omega)).below ((Below.refl (w.heap.size + 4) _).alloc (by simp <;> omega) (.cells (nts l5).toArray 72)) (fun b hb => by have := hb.2; omega)).below b6 (fun b hb => by have := hb.2; omega)
  have s1 := ((((r1.below ((Below.refl (w.heap.size + 1) _).alloc (by simp) (.cells (nts l2).toArray 72)) (fun b hb => by have := hb.2; omega)).below ((Below.refl (w.heap.size + 2) _).alloc (by simp) (.cells (nts l3).toArray 72)) (fun b hb => by have := hb.2; omega)).below ((Below.refl (w.heap.size + 3) _).alloc (by simp <;> omega) (.cells (nts l4).toArray 72)) (fun b hb => by have := hb.2; omega)).below ((Below.refl (w.heap.size + 4) _).alloc (by simp <;> omega) (.cells (nts l5).toArray 72)) (fun b hb => by have := hb.2; omega)).below b6 (fun b hb => by have := hb.2; omega)
  have s5 := r5.below b6 (fun b hb => by have := hb.2; omega)
  refine ⟨s1.mono ?_, s2.mono ?_, s3.mono ?_, s4.mono ?_, s5.mono ?_, e, by simp, ?_⟩
  any_goals (intro b hb; have h1 := hb.1; have h2 := hb.2; exact ⟨by omega, by omega⟩)
  exact ((((((Below.refl _ w).alloc (Nat.le_refl _) _).alloc (by simp) _).alloc (by simp <;> omega) _).alloc (by simp <;> omega) _).alloc (by simp <;> omega) _).alloc (by simp <;> omega) _

set_option maxRecDepth 100000 in
set_option maxHeartbeats 8000000 in
theorem of_p256 (w : World) : Calls Try.prog 42 #[.int .i64 1] w fun e w' => ∃ k g inv ml ol rl tl fl, e = .returned (.pointer (some ⟨k, 0, none⟩)) ∧ w.heap.size ≤ k ∧
    Num w' (In w.heap.size w'.heap.size) k g 32 4 inv (val 18446744073709551616 p256p) (val 18446744073709551616 p256b) p256p p256n p256b p256x p256y ml ol rl tl fl (some ⟨w.heap.size, 0, none⟩) (some ⟨w.heap.size + 1, 0, none⟩) (some ⟨w.heap.size + 1 + 1, 0, none⟩) (some ⟨w.heap.size + 1 + 1 + 1, 0, none⟩) (some ⟨w.heap.size + 1 + 1 + 1 + 1, 0, none⟩) 4 4 4 4 4 ∧ Below w.heap.size w w' := by
  obtain ⟨z, hz⟩ : ∃ z, z = World.alloc (((((w.alloc (.cells (nts p256p).toArray 72)).alloc (.cells (nts p256n).toArray 72)).alloc (.cells (nts p256b).toArray 72)).alloc (.cells (nts p256x).toArray 72)).alloc (.cells (nts p256y).toArray 72)) (.cells (kcells 32 (.slice (some ⟨w.heap.size, 0, none⟩) 4 4) (.slice (some ⟨w.heap.size + 1, 0, none⟩) 4 4) (.slice (some ⟨w.heap.size + 1 + 1, 0, none⟩) 4 4) (.slice (some ⟨w.heap.size + 1 + 1 + 1, 0, none⟩) 4 4) (.slice (some ⟨w.heap.size + 1 + 1 + 1 + 1, 0, none⟩) 4 4) (.pointer none) z6 z6).toArray 105) := ⟨_, rfl⟩
  obtain ⟨q1, q2, q3, q4, q5, q6, q7, q8⟩ := five_lits w p256p p256n p256b p256x p256y _ ⟨by decide, by decide⟩ ⟨by decide, by decide⟩ ⟨by decide, by decide⟩ ⟨by decide, by decide⟩ ⟨by decide, by decide⟩ z hz
  have hd : digs 18446744073709551616 (val 18446744073709551616 p256p) = p256p := digs_val (by omega) (by decide) (by decide)
  have hdl : (digs 18446744073709551616 (val 18446744073709551616 p256p)).length = 4 := by rw [hd]; rfl
  have hM1 : 1 < val 18446744073709551616 p256p := by decide +kernel
  have hMo : val 18446744073709551616 p256p % 2 = 1 := by decide +kernel
  have hM3 : 3 < val 18446744073709551616 p256p := by decide +kernel
  have hbM : val 18446744073709551616 p256b < val 18446744073709551616 p256p := by decide +kernel
  have hnew := znew_any _ _ _ p256p _ z q1 rfl hM1 hMo (by decide) (by rw [hdl]; omega)
  rw [hdl, q7] at hnew
  obtain ⟨M, hM⟩ : ∃ M, val 18446744073709551616 p256p = M := ⟨_, rfl⟩
  rw [hM] at hnew hM1 hMo hM3 hbM ⊢
  have Hnew := Lib.hid hnew
  have hb1 : p256p.length = 4 := rfl
  have Hz := Lib.hid hz
  have H2 := Hnew.out
  rw [hz, hb1] at H2
  have Hn2 := Lib.hid H2
  obtain ⟨K, hK⟩ : ∃ K, w.heap.size + 1 + 1 + 1 + 1 + 1 = K := ⟨_, rfl⟩
  clear hd hdl hnew H2 Hnew hz
  go_enter Try.func42, Try.ntmps42
  go_wp2_with fail
  refine Hn2.out.mono ?_
  rintro e w2 ⟨g, inv, ml, ol, rl, rfl, hg, hFR, hB2⟩
  rw [← Hz.out] at hB2
  rw [hK] at q6
  have hs2 := hB2.size
  have hG2 := (hB2.block K (by omega)).trans q6
  have k6 := blk_cell hG2 6
  rw [show (kcells 32 (.slice (some ⟨w.heap.size, 0, none⟩) 4 4) (.slice (some ⟨w.heap.size + 1, 0, none⟩) 4 4) (.slice (some ⟨w.heap.size + 1 + 1, 0, none⟩) 4 4) (.slice (some ⟨w.heap.size + 1 + 1 + 1, 0, none⟩) 4 4) (.slice (some ⟨w.heap.size + 1 + 1 + 1 + 1, 0, none⟩) 4 4) (.pointer none) z6 z6).toArray[6]? = some (.pointer none) by rfl] at k6
  have kf := blk_free hG2 6
  have hG3 := blk_set hG2 6 (.pointer (some ⟨g, 0, none⟩))
  rw [show (kcells 32 (.slice (some ⟨w.heap.size, 0, none⟩) 4 4) (.slice (some ⟨w.heap.size + 1, 0, none⟩) 4 4) (.slice (some ⟨w.heap.size + 1 + 1, 0, none⟩) 4 4) (.slice (some ⟨w.heap.size + 1 + 1 + 1, 0, none⟩) 4 4) (.slice (some ⟨w.heap.size + 1 + 1 + 1 + 1, 0, none⟩) 4 4) (.pointer none) z6 z6).toArray.setIfInBounds 6 (.pointer (some ⟨g, 0, none⟩)) = (kcells 32 (.slice (some ⟨w.heap.size, 0, none⟩) 4 4) (.slice (some ⟨w.heap.size + 1, 0, none⟩) 4 4) (.slice (some ⟨w.heap.size + 1 + 1, 0, none⟩) 4 4) (.slice (some ⟨w.heap.size + 1 + 1 + 1, 0, none⟩) 4 4) (.slice (some ⟨w.heap.size + 1 + 1 + 1 + 1, 0, none⟩) 4 4) (.pointer (some ⟨g, 0, none⟩)) z6 z6).toArray by rfl] at hG3
  have hgK : g ≠ K := by omega
  have hFR3 : FR (w2.setCell ⟨K, 6, none⟩ (.pointer (some ⟨g, 0, none⟩))) g 4 inv M ml ol rl := ⟨⟨⟨(Below.heap_setCell _ _ _ _ hgK).trans hFR.ff.fld.blk, hFR.ff.fld.m6, hFR.ff.fld.o6, hFR.ff.fld.r6⟩, hFR.ff.mlt, hFR.ff.mval, hFR.ff.mtake, hFR.ff.npos, hFR.ff.nle, hFR.ff.big, hFR.ff.invLt, hFR.ff.invV⟩, hFR.oelt, hFR.oval, hFR.relt, hFR.rval⟩
  have hB3 : Below K z (w2.setCell ⟨K, 6, none⟩ (.pointer (some ⟨g, 0, none⟩))) := (hB2.mono (show K ≤ w.heap.size + 6 by omega)).setCell (p := ⟨K, 6, none⟩) (Nat.le_refl _) _
  have hz3 : (w2.setCell ⟨K, 6, none⟩ (.pointer (some ⟨g, 0, none⟩))).heap.size = w2.heap.size := by simp [World.setCell]
  go_upto_region 9 with fail
  generalize w2.setCell ⟨K, 6, none⟩ (.pointer (some ⟨g, 0, none⟩)) = w3 at *
  have c6 := blk_cell hG3 6
  have c3 := blk_cell hG3 3
  rw [show (kcells 32 (.slice (some ⟨w.heap.size, 0, none⟩) 4 4) (.slice (some ⟨w.heap.size + 1, 0, none⟩) 4 4) (.slice (some ⟨w.heap.size + 1 + 1, 0, none⟩) 4 4) (.slice (some ⟨w.heap.size + 1 + 1 + 1, 0, none⟩) 4 4) (.slice (some ⟨w.heap.size + 1 + 1 + 1 + 1, 0, none⟩) 4 4) (.pointer (some ⟨g, 0, none⟩)) z6 z6).toArray[6]? = some (.pointer (some ⟨g, 0, none⟩)) by rfl] at c6
  rw [show (kcells 32 (.slice (some ⟨w.heap.size, 0, none⟩) 4 4) (.slice (some ⟨w.heap.size + 1, 0, none⟩) 4 4) (.slice (some ⟨w.heap.size + 1 + 1, 0, none⟩) 4 4) (.slice (some ⟨w.heap.size + 1 + 1 + 1, 0, none⟩) 4 4) (.slice (some ⟨w.heap.size + 1 + 1 + 1 + 1, 0, none⟩) 4 4) (.pointer (some ⟨g, 0, none⟩)) z6 z6).toArray[3]? = some (.slice (some ⟨w.heap.size + 1 + 1, 0, none⟩) 4 4) by rfl] at c3
  have hK3 : K < w3.heap.size := blk_lt hG3
  have q33 : RN w3 (In w.heap.size (w.heap.size + 5)) (some ⟨w.heap.size + 1 + 1, 0, none⟩) 4 p256b := q3.below hB3 (fun b hb => by have := hb.2; omega)
  have hof := of_any 3 w3.drew (by omega)
  rw [show digs 18446744073709551616 3 = [3] by rw [digs_pos (by omega) (by omega), Nat.mod_eq_of_lt (by omega), Nat.div_eq_of_lt (by omega), digs_zero]] at hof
  have hg3 : g < w3.heap.size := hFR3.ff.fld.lt
  have ht1 := fun (X : World) (hX : Below w3.heap.size w3 X) (A1 : Option Addr) (c1 : Nat) (hO : OB X w3.heap.size A1 c1 [3]) => zto_any _ A1 c1 [3] X (hFR3.below hX hg3) hO.rn (fun b hb => hb.2) (by simp) (by simp; exact hM3)
  have ht2 := fun (X : World) (hX : Below w3.heap.size w3 X) => zto_any _ _ 4 p256b X (hFR3.below hX hg3) (q33.below hX (fun b hb => by have := hb.2; omega)) (fun b hb => by have := hb.2; have := hX.size; omega) (by decide) hbM
  have Hof := Lib.hid hof
  have Ht1 := Lib.hid ht1
  have Ht2 := Lib.hid ht2
  clear hof ht1 ht2
  have c6d : w3.drew.cell? ⟨K, 6, none⟩ = some (.pointer (some ⟨g, 0, none⟩)) := c6
  have c3d : w3.drew.cell? ⟨K, 3, none⟩ = some (.slice (some ⟨w.heap.size + 1 + 1, 0, none⟩) 4 4) := c3
  go_region_held3 (fun w' => w'.cell? ⟨K, 6, none⟩ = some (.pointer (some ⟨g, 0, none⟩)) ∧ w'.cell? ⟨K, 3, none⟩ = some (.slice (some ⟨w.heap.size + 1 + 1, 0, none⟩) 4 4))
    (first | with_reducible exact ⟨set6 7 (by decide) (by decide) c63, set6 7 (by decide) (by decide) c33⟩ | with_reducible exact ⟨set6 13 (by decide) (by decide) (set6 7 (by decide) (by decide) c63), set6 13 (by decide) (by decide) (set6 7 (by decide) (by decide) c33)⟩ | exact ⟨c6, c3⟩ | exact ⟨c61, c31⟩ | exact ⟨c62, c32⟩ | exact ⟨c63, c33⟩)
    (first
      | (go_at_call 71; refine Hof.out.mono ?_; rintro e x1 ⟨A1, cc1, rfl, hO1, hx1'⟩; have hx1 : Below w3.heap.size w3 x1 := ⟨hx1'.os, hx1'.tape, hx1'.output, hx1'.size, hx1'.block⟩; have hO1' : OB x1 w3.heap.size A1 cc1 [3] := hO1; have c61 := (hx1.cell (p := ⟨K, 6, none⟩) hK3).trans c6; have c31 := (hx1.cell (p := ⟨K, 3, none⟩) hK3).trans c3; have T1 := Lib.hid (Ht1.out x1 hx1 A1 cc1 hO1'))
      | (go_at_call_has 70 A1; refine T1.out.mono ?_; rintro e x2 ⟨o3, rfl, hf3, hx2⟩; obtain ⟨u0, u1, u2, u3, u4, u5, hoe⟩ := six hf3.elt.six; have hve : EV o3 = .agg #[.int .u64 (u0 : Int), .int .u64 (u1 : Int), .int .u64 (u2 : Int), .int .u64 (u3 : Int), .int .u64 (u4 : Int), .int .u64 (u5 : Int)] := (by rw [hoe]; rfl); rw [hve]; clear hve; have Hoe := Lib.hid hoe; clear hoe; have hx12 := hx1.trans (hx2.mono hx1.size); have c62 := (hx12.cell (p := ⟨K, 6, none⟩) hK3).trans c6; have c32 := (hx12.cell (p := ⟨K, 3, none⟩) hK3).trans c3; have T2 := Lib.hid (Ht2.out x2 hx12))
      | (go_at_call 70; refine T2.out.mono ?_; rintro e x3 ⟨ob, rfl, hfb, hx3⟩; obtain ⟨v0, v1, v2, v3, v4, v5, hob⟩ := six hfb.elt.six; have hvb : EV ob = .agg #[.int .u64 (v0 : Int), .int .u64 (v1 : Int), .int .u64 (v2 : Int), .int .u64 (v3 : Int), .int .u64 (v4 : Int), .int .u64 (v5 : Int)] := (by rw [hob]; rfl); rw [hvb]; clear hvb; have Hob := Lib.hid hob; clear hob; have hx13 := hx12.trans (hx3.mono hx12.size); have c63 := (hx13.cell (p := ⟨K, 6, none⟩) hK3).trans c6; have c33 := (hx13.cell (p := ⟨K, 3, none⟩) hK3).trans c3; have hGx := (hx13.block K hK3).trans hG3; have dz := kcells_zero hGx; obtain ⟨d7, y7⟩ := dz 7 (by decide) (by decide); obtain ⟨d8, y8⟩ := dz 8 (by decide) (by decide); obtain ⟨d9, y9⟩ := dz 9 (by decide) (by decide); obtain ⟨d10, y10⟩ := dz 10 (by decide) (by decide); obtain ⟨d11, y11⟩ := dz 11 (by decide) (by decide); obtain ⟨d12, y12⟩ := dz 12 (by decide) (by decide); obtain ⟨d13, y13⟩ := dz 13 (by decide) (by decide); obtain ⟨d14, y14⟩ := dz 14 (by decide) (by decide); obtain ⟨d15, y15⟩ := dz 15 (by decide) (by decide); obtain ⟨d16, y16⟩ := dz 16 (by decide) (by decide); obtain ⟨d17, y17⟩ := dz 17 (by decide) (by decide); obtain ⟨d18, y18⟩ := dz 18 (by decide) (by decide); clear dz))
  obtain ⟨t1, t2, t3, t4⟩ := twelve hGx u0 u1 u2 u3 u4 u5 v0 v1 v2 v3 v4 v5
  have hB9 := t4 w.heap.size w (by omega) (q8.trans ((hB3.trans (hx13.mono (by omega))).mono (by have := q8.size; omega)))
  have hFR9 := hFR3.below hx13 hg3
  have hs3 : w3.heap.size ≤ x3.heap.size := hx13.size
  clear c61 c31 c62 c32 c63 c33 T1 T2 hGx hx1' hx1 hx2 hx3 hx12
  generalize ((((((((((((x3.setCell ⟨K, 7, none⟩ (.int .u64 (u0 : Int))).setCell ⟨K, 8, none⟩ (.int .u64 (u1 : Int))).setCell ⟨K, 9, none⟩ (.int .u64 (u2 : Int))).setCell ⟨K, 10, none⟩ (.int .u64 (u3 : Int))).setCell ⟨K, 11, none⟩ (.int .u64 (u4 : Int))).setCell ⟨K, 12, none⟩ (.int .u64 (u5 : Int))).setCell ⟨K, 13, none⟩ (.int .u64 (v0 : Int))).setCell ⟨K, 14, none⟩ (.int .u64 (v1 : Int))).setCell ⟨K, 15, none⟩ (.int .u64 (v2 : Int))).setCell ⟨K, 16, none⟩ (.int .u64 (v3 : Int))).setCell ⟨K, 17, none⟩ (.int .u64 (v4 : Int))).setCell ⟨K, 18, none⟩ (.int .u64 (v5 : Int))) = w9 at *
  have hFR9' : FR w9 g 4 inv M ml ol rl := ⟨⟨⟨(t2 g hgK).trans hFR9.ff.fld.blk, hFR9.ff.fld.m6, hFR9.ff.fld.o6, hFR9.ff.fld.r6⟩, hFR9.ff.mlt, hFR9.ff.mval, hFR9.ff.mtake, hFR9.ff.npos, hFR9.ff.nle, hFR9.ff.big, hFR9.ff.invLt, hFR9.ff.invV⟩, hFR9.oelt, hFR9.oval, hFR9.relt, hFR9.rval⟩
  have hz9 : w.heap.size + 6 ≤ w9.heap.size := by have := hB3.size; omega
  have hkeep : ∀ (l : List Nat) (A : Option Addr) (c : Nat), RN z (In w.heap.size (w.heap.size + 5)) A c l → RN w9 (In w.heap.size w9.heap.size) A c l := fun l A c hR =>
    (hR.keep fun q hq => World.cell?_of_block ((t2 q.block (by have := hq.2; omega)).trans ((hx13.block q.block (by have := hq.2; omega)).trans (hB3.block q.block (by have := hq.2; omega))))).mono fun b hb => ⟨hb.1, by have := hb.2; omega⟩
  have r1 := hkeep _ _ _ q1
  have r2 := hkeep _ _ _ q2
  have r3 := hkeep _ _ _ q3
  have r4 := hkeep _ _ _ q4
  have r5 := hkeep _ _ _ q5
  have ho3 := Hoe.out
  have hob := Hob.out
  rw [← ho3, ← hob] at t1
  have hfin : Num w9 (In w.heap.size w9.heap.size) K g 32 4 inv M (val 18446744073709551616 p256b) p256p p256n p256b p256x p256y ml ol rl o3 ob (some ⟨w.heap.size, 0, none⟩) (some ⟨w.heap.size + 1, 0, none⟩) (some ⟨w.heap.size + 1 + 1, 0, none⟩) (some ⟨w.heap.size + 1 + 1 + 1, 0, none⟩) (some ⟨w.heap.size + 1 + 1 + 1 + 1, 0, none⟩) 4 4 4 4 4 :=
    ⟨t1, r1, r2, r3, r4, r5, hFR9', hM, by have := hf3; simpa using this, hfb⟩
  have Hfin := Lib.hid hfin
  have HB9 := Lib.hid hB9
  clear hfin hB9 t1 t2 t3 t4 r1 r2 r3 r4 r5 hkeep hFR9 hFR9' hf3 hfb hFR3 hG3 q1 q2 q3 q4 q5 q6 q8
  go_wp2
  go_ret
  exact ⟨K, g, inv, ml, ol, rl, o3, ob, rfl, by omega, Hfin.out, HB9.out⟩
end Go.Proofs.Ytldhmjfjbalakaa
