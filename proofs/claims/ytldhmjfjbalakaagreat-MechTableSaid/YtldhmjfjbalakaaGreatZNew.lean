/- zfield.New: a field made ready. -/
import Derived.Test.YtldhmjfjbalakaaGreatZTo
import Derived.Test.YtldhmjfjbalakaaGreatNewt
import Derived.Test.YtldhmjfjbalakaaGreatQuoAll
import Derived.Test.YtldhmjfjbalakaaGreatStr
import Derived.Deep.DeepCutAuto
namespace Go.Proofs.YtldhmjfjbalakaaGreat
open Go.RowKit

def z6 : List Nat := [0, 0, 0, 0, 0, 0]
theorem fc_m (n inv : Nat) (a ol rl : List Nat) (ha : a.length ≤ 6) : (fcells n inv z6 ol rl).take 1 ++ nts a ++ (fcells n inv z6 ol rl).drop (1 + a.length) = fcells n inv (a ++ List.replicate (6 - a.length) 0) ol rl := by
  match a, ha with
  | [], _ | [_], _ | [_, _], _ | [_, _, _], _ | [_, _, _, _], _ | [_, _, _, _, _], _ | [_, _, _, _, _, _], _ => rfl
theorem fc_o (n inv : Nat) (a ml rl : List Nat) (hm : ml.length = 6) (ha : a.length ≤ 6) : (fcells n inv ml z6 rl).take 8 ++ nts a ++ (fcells n inv ml z6 rl).drop (8 + a.length) = fcells n inv ml (a ++ List.replicate (6 - a.length) 0) rl := by
  obtain ⟨_, _, _, _, _, _, rfl⟩ := six hm
  match a, ha with
  | [], _ | [_], _ | [_, _], _ | [_, _, _], _ | [_, _, _, _], _ | [_, _, _, _, _], _ | [_, _, _, _, _, _], _ => rfl
theorem fc_r (n inv : Nat) (a ml ol : List Nat) (hm : ml.length = 6) (ho : ol.length = 6) (ha : a.length ≤ 6) : (fcells n inv ml ol z6).take 14 ++ nts a ++ (fcells n inv ml ol z6).drop (14 + a.length) = fcells n inv ml ol (a ++ List.replicate (6 - a.length) 0) := by
  obtain ⟨_, _, _, _, _, _, rfl⟩ := six hm
  obtain ⟨_, _, _, _, _, _, rfl⟩ := six ho
  match a, ha with
  | [], _ | [_], _ | [_, _], _ | [_, _, _], _ | [_, _, _, _], _ | [_, _, _, _, _], _ | [_, _, _, _, _, _], _ => rfl
theorem fc_inv (n inv : Nat) (ml ol rl : List Nat) (hm : ml.length = 6) : (fcells n 0 ml ol rl).toArray.setIfInBounds 7 (.int .u64 (inv : Int)) = (fcells n inv ml ol rl).toArray := by
  obtain ⟨_, _, _, _, _, _, rfl⟩ := six hm
  simp [fcells, nts]
theorem fc_len (n inv : Nat) (ml ol rl : List Nat) (hm : ml.length = 6) (ho : ol.length = 6) (hr : rl.length = 6) : (fcells n inv ml ol rl).length = 20 := by simp [fcells, nts, hm, ho, hr]
theorem pad_six {a : List Nat} (h : a.length ≤ 6) : (a ++ List.replicate (6 - a.length) 0).length = 6 := by simp; omega
theorem pad_lim {a : List Nat} (h : ∀ x ∈ a, x < 18446744073709551616) : ∀ x ∈ a ++ List.replicate (6 - a.length) 0, x < 18446744073709551616 := fun x hx => by
  rcases List.mem_append.1 hx with h1 | h1
  · exact h x h1
  · have := (List.mem_replicate.1 h1).2; omega

set_option maxRecDepth 100000 in
set_option maxHeartbeats 8000000 in
theorem znew_any (P : Nat → Prop) (A : Option Addr) (c : Nat) (a : List Nat) (M : Nat) (w : World) (h : RN w P A c a) (hM : val 18446744073709551616 a = M) (h1 : 1 < M) (hodd : M % 2 = 1) (hl : a.length < 40000) (hl6 : (digs 18446744073709551616 M).length ≤ 6) :
    Calls Tryz.prog 110 #[.slice A a.length c] w fun e w' => ∃ g inv ml ol rl, e = .returned (.pointer (some ⟨g, 0, none⟩)) ∧ w.heap.size ≤ g ∧ FR w' g (digs 18446744073709551616 M).length inv M ml ol rl ∧ Below w.heap.size w w' := by
  obtain ⟨i0, hi, hz0, hz1, hz2⟩ := info_parts info64
  have hn1 := norm_any P A c a w h
  have hln := digs_length_le (B := 18446744073709551616) (by omega) h.2.1
  rw [hM] at hn1 hln
  have hvd := val_digs (B := 18446744073709551616) (by omega) M
  have hlim := digs_lt (B := 18446744073709551616) (by omega) M
  have hm0 := dg_zero_mod hlim (by omega)
  rw [hvd] at hm0
  obtain ⟨ml, hml⟩ : ∃ ml, digs 18446744073709551616 M = ml := ⟨_, rfl⟩
  rw [hml] at hn1 hln hvd hm0 hlim hl6 ⊢
  obtain ⟨m0, hm0'⟩ : ∃ m0, dg ml 0 = m0 := ⟨_, rfl⟩
  rw [hm0'] at hm0
  have hm2 : (m0 : Int) % 2 = 1 := by omega
  obtain ⟨n, hn⟩ : ∃ n, ml.length = n := ⟨_, rfl⟩
  have hn0 : 0 < n := by
    rcases Nat.eq_zero_or_pos n with h0 | h0
    · have : ml = [] := List.eq_nil_of_length_eq_zero (hn.trans h0)
      rw [this] at hvd
      simp at hvd
      omega
    · exact h0
  have hn6 : n ≤ 6 := by omega
  have kn : (0 : Int) < (n : Int) := by omega
  rw [hn] at hn1 ⊢
  have Hn1 := Lib.hid hn1
  have Hml := Lib.hid hml
  have Hn := Lib.hid hn
  have Hvd := Lib.hid hvd
  have Hm0 := Lib.hid hm0
  have Hm2 := Lib.hid hm2
  have Hlim := Lib.hid hlim
  clear hn1 hln hml hn hvd hm0 hm2 hl hodd hM hlim hl6
  go_enter Tryz.func110, Tryz.ntmps110
  go_wp2_with fail
  refine Hn1.out.mono ?_
  rintro e w1 ⟨A1, c1, rfl, hO1, hB1⟩
  have r1 := hO1.rn
  have hG0 := heap_alloc_new w1 (.cells (fcells n 0 z6 z6 z6).toArray 166)
  have hBG : Below w1.heap.size w1 (w1.alloc (.cells (fcells n 0 z6 z6 z6).toArray 166)) := (Below.refl _ w1).alloc (Nat.le_refl _) _
  have r1a := r1.below hBG (fun b hb => hb.2)
  have hcpy := copy_into (dT := 46) (sT := 91) Tryz.underlying46 (w1.alloc (.cells (fcells n 0 z6 z6 z6).toArray 166)) w1.heap.size 1 6 6 (fcells n 0 z6 z6 z6) 166 hG0 _ A1 c1 ml r1a (by rw [Hn.out]; exact hn6) (by rw [fc_len _ _ _ _ _ rfl rfl rfl, Hn.out]; omega)
  rw [fc_m _ _ _ _ _ (by rw [Hn.out]; exact hn6), Hn.out] at hcpy
  obtain ⟨X, hcp, hG1, hX2, hX3, hX4⟩ := hcpy
  have hBX : Below w1.heap.size w1 X := hX2 _ w1 (Nat.le_refl _) hBG
  have r1X := r1.below hBX (fun b hb => hb.2)
  have hfc : (fcells n 0 z6 z6 z6).toArray = #[.int .i64 (n : Int), .int .u64 0, .int .u64 0, .int .u64 0, .int .u64 0, .int .u64 0, .int .u64 0, .int .u64 0, .int .u64 0, .int .u64 0, .int .u64 0, .int .u64 0, .int .u64 0, .int .u64 0, .int .u64 0, .int .u64 0, .int .u64 0, .int .u64 0, .int .u64 0, .int .u64 0] := rfl
  rw [hfc] at hcp
  have hmp6 := pad_six (a := ml) (by rw [Hn.out]; exact hn6)
  have hmpl := pad_lim Hlim.out
  have hmpv : val 18446744073709551616 (ml ++ List.replicate (6 - ml.length) 0) = M := by rw [val_pad]; exact Hvd.out
  have hmpt : val 18446744073709551616 ((ml ++ List.replicate (6 - ml.length) 0).take n) = M := by rw [← Hn.out, List.take_left']; exact Hvd.out; rfl
  rw [Hn.out] at hmp6 hmpl hmpv hmpt
  generalize ml ++ List.replicate (6 - n) 0 = mp at *
  have hGX : w1.heap.size < X.heap.size := blk_lt hG1
  obtain ⟨ad, rfl, hb1, q1⟩ := r1X.at_ (i := 0) (by rw [Hn.out]; exact hn0)
  rw [hm0'] at q1
  have q1b : X.cell? ad = some (.int .u64 (m0 : Int)) := by simpa [Addr.add] using q1
  have Hmp6 := Lib.hid hmp6
  have Hmpl := Lib.hid hmpl
  have Hmpv := Lib.hid hmpv
  have Hmpt := Lib.hid hmpt
  clear hfc hBG hG0 r1a hX2 hX3 hX4 q1 hmp6 hmpl hmpv hmpt
  go_wp2_with fail
  go_loopw [4, 23] (fun iv jv wr => ∃ (y : Int) (r : Nat), jv = .int .i64 (r : Int) ∧ iv = .int .u64 y ∧ r ≤ 6 ∧ NewtAt (m0 : Int) r y ∧ X = wr) (fun _ jv _ => 6 - (intOf jv).toNat)
  case atStart => exact ⟨1, 0, rfl, rfl, by omega, NewtAt.zero Hm2.out, rfl⟩
  case round =>
    obtain ⟨y, r, rfl, rfl, hr, hN, rfl⟩ := hrel
    by_cases hlt : r < 6
    · have hN' := hN.step hlt
      have hw1 : IntKind.u64.wrap ((m0 : Int) * y) = (m0 : Int) * y % 18446744073709551616 := IntKind.wrap_u64 _
      have hw2 : IntKind.u64.wrap (2 - (m0 : Int) * y % 18446744073709551616) = (2 - (m0 : Int) * y % 18446744073709551616) % 18446744073709551616 := IntKind.wrap_u64 _
      have hw3 : IntKind.u64.wrap (y * ((2 - (m0 : Int) * y % 18446744073709551616) % 18446744073709551616)) = y * ((2 - (m0 : Int) * y % 18446744073709551616) % 18446744073709551616) % 18446744073709551616 := IntKind.wrap_u64 _
      generalize (m0 : Int) * y % 18446744073709551616 = x1 at *
      generalize (2 - x1) % 18446744073709551616 = x2 at *
      generalize y * x2 % 18446744073709551616 = x3 at *
      have HN := Lib.hid hN'
      clear hN hN'
      go_wp2
      go_roundw
      case rel => exact ⟨x3, r + 1, by go_num, by first | rfl | simp [hw1, hw2, hw3], by omega, HN.out, by first | rfl | trivial⟩
      case measure => simp [intOf]; omega
    · obtain rfl : r = 6 := by omega
      obtain ⟨t, ht⟩ := hN.fin
      have hinv := neg_inv Hm0.out ht
      have h0 : 0 ≤ (-y) % 18446744073709551616 := Int.emod_nonneg _ (by decide)
      have hlt2 : (-y) % 18446744073709551616 < 18446744073709551616 := Int.emod_lt_of_pos _ (by decide)
      obtain ⟨inv, hv⟩ : ∃ inv : Nat, (-y) % 18446744073709551616 = (inv : Int) := ⟨_, (Int.toNat_of_nonneg h0).symm⟩
      have hneg : IntKind.u64.wrap (-y) = (inv : Int) := by rw [IntKind.wrap_u64]; exact hv
      rw [hv, Int.toNat_natCast] at hinv
      rw [hv] at hlt2
      have Hinv := Lib.hid hinv
      have Hlt2 := Lib.hid hlt2
      have hmk := run_make_row' (P := Tryz.prog) 91 90 (.int .u64 0) 8 Tryz.underlying91 info64 rfl .i64 .i64 n (by omega) (by omega)
      clear ht hinv h0 hv hN hlt hlt2
      have g7 := blk_cell hG1 7
      rw [show (fcells n 0 mp z6 z6).toArray[7]? = some (.int .u64 0) by obtain ⟨_, _, _, _, _, _, e⟩ := six Hmp6.out; rw [e]; rfl] at g7
      have f7 := blk_free hG1 7
      have hG2 := blk_set hG1 7 (.int .u64 (inv : Int))
      rw [fc_inv _ _ _ _ _ Hmp6.out] at hG2
      have hBY : Below w1.heap.size w1 (X.setCell ⟨w1.heap.size, 7, none⟩ (.int .u64 (inv : Int))) := hBX.setCell (p := ⟨w1.heap.size, 7, none⟩) (Nat.le_refl _) _
      have hzY : (X.setCell ⟨w1.heap.size, 7, none⟩ (.int .u64 (inv : Int))).heap.size = X.heap.size := by simp [World.setCell]
      have r1Y := r1.below hBY (fun b hb => hb.2)
      have n0 : (X.setCell ⟨w1.heap.size, 7, none⟩ (.int .u64 (inv : Int))).cell? ⟨w1.heap.size, 0, none⟩ = some (.int .i64 (n : Int)) := by rw [blk_cell hG2 0]; rfl
      go_upto_region 10 with fail
      generalize X.setCell ⟨w1.heap.size, 7, none⟩ (.int .u64 (inv : Int)) = Y at *
      have hGY : w1.heap.size < Y.heap.size := by omega
      clear hzY hG1 r1X q1b g7 f7 hBX hcp hneg
      have hbz := Blk.made Y n
      have hown : (Y.alloc (.cells (madeCells #[.int .u64 0] n) 90)).ownsRow Y.heap.size 90 1 (.slice (some ⟨Y.heap.size, 0, none⟩) n n) n (nts (List.replicate n 0)) :=
        own_of_blk (o := List.replicate n 0) hbz (Nat.le_refl _) (by simp) (by unfold maxLen; omega) (Nat.le_refl _) (by simp) (by simp)
      have hfr : RS ((Y.alloc (.cells (madeCells #[.int .u64 0] n) 90)).alloc (.cells #[.int .u64 1] 90)) (fun _ => True) 1 (some ⟨Y.heap.size + 1, 0, none⟩) 1 1 (nts [1]) := by
        have := RS.fresh (w := Y.alloc (.cells (madeCells #[.int .u64 0] n) 90)) (P := fun _ => True) #[.int .u64 1] 90 1 1 rfl (by unfold maxLen; omega) trivial
        rw [World.size_alloc] at this
        exact this
      have hown' := hown.alloc (.cells #[.int .u64 1] 90)
      have hBZ : Below Y.heap.size Y ((Y.alloc (.cells (madeCells #[.int .u64 0] n) 90)).alloc (.cells #[.int .u64 1] 90)) := ((Below.refl _ Y).alloc (Nat.le_refl _) _).alloc (by simp) _
      have hzZ : ((Y.alloc (.cells (madeCells #[.int .u64 0] n) 90)).alloc (.cells #[.int .u64 1] 90)).heap.size = Y.heap.size + 2 := by simp
      clear hbz hown
      go_wp2_with (at_builtin; generalize (Y.alloc (.cells (madeCells #[.int .u64 0] n) 90)).alloc (.cells #[.int .u64 1] 90) = W at *; refine wpList_append_rs _ rfl _ _ 91 rfl Y.heap.size 90 i0 (.int .u64 0) 1 8 Tryz.underlying91 hi hz0 hz1 hz2 rfl (by decide) (.slice (some ⟨Y.heap.size, 0, none⟩) n n) n _ rfl hown' (fun _ => True) _ 1 1 (nts [1]) rfl hfr (oneCell_nts [1]) (n + 1) rfl (by unfold maxLen; omega) (by omega) (by omega) ?_; intro A2 c2 w2 hown2 hg2 hor2)
      have hzw2 := hg2.size
      have hBw2 : Below Y.heap.size Y w2 := hBZ.grown hg2 (by omega) (fun k hk => by simp [Value.ownBlock] at hk; omega)
      have hs2 := hBw2.size
      have hG3 := (hBw2.block w1.heap.size hGY).trans hG2
      have hLr : Lim (List.replicate n 0 ++ [1]) := ⟨fun x hx => by
        rcases List.mem_append.1 hx with h | h
        · simp at h; omega
        · simp at h; omega, by simp; omega⟩
      have hlr : (List.replicate n 0 ++ [1]).length = n + 1 := by simp
      have hOr : OB w2 Y.heap.size A2 c2 (List.replicate n 0 ++ [1]) := OB.of_own (by rw [hlr]; simpa [nts] using hown2) hLr
      have hvr := val_pow n
      generalize List.replicate n 0 ++ [1] = rlst at *
      have hw1 := hB1.size
      have hY1 := hBY.size
      have hBw := hB1.trans ((hBY.trans (hBw2.mono hY1)).mono hw1)
      have r2 := r1Y.below hBw2 (fun b hb => by have := hb.2; omega)
      have hq1 := quo_any _ _ A2 (some ad) c2 c1 rlst ml w2 hOr.rn r2 (fun b hb => hb.2) (fun b hb => by have := hb.2; omega) (by omega) (by have := Hn.out; omega) (by rw [Hvd.out]; omega)
      rw [hvr, Hvd.out, hlr, Hn.out] at hq1
      obtain ⟨v1, hv1⟩ : ∃ v1, 18446744073709551616 ^ n % M = v1 := ⟨_, rfl⟩
      rw [hv1] at hq1
      have hv1M : v1 < M := by rw [← hv1]; exact Nat.mod_lt _ (by omega)
      have hl1 : (digs 18446744073709551616 v1).length ≤ n := by
        have := digs_length_mono (B := 18446744073709551616) (by omega) (Nat.le_of_lt hv1M)
        rw [Hml.out, Hn.out] at this
        exact this
      have Hq1 := Lib.hid hq1
      have Hv1 := Lib.hid hv1
      clear hq1 hown2 hg2 hor2 hfr hown' hG2 hBZ hOr hvr hlr hLr hmk hv1 n0 hBw2
      refine Hq1.out.mono ?_
      rintro e w3 ⟨A3, c3, A4, c4, rfl, _, hO4, hB3⟩
      have hG4 := (hB3.block w1.heap.size (blk_lt hG3)).trans hG3
      have hs3 := hB3.size
      have hm1 := mul_any _ _ A4 A4 c4 c4 _ _ w3 hO4.rn hO4.rn (fun b hb => hb.2) (fun b hb => hb.2) (by omega) (by omega)
      rw [val_digs (by omega)] at hm1
      have Hm1 := Lib.hid hm1
      clear hm1
      go_wp2_with fail
      refine Hm1.out.mono ?_
      rintro e w4 ⟨A5, c5, rfl, hO5, hB4⟩
      have hs4 := hB4.size
      have hB24 := hB3.trans (hB4.mono hs3)
      have r4 := r2.below hB24 fun b hb => by have := hb.2; omega
      have hl2 : (digs 18446744073709551616 (v1 * v1)).length < 90000 := by
        have := dig_mul (Nat.le_of_lt hv1M) (Nat.le_of_lt hv1M) (show (digs 18446744073709551616 M).length ≤ n by rw [Hml.out, Hn.out]; exact Nat.le_refl _)
        omega
      have hq2 := quo_any _ _ A5 (some ad) c5 c1 _ ml w4 hO5.rn r4 (fun b hb => hb.2) (fun b hb => by have := hb.2; omega) hl2 (by have := Hn.out; omega) (by rw [Hvd.out]; omega)
      rw [val_digs (by omega), Hvd.out, Hn.out] at hq2
      obtain ⟨v2, hv2⟩ : ∃ v2, v1 * v1 % M = v2 := ⟨_, rfl⟩
      rw [hv2] at hq2
      have hv2M : v2 < M := by rw [← hv2]; exact Nat.mod_lt _ (by omega)
      have hl3 : (digs 18446744073709551616 v2).length ≤ n := by
        have := digs_length_mono (B := 18446744073709551616) (by omega) (Nat.le_of_lt hv2M)
        rw [Hml.out, Hn.out] at this
        exact this
      have Hq2 := Lib.hid hq2
      have Hv2 := Lib.hid hv2
      clear hq2 hv2 hl2
      go_wp2_with fail
      refine Hq2.out.mono ?_
      rintro e w5 ⟨A6, c6, A7, c7, rfl, _, hO7, hB5⟩
      have hs5 := hB5.size
      have hB35 := hB4.trans (hB5.mono hs4)
      have hG5 := (hB35.block w1.heap.size (blk_lt hG4)).trans hG4
      have hO4' := hO4.below hB35 (Nat.le_refl _)
      have hBw5 := hBw.trans ((hB3.trans (hB35.mono hs3)).mono (by omega))
      obtain ⟨V1, hcp1, hGa, hVa2, hVa3, hVa4⟩ := copy_into (dT := 46) (sT := 91) Tryz.underlying46 w5 w1.heap.size 8 6 6 (fcells n inv mp z6 z6) 166 hG5 _ A4 c4 _ hO4'.rn (by omega) (by rw [fc_len _ _ _ _ _ Hmp6.out rfl rfl]; omega)
      rw [fc_o _ _ _ _ _ Hmp6.out (by omega)] at hGa
      have hBV1 := hVa2 w.heap.size w (by omega) hBw5
      have r7 : RN V1 (In w4.heap.size w5.heap.size) A7 c7 (digs 18446744073709551616 v2) := hO7.rn.keep fun q hq => World.cell?_of_block (hVa3 q.block (by have := hq.1; omega))
      have ho6 := pad_six (a := digs 18446744073709551616 v1) (by omega)
      have hol := pad_lim (digs_lt (B := 18446744073709551616) (by omega) v1)
      have hov : val 18446744073709551616 (digs 18446744073709551616 v1 ++ List.replicate (6 - (digs 18446744073709551616 v1).length) 0) = v1 := by rw [val_pad]; exact val_digs (by omega) v1
      generalize digs 18446744073709551616 v1 ++ List.replicate (6 - (digs 18446744073709551616 v1).length) 0 = op at *
      obtain ⟨V2, hcp2, hGb, hVb2, hVb3, hVb4⟩ := copy_into (dT := 46) (sT := 91) Tryz.underlying46 V1 w1.heap.size 14 6 6 (fcells n inv mp op z6) 166 hGa _ A7 c7 _ r7 (by omega) (by rw [fc_len _ _ _ _ _ Hmp6.out ho6 rfl]; omega)
      rw [fc_r _ _ _ _ _ Hmp6.out ho6 (by omega)] at hGb
      have hBV2 := hVb2 w.heap.size w (by omega) hBV1
      have hr6 := pad_six (a := digs 18446744073709551616 v2) (by omega)
      have hrl := pad_lim (digs_lt (B := 18446744073709551616) (by omega) v2)
      have hrv : val 18446744073709551616 (digs 18446744073709551616 v2 ++ List.replicate (6 - (digs 18446744073709551616 v2).length) 0) = v2 := by rw [val_pad]; exact val_digs (by omega) v2
      generalize digs 18446744073709551616 v2 ++ List.replicate (6 - (digs 18446744073709551616 v2).length) 0 = rp at *
      have hfin : FR V2 w1.heap.size n inv M mp op rp := ⟨⟨⟨hGb, Hmp6.out, ho6, hr6⟩, Hmpl.out, Hmpv.out, Hmpt.out, hn0, hn6, h1, by have := Hlt2.out; omega, Hinv.out⟩, ⟨ho6, hol, by rw [hov]; exact hv1M⟩, by rw [hov]; exact Hv1.out.symm, ⟨hr6, hrl, by rw [hrv]; exact hv2M⟩, by rw [hrv, ← Hv2.out, ← Hv1.out, ← Nat.mul_mod]⟩
      have Hfin := Lib.hid hfin
      have HB := Lib.hid hBV2
      clear hfin hBV2 hrv hrl hr6 hov hol ho6 hGa hGb hVa2 hVa3 hVb2 hVb3 hG5 r7 hBV1 hO4' hBw5
      go_wp2
      go_ret
      exact ⟨_, inv, mp, op, rp, rfl, hw1, Hfin.out, HB.out⟩
end Go.Proofs.YtldhmjfjbalakaaGreat
