/- What the reference's Decode computes. -/
import Derived.Test.YtpikikaoelnheaaDec
namespace Go.Proofs.Ytpikikaoelnheaa
open Go.RowKit

set_option maxRecDepth 100000 in
set_option maxHeartbeats 2000000 in
theorem refDec_any (P : Nat → Prop) (A : Option Addr) (c : Nat) (bs : List Nat) (w : World) (hv : RB w P A c bs) (hP : ∀ b, P b → b < w.heap.size) :
    Calls Try.prog 45 #[.slice A bs.length c] w (DecPost w bs) := by
  obtain ⟨i0, hi, hz0, hz1, hz2⟩ := info_parts info5
  obtain ⟨i1, hj, hy0, hy1, hy2⟩ := info_parts info48
  go_enter Try.func45, Try.ntmps45
  go_wp2
  go_loopw [0, 4] (fun b v wr => ∃ (rest : List Nat) (Ar : Option Addr) (cr nr : Nat) (out : List (Int × List Nat)) (A' : Option Addr) (c' n : Nat) (cs : List Value), b = .slice Ar nr cr ∧ rest.length = nr ∧ RB w P Ar cr rest ∧ v = .slice A' n c' ∧ out.length = n ∧ n ≤ 64 ∧ OA wr w.heap.size A' c' out cs ∧ Below w.heap.size w wr ∧ decInv bs out rest) (fun b _ _ => match b with | .slice _ n _ => n | _ => 0)
  case atStart => exact ⟨bs, A, c, bs.length, [], none, 0, 0, [], rfl, rfl, hv, rfl, rfl, by omega, OA.nil_ _ _, Below.refl _ _, decInv_start bs⟩
  case round =>
    obtain ⟨rest, Ar, cr, nr, out, A', c', n, cs, rfl, hnr, hR, rfl, hn, hn64, hO, hB, hI⟩ := hrel
    have Hnr := Lib.hid hnr
    have Hn := Lib.hid hn
    have hcap := hR.cap
    rw [hnr] at hcap
    have hs := hB.size
    clear hnr hn
    by_cases h0 : nr = 0
    · have hd := Lib.hid (decInv_end hI (by rw [Hnr.out]; exact h0))
      have h0' : ¬ (0 : Int) < (nr : Int) := by omega
      go_wp2
      go_ret2
      exact DecPost.yes hd.out Hn.out hO hB
    · by_cases h4 : nr < 4
      · have hd := Lib.hid (decInv_few hI (by rw [Hnr.out]; exact h0) (.inl (by rw [Hnr.out]; exact h4)))
        go_wp2
        go_ret2
        exact DecPost.no hd.out hB
      · by_cases h64 : n = 64
        · have hd := Lib.hid (decInv_few hI (by rw [Hnr.out]; exact h0) (.inr (by rw [Hn.out]; exact h64)))
          have h64' : ((n : Int) == 64) = true := by simp; omega
          clear h64
          go_wp2
          go_ret2
          exact DecPost.no hd.out hB
        · have h64' : ((n : Int) == 64) = false := by simp; omega
          have hI1 := Lib.hid (And.intro hI (And.intro (show rest.length ≠ 0 by rw [Hnr.out]; exact h0) (show ¬ (rest.length < 4 ∨ out.length = 64) by rw [Hnr.out, Hn.out]; omega)))
          clear hI
          have hRw : RB wr P Ar cr rest := hR.below hB hP
          have hlr := Hnr.out
          obtain ⟨ad, e0, hp, k0, b0⟩ := hRw.at_ (i := 0) (by omega)
          subst e0
          obtain ⟨ad', e, _, k1, b1⟩ := hRw.at_ (i := 1) (by omega)
          injection e with e; subst e
          obtain ⟨ad', e, _, k2, b2⟩ := hRw.at_ (i := 2) (by omega)
          injection e with e; subst e
          obtain ⟨ad', e, _, k3, b3⟩ := hRw.at_ (i := 3) (by omega)
          injection e with e; subst e
          have g0 := getD_eq (bs := rest) (i := 0) (by omega)
          have g1 := getD_eq (bs := rest) (i := 1) (by omega)
          have g2 := getD_eq (bs := rest) (i := 2) (by omega)
          have g3 := getD_eq (bs := rest) (i := 3) (by omega)
          rw [← g0] at k0 b0
          rw [← g1] at k1 b1
          rw [← g2] at k2 b2
          rw [← g3] at k3 b3
          clear g0 g1 g2 g3 hlr
          obtain ⟨x0, e0⟩ : ∃ x, rest.getD 0 0 = x := ⟨_, rfl⟩
          obtain ⟨x1, e1⟩ : ∃ x, rest.getD 1 0 = x := ⟨_, rfl⟩
          obtain ⟨x2, e2⟩ : ∃ x, rest.getD 2 0 = x := ⟨_, rfl⟩
          obtain ⟨x3, e3⟩ : ∃ x, rest.getD 3 0 = x := ⟨_, rfl⟩
          rw [e0] at k0 b0
          rw [e1] at k1 b1
          rw [e2] at k2 b2
          rw [e3] at k3 b3
          simp [Addr.add] at k0 k1 k2 k3
          have E0 := Lib.hid e0
          have E1 := Lib.hid e1
          have E2 := Lib.hid e2
          have E3 := Lib.hid e3
          obtain ⟨t, ht⟩ : ∃ t, x0 * 256 + x1 = t := ⟨_, rfl⟩
          obtain ⟨m, hm⟩ : ∃ m, x2 * 256 + x3 = m := ⟨_, rfl⟩
          have htl : t < 65536 := by omega
          have hml : m < 65536 := by omega
          have Ht := Lib.hid ht
          have Hm := Lib.hid hm
          have hot : bits .or .i64 ((x0 : Int) * 256) (x1 : Int) = (t : Int) := by rw [or2_i64 x0 x1 (by omega) (by omega), ht]
          have hom : bits .or .i64 ((x2 : Int) * 256) (x3 : Int) = (m : Int) := by rw [or2_i64 x2 x3 (by omega) (by omega), hm]
          have hn4 : (3 : Int) < (nr : Int) := by omega
          have hnr2 : (2 : Int) ≤ (nr : Int) := by omega
          have hc2 : ¬ cr = 2 := by omega
          have hP1 : ∀ b, P b → b < wr.heap.size := fun b hb => by have := hP b hb; omega
          clear e0 e1 e2 e3 ht hm
          go_wp2_with fail
          go_quiet (fail)
          clear hom
          by_cases hbad : 16384 < m ∨ nr - 4 < m
          · have hd := Lib.hid (decInv_long hI1.out.1 hI1.out.2.1 hI1.out.2.2 (by rw [E2.out, E3.out, Hm.out, Hnr.out]; exact hbad))
            by_cases hbad1 : 16384 < m
            · go_wp2
              go_ret2
              exact DecPost.no hd.out (below_drewN hB _)
            · have hb1 : decide (16384 < (m : Int)) = false := by simp; omega
              have hb2 : (nr : Int) - 4 < (m : Int) := by omega
              go_wp2
              go_ret2
              exact DecPost.no hd.out (below_drewN hB _)
          · have hst := Lib.hid (decInv_step hI1.out.1 hI1.out.2.1 hI1.out.2.2 (by rw [E2.out, E3.out, Hm.out, Hnr.out]; exact hbad))
            rw [E0.out, E1.out, E2.out, E3.out, Hm.out, Ht.out] at hst
            have hm1 : m ≤ 16384 := by omega
            have hm2 : m ≤ nr - 4 := by omega
            have hb1 : decide (16384 < (m : Int)) = false := by simp; omega
            have hb2 : ¬ (nr : Int) - 4 < (m : Int) := by omega
            clear hbad
            go_wp2_with fail
            obtain ⟨W, hW⟩ : ∃ W, wr.drewN nq = W := ⟨_, rfl⟩
            have hWs : W.heap.size = wr.heap.size := by rw [← hW]; rfl
            have hOW : OA W w.heap.size A' c' out cs := by rw [← hW]; exact hO
            have hBW : Below w.heap.size w W := by rw [← hW]; exact below_drewN hB _
            have hRW : RB W P (some ad) cr rest := by rw [← hW]; exact hRw
            have k0W : W.cell? ad = some (.int .u8 (x0 : Int)) := by rw [← hW]; exact k0
            have k1W : W.cell? ⟨ad.block, ad.off + 1, none⟩ = some (.int .u8 (x1 : Int)) := by rw [← hW]; exact k1
            rw [hW]
            have hsW : w.heap.size ≤ W.heap.size := by omega
            have hadlt := hP _ hp
            have hadW : ad.block < W.heap.size := by omega
            have HO := Lib.hid hOW
            have hown : W.ownsRow w.heap.size 48 2 (.slice A' n c') n cs := Hn.out ▸ hOW.1
            have hne : (Value.slice A' n c').ownBlock ≠ some ad.block := fun e => by have := (hown.lt _ e).1; omega
            have hx1 : (0 : Int) < (nr : Int) := by omega
            have hx2 : (1 : Int) < (nr : Int) := by omega
            have hx3 : (4 : Int) + (m : Int) ≤ (nr : Int) := by omega
            have hx4 : (4 : Int) ≤ 4 + (m : Int) := by omega
            have hx5 : (0 : Int) ≤ 4 + (m : Int) := by omega
            have hx6 : ((4 : Int) + (m : Int)).toNat = 4 + m := by omega
            have hx8 : (4 : Int) + (m : Int) ≤ (cr : Int) := by omega
            clear hW hWs hO hOW hRw k0 k1 k2 k3 hB
            by_cases hc4 : cr = 4
            · subst hc4
              obtain rfl : nr = 4 := by omega
              obtain rfl : m = 0 := by omega
              clear hx3 hx4 hx5 hx6 hx8
              have hx12 : IntKind.i64.wrap 4 = 4 := by decide
              go_simp
              have hsrc : RS W P 1 (some ad) 0 0 (bys ((rest.drop 4).take 0)) := by
                have h4 := (hRW.drop 4 (A' := some ad) (c' := 0) (by have := Hnr.out; omega) (by have := Hnr.out; omega) (by omega) (fun h => by have := Hnr.out; omega)).take 0
                have h5 : ((rest.drop 4).take 0).length = 0 := by simp
                have := h4.1
                rwa [h5] at this
              have hx7 : IntKind.i64.wrap (4 + ((0 : Nat) : Int)) = 4 + ((0 : Nat) : Int) := by rw [IntKind.wrap_i64]; omega
              have hx9 : IntKind.i64.wrap (x0 : Int) = (x0 : Int) := by rw [IntKind.wrap_i64]; omega
              have hx10 : IntKind.i64.wrap ((x0 : Int) * 256) = (x0 : Int) * 256 := by rw [IntKind.wrap_i64]; omega
              have hx11 : IntKind.i64.wrap (x1 : Int) = (x1 : Int) := by rw [IntKind.wrap_i64]; omega
              go_region_held3 (fun w' => w'.cell? ad = some (.int .u8 (x0 : Int)) ∧ w'.cell? ⟨ad.block, ad.off + 1, none⟩ = some (.int .u8 (x1 : Int)))
                (first
                  | go_keep
                  | ((try dsimp only); refine ⟨?_, ?_⟩ <;> (first | go_keep | (rw [hg1.cell_far _ (by simp; omega) (by simp [Value.ownBlock])]; assumption) | (go_split_ands; rw [hg2.cell_far _ (by have := hg1.size; simp at this ⊢; omega) (fun e => hne (by simpa using e.symm))]; go_keep))))
                (first
                  | (refine step_append_rs _ (by rfl) _ _ _ (by rfl) W.heap.size 5 i0 _ 1 1 Try.underlying46 hi hz0 hz1 hz2 rfl (by omega) (.slice none 0 0) 0 [] (by rfl) (World.ownsRow_nil _ _ _ _) P (some ad) 0 0 (bys ((rest.drop 4).take 0)) (by rfl) hsrc (oneCell_bys _) 0 (by omega) (by unfold maxLen; omega) (by omega) (by simp) ?_; intro A1 c1 w1 hown1 hg1 hor1)
                  | (have _t := hg1; refine step_append_rs _ (by rfl) _ _ _ (by rfl) w.heap.size 48 i1 _ 2 32 Try.underlying24 hj hy0 hy1 hy2 rfl (by omega) (.slice A' n c') n cs (by rfl) ((own_kept (w := W.drew) hown hg1).alloc _) (fun _ => True) (some ⟨w1.heap.size, 0, none⟩) 1 1 [.int .i64 (t : Int), .slice A1 0 c1] (by rfl) (RS.fresh #[.int .i64 (t : Int), .slice A1 0 c1] 48 2 1 rfl (by unfold maxLen; omega) trivial) (by simp [Value.oneCell']) (n + 1) rfl (by unfold maxLen; omega) (by omega) (by have := hg1.size; simp at this ⊢; omega) ?_; intro A2 c2 w2 hown2 hg2 hor2))
              have hlen := Lib.hid (show ((rest.drop 4).take 0).length = 0 by simp)
              have hb1 : Below W.heap.size W w1 := (Below.refl W.heap.size W).drew.grown hg1 (Nat.le_refl _) (by simp [Value.ownBlock])
              have hb2 := hb1.alloc hb1.size (.cells #[.int .i64 (t : Int), .slice A1 0 c1] 48)
              have hu2 : RB w1 (In W.heap.size w1.heap.size) A1 c1 ((rest.drop 4).take 0) := RB.of_own' (by simpa using hown1) hlen.out (fun b hb => hR.2.1 b (List.mem_of_mem_drop (List.mem_of_mem_take hb))) (by omega)
              have hown4 := hown2
              rw [← hlen.out] at hown4
              have hg4 := hg2
              have hO3 := OA.snoc (x := ((t : Int), (rest.drop 4).take 0)) HO.out Hn.out (hlen.out ▸ hb2) ((hu2.keep fun p hp => World.cell?_alloc_lt w1 _ p hp.2).mono fun b hb => ⟨hb.1, by have := hb.2; simp; omega⟩) hsW hown4 hg4 (by have h := hor2; simp at h ⊢; exact h)
              have hB3 := (hBW.trans (hb2.mono hsW)).grown hg2 (by have := hb1.size; simp; omega) (fun g hg => (hown.lt g hg).1)
              clear hg1 hor1 hg2 hor2 hown1 hown2 hb1 hb2 hu2 hown4 hg4 _t hot hx9 hx10 hx11 hx12
              go_wp2
              go_roundw
              case rel => exact ⟨rest.drop (4 + 0), some ad, 0, 0, _, A2, c2, n + 1, _, rfl, by have := Hnr.out; simp <;> omega, hR.drop (4 + 0) (by have := Hnr.out; omega) (by have := Hnr.out; omega) (by omega) (fun h => by have := Hnr.out; omega), rfl, by simp [Hn.out], by omega, hO3, hB3, hst.out⟩
              case measure => simp <;> omega
            · by_cases hcm : cr = 4 + m
              · obtain rfl : cr = 4 + m := hcm
                obtain rfl : nr = 4 + m := by omega
                have hm0 : ¬ m = 0 := by omega
                have hxa : (0 : Int) < 4 + (m : Int) := by omega
                have hxb : (1 : Int) < 4 + (m : Int) := by omega
                have hsrc : RS W P 1 (some ⟨ad.block, ad.off + 4, none⟩) m m (bys ((rest.drop 4).take m)) := by
                  have h4 := (hRW.drop 4 (A' := some ⟨ad.block, ad.off + 4, none⟩) (c' := m) (by have := Hnr.out; omega) (by have := Hnr.out; omega) (by omega) (fun _ => by simp [Addr.add])).take m
                  have h5 : ((rest.drop 4).take m).length = m := by have := Hnr.out; simp; omega
                  have := h4.1
                  rwa [h5] at this
                have hx7 : IntKind.i64.wrap (4 + (m : Int)) = 4 + (m : Int) := by rw [IntKind.wrap_i64]; omega
                have hx9 : IntKind.i64.wrap (x0 : Int) = (x0 : Int) := by rw [IntKind.wrap_i64]; omega
                have hx10 : IntKind.i64.wrap ((x0 : Int) * 256) = (x0 : Int) * 256 := by rw [IntKind.wrap_i64]; omega
                have hx11 : IntKind.i64.wrap (x1 : Int) = (x1 : Int) := by rw [IntKind.wrap_i64]; omega
                go_region_held3 (fun w' => w'.cell? ad = some (.int .u8 (x0 : Int)) ∧ w'.cell? ⟨ad.block, ad.off + 1, none⟩ = some (.int .u8 (x1 : Int)))
                  (first
                    | go_keep
                    | ((try dsimp only); refine ⟨?_, ?_⟩ <;> (first | go_keep | (rw [hg1.cell_far _ (by simp; omega) (by simp [Value.ownBlock])]; assumption) | (go_split_ands; rw [hg2.cell_far _ (by have := hg1.size; simp at this ⊢; omega) (fun e => hne (by simpa using e.symm))]; go_keep))))
                  (first
                    | (refine step_append_rs _ (by rfl) _ _ _ (by rfl) W.heap.size 5 i0 _ 1 1 Try.underlying46 hi hz0 hz1 hz2 rfl (by omega) (.slice none 0 0) 0 [] (by rfl) (World.ownsRow_nil _ _ _ _) P (some ⟨ad.block, ad.off + 4, none⟩) m m (bys ((rest.drop 4).take m)) (by rfl) hsrc (oneCell_bys _) m (by omega) (by unfold maxLen; omega) (by omega) (by simp) ?_; intro A1 c1 w1 hown1 hg1 hor1)
                    | (have _t := hg1; refine step_append_rs _ (by rfl) _ _ _ (by rfl) w.heap.size 48 i1 _ 2 32 Try.underlying24 hj hy0 hy1 hy2 rfl (by omega) (.slice A' n c') n cs (by rfl) ((own_kept (w := W.drew) hown hg1).alloc _) (fun _ => True) (some ⟨w1.heap.size, 0, none⟩) 1 1 [.int .i64 (t : Int), .slice A1 m c1] (by rfl) (RS.fresh #[.int .i64 (t : Int), .slice A1 m c1] 48 2 1 rfl (by unfold maxLen; omega) trivial) (by simp [Value.oneCell']) (n + 1) rfl (by unfold maxLen; omega) (by omega) (by have := hg1.size; simp at this ⊢; omega) ?_; intro A2 c2 w2 hown2 hg2 hor2))
                have hlen := Lib.hid (show ((rest.drop 4).take m).length = m by have := Hnr.out; simp <;> omega)
                have hb1 : Below W.heap.size W w1 := (Below.refl W.heap.size W).drew.grown hg1 (Nat.le_refl _) (by simp [Value.ownBlock])
                have hb2 := hb1.alloc hb1.size (.cells #[.int .i64 (t : Int), .slice A1 m c1] 48)
                have hu2 : RB w1 (In W.heap.size w1.heap.size) A1 c1 ((rest.drop 4).take m) := RB.of_own' (by simpa using hown1) hlen.out (fun b hb => hR.2.1 b (List.mem_of_mem_drop (List.mem_of_mem_take hb))) (by omega)
                have hown4 := hown2
                rw [← hlen.out] at hown4
                have hg4 := hg2
                have hO3 := OA.snoc (x := ((t : Int), (rest.drop 4).take m)) HO.out Hn.out (hlen.out ▸ hb2) ((hu2.keep fun p hp => World.cell?_alloc_lt w1 _ p hp.2).mono fun b hb => ⟨hb.1, by have := hb.2; simp; omega⟩) hsW hown4 hg4 (by have h := hor2; simp at h ⊢; exact h)
                have hB3 := (hBW.trans (hb2.mono hsW)).grown hg2 (by have := hb1.size; simp; omega) (fun g hg => (hown.lt g hg).1)
                clear hg1 hor1 hg2 hor2 hown1 hown2 hb1 hb2 hu2 hown4 hg4 _t hot hx9 hx10 hx11
                go_wp2
                go_roundw
                case rel => exact ⟨rest.drop (4 + m), some ad, 0, 0, _, A2, c2, n + 1, _, rfl, by have := Hnr.out; simp <;> omega, hR.drop (4 + m) (by have := Hnr.out; omega) (by have := Hnr.out; omega) (by omega) (fun h => by have := Hnr.out; omega), rfl, by simp [Hn.out], by omega, hO3, hB3, hst.out⟩
                case measure => simp <;> omega
              · have hsrc : RS W P 1 (some ⟨ad.block, ad.off + 4, none⟩) m (cr - 4) (bys ((rest.drop 4).take m)) := by
                  have h4 := (hRW.drop 4 (A' := some ⟨ad.block, ad.off + 4, none⟩) (c' := cr - 4) (by have := Hnr.out; omega) (by have := Hnr.out; omega) (by omega) (fun _ => by simp [Addr.add])).take m
                  have h5 : ((rest.drop 4).take m).length = m := by have := Hnr.out; simp; omega
                  have := h4.1
                  rwa [h5] at this
                have hx7 : IntKind.i64.wrap (4 + (m : Int)) = 4 + (m : Int) := by rw [IntKind.wrap_i64]; omega
                have hx9 : IntKind.i64.wrap (x0 : Int) = (x0 : Int) := by rw [IntKind.wrap_i64]; omega
                have hx10 : IntKind.i64.wrap ((x0 : Int) * 256) = (x0 : Int) * 256 := by rw [IntKind.wrap_i64]; omega
                have hx11 : IntKind.i64.wrap (x1 : Int) = (x1 : Int) := by rw [IntKind.wrap_i64]; omega
                go_region_held3 (fun w' => w'.cell? ad = some (.int .u8 (x0 : Int)) ∧ w'.cell? ⟨ad.block, ad.off + 1, none⟩ = some (.int .u8 (x1 : Int)))
                  (first
                    | go_keep
                    | ((try dsimp only); refine ⟨?_, ?_⟩ <;> (first | go_keep | (rw [hg1.cell_far _ (by simp; omega) (by simp [Value.ownBlock])]; assumption) | (go_split_ands; rw [hg2.cell_far _ (by have := hg1.size; simp at this ⊢; omega) (fun e => hne (by simpa using e.symm))]; go_keep))))
                  (first
                    | (refine step_append_rs _ (by rfl) _ _ _ (by rfl) W.heap.size 5 i0 _ 1 1 Try.underlying46 hi hz0 hz1 hz2 rfl (by omega) (.slice none 0 0) 0 [] (by rfl) (World.ownsRow_nil _ _ _ _) P (some ⟨ad.block, ad.off + 4, none⟩) m (cr - 4) (bys ((rest.drop 4).take m)) (by rfl) hsrc (oneCell_bys _) m (by omega) (by unfold maxLen; omega) (by omega) (by simp) ?_; intro A1 c1 w1 hown1 hg1 hor1)
                    | (have _t := hg1; refine step_append_rs _ (by rfl) _ _ _ (by rfl) w.heap.size 48 i1 _ 2 32 Try.underlying24 hj hy0 hy1 hy2 rfl (by omega) (.slice A' n c') n cs (by rfl) ((own_kept (w := W.drew) hown hg1).alloc _) (fun _ => True) (some ⟨w1.heap.size, 0, none⟩) 1 1 [.int .i64 (t : Int), .slice A1 m c1] (by rfl) (RS.fresh #[.int .i64 (t : Int), .slice A1 m c1] 48 2 1 rfl (by unfold maxLen; omega) trivial) (by simp [Value.oneCell']) (n + 1) rfl (by unfold maxLen; omega) (by omega) (by have := hg1.size; simp at this ⊢; omega) ?_; intro A2 c2 w2 hown2 hg2 hor2))
                have hlen := Lib.hid (show ((rest.drop 4).take m).length = m by have := Hnr.out; simp <;> omega)
                have hb1 : Below W.heap.size W w1 := (Below.refl W.heap.size W).drew.grown hg1 (Nat.le_refl _) (by simp [Value.ownBlock])
                have hb2 := hb1.alloc hb1.size (.cells #[.int .i64 (t : Int), .slice A1 m c1] 48)
                have hu2 : RB w1 (In W.heap.size w1.heap.size) A1 c1 ((rest.drop 4).take m) := RB.of_own' (by simpa using hown1) hlen.out (fun b hb => hR.2.1 b (List.mem_of_mem_drop (List.mem_of_mem_take hb))) (by omega)
                have hown4 := hown2
                rw [← hlen.out] at hown4
                have hg4 := hg2
                have hO3 := OA.snoc (x := ((t : Int), (rest.drop 4).take m)) HO.out Hn.out (hlen.out ▸ hb2) ((hu2.keep fun p hp => World.cell?_alloc_lt w1 _ p hp.2).mono fun b hb => ⟨hb.1, by have := hb.2; simp; omega⟩) hsW hown4 hg4 (by have h := hor2; simp at h ⊢; exact h)
                have hB3 := (hBW.trans (hb2.mono hsW)).grown hg2 (by have := hb1.size; simp; omega) (fun g hg => (hown.lt g hg).1)
                clear hg1 hor1 hg2 hor2 hown1 hown2 hb1 hb2 hu2 hown4 hg4 _t hot hx9 hx10 hx11
                go_wp2
                go_roundw
                case rel => exact ⟨rest.drop (4 + m), _, (cr - (4 + m)), (nr - (4 + m)), _, A2, c2, n + 1, _, rfl, by have := Hnr.out; simp <;> omega, hR.drop (4 + m) (by have := Hnr.out; omega) (by have := Hnr.out; omega) (by omega) (fun _ => by simp [Addr.add]), rfl, by simp [Hn.out], by omega, hO3, hB3, hst.out⟩
                case measure => simp <;> omega
end Go.Proofs.Ytpikikaoelnheaa
