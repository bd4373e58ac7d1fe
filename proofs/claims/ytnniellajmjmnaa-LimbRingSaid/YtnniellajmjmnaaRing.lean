/- LimbRing: products go over sums and associate; noughts at the end say nothing; answers are the caller's own: the walk of the law. -/
import Derived.Test.YtnniellajmjmnaaOpen
import Derived.Deep.CutBlock
namespace Go.Proofs.Ytnniellajmjmnaa
open Go.RowKit

theorem OB.at_ {w : World} {base : Nat} {A : Option Addr} {c : Nat} {l : List Nat} (h : OB w base A c l) {i : Nat} (hi : i < l.length) : ∃ g, A = some ⟨g, 0, none⟩ ∧ base ≤ g ∧ w.cell? ⟨g, i, none⟩ = some (.int .u64 (dg l i : Int)) ∧ w.frozen? ⟨g, i, none⟩ = false ∧
    ∀ x : Nat, x < 18446744073709551616 → OB (w.setCell ⟨g, i, none⟩ (.int .u64 (x : Int))) base A c (l.set i x) := by
  obtain ⟨h1, h2, h3, h4⟩ := h
  obtain ⟨g, cur, rfl, hg, hh, hc⟩ := h4 (by omega)
  refine ⟨g, rfl, hg, (blk_cell hh i).trans (hc i _ (nts_get hi)), blk_free hh i, fun x hx => ⟨h1.set i x hx, by simpa using h2, h3, fun _ => ⟨g, cur.setIfInBounds i (.int .u64 (x : Int)), rfl, hg, ?_, fun j u hu => ?_⟩⟩⟩
  · simp [World.setCell, Array.getElem?_modify, hh]
  · rw [Array.getElem?_setIfInBounds]
    have hlt : i < cur.size := by
      have := hc i _ (nts_get hi)
      exact (Array.getElem?_eq_some_iff.1 this).1
    by_cases e : i = j
    · subst e
      rw [if_pos rfl, if_pos hlt]
      have : i < (l.set i x).length := by simpa using hi
      rw [nts_get this, getD_set_eq hi] at hu
      exact hu
    · rw [if_neg e]
      refine hc j u ?_
      simp only [nts, List.getElem?_map, List.getElem?_set_ne e] at hu ⊢
      exact hu
theorem val_zeros_end (a : List Nat) (j : Nat) : val 18446744073709551616 (a ++ List.replicate j 0) = val 18446744073709551616 a := by
  rw [val_append, val_replicate]; simp
theorem append_zero (a : List Nat) (j : Nat) : a ++ List.replicate (j + 1) 0 = (a ++ List.replicate j 0) ++ [0] := by
  rw [List.append_assoc, ← List.replicate_succ']

theorem val_lt_pow {a : List Nat} (h : Lim a) {n : Nat} (hn : a.length ≤ n) : val 18446744073709551616 a < 18446744073709551616 ^ n :=
  Nat.lt_of_lt_of_le (val_lt h.1) (Nat.pow_le_pow_right (by omega) hn)
theorem sum_lt {x y n : Nat} (hx : x < 18446744073709551616 ^ n) (hy : y < 18446744073709551616 ^ n) : x + y < 18446744073709551616 ^ (n + 1) := by
  rw [Nat.pow_succ]
  generalize 18446744073709551616 ^ n = M at *
  omega
theorem prod_lt {x y n m : Nat} (hx : x < 18446744073709551616 ^ n) (hy : y < 18446744073709551616 ^ m) : x * y < 18446744073709551616 ^ (n + m) := by
  rw [Nat.pow_add]
  rcases Nat.eq_zero_or_pos y with rfl | h0
  · rw [Nat.mul_zero]; exact Nat.mul_pos (Nat.pow_pos (by omega)) (Nat.pow_pos (by omega))
  · exact Nat.mul_lt_mul_of_lt_of_le hx (Nat.le_of_lt hy) (Nat.pow_pos (by omega))
theorem len_of_lt {x n : Nat} (hx : x < 18446744073709551616 ^ n) : (digs 18446744073709551616 x).length ≤ n := digs_length_of_lt (by omega) hx

set_option maxRecDepth 100000 in
set_option maxHeartbeats 4000000 in
theorem ring_any (P P' P'' : Nat → Prop) (A A' A'' : Option Addr) (c c' c'' : Nat) (l m q : List Nat) (k : Int) (w : World) (h : RL w P A c l) (h' : RL w P' A' c' m) (h'' : RL w P'' A'' c'' q) (hP : ∀ b, P b → b < w.heap.size) (hP' : ∀ b, P' b → b < w.heap.size) (hP'' : ∀ b, P'' b → b < w.heap.size) :
    Calls Try.prog 6 #[.slice A l.length c, .slice A' m.length c', .slice A'' q.length c'', .int .i64 k] w fun e w' => e = .returned (.bool true) ∧ Below w.heap.size w w' := by
  obtain ⟨i0, hi, hz0, hz1, hz2⟩ := info_parts info64
  have hla : (l.take 20).length ≤ 20 := by rw [List.length_take]; omega
  have hlb : (m.take 20).length ≤ 20 := by rw [List.length_take]; omega
  have hlc : (q.take 20).length ≤ 20 := by rw [List.length_take]; omega
  have fa := fun w h => few_any P A c l w h
  have fb := fun w h => few_any P' A' c' m w h
  have fc := fun w h => few_any P'' A'' c'' q w h
  generalize l.take 20 = a at *
  generalize m.take 20 = b at *
  generalize q.take 20 = d at *
  have Fa := Lib.hid fa
  have Fb := Lib.hid fb
  have Fc := Lib.hid fc
  clear fa fb fc
  go_enter Try.func6, Try.ntmps6
  go_wp2_with fail
  refine (begun_any _).mono ?_
  rintro e w1 ⟨rfl, hB1⟩
  go_wp2_with fail
  refine (Fa.out w1 (h.below hB1 hP)).mono ?_
  rintro e w2 ⟨A2, c2, rfl, hO2, hB2⟩
  have hw2 := hB1.trans (hB2.mono hB1.size)
  go_wp2_with fail
  refine (Fb.out w2 (h'.below hw2 hP')).mono ?_
  rintro e w3 ⟨A3, c3, rfl, hO3, hB3⟩
  have hw3 := hw2.trans (hB3.mono hw2.size)
  go_wp2_with fail
  refine (Fc.out w3 (h''.below hw3 hP'')).mono ?_
  rintro e w4 ⟨A4, c4, rfl, hO4, hB4⟩
  have hw4 := hw3.trans (hB4.mono hw3.size)
  have ra := (hO2.ru.up hB3).up hB4
  have rb := hO3.ru.up hB4
  have rc := hO4.ru
  clear hB1 hB2 hB3 hB4 hO2 hO3 hO4 hw2 hw3 h h' h'' hP hP' hP'' Fa Fb Fc
  have hA4 := ra.cap
  go_wp2_with (at_builtin; refine wpList_append_rs _ rfl _ _ 23 rfl w4.heap.size 54 i0 (.int .u64 0) 1 8 Try.underlying23 hi hz0 hz1 hz2 rfl (by decide) _ 0 [] rfl (World.ownsRow_nil _ _ _ _) _ A2 a.length c2 (nts a) rfl ra.1 (oneCell_nts a) a.length (by omega) (by unfold maxLen; omega) (by omega) (Nat.le_refl _) ?_)
  intro A5 c5 w5 hown hgrow _
  have hB5 : Below w4.heap.size w4 w5 := (Below.refl _ w4).grown hgrow (Nat.le_refl _) (by intro k hk; simp [Value.ownBlock] at hk)
  clear hA4
  go_upto_block 0 with fail
  go_cut [10, 11] (fun s10 s11 wx => ∃ (j : Nat) (Ad : Option Addr) (cd : Nat), s10 = .slice Ad (a ++ List.replicate j 0).length cd ∧ j ≤ 4 ∧ OB wx w4.heap.size Ad cd (a ++ List.replicate j 0) ∧ Below w4.heap.size w4 wx)
  case first =>
    go_wp2_with fail
    go_loopw [10, 11] (fun dv iv wr => ∃ (j : Nat), iv = .int .i64 (j : Int) ∧ j ≤ 4 ∧ wr.ownsRow w4.heap.size 54 1 dv (a.length + j) (nts (a ++ List.replicate j 0)) ∧ Below w4.heap.size w4 wr) (fun _ iv _ => 4 - (intOf iv).toNat)
    case atStart => exact ⟨0, rfl, by omega, by simpa using hown, hB5⟩
    case round =>
      clear hown hgrow hB5
      obtain ⟨j, rfl, hj, hO, hB⟩ := hrel
      have hs := hB.size
      have hfin : ∀ Ad cd, OB wr w4.heap.size Ad cd (a ++ List.replicate j 0) → True := fun _ _ _ => trivial
      clear hfin
      have hout : ∃ Ad cd, u10 = .slice Ad (a ++ List.replicate j 0).length cd ∧ OB wr w4.heap.size Ad cd (a ++ List.replicate j 0) := by
        obtain ⟨Ad, cd, rfl⟩ := own_shape hO
        refine ⟨Ad, cd, by simp, OB.of_own (by simpa using hO) ⟨fun x hx => ?_, by simp; omega⟩⟩
        rcases List.mem_append.1 hx with hx | hx
        · exact ra.2.1 x hx
        · simp at hx; omega
      have Hout := Lib.hid hout
      clear hout
      by_cases hk : (j : Int) < k
      · by_cases h4 : j < 4
        · have hap := append_zero a j
          go_wp2_with (at_builtin; refine wpList_append_rs _ rfl _ _ 23 rfl w4.heap.size 54 i0 (.int .u64 0) 1 8 Try.underlying23 hi hz0 hz1 hz2 rfl (by decide) _ (a.length + j) (nts (a ++ List.replicate j 0)) rfl (hO.alloc _) (In wr.heap.size (wr.heap.size + 1)) (some ⟨wr.heap.size, 0, none⟩) 1 1 [.int .u64 0] rfl (RS.fresh #[.int .u64 0] 54 1 1 rfl (by unfold maxLen; omega) ⟨Nat.le_refl _, by omega⟩) (by simp [Value.oneCell']) (a.length + (j + 1)) rfl (by unfold maxLen; omega) (by omega) (by simp; omega) ?_)
          intro A' c' w6 hown hgrow _
          go_wp2
          go_roundw
          case rel => exact ⟨j + 1, by go_num, by omega, by rw [hap]; simpa [nts] using hown, (hB.alloc hs _).grown hgrow (by simp; omega) (by intro j hj; exact own_block_le hO hj)⟩
          case measure => simp [intOf]; omega
        · go_wp2
          go_meet
          case rel =>
            obtain ⟨Ad, cd, e1, h1⟩ := Hout.out
            exact ⟨j, Ad, cd, e1, hj, h1, hB⟩
      · go_wp2
        go_meet
        case rel =>
          obtain ⟨Ad, cd, e1, h1⟩ := Hout.out
          exact ⟨j, Ad, cd, e1, hj, h1, hB⟩
  case rest =>
    clear hown hgrow hB5
    obtain ⟨j, Ad, cd, rfl, hj, hOd, hBd⟩ := hcut
    have hvd := val_zeros_end a j
    have hld : (a ++ List.replicate j 0).length ≤ 24 := by simp; omega
    obtain ⟨D, hD⟩ : ∃ D, a ++ List.replicate j 0 = D := ⟨_, rfl⟩
    rw [hD] at hOd hvd hld
    have Hvd := Lib.hid hvd
    have HD := Lib.hid hD
    obtain ⟨w6, rfl⟩ : ∃ w6, w6 = wc := ⟨_, rfl⟩
    have hw6 := hw4.trans (hBd.mono hw4.size)
    replace ra := ra.up hBd
    replace rb := rb.up hBd
    replace rc := rc.up hBd
    have rd := hOd.ru
    clear hOd hBd hw4 hvd
    rw [hD]
    clear hD
    -- x
    go_wp2_with fail
    refine (add_any _ _ A3 A4 c3 c4 b d w6 rb rc lt_self lt_self (by omega) (by omega)).mono ?_
    rintro e w7 ⟨A7, c7, rfl, hO7, hB7⟩
    have hw7 := hw6.trans (hB7.mono hw6.size)
    replace ra := ra.up hB7
    replace rb := rb.up hB7
    replace rc := rc.up hB7
    replace rd := rd.up hB7
    have rs := hO7.ru
    clear hw6 hO7 hB7
    have px := val_lt_pow ra.2 hla
    have py := val_lt_pow rb.2 hlb
    have pz := val_lt_pow rc.2 hlc
    have psum := sum_lt py pz
    have lsum := len_of_lt psum
    have lxy := len_of_lt (prod_lt px py)
    have lxz := len_of_lt (prod_lt px pz)
    have lyz := len_of_lt (prod_lt py pz)
    have pxy := prod_lt px py
    have pyz := prod_lt py pz
    have hm1 := mul_any _ _ Ad A7 cd c7 D _ w7 rd rs lt_self lt_self (by omega) (by omega)
    rw [val_digs (by omega), Hvd.out] at hm1
    have Hm1 := Lib.hid hm1
    clear hm1 psum px py pz
    go_wp2_with fail
    refine Hm1.out.mono ?_
    rintro e w8 ⟨A8, c8, rfl, hOx, hB8⟩
    clear Hm1 rs
    have hbase := hB8.size
    have hw8 := hw7.trans (hB8.mono hw7.size)
    obtain ⟨base, hbs⟩ : ∃ base, w7.heap.size = base := ⟨_, rfl⟩
    have ra8 := ra.up hB8
    have rb8 := rb.up hB8
    have rc8 := rc.up hB8
    go_wp2_with fail
    refine (mul_any _ _ A2 A3 c2 c3 a b w8 ra8 rb8 lt_self lt_self (by omega) (by omega)).mono ?_
    rintro e w9 ⟨A9, c9, rfl, hO9, hB9⟩
    have ra9 := ra8.up hB9
    have rc9 := rc8.up hB9
    have r9 := hO9.ru
    go_wp2_with fail
    refine (mul_any _ _ A2 A4 c2 c4 a d w9 ra9 rc9 lt_self lt_self (by omega) (by omega)).mono ?_
    rintro e w10 ⟨A10, c10, rfl, hO10, hB10⟩
    have r9' := r9.up hB10
    have r10 := hO10.ru
    have hadd := add_any _ _ A9 A10 c9 c10 _ _ w10 r9' r10 lt_self lt_self (by omega) (by omega)
    rw [val_digs (by omega), val_digs (by omega), ← Nat.mul_add] at hadd
    have Hadd := Lib.hid hadd
    clear hadd
    go_wp2_with fail
    refine Hadd.out.mono ?_
    rintro e w11 ⟨A11, c11, rfl, hO11, hB11⟩
    have hB78 : Below w8.heap.size w8 w11 := (hB9.trans (hB10.mono hB9.size)).trans (hB11.mono (Nat.le_trans hB9.size hB10.size))
    have hOx11 := hOx.below hB78 (Nat.le_refl _)
    have hcm := cmp_any _ _ A8 A11 c8 c11 _ _ w11 hOx11.ru hO11.ru
    rw [cmpV_eq] at hcm
    have Hcm := Lib.hid hcm
    have hB711 : Below base w7 w11 := by rw [← hbs]; exact hB8.trans (hB78.mono hB8.size)
    clear hcm Hadd hB9 hB10 hB11 hO9 hO10 hO11 r9 r9' r10 ra9 rc9 ra8 rb8 rc8 hB78 hOx hB8 hw8 hbase
    go_wp2_with fail
    refine Hcm.out.mono ?_
    rintro e w12 ⟨rfl, n1, rfl⟩
    clear Hcm
    generalize digs 18446744073709551616 (val 18446744073709551616 a * (val 18446744073709551616 b + val 18446744073709551616 d)) = X at *
    rw [hbs] at hOx11
    obtain ⟨x1, x2, x3⟩ := hOx11.cap
    obtain ⟨nX, hnX⟩ : ∃ nX, X.length = nX := ⟨_, rfl⟩
    rw [hnX] at x1 x3 ⊢
    go_wp2
    go_loopw [15] (fun iv wr => ∃ (i : Nat) (Y : List Nat), iv = .int .i64 (i : Int) ∧ i ≤ nX ∧ Hid (Y.length = nX) ∧ OB wr base A8 c8 Y ∧ Below base w7 wr) (fun iv _ => nX - (intOf iv).toNat)
    case atStart => exact ⟨0, X, rfl, by omega, Lib.hid hnX, hOx11, below_drewN hB711 _⟩
    case round =>
      clear hOx11 hB711
      obtain ⟨i, Y, rfl, hi, HY, hOY, hB⟩ := hrel
      by_cases hlt : i < nX
      · obtain ⟨g, rfl, hg, q1, q2, q3⟩ := hOY.at_ (i := i) (by have := HY.out; omega)
        have hO' := q3 5 (by omega)
        have hB' := hB.setCell (p := ⟨g, i, none⟩) hg (.int .u64 ((5 : Nat) : Int))
        have HY' : Hid ((Y.set i 5).length = nX) := Lib.hid (by rw [List.length_set]; exact HY.out)
        clear hOY q3
        go_wp2
        go_roundw
        case rel => exact ⟨i + 1, Y.set i 5, by go_num, by omega, HY', hO', hB'⟩
        case measure => simp [intOf]; omega
      · subst hbs
        replace ra := ra.up hB
        replace rb := rb.up hB
        replace rc := rc.up hB
        replace rd := rd.up hB
        have hwr := hw7.trans (hB.mono hw7.size)
        clear hOY HY hB hw7 hnX x1 x2 x3
        have hilt : ¬ (i : Int) < (nX : Int) := by omega
        go_wp2_with fail
        refine (mul_any _ _ A2 A3 c2 c3 a b wr ra rb lt_self lt_self (by omega) (by omega)).mono ?_
        rintro e v1 ⟨E1, f1, rfl, hP1, hC1⟩
        have hv1 := hwr.trans (hC1.mono hwr.size)
        replace ra := ra.up hC1
        replace rb := rb.up hC1
        replace rc := rc.up hC1
        replace rd := rd.up hC1
        have r1 := hP1.ru
        clear hwr hC1 hP1
        have hm2 := mul_any _ _ E1 A4 f1 c4 _ d v1 r1 rc lt_self lt_self (by omega) (by omega)
        rw [val_digs (by omega), Nat.mul_assoc] at hm2
        have Hm2 := Lib.hid hm2
        clear hm2
        go_wp2_with fail
        refine Hm2.out.mono ?_
        rintro e v2 ⟨E2, f2, rfl, hP2, hC2⟩
        have hv2 := hv1.trans (hC2.mono hv1.size)
        replace ra := ra.up hC2
        replace rb := rb.up hC2
        replace rc := rc.up hC2
        replace rd := rd.up hC2
        have r2 := hP2.ru
        clear hv1 hC2 hP2 Hm2 r1
        go_wp2_with fail
        refine (mul_any _ _ A3 A4 c3 c4 b d v2 rb rc lt_self lt_self (by omega) (by omega)).mono ?_
        rintro e v3 ⟨E3, f3, rfl, hP3, hC3⟩
        have hv3 := hv2.trans (hC3.mono hv2.size)
        replace ra := ra.up hC3
        replace rd := rd.up hC3
        replace r2 := r2.up hC3
        have r3 := hP3.ru
        clear hv2 hC3 hP3 rb rc
        have hm4 := mul_any _ _ A2 E3 c2 f3 a _ v3 ra r3 lt_self lt_self (by omega) (by omega)
        rw [val_digs (by omega)] at hm4
        have Hm4 := Lib.hid hm4
        clear hm4
        go_wp2_with fail
        refine Hm4.out.mono ?_
        rintro e v4 ⟨E4, f4, rfl, hP4, hC4⟩
        have hv4 := hv3.trans (hC4.mono hv3.size)
        replace ra := ra.up hC4
        replace rd := rd.up hC4
        replace r2 := r2.up hC4
        have r4 := hP4.ru
        clear hv3 hC4 hP4 Hm4 r3
        have hc1 := cmp_any _ _ E2 E4 f2 f4 _ _ v4 r2 r4
        rw [cmpV_eq] at hc1
        have hc2 := fun n => cmp_any _ _ A2 Ad c2 cd a D (v4.drewN n) (ra.ud n) (rd.ud n)
        rw [Hvd.out, cmpV_eq] at hc2
        have Hc1 := Lib.hid hc1
        have Hc2 := Lib.hid hc2
        clear hc1 hc2 ra rd r2 r4
        go_wp2_with fail
        refine Hc1.out.mono ?_
        rintro e v5 ⟨rfl, n5, rfl⟩
        go_wp2_with fail
        refine (Hc2.out n5).mono ?_
        rintro e v6 ⟨rfl, n6, rfl⟩
        rw [drewN_add]
        go_wp2
        go_ret
        exact ⟨rfl, below_drewN hv4 _⟩
end Go.Proofs.Ytnniellajmjmnaa
