/- What limb.Quo computes: a divisor of two limbs or more. Bytes as a string. -/
import Derived.Test.YtldhmjfjbalakaaQuoP
import Derived.Test.YtldhmjfjbalakaaKAl
import Derived.BigQuiet
import Derived.Test.YtldhmjfjbalakaaKAb
import Derived.Laws.BytesArg
import Derived.Lib.Bytes
namespace Go.Proofs.Ytldhmjfjbalakaa
open Go.RowKit

theorem own_of_blk {w : World} {base g n c : Nat} {o l : List Nat} (h : Blk w g o) (hg : base ≤ g) (hc : o.length = c) (hc' : c ≤ maxLen) (hn : n ≤ c) (hl : l = o.take n) (hlen : l.length = n) :
    w.ownsRow base 72 1 (.slice (some ⟨g, 0, none⟩) n c) n (nts l) :=
  ⟨by simp [nts, hlen], .inr ⟨g, c, (nts o).toArray, rfl, hg, h, hn, hc', by simp [nts, hc], by simp [nts, hl]⟩⟩
theorem quo_setup {y : Nat} (hy : 18446744073709551616 ≤ y) : ∃ n2 s top, (digs 18446744073709551616 y).length = n2 + 2 ∧ dg (digs 18446744073709551616 y) (n2 + 1) = top ∧ top < 18446744073709551616 ∧ s < 64 ∧ Lib.bitLen top = 64 - s ∧
    (digs 18446744073709551616 (y * 2 ^ s)).length = n2 + 2 ∧ 18446744073709551616 ≤ 2 * dg (digs 18446744073709551616 (y * 2 ^ s)) (n2 + 1) ∧ 18446744073709551616 ^ (n2 + 2) ≤ 2 * (y * 2 ^ s) := by
  have hB : (2 : Nat) ≤ 18446744073709551616 := by omega
  have hlt := digs_lt hB y
  have hl : 1 < (digs 18446744073709551616 y).length := by
    rcases Nat.lt_or_ge 1 (digs 18446744073709551616 y).length with h | h
    · exact h
    · have h1 := lt_pow_digs hB y
      have h2 : 18446744073709551616 ^ (digs 18446744073709551616 y).length ≤ 18446744073709551616 ^ 1 := Nat.pow_le_pow_right (by omega) h
      omega
  obtain ⟨n2, hn⟩ : ∃ n2, (digs 18446744073709551616 y).length = n2 + 2 := ⟨(digs 18446744073709551616 y).length - 2, by omega⟩
  obtain ⟨top, ht⟩ : ∃ top, dg (digs 18446744073709551616 y) (n2 + 1) = top := ⟨_, rfl⟩
  have htl : top < 18446744073709551616 := by rw [← ht]; exact getD_lt (by omega) hlt _
  have h0 : top ≠ 0 := by
    rintro rfl
    have h1 := pow_digs_le hB (v := y) (by omega)
    rw [hn] at h1
    have h2 : y = val 18446744073709551616 ((digs 18446744073709551616 y).take (n2 + 1)) := by
      have := val_take_getD 18446744073709551616 (digs 18446744073709551616 y) (n2 + 1)
      rw [ht, Nat.mul_zero, Nat.add_zero, ← hn, List.take_length, val_digs hB] at this
      exact this
    have h3 := val_lt (B := 18446744073709551616) (l := (digs 18446744073709551616 y).take (n2 + 1)) fun x hx => hlt x (List.mem_of_mem_take hx)
    rw [← h2, List.length_take, Nat.min_eq_left (by omega)] at h3
    exact absurd h3 (Nat.not_lt.2 h1)
  obtain ⟨s, hs, hbl, g1, g2⟩ := shift_of h0 htl
  have e64 : (18446744073709551616 : Nat) = 2 ^ (64 - s) * 2 ^ s := by rw [← Nat.pow_add, show 64 - s + s = 64 by omega]
  obtain ⟨k1, k2, k3⟩ := norm_d hB (by decide) e64 hn ht (by omega) g2
  exact ⟨n2, s, top, hn, ht, htl, hs, hbl, k1, k2, k3⟩

theorem guess_ge {L lD : List Nat} {j n n1 n2 : Nat} (hn : n2 + 2 = n) (hn1 : n2 + 1 = n1) (hL : ∀ x ∈ L, x < 18446744073709551616) (hD : ∀ x ∈ lD, x < 18446744073709551616) (hlD : lD.length = n) (hlen : j + n < L.length)
    (htop : 18446744073709551616 ≤ 2 * dg lD n1) (hV : val 18446744073709551616 L < 18446744073709551616 ^ (j + 1) * val 18446744073709551616 lD) :
    (∀ i, j + n + 1 ≤ i → dg L i = 0) ∧ val 18446744073709551616 L / (18446744073709551616 ^ j * val 18446744073709551616 lD) ≤ guessF (dg L (j + n)) (dg L (j + n1)) (dg L (j + n2)) (dg lD n1) (dg lD n2) ∧
      guessF (dg L (j + n)) (dg L (j + n1)) (dg L (j + n2)) (dg lD n1) (dg lD n2) < 18446744073709551616 := by
  subst hn hn1
  have hdl := val_lt hD
  rw [hlD] at hdl
  have hz : ∀ i, j + (n2 + 2) + 1 ≤ i → dg L i = 0 := fun i hi => zero_of_val_lt hL (m := j + (n2 + 2) + 1) (Nat.lt_trans hV (by
    rw [show j + (n2 + 2) + 1 = (j + 1) + (n2 + 2) by omega, Nat.pow_add _ (j + 1)]
    exact Nat.mul_lt_mul_of_pos_left hdl (Nat.pow_pos (by omega)))) hi
  obtain ⟨k1, k2⟩ := guessF_ok (x2 := dg L (j + (n2 + 2))) (getD_lt (by omega) hL (j + (n2 + 1))) (getD_lt (by omega) hL (j + n2)) (getD_lt (by omega) hD (n2 + 1)) (getD_lt (by omega) hD n2) htop
  refine ⟨hz, k2 _ ?_ ?_, k1⟩
  · apply Nat.div_lt_of_lt_mul
    rw [Nat.pow_succ, Nat.mul_right_comm] at hV
    exact hV
  · obtain ⟨rv, hrv, hv⟩ := val_three (t := j + n2) hL (by omega) (fun i hi => hz i (by omega))
    obtain ⟨rd, hd⟩ := val_two (B := 18446744073709551616) (L := lD) (t := n2) (by omega)
    refine quo_three (B := 18446744073709551616) (t := j + n2) (DB := 18446744073709551616 ^ j * val 18446744073709551616 lD) (rd := 18446744073709551616 ^ j * rd) (Nat.div_mul_le_self _ _) ?_ hv hrv
    rw [hd, Nat.mul_add, ← Nat.mul_assoc, ← Nat.pow_add]
theorem Row.alloc_ {w : World} {g : Nat} {l : List Nat} (h : Row w g l) (o : Obj) : Row (w.alloc o) g l := h.of_heap (Below.heap_alloc w o g h.lt)
theorem RN.alloc_ {w : World} {P : Nat → Prop} {A : Option Addr} {c : Nat} {l : List Nat} (h : RN w P A c l) (hP : ∀ b, P b → b < w.heap.size) (o : Obj) : RN (w.alloc o) P A c l := h.below ((Below.refl w.heap.size w).alloc (Nat.le_refl _) o) hP
theorem shl_len (x : Nat) {s : Nat} (hs : s < 64) : (digs 18446744073709551616 (x * 2 ^ s)).length ≤ (digs 18446744073709551616 x).length + 1 := by
  apply digs_length_of_lt (by omega)
  have h1 := lt_pow_digs (B := 18446744073709551616) (by omega) x
  have h2 : 2 ^ s ≤ 2 ^ 64 := Nat.pow_le_pow_right (by omega) (by omega)
  rw [show (2 : Nat) ^ 64 = 18446744073709551616 by decide] at h2
  rw [Nat.pow_succ]
  exact Nat.lt_of_le_of_lt (Nat.mul_le_mul_left _ h2) (Nat.mul_lt_mul_of_pos_right h1 (by omega))

set_option maxRecDepth 100000 in
set_option maxHeartbeats 1000000 in
theorem quo_big (P P' : Nat → Prop) (A A' : Option Addr) (c c' : Nat) (a b : List Nat) (w : World) (h : RN w P A c a) (h' : RN w P' A' c' b) (hP : ∀ b, P b → b < w.heap.size) (hP' : ∀ b, P' b → b < w.heap.size) (hl : a.length < 90000) (hl' : b.length < 90000)
    (hge : val 18446744073709551616 b ≤ val 18446744073709551616 a) (hbig : 18446744073709551616 ≤ val 18446744073709551616 b) :
    Calls Try.prog 67 #[.slice A a.length c, .slice A' b.length c'] w fun e w' => ∃ A1 c1 A2 c2, e = .returned (.tuple #[.slice A1 (digs 18446744073709551616 (val 18446744073709551616 a / val 18446744073709551616 b)).length c1, .slice A2 (digs 18446744073709551616 (val 18446744073709551616 a % val 18446744073709551616 b)).length c2, .bool true]) ∧
      OB w' w.heap.size A1 c1 (digs 18446744073709551616 (val 18446744073709551616 a / val 18446744073709551616 b)) ∧ OB w' w.heap.size A2 c2 (digs 18446744073709551616 (val 18446744073709551616 a % val 18446744073709551616 b)) ∧ Below w.heap.size w w' := by
  have ta := Lib.hid (trim_any P A c a w h)
  have tb := trim_any P' A' c' b w h'
  have tc := cmp_any P P' A A' c c' _ _ w h.trim h'.trim
  have la := digs_length_le (B := 18446744073709551616) (by omega) h.2.1
  have lb := digs_length_le (B := 18446744073709551616) (by omega) h'.2.1
  rw [val_digs (by omega), val_digs (by omega)] at tc
  replace h := h.trim
  replace h' := h'.trim
  generalize val 18446744073709551616 a = x at *
  generalize val 18446744073709551616 b = y at *
  have hcv : 0 ≤ cmpV x y := by rcases cmpV_cases x y with h | h | h <;> omega
  generalize cmpV x y = v at tc hcv
  obtain ⟨i0, hi, hz0, hz1, hz2⟩ := info_parts info64
  obtain ⟨n2, s, top, hn, htop, htl, hs, hbl, hDn, hDt, hDp⟩ := quo_setup hbig
  have hxv := val_digs (B := 18446744073709551616) (by omega) x
  have hyv := val_digs (B := 18446744073709551616) (by omega) y
  have hmono : (digs 18446744073709551616 x).length ≤ (digs 18446744073709551616 (x * 2 ^ s)).length := digs_length_mono (by omega) (Nat.le_mul_of_pos_right _ (Nat.pow_pos (by omega)))
  have hmono2 : (digs 18446744073709551616 y).length ≤ (digs 18446744073709551616 x).length := digs_length_mono (by omega) hge
  have hshl := shl_len x hs
  have hX0 : 0 < x := by omega
  have hY0 : 0 < y := by omega
  generalize digs 18446744073709551616 x = l at *
  generalize digs 18446744073709551616 y = m at *
  have T1 := Lib.hid fun W (hW : RN W P A c l) (hp : ∀ b, P b → b < W.heap.size) => shl_yes P A c l s W hW hp (by omega) (by omega) (by rw [hxv]; exact hX0)
  have T2 := Lib.hid fun W (hW : RN W P' A' c' m) (hp : ∀ b, P' b → b < W.heap.size) => shl_yes P' A' c' m s W hW hp (by omega) (by omega) (by rw [hyv]; exact hY0)
  rw [hxv] at T1
  rw [hyv, hDn, hn] at T2
  rw [hn] at tb tc
  have hXD := norm_x (B := 18446744073709551616) (x := x * 2 ^ s) (D := y * 2 ^ s) (n := n2 + 2) (by omega) (by omega) hDp
  have hDlt := lt_pow_digs (B := 18446744073709551616) (by omega) (y * 2 ^ s)
  rw [hDn] at hDlt
  have hDd := digs_lt (B := 18446744073709551616) (by omega) (y * 2 ^ s)
  have hDv := val_digs (B := 18446744073709551616) (by omega) (y * 2 ^ s)
  have hXv := val_digs (B := 18446744073709551616) (by omega) (x * 2 ^ s)
  have hD0 : 0 < y * 2 ^ s := Nat.mul_pos hY0 (Nat.pow_pos (by omega))
  have hqx : (x * 2 ^ s) / (y * 2 ^ s) = x / y := Nat.mul_div_mul_right _ _ (Nat.pow_pos (by omega))
  have hrx : (x * 2 ^ s) % (y * 2 ^ s) / 2 ^ s = x % y := by
    rw [Nat.mul_mod_mul_right]
    exact Nat.mul_div_cancel _ (Nat.pow_pos (by omega))
  generalize y * 2 ^ s = D at *
  generalize x * 2 ^ s = X at *
  generalize digs 18446744073709551616 D = lD at *
  generalize digs 18446744073709551616 X = lX at *
  obtain ⟨n, hn'⟩ : ∃ n, n2 + 2 = n := ⟨_, rfl⟩
  obtain ⟨n1, hn1⟩ : ∃ n1, n2 + 1 = n1 := ⟨_, rfl⟩
  rw [hn'] at hn hDn hDlt hXD tb tc T2
  have HlD := Lib.hid hDn
  rw [hn1] at htop hDt
  obtain ⟨kX, hkX⟩ : ∃ kX, lX.length = kX := ⟨_, rfl⟩
  have hLX : Lim lX → True := fun _ => trivial
  clear hLX
  rw [hkX] at hmono T1 hXD hshl
  obtain ⟨t, htt⟩ : ∃ t, kX + 1 - n = t := ⟨_, rfl⟩
  rw [htt] at hXD
  have hlz := fun w => Try.bits_LeadingZeros64 (top : Int) w (by omega) (by omega)
  rw [Int.toNat_natCast, hbl, show (64 - ((64 - s : Nat) : Int)) = (s : Int) by omega] at hlz
  have hge0 : ((n : Int) == 0) = false := eqB (by omega)
  have hge1 : ((n : Int) == 1) = false := eqB (by omega)
  have i1 : (n : Int) - 1 = (n1 : Int) := by omega
  have i2 : n1 < n := by omega
  have i3 : ¬ kX < l.length := by omega
  have i4 : (kX : Int) + 1 - (n : Int) = (t : Int) := by omega
  have hcv' : ¬ v < 0 := by omega
  have hnb : n < 90000 := by omega
  have hlb : l.length < 90000 := by omega
  have hkb : kX ≤ 90001 := by omega
  obtain ⟨ad', rfl, hPad, q1⟩ := h'.at_ (i := n1) (by omega)
  rw [htop] at q1
  have Htb := Lib.hid tb
  have Htc := Lib.hid tc
  have Hlz := Lib.hid hlz
  have Hn2 := Lib.hid hn'
  have Hn1 := Lib.hid hn1
  have HkX := Lib.hid hkX
  have HXD := Lib.hid hXD
  have Htt := Lib.hid htt
  have Hqx := Lib.hid hqx
  have Hrx := Lib.hid hrx
  have HDv := Lib.hid hDv
  have HXv := Lib.hid hXv
  have HDlt := Lib.hid hDlt
  have HDt := Lib.hid hDt
  have Hla := Lib.hid la
  have Hl := Lib.hid hl
  clear tb tc hlz hn' hn1 hkX hXD htt hqx hrx hDv hXv hDlt hDt la hl hbig hge hxv hyv hmono2 hX0 hY0 hDp lb hl' hbl htl htop hcv hDn hmono hshl
  go_enter Try.func67, Try.ntmps67
  go_wp2_with fail
  refine ta.out.mono ?_
  rintro e w1 ⟨rfl, rfl⟩
  go_wp2_with fail
  refine Htb.out.mono ?_
  rintro e w1 ⟨rfl, rfl⟩
  go_wp2_with fail
  refine Htc.out.mono ?_
  rintro e w1 ⟨rfl, nd, rfl⟩
  obtain ⟨W, hW⟩ : ∃ W, W = w.drewN nd := ⟨_, rfl⟩
  have q2 : W.cell? (ad'.add n1) = some (.int .u64 (top : Int)) := by rw [hW]; exact q1
  have hsz : W.heap.size = w.heap.size := by rw [hW]; rfl
  have hB0 : Below w.heap.size w W := by rw [hW]; exact below_drewN (Below.refl _ _) _
  have hRa : RN W P A c l := by rw [hW]; exact h.drewN _
  have hRb : RN W P' (some ad') c' m := by rw [hW]; exact h'.drewN _
  rw [← hW]
  have T1' := Lib.hid (T1.out W hRa (by rw [hsz]; exact hP))
  have Hsz := Lib.hid hsz
  clear hW q1 T1 hRa h h' hsz
  go_wp2_with fail
  refine (Hlz.out _).mono ?_
  rintro e w1 ⟨rfl, hw1⟩
  obtain rfl : W = w1 := hw1.symm
  go_wp2_with fail
  refine T1'.out.mono ?_
  rintro e w2 ⟨A1, c1, rfl, hO1, hc1, ⟨o, rfl, hblk, ho, hpre⟩, hB1⟩
  have hown := own_of_blk hblk (Nat.le_refl _) ho (by unfold maxLen; have := hO1.cap; omega) (by have := hO1.cap; have := HkX.out; omega) hpre HkX.out
  have hLX := hO1.1
  have hB1s := hB1.size
  clear hblk hpre ho
  go_wp2_with (at_builtin; refine wpList_append_rs _ rfl _ _ 23 rfl W.heap.size 72 i0 (.int .u64 0) 1 8 Try.underlying23 hi hz0 hz1 hz2 rfl (by decide) _ kX (nts lX) rfl (hown.alloc _) (In w2.heap.size (w2.heap.size + 1)) (some ⟨w2.heap.size, 0, none⟩) 1 1 [.int .u64 0] rfl (RS.fresh #[.int .u64 0] 72 1 1 rfl (by unfold maxLen; omega) ⟨Nat.le_refl _, by omega⟩) (by simp [Value.oneCell']) (kX + 1) rfl (by unfold maxLen; omega) (by omega) (by simp; omega) ?_)
  intro A2 c2 w3 hown3 hg3 _
  have hlen : (lX ++ [0]).length = kX + 1 := by rw [List.length_append, HkX.out]; rfl
  have hown4 : w3.ownsRow W.heap.size 72 1 (.slice A2 (lX ++ [0]).length c2) (lX ++ [0]).length (nts (lX ++ [0])) := by
    rw [hlen]
    have : nts (lX ++ [0]) = nts lX ++ [.int .u64 0] := by simp [nts]
    rw [this]
    exact hown3
  have hLr : Lim (lX ++ [0]) := ⟨fun x hx => by
    rcases List.mem_append.1 hx with h | h
    · exact hLX.1 x h
    · rw [List.mem_singleton.1 h]; omega, by rw [hlen]; omega⟩
  have hOr := OB.of_own hown4 hLr
  obtain ⟨g, rfl, hg, hrow⟩ := hOr.row (by omega)
  have hcr := hOr.cap
  rw [hlen] at hcr
  have hgl := hrow.lt
  have hB3 : Below W.heap.size W w3 := (hB1.alloc hB1s _).grown hg3 (by simp; omega) (by intro j hj; exact own_block_le hown hj)
  have hvr : val 18446744073709551616 (lX ++ [0]) = X := by rw [val_append, HXv.out]; simp
  generalize lX ++ [0] = R at *
  obtain ⟨p, hp⟩ : ∃ p : Addr, p = ⟨g, 0, none⟩ := ⟨_, rfl⟩
  rw [← hp]
  have Hp := Lib.hid hp
  have T3 := Lib.hid (T2.out w3 (hRb.below hB3 (by rw [Hsz.out]; exact hP')) (by have := hB3.size; have := Hsz.out; intro b hb; have := hP' b hb; omega))
  have hcr2 : kX + 1 ≤ c2 := hcr.1
  have hcr3 : c2 ≤ 9223372036854775807 := hcr.2.1
  clear hp hown hown3 hown4 hO1 hB1 hB1s hcr T2 hRb q2 hg3 hOr
  go_wp2_with fail
  go_loopw [11] (fun rv wr => rv = .slice (some p) (kX + 1) c2 ∧ w3 = wr) (fun _ _ => 0)
  case atStart => exact ⟨rfl, rfl⟩
  case round =>
    obtain ⟨rfl, rfl⟩ := hrel
    go_wp2_with fail
    refine T3.out.mono ?_
    rintro e w4 ⟨A3, c3, rfl, hO3, hc3, ⟨o3, hA3, hu1, hu2, hu3⟩, hB4⟩
    clear hu1 hu2 hu3
    have hAd := hO3.row (by rw [HlD.out]; omega)
    have hRd := hO3.rn
    have hB4s := hB4.size
    have hgq : g < w4.heap.size := by omega
    have hrow4 := hrow.below hB4 hgl
    have hB34 : Below W.heap.size W w4 := hB3.trans (hB4.mono (by have := hB3.size; omega))
    have hB4a := hB34.alloc (by omega) (.cells (madeCells #[.int .u64 0] t) 72)
    have hblkq := Blk.made w4 t
    have hmk := run_make_row' (P := Try.prog) 23 72 (.int .u64 0) 8 Try.underlying23 info64 rfl .i64 .i64 t (by omega) (by omega)
    have Hs := Lib.hid (Below1.start t)
    clear hO3 hB4 hB34 hrow T3 hA3
    go_wp2_with fail
    go_loopw [14] (fun iv wr => ∃ (k : Nat) (z : Int) (L qs : List Nat), iv = .int .i64 z ∧ Below1 k z ∧ k ≤ t ∧ QuoAt 18446744073709551616 X D L qs k ∧ Hid (L.length = kX + 1) ∧ Hid (qs.length = t) ∧ Lim L ∧ Lim qs ∧ Row wr g L ∧ Blk wr w4.heap.size qs ∧ RN wr (In w3.heap.size w4.heap.size) A3 c3 lD ∧ Below w.heap.size w wr) (fun iv _ => (intOf iv + 1).toNat)
    case atStart => exact ⟨t, _, R, List.replicate t 0, rfl, Hs.out, by omega, by rw [← hvr]; exact QuoAt.start (by simp) (by rw [hvr]; exact HXD.out), Lib.hid hlen, Lib.hid (by simp), hLr, ⟨by simp, by simp; omega⟩, hrow4.alloc_ _, hblkq, hRd.alloc_ (fun b hb => hb.2) _, (hB0.trans (hB4a.mono (by rw [Hsz.out]; exact Nat.le_refl _)))⟩
    case round =>
      obtain ⟨k, z, L, qs, rfl, hz, hk, hQ, HL, Hqs, hLL, hLq, hrw, hbq, hRD, hB⟩ := hrel
      clear hrow4 hblkq hRd hB4a hlen hLr hvr hAd
      rcases hz with ⟨rfl, rfl⟩ | ⟨j, rfl, rfl⟩
      · obtain ⟨v1, v2⟩ := hQ.fin
        rw [Hqx.out] at v1
        have hws := hB.size
        have hWs := Hsz.out
        have hOq : OB wr w.heap.size (some ⟨w4.heap.size, 0, none⟩) t qs := OB.of_blk hbq (by omega) hLq (by have := Hqs.out; omega) (by unfold maxLen; omega)
        have hOr := hrw.ob (base := w.heap.size) (c := c2) (by omega) hLL (by have := HL.out; omega) (by unfold maxLen; omega)
        have tq := trim_any _ _ _ _ _ hOq.rn
        have hOq' := hOq.trim
        rw [v1] at hOq'
        rw [v1, Hqs.out] at tq
        have tr := shr_any _ _ _ _ s wr hOr.rn (fun b hb => hb.2) (by have := HL.out; omega) (by omega)
        rw [v2, Hrx.out, HL.out, ← Hp.out] at tr
        have Tq := Lib.hid tq
        have Tr := Lib.hid tr
        clear hQ hLL hLq hrw hbq hRD hOr hOq tq tr
        go_wp2_with fail
        refine Tq.out.mono ?_
        rintro e w5 ⟨rfl, rfl⟩
        go_wp2_with fail
        refine Tr.out.mono ?_
        rintro e w6 ⟨A6, c6, rfl, hO6, hB6⟩
        go_wp2
        go_ret3
        exact ⟨_, _, _, _, rfl, hOq'.below hB6 (Nat.le_refl _), hO6.mono hws, hB.trans (hB6.mono hws)⟩
      · have hLl := HL.out
        have hlD := HlD.out
        have e2 := Hn2.out
        have e1 := Hn1.out
        have hjt := Htt.out
        obtain ⟨hz0, hge, hgB⟩ := guess_ge (j := j) e2 e1 hLL.1 hDd hlD (by omega) HDt.out (by rw [HDv.out]; exact hQ.2)
        obtain ⟨ad, rfl, had, d1⟩ := hRD.at_ (i := n1) (by omega)
        have d2 := hRD.cells n2 (by omega)
        obtain ⟨y0, hy0⟩ : ∃ y0, j + n = y0 := ⟨_, rfl⟩
        obtain ⟨y1, hy1⟩ : ∃ y1, j + n1 = y1 := ⟨_, rfl⟩
        obtain ⟨y2, hy2⟩ : ∃ y2, j + n2 = y2 := ⟨_, rfl⟩
        rw [hy0, hy1, hy2] at hge hgB
        rw [HDv.out] at hge
        have r0 := hrw.cell Hp.out (j := y0) (by omega)
        have r1 := hrw.cell Hp.out (j := y1) (by omega)
        have r2 := hrw.cell Hp.out (j := y2) (by omega)
        rw [Nat.zero_add] at r0 r1 r2
        have hgs := guess_any (dg L y0) (dg L y1) (dg L y2) (dg lD n1) (dg lD n2)
        have hgs2 := fun w => hgs w (hLL.dgLt y1) (hLL.dgLt y2) (getD_lt (by omega) hDd n1) (getD_lt (by omega) hDd n2) HDt.out
        obtain ⟨G, hG⟩ : ∃ G, guessF (dg L y0) (dg L y1) (dg L y2) (dg lD n1) (dg lD n2) = G := ⟨_, rfl⟩
        rw [hG] at hge hgB hgs2
        have Hgs := Lib.hid hgs2
        have c0 : (j : Int) + (n : Int) = (y0 : Int) := by omega
        have c1' : (y0 : Int) - 1 = (y1 : Int) := by omega
        have c2' : (y0 : Int) - 2 = (y2 : Int) := by omega
        have c3' : (n : Int) - 2 = (n2 : Int) := by omega
        have c4 : y0 + 1 - j = n + 1 := by omega
        have hpj : p.add j = ⟨g, j, none⟩ := by rw [Hp.out, add_off, Nat.zero_add]
        have Hpj := Lib.hid hpj
        have b0 : (y0 : Int) < (kX : Int) + 1 := by omega
        have b1 : (y1 : Int) < (kX : Int) + 1 := by omega
        have b2 : (y2 : Int) < (kX : Int) + 1 := by omega
        have b3 : n2 < n := by omega
        have b4 : j ≤ y0 + 1 := by omega
        have b5 : (y0 : Int) + 1 ≤ (c2 : Int) := by omega
        have b6 : y0 ≤ 90001 := by omega
        clear hgs hgs2 hG e1 e2 hLl hpj
        have Hjt := Lib.hid hjt
        have Hlen : Hid (j + n < L.length) := Lib.hid (by have := HL.out; omega)
        have HlDn := Lib.hid hlD
        have hPg : ∀ b, In w3.heap.size w4.heap.size b → b ≠ g := fun b hb => by have := hb.1; omega
        have hgq' : w4.heap.size ≠ g := by omega
        have hwg : w.heap.size ≤ g := by have := Hsz.out; omega
        clear hjt hlD
        go_wp2_with fail
        go_quiet ((go_at_call 92; exact Calls.quiet_of (Hgs.out _)))
        go_wp2_with fail
        refine (takes_any g j (p.add j) Hpj.out (In w3.heap.size w4.heap.size) (some ad) c3 (c2 - j) n G L lD _ (hrw.drewN _) hLL (hRD.drewN _) hPg HlDn.out Hlen.out hgB).mono ?_
        rintro e w5 ⟨L1, bb, rfl, hrw1, hLL1, ho1, hl1, hv1, hz1⟩
        have hF1 := FixAt.start (n := n) (D := D) hge hgB hz1 hz0 (by rw [HDv.out] at hv1; exact hv1) hLL1.1 (by omega) HDlt.out
        have hbq1 : Blk w5 w4.heap.size qs := (ho1.block _ hgq').trans hbq
        have hRD1 := (hRD.drewN nq).only ho1 hPg
        have hB1' := (below_drewN hB nq).trans (ho1.below hwg)
        have hl1' := Lib.hid (hl1.trans HL.out)
        clear hrw hLL hbq hRD hB ho1 hv1 hz1 hl1 hge hgB r0 r1 r2 d1 d2 hz0
        go_wp2_with fail
        go_loopw [15, 17] (fun gv tv wr => ∃ (G : Nat) (too : Bool) (L' : List Nat), gv = .int .u64 (G : Int) ∧ tv = .bool too ∧ FixAt 18446744073709551616 (val 18446744073709551616 L) j n D L' G too ∧ Hid (L'.length = kX + 1) ∧ Lim L' ∧ Row wr g L' ∧ Blk wr w4.heap.size qs ∧ RN wr (In w3.heap.size w4.heap.size) (some ad) c3 lD ∧ Below w.heap.size w wr) (fun gv _ _ => (intOf gv).toNat)
        case atStart => exact ⟨G, _, L1, rfl, rfl, hF1, hl1', hLL1, hrw1, hbq1, hRD1, hB1'⟩
        case round =>
          clear hF1 hl1' hLL1 hrw1 hbq1 hRD1 hB1'
          obtain ⟨G, too, L', rfl, rfl, hF, HL', hLL, hrw, hbq, hRD, hB⟩ := hrel
          rcases too with _ | _
          · obtain ⟨f1, f2⟩ := hF.fin (by omega) hD0
            have hjq : j < qs.length := by have := Hqs.out; omega
            have hQ' := hQ.step hjq f1 f2
            have q3 := hbq.cell hjq
            have q4 := hbq.free j
            have hbq' := hbq.set j G
            have hLq' := hLq.set j G hF.2.1
            have hB' := hB.setCell (p := ⟨w4.heap.size, j, none⟩) (by show w.heap.size ≤ w4.heap.size; omega) (.int .u64 (G : Int))
            have hRD' : RN (World.setCell _ ⟨w4.heap.size, j, none⟩ (.int .u64 (G : Int))) (In w3.heap.size w4.heap.size) (some ad) c3 lD := hRD.keep fun q hq => World.cell?_of_block (w := _) (Below.heap_setCell _ _ _ q.block (by have := hq.2; show q.block ≠ w4.heap.size; omega))
            have hrw' := hrw.of_heap (Below.heap_setCell _ ⟨w4.heap.size, j, none⟩ (.int .u64 (G : Int)) g (by show g ≠ w4.heap.size; omega))
            have Hqs' : Hid ((qs.set j G).length = t) := Lib.hid (by simpa using Hqs.out)
            have k1 : j < t := by omega
            have Hs' := Lib.hid (Below1.start j)
            clear hF f1 f2 hQ hbq hLq hB hRD hrw
            go_wp2
            go_roundw
            case rel => exact ⟨j, _, L', qs.set j G, rfl, Hs'.out, by omega, hQ', HL', Hqs', hLL, hLq', hrw', hbq', hRD', hB'⟩
            case measure => simp [intOf]
          · have hpos := hF.pos hLL.1 (by omega)
            have hpos' := Nat.lt_of_le_of_lt (Nat.zero_le _) hpos
            clear hpos
            obtain ⟨G, rfl⟩ : ∃ k, G = k + 1 := ⟨G - 1, by omega⟩
            have hgB := hF.2.1
            have hGi : (G : Int) < 18446744073709551616 := by omega
            clear hpos' hgB
            go_wp2_with fail
            refine (gives_any g j (p.add j) Hpj.out (In w3.heap.size w4.heap.size) (some ad) c3 (c2 - j) n L' lD _ hrw hLL hRD hPg HlDn.out (by rw [HL'.out, ← HL.out]; exact Hlen.out)).mono ?_
            rintro e w6 ⟨L2, bb2, rfl, hrw2, hLL2, ho2, hl2, hv2, hz2⟩
            rw [HDv.out] at hv2
            have hF2 := hF.step hLL.1 hLL2.1 (by omega) hD0 HDlt.out hv2 hz2
            have hbq2 : Blk w6 w4.heap.size qs := (ho2.block _ hgq').trans hbq
            have hRD2 := hRD.only ho2 hPg
            have hB2 := hB.trans (ho2.below hwg)
            have r4 := hrw2.cell Hpj.out (j := n) (by rw [hl2, HL'.out, ← HL.out]; exact Hlen.out)
            have HL2 := Lib.hid (hl2.trans HL'.out)
            have k2 : (n : Int) < (n : Int) + 1 := by omega
            clear hF hLL hrw hbq hRD hB ho2 hl2 hv2 hz2
            by_cases hd0 : dg L2 (j + n) = 0
            · rw [hd0] at r4 hF2
              clear hd0
              go_wp2
              go_roundw
              case rel => exact ⟨G, false, L2, by go_num, rfl, by simpa using hF2, HL2, hLL2, hrw2, hbq2, hRD2, hB2⟩
              case measure => simp [intOf]
            · have hdn : ((dg L2 (j + n) : Int) != 0) = true := neB (by omega)
              have hF2' : FixAt 18446744073709551616 (val 18446744073709551616 L) j n D L2 G true := by simpa [hd0] using hF2
              clear hF2
              go_wp2
              go_roundw
              case rel => exact ⟨G, true, L2, by go_num, congrArg Value.bool (by first | exact hdn | (rw [← hy0]; exact hdn)), hF2', HL2, hLL2, hrw2, hbq2, hRD2, hB2⟩
              case measure => simp [intOf]

/-- Division, whatever the divisor (but 0). -/
theorem quo_any (P P' : Nat → Prop) (A A' : Option Addr) (c c' : Nat) (a b : List Nat) (w : World) (h : RN w P A c a) (h' : RN w P' A' c' b) (hP : ∀ b, P b → b < w.heap.size) (hP' : ∀ b, P' b → b < w.heap.size) (hl : a.length < 90000) (hl' : b.length < 90000) (h0 : 0 < val 18446744073709551616 b) :
    Calls Try.prog 67 #[.slice A a.length c, .slice A' b.length c'] w fun e w' => ∃ A1 c1 A2 c2, e = .returned (.tuple #[.slice A1 (digs 18446744073709551616 (val 18446744073709551616 a / val 18446744073709551616 b)).length c1, .slice A2 (digs 18446744073709551616 (val 18446744073709551616 a % val 18446744073709551616 b)).length c2, .bool true]) ∧
      OB w' w.heap.size A1 c1 (digs 18446744073709551616 (val 18446744073709551616 a / val 18446744073709551616 b)) ∧ OB w' w.heap.size A2 c2 (digs 18446744073709551616 (val 18446744073709551616 a % val 18446744073709551616 b)) ∧ Below w.heap.size w w' := by
  rcases Nat.lt_or_ge (val 18446744073709551616 a) (val 18446744073709551616 b) with hlt | hge
  · have hq := quo_lt P P' A A' c c' a b w h h' hlt
    rw [Nat.div_eq_of_lt hlt, Nat.mod_eq_of_lt hlt, digs_zero]
    refine hq.mono ?_
    rintro e w' ⟨A1, c1, rfl, hO, hB⟩
    exact ⟨none, 0, A1, c1, rfl, OB.nil_ _ _, hO, hB⟩
  · rcases Nat.lt_or_ge (val 18446744073709551616 b) 18446744073709551616 with h1 | h1
    · exact quo_one P P' A A' c c' a b w h h' hP (by omega) hge h0 h1
    · exact quo_big P P' A A' c c' a b w h h' hP hP' hl hl' hge h1
end Go.Proofs.Ytldhmjfjbalakaa

namespace Go.Proofs.Ytldhmjfjbalakaa
open Go.RowKit

/-- Bytes as a string. -/
def strB (bs : List Nat) : ByteArray := strOfNums (bs.map fun b : Nat => (b : Int))
theorem strB_nil : strB [] = ByteArray.empty := rfl
theorem strB_inj {a b : List Nat} (ha : ∀ x ∈ a, x < 256) (hb : ∀ x ∈ b, x < 256) (h : (strB a).toList = (strB b).toList) : a = b := by
  have e : ∀ l : List Nat, (∀ x ∈ l, x < 256) → (strB l).toList.map UInt8.toNat = l := by
    intro l hl
    rw [strB, Lib.strOfNums_toList, Lib.bytesOf]
    simp only [List.map_map]
    conv => rhs; rw [← List.map_id l]
    apply List.map_congr_left
    intro x hx
    have := hl x hx
    simp
    omega
  rw [← e a ha, ← e b hb, h]

section
variable {w : World} {Q : Nat → Prop} {A : Option Addr} {c : Nat} {bs : List Nat}
theorem RB.str {P : Program} (h : RB w Q A c bs) (src e dst : TypeId) (hs : P.underlying src = some (.slice e)) (he : P.underlying e = some (.int .u8)) (hd : P.underlying dst = some .string) :
    (convert src dst (.slice A bs.length c)).run P w = .ok (.string (strB bs)) w := by
  rcases A with _ | ad
  · have hl : bs.length = 0 := by
      rcases Nat.eq_zero_or_pos bs.length with h0 | h0
      · exact h0
      · obtain ⟨ad, h, _⟩ := h.1.2.2.2 h0
        cases h
    obtain rfl := List.eq_nil_of_length_eq_zero hl
    rw [run_convert_bytes_nil w src e hs he _ _ dst hd]
    rfl
  · have hc : ∀ j v, (bys bs)[j]? = some v → w.cell? (ad.add j) = some v := by
      intro j v hj
      rcases Nat.eq_zero_or_pos bs.length with h0 | h0
      · obtain rfl := List.eq_nil_of_length_eq_zero h0
        simp [bys] at hj
      · obtain ⟨ad', h, _, hc⟩ := h.1.2.2.2 h0
        injection h with h
        subst h
        exact hc j v hj
    have hl : (loadCells ad bs.length).run P w = .ok ((bs.map fun b : Nat => (b : Int)).map (Value.int .u8)).toArray w := by
      have := run_loadCells_list (P := P) w ad (bys bs) hc
      simpa [bys, Function.comp_def] using this
    rw [run_convert_bytes_string w src dst e _ _ c hs he hd, run_bytesToString w _ _ c _ hl, foldl_push_bytes]
    simp [strB, strOfNums, ByteArray.empty, ByteArray.emptyWithCapacity]
    rfl
end

end Go.Proofs.Ytldhmjfjbalakaa
