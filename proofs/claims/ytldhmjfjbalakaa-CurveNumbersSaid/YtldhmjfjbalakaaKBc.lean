/- What the reference's Quo computes: quotient and remainder. What baileyref2's Mod and Mul compute. The reference's curves: words, and its arithmetic modulo the prime. -/
import Derived.Test.YtldhmjfjbalakaaKAh
import Derived.Test.YtldhmjfjbalakaaKAl
import Derived.Test.YtldhmjfjbalakaaKAm
import Derived.Test.YtldhmjfjbalakaaKAd
import Derived.Test.YtldhmjfjbalakaaKAq
import Derived.Test.YtldhmjfjbalakaaKAe
import Derived.Deep.DeepCutAuto
namespace Go.Proofs.Ytldhmjfjbalakaa
open Go.RowKit

/-- A guess of a digit: not too small, and a digit. -/
def DigitOk (B V k D G : Nat) : Prop := G < B ∧ V / (B ^ k * D) ≤ G
theorem quo_rest {B k D g V x : Nat} (hB : 0 < B) (hD : 0 < D) (hq : V / (B ^ k * D) ≤ g) (he : x + B ^ k * (g * D) = V) : x < B ^ k * D := by
  have h5 := Nat.lt_mul_div_succ V (show 0 < B ^ k * D from Nat.mul_pos (Nat.pow_pos hB) hD)
  have h6 : B ^ k * D * (V / (B ^ k * D) + 1) ≤ B ^ k * D * (g + 1) := Nat.mul_le_mul_left _ (by omega)
  have e : B ^ k * D * (g + 1) = B ^ k * (g * D) + B ^ k * D := by rw [Nat.mul_add, Nat.mul_one, Nat.mul_assoc, Nat.mul_comm D]
  omega
/-- What the divisor's highest digit says. -/
theorem scale_setup {y n1 : Nat} (hn : (digs 4294967296 y).length = n1 + 1) : ∃ top sc, dg (digs 4294967296 y) n1 = top ∧ 0 < top ∧ top < 4294967296 ∧ 4294967296 / (top + 1) = sc ∧ 0 < sc ∧ sc < 4294967296 ∧ (digs 4294967296 (sc * y)).length = n1 + 1 ∧ 0 < dg (digs 4294967296 (sc * y)) n1 ∧ 4294967296 ^ n1 ≤ y := by
  have hB : (2 : Nat) ≤ 4294967296 := by omega
  have hlt := digs_lt hB y
  have hy0 : 0 < y := by
    rcases Nat.eq_zero_or_pos y with h | h
    · subst h; rw [digs_zero] at hn; simp at hn
    · exact h
  have hlow := pow_digs_le hB hy0
  rw [hn, Nat.add_sub_cancel] at hlow
  obtain ⟨top, ht⟩ : ∃ top, dg (digs 4294967296 y) n1 = top := ⟨_, rfl⟩
  have htl : top < 4294967296 := by rw [← ht]; exact getD_lt (by omega) hlt _
  have ey : y = val 4294967296 ((digs 4294967296 y).take n1) + 4294967296 ^ n1 * top := by
    rw [← ht, ← val_take_getD, ← hn, List.take_length, val_digs hB]
  have hr : val 4294967296 ((digs 4294967296 y).take n1) < 4294967296 ^ n1 := by
    have := val_lt (B := 4294967296) (l := (digs 4294967296 y).take n1) fun x hx => hlt x (List.mem_of_mem_take hx)
    rwa [List.length_take, Nat.min_eq_left (by omega)] at this
  have h0 : 0 < top := by
    rcases Nat.eq_zero_or_pos top with h | h
    · subst h; omega
    · exact h
  obtain ⟨sc, hsc⟩ : ∃ sc, 4294967296 / (top + 1) = sc := ⟨_, rfl⟩
  have hs1 : sc * (top + 1) ≤ 4294967296 := by rw [← hsc]; exact Nat.div_mul_le_self _ _
  have hs0 : 0 < sc := by rw [← hsc]; exact Nat.div_pos (by omega) (by omega)
  have hsl : sc < 4294967296 := by rw [← hsc]; exact Nat.div_lt_self (by omega) (by omega)
  have hup : sc * y < 4294967296 ^ (n1 + 1) := by
    have k1 : y < 4294967296 ^ n1 * (top + 1) := by rw [Nat.mul_add, Nat.mul_one]; omega
    have k2 : sc * y < sc * (4294967296 ^ n1 * (top + 1)) := Nat.mul_lt_mul_of_pos_left k1 hs0
    have k3 : sc * (4294967296 ^ n1 * (top + 1)) = 4294967296 ^ n1 * (sc * (top + 1)) := Nat.mul_left_comm _ _ _
    have k4 : 4294967296 ^ n1 * (sc * (top + 1)) ≤ 4294967296 ^ n1 * 4294967296 := Nat.mul_le_mul_left _ hs1
    rw [Nat.pow_succ]
    omega
  have hlo2 : 4294967296 ^ n1 ≤ sc * y := Nat.le_trans hlow (Nat.le_mul_of_pos_left _ hs0)
  have hlen : (digs 4294967296 (sc * y)).length = n1 + 1 := by
    refine Nat.le_antisymm (digs_length_of_lt hB hup) ?_
    have := digs_length_mono hB (show y ≤ sc * y from Nat.le_mul_of_pos_left _ hs0)
    omega
  refine ⟨top, sc, ht, h0, htl, hsc, hs0, hsl, hlen, ?_, hlow⟩
  have ed : sc * y = val 4294967296 ((digs 4294967296 (sc * y)).take n1) + 4294967296 ^ n1 * dg (digs 4294967296 (sc * y)) n1 := by
    rw [← val_take_getD, ← hlen, List.take_length, val_digs hB]
  have hr2 : val 4294967296 ((digs 4294967296 (sc * y)).take n1) < 4294967296 ^ n1 := by
    have := val_lt (B := 4294967296) (l := (digs 4294967296 (sc * y)).take n1) fun x hx => digs_lt hB (sc * y) x (List.mem_of_mem_take hx)
    rwa [List.length_take, Nat.min_eq_left (by omega)] at this
  rcases Nat.eq_zero_or_pos (dg (digs 4294967296 (sc * y)) n1) with h | h
  · rw [h, Nat.mul_zero] at ed
    omega
  · exact h

set_option maxRecDepth 100000 in
set_option maxHeartbeats 2000000 in
theorem refQuo_small2 (P P' : Nat → Prop) (A A' : Option Addr) (c c' : Nat) (x y : Nat) (w : World) (h : RN w P A c (digs 4294967296 x)) (h' : RN w P' A' c' (digs 4294967296 y)) (hP : ∀ b, P b → b < w.heap.size) (hl : (digs 4294967296 x).length < 100000) (h0 : 0 < y) (hs : x < y ∨ (digs 4294967296 y).length = 1) :
    Calls Try.prog 86 #[.slice A (digs 4294967296 x).length c, .slice A' (digs 4294967296 y).length c'] w fun e w' => ∃ A1 c1 A2 c2, e = .returned (.tuple #[.slice A1 (digs 4294967296 (x / y)).length c1, .slice A2 (digs 4294967296 (x % y)).length c2]) ∧ OB w' w.heap.size A1 c1 (digs 4294967296 (x / y)) ∧ RN w' (fun b => b < w'.heap.size) A2 c2 (digs 4294967296 (x % y)) ∧ Below w.heap.size w w' := by
  have tc := refCmp_any P P' A A' c c' x y w h h'
  by_cases hlt : x < y
  · rw [cmpV_lt hlt] at tc
    have Tc := Lib.hid tc
    have hd : x / y = 0 := Nat.div_eq_of_lt hlt
    have hm : x % y = x := Nat.mod_eq_of_lt hlt
    rw [hd, hm, digs_zero]
    clear tc hlt hs hd hm
    go_enter Try.func86, Try.ntmps86
    go_wp2_with fail
    refine Tc.out.mono ?_
    rintro e w1 ⟨rfl, nd, rfl⟩
    go_wp2
    go_ret2
    exact ⟨none, 0, A, c, rfl, OB.nil_ _ _, RN.drewN (h.mono hP) nd, below_drewN (Below.refl _ _) _⟩
  · have hn : (digs 4294967296 y).length = 1 := by omega
    have hyB : y < 4294967296 := by
      have := lt_pow_digs (B := 4294967296) (by omega) y
      rw [hn] at this
      omega
    have hd1 : digs 4294967296 y = [y] := by
      rw [digs_pos (by omega) h0, Nat.mod_eq_of_lt hyB, Nat.div_eq_of_lt hyB, digs_zero]
    have hcv : 0 ≤ cmpV x y := by rcases cmpV_cases x y with h | h | h <;> omega
    generalize cmpV x y = v at tc hcv
    have hcv' : ¬ v < 0 := by omega
    have Tc := Lib.hid tc
    obtain ⟨ad, rfl, _, q1⟩ := h'.at_ (i := 0) (by omega)
    rw [hd1] at q1 Tc
    rw [hd1]
    have q1' : w.cell? (ad.add 0) = some (.int .u64 (y : Int)) := q1
    have q2 : ad.add 0 = ad := rfl
    rw [q2] at q1'
    have tS := fun n => refSmall_any P A c _ y (w.drewN n) (h.drewN n) hP (Dig.digs x) hl h0 (by omega)
    rw [val_digs (by omega)] at tS
    have TS := Lib.hid tS
    have hrB : x % y < 4294967296 := Nat.lt_trans (Nat.mod_lt _ h0) hyB
    obtain ⟨r, hr⟩ : ∃ r, x % y = r := ⟨_, rfl⟩
    rw [hr] at TS hrB
    have Hr := Lib.hid hrB
    have Hrr := Lib.hid hr
    clear tc tS hlt hs hn hcv h' hr hrB hd1 q1 q2 hyB
    go_enter Try.func86, Try.ntmps86
    go_wp2_with fail
    refine Tc.out.mono ?_
    rintro e w1 ⟨rfl, nd, rfl⟩
    go_wp2_with fail
    refine (TS.out nd).mono ?_
    rintro e w2 ⟨A1, c1, rfl, hO, hB⟩
    have hdr : Dig [r] := by intro x hx; rw [List.mem_singleton.1 hx]; exact Hr.out
    have ht := refTrim_any _ _ _ [r] _ (RN.one w2 r (by have := Hr.out; omega)) hdr
    have hO2 := (OB.of_blk (c := 1) (w := w2.alloc (.cells #[.int .u64 (r : Int)] 72)) (g := w2.heap.size) (l := [r]) (show Blk (w2.alloc (.cells #[.int .u64 (r : Int)] 72)) w2.heap.size [r] from heap_alloc_new w2 _) (base := 0) (Nat.zero_le _) ⟨fun x hx => by have := hdr x hx; omega, by simp⟩ (by simp) (by unfold maxLen; omega)).trim32 hdr
    have hvr : val 4294967296 [r] = r := by simp
    rw [hvr] at ht hO2
    have Ht := Lib.hid ht
    clear ht hdr hvr
    go_wp2_with fail
    refine Ht.out.mono ?_
    rintro e w3 ⟨rfl, rfl⟩
    go_wp2
    go_ret2
    exact ⟨A1, c1, some ⟨w2.heap.size, 0, none⟩, (digs 4294967296 r).length, by rw [Hrr.out]; rfl, hO.below ((Below.refl w2.heap.size w2).alloc (Nat.le_refl _) _) (Nat.le_refl _), by rw [Hrr.out]; exact hO2.rn.mono fun b hb => hb.2, (Below.mk hB.os hB.tape hB.output hB.size hB.block : Below w.heap.size w w2).alloc hB.size _⟩

set_option maxRecDepth 100000 in
set_option maxHeartbeats 2000000 in
theorem refQuo_big2 (P P' : Nat → Prop) (A A' : Option Addr) (c c' : Nat) (x y : Nat) (w : World) (h : RN w P A c (digs 4294967296 x)) (h' : RN w P' A' c' (digs 4294967296 y)) (hP : ∀ b, P b → b < w.heap.size) (hP' : ∀ b, P' b → b < w.heap.size) (hl : (digs 4294967296 x).length < 90000) (hge : y ≤ x) (hbig : 1 < (digs 4294967296 y).length) :
    Calls Try.prog 86 #[.slice A (digs 4294967296 x).length c, .slice A' (digs 4294967296 y).length c'] w fun e w' => ∃ A1 c1 A2 c2, e = .returned (.tuple #[.slice A1 (digs 4294967296 (x / y)).length c1, .slice A2 (digs 4294967296 (x % y)).length c2]) ∧ OB w' w.heap.size A1 c1 (digs 4294967296 (x / y)) ∧ RN w' (fun b => b < w'.heap.size) A2 c2 (digs 4294967296 (x % y)) ∧ Below w.heap.size w w' := by
  have tc := refCmp_any P P' A A' c c' x y w h h'
  have hcv : 0 ≤ cmpV x y := by rcases cmpV_cases x y with h | h | h <;> omega
  generalize cmpV x y = v at tc hcv
  have hcv' : ¬ v < 0 := by omega
  obtain ⟨n1, hn⟩ : ∃ n1, (digs 4294967296 y).length = n1 + 1 := ⟨(digs 4294967296 y).length - 1, by omega⟩
  obtain ⟨top, sc, htop, ht0, htl, hsc, hs0, hsl, hDn, hDt, hlow⟩ := scale_setup hn
  have hy0 : 0 < y := by have := Nat.pow_pos (n := n1) (show 0 < 4294967296 by omega); omega
  have hmono := digs_length_mono (B := 4294967296) (by omega) hge
  have hxl := lt_pow_digs (B := 4294967296) (by omega) x
  have hxv := val_digs (B := 4294967296) (by omega) x
  have hyv := val_digs (B := 4294967296) (by omega) y
  have dx := Dig.digs x
  have dy := Dig.digs y
  generalize digs 4294967296 x = l at *
  generalize digs 4294967296 y = m at *
  obtain ⟨n, hn'⟩ : ∃ n, n1 + 1 = n := ⟨_, rfl⟩
  rw [hn'] at hn hDn
  obtain ⟨t, htt⟩ : ∃ t, l.length + 1 - n = t := ⟨_, rfl⟩
  have hXD : sc * x < 4294967296 ^ t * (sc * y) := by
    have k1 : 4294967296 ^ l.length ≤ 4294967296 ^ t * y := by
      have : 4294967296 ^ t * 4294967296 ^ n1 ≤ 4294967296 ^ t * y := Nat.mul_le_mul_left _ hlow
      rwa [← Nat.pow_add, show t + n1 = l.length by omega] at this
    rw [Nat.mul_left_comm]
    exact Nat.mul_lt_mul_of_pos_left (Nat.lt_of_lt_of_le hxl k1) hs0
  have T1 := Lib.hid fun W (hW : RN W P A c l) (hp : ∀ b, P b → b < W.heap.size) => refTimes_any P A c l sc W hW hp dx (by omega) hsl
  have T2 := Lib.hid fun W (hW : RN W P' A' c' m) (hp : ∀ b, P' b → b < W.heap.size) => refTimes_any P' A' c' m sc W hW hp dy (by omega) hsl
  rw [hxv] at T1
  rw [hyv, hn] at T2
  rw [hn] at tc
  rw [hn]
  have hqx : (sc * x) / (sc * y) = x / y := Nat.mul_div_mul_left _ _ hs0
  have hrx : (sc * x) % (sc * y) / sc = x % y := by rw [Nat.mul_mod_mul_left, Nat.mul_div_cancel_left _ hs0]
  generalize x % y = rr at *
  have hD0 : 0 < sc * y := Nat.mul_pos hs0 hy0
  have dD := Dig.digs (sc * y)
  have hDv := val_digs (B := 4294967296) (by omega) (sc * y)
  obtain ⟨D, hD⟩ : ∃ D, sc * y = D := ⟨_, rfl⟩
  obtain ⟨X, hX⟩ : ∃ X, sc * x = X := ⟨_, rfl⟩
  rw [hD] at hqx hrx hD0 dD hDv hDn hDt hXD T2
  rw [hX] at hqx hrx hXD T1
  have hnb : n < 90000 := by omega
  have hlb : l.length < 90000 := by omega
  have i1 : (n : Int) - 1 = (n1 : Int) := by omega
  have i2 : n1 < n := by omega
  have i3 : ((n : Int) == 1) = false := eqB (by omega)
  have i4 : (l.length : Int) + 1 - (n : Int) = (t : Int) := by omega
  have i5 : (4294967296 : Int) / ((top : Int) + 1) = (sc : Int) := by rw [← hsc]; simp
  have i5' : (4294967296 : Int).tdiv ((top : Int) + 1) = (sc : Int) := by rw [Int.tdiv_eq_ediv_of_nonneg (by omega)]; exact i5
  have i6 : ((top : Int) + 1 == 0) = false := eqB (by omega)
  have i7 : IntKind.u64.wrap ((top : Int) + 1) = (top : Int) + 1 := IntWalk.u64_in _ (by omega)
  have i8 : IntKind.u64.wrap (sc : Int) = (sc : Int) := IntWalk.u64_in _ (by omega)
  have i9 : ¬ (top : Int) + 1 = 0 := by omega
  obtain ⟨ad', rfl, hPad, q1⟩ := h'.at_ (i := n1) (by omega)
  rw [htop] at q1
  have Htc := Lib.hid tc
  have Hn1 := Lib.hid hn'
  have HXD := Lib.hid hXD
  have Htt := Lib.hid htt
  have Hqx := Lib.hid hqx
  have Hrx := Lib.hid hrx
  have HDv := Lib.hid hDv
  have HDn := Lib.hid hDn
  have HDt := Lib.hid hDt
  have Hs0 := Lib.hid hs0
  have Hsl := Lib.hid (show sc < 4294967297 by omega)
  have HdD := Lib.hid dD
  clear tc hn' hXD htt hqx hrx hDv hDn hDt hX hD hlow hxl hxv hyv hsc htop ht0 hbig hge hy0 hmono dx dy hs0 hsl htl hcv dD
  go_enter Try.func86, Try.ntmps86
  go_wp2_with fail
  refine Htc.out.mono ?_
  rintro e w1 ⟨rfl, nd, rfl⟩
  obtain ⟨W, hW⟩ : ∃ W, W = w.drewN nd := ⟨_, rfl⟩
  have q2 : W.cell? (ad'.add n1) = some (.int .u64 (top : Int)) := by rw [hW]; exact q1
  have Hsz := Lib.hid (show W.heap.size = w.heap.size by rw [hW]; rfl)
  have hB0 : Below w.heap.size w W := by rw [hW]; exact below_drewN (Below.refl _ _) _
  have hRa : RN W P A c l := by rw [hW]; exact h.drewN _
  have hRb : RN W P' (some ad') c' m := by rw [hW]; exact h'.drewN _
  rw [← hW]
  have T1' := Lib.hid (T1.out W hRa (by rw [Hsz.out]; exact hP))
  clear hW q1 T1 hRa h h'
  go_wp2_with fail
  refine T1'.out.mono ?_
  rintro e w1 ⟨u0, rfl, hbu, hul, hDu, hvu, hB1⟩
  have hB1s := hB1.size
  have hgu := hbu.lt
  have T2' := Lib.hid (T2.out w1 (hRb.below hB1 (by rw [Hsz.out]; exact hP')) (by have := Hsz.out; intro b hb; have := hP' b hb; omega))
  clear T2 hRb q2
  go_wp2_with fail
  refine T2'.out.mono ?_
  rintro e w2 ⟨v0, rfl, hbv, hvl, hDv0, hvv, hB2⟩
  have hB2s := hB2.size
  have hOv : OB w2 w1.heap.size (some ⟨w1.heap.size, 0, none⟩) (n + 1) v0 := OB.of_blk hbv (Nat.le_refl _) ⟨fun x hx => by have := hDv0 x hx; omega, by omega⟩ (by omega) (by unfold maxLen; omega)
  have htv := refTrim_any _ _ _ _ _ hOv.rn hDv0
  have hRv := (hOv.trim32 hDv0).rn
  rw [hvv, HDn.out, hvl] at htv
  rw [hvv, HDn.out] at hRv
  have Htv := Lib.hid htv
  clear htv hOv hbv hvl hDv0 hvv T2' T1'
  go_wp2_with fail
  refine Htv.out.mono ?_
  rintro e w3 ⟨rfl, hw3⟩
  obtain rfl : w2 = w3 := hw3
  have hmk1 := run_make_row' (P := Try.prog) 29 72 (.int .u64 0) 8 Try.underlying29 info64 rfl .i64 .i64 t (by have := Htt.out; omega) (by have := Htt.out; omega)
  have hmk2 := run_make_row' (P := Try.prog) 29 72 (.int .u64 0) 8 Try.underlying29 info64 rfl .i64 .i64 (n + 1) (by omega) (by omega)
  simp only [Int.natCast_add, Int.cast_ofNat_Int] at hmk2
  have htb : t ≤ 90001 := by have := Htt.out; omega
  go_wp2_with fail
  have hWw := Hsz.out
  have hbu4 := ((hbu.below hB2 hgu).alloc (.cells (madeCells #[.int .u64 0] t) 72)).alloc (.cells (madeCells #[.int .u64 0] (n + 1)) 72)
  have hbq4 := (Blk.made w2 t).alloc (.cells (madeCells #[.int .u64 0] (n + 1)) 72)
  have hbw4 : Blk ((w2.alloc (.cells (madeCells #[.int .u64 0] t) 72)).alloc (.cells (madeCells #[.int .u64 0] (n + 1)) 72)) (w2.heap.size + 1) (List.replicate (n + 1) 0) := by
    have := Blk.made (w2.alloc (.cells (madeCells #[.int .u64 0] t) 72)) (n + 1)
    simpa using this
  have hRv4 := (hRv.alloc_ (fun b hb => hb.2) (.cells (madeCells #[.int .u64 0] t) 72)).alloc_ (fun b hb => by have := hb.2; simp; omega) (.cells (madeCells #[.int .u64 0] (n + 1)) 72)
  have hB4 := ((hB0.trans (hB1.mono (by omega))).trans (hB2.mono (by omega))).alloc (by omega) (.cells (madeCells #[.int .u64 0] t) 72) |>.alloc (by simp; omega) (.cells (madeCells #[.int .u64 0] (n + 1)) 72)
  have Hs := Lib.hid (Below1.start t)
  clear hbu hRv hB0 hB1 hB2 hWw
  go_loopw [14] (fun iv wr => ∃ (k : Nat) (z : Int) (L qs Wl : List Nat), iv = .int .i64 z ∧ Below1 k z ∧ k ≤ t ∧ QuoAt 4294967296 X D L qs k ∧ Hid (L.length = l.length + 1) ∧ Hid (qs.length = t) ∧ Hid (Wl.length = n + 1) ∧ Dig L ∧ Dig qs ∧ Blk wr W.heap.size L ∧ Blk wr w2.heap.size qs ∧ Blk wr (w2.heap.size + 1) Wl ∧ RN wr (In w1.heap.size w2.heap.size) (some ⟨w1.heap.size, 0, none⟩) n (digs 4294967296 D) ∧ Below w.heap.size w wr) (fun iv _ => (intOf iv + 1).toNat)
  case atStart => exact ⟨t, _, u0, List.replicate t 0, _, rfl, Hs.out, by omega, by rw [← hvu]; exact QuoAt.start (by simp) (by rw [hvu]; exact HXD.out), Lib.hid hul, Lib.hid (by simp), Lib.hid (by simp), hDu, by intro x hx; simp at hx; omega, hbu4, hbq4, hbw4, hRv4, hB4⟩
  case round =>
    obtain ⟨k, z, L, qs, Wl, rfl, hz, hk, hQ, HL, Hqs, HW, hDL, hDq, hbu, hbq, hbw, hRD, hB⟩ := hrel
    clear hbu4 hbq4 hbw4 hRv4 hB4 hvu hul hDu
    rcases hz with ⟨rfl, rfl⟩ | ⟨j, rfl, rfl⟩
    · obtain ⟨v1, v2⟩ := hQ.fin
      rw [Hqx.out] at v1
      have hws := hB.size
      have hWw := Hsz.out
      have hOu := OB.of_blk (c := l.length + 1) hbu (base := w.heap.size) (by omega) ⟨fun x hx => by have := hDL x hx; omega, by have := HL.out; omega⟩ (by have := HL.out; omega) (by unfold maxLen; omega)
      have hOq := OB.of_blk (c := t) hbq (base := w.heap.size) (by omega) ⟨fun x hx => by have := hDq x hx; omega, by have := Hqs.out; omega⟩ (by have := Hqs.out; omega) (by unfold maxLen; omega)
      have tu := refTrim_any _ _ _ _ _ hOu.rn hDL
      have hOu' := hOu.trim32 hDL
      have tq := fun w h => refTrim_any (fun b => b < w.heap.size) (some ⟨w2.heap.size, 0, none⟩) t qs w h hDq
      have hOq' := hOq.trim32 hDq
      rw [HL.out] at tu
      have hlu : (digs 4294967296 (val 4294967296 L)).length < 100000 := by have := digs_length_le (B := 4294967296) (by omega) hDL; have := HL.out; omega
      have ts := refSmall_any _ _ _ _ sc _ hOu'.rn (fun b hb => hb.2) (Dig.digs _) hlu Hs0.out Hsl.out
      rw [v1] at hOq' tq
      rw [Hqs.out] at tq
      have Hv6 := Lib.hid (show val 4294967296 (digs 4294967296 (val 4294967296 L)) / sc = rr by rw [v2, val_digs (B := 4294967296) (by omega), Hrx.out])
      have Tu := Lib.hid tu
      have Ts := Lib.hid ts
      have Tq := Lib.hid tq
      have hqu : RN _ (fun b => b < _) (some ⟨w2.heap.size, 0, none⟩) t qs := hOq.rn.mono fun b hb => hb.2
      clear hQ hDL hDq hbu hbq hbw hRD hOu hOu' tu ts tq hlu v1 v2 hOq hWw
      go_wp2_with fail
      refine Tu.out.mono ?_
      rintro e w5 ⟨rfl, rfl⟩
      go_wp2_with fail
      refine Ts.out.mono ?_
      rintro e w6 ⟨A6, c6, rfl, hO6, hB6⟩
      go_wp2_with fail
      refine (Tq.out w6 ((hqu.below hB6 fun b hb => hb).mono fun b hb => Nat.lt_of_lt_of_le hb hB6.size)).mono ?_
      rintro e w7 ⟨rfl, rfl⟩
      go_wp2
      go_ret2
      exact ⟨_, _, A6, c6, by rw [Hv6.out]; rfl, hOq'.below hB6 (Nat.le_refl _), by rw [← Hv6.out]; exact hO6.rn.mono fun b hb => hb.2, hB.trans (hB6.mono hws)⟩
    · have hLl := HL.out
      have hDl := HDn.out
      have e1 := Hn1.out
      have hjt := Htt.out
      have hDd := HdD.out
      obtain ⟨hz0, hQB, hge⟩ := guess2_ge (k := j) e1 hDL hDd hDl (by omega) HDt.out (by rw [HDv.out]; exact hQ.2)
      rw [HDv.out] at hQB hge
      have d1 := hRD.cells n1 (by omega)
      obtain ⟨y0, hy0⟩ : ∃ y0, j + n = y0 := ⟨_, rfl⟩
      obtain ⟨y1, hy1⟩ : ∃ y1, j + n1 = y1 := ⟨_, rfl⟩
      rw [hy0, hy1] at hge
      have r0 := hbu.cell (i := y0) (by omega)
      have r1 := hbu.cell (i := y1) (by omega)
      rw [add_blk] at d1
      obtain ⟨a0, ha0⟩ : ∃ a0, dg L y0 = a0 := ⟨_, rfl⟩
      obtain ⟨a1, ha1⟩ : ∃ a1, dg L y1 = a1 := ⟨_, rfl⟩
      obtain ⟨vt, hvt⟩ : ∃ vt, dg (digs 4294967296 D) n1 = vt := ⟨_, rfl⟩
      have hvp := HDt.out
      have la0 := hDL.dgLt y0
      have la1 := hDL.dgLt y1
      rw [ha0] at r0 hge la0
      rw [ha1] at r1 hge la1
      rw [hvt] at d1 hge hvp
      obtain ⟨tt, htt⟩ : ∃ tt, a0 * 4294967296 + a1 = tt := ⟨_, rfl⟩
      rw [htt] at hge
      obtain ⟨G0, hG0⟩ : ∃ G0, tt / vt = G0 := ⟨_, rfl⟩
      rw [hG0] at hge
      have hG0t : G0 ≤ tt := by rw [← hG0]; exact Nat.div_le_self _ _
      have f0 : (a0 : Int) * 4294967296 + (a1 : Int) = (tt : Int) := by omega
      have f1 : (tt : Int) / (vt : Int) = (G0 : Int) := by rw [← Int.natCast_ediv, hG0]
      have f1' : (tt : Int).tdiv (vt : Int) = (G0 : Int) := by rw [Int.tdiv_eq_ediv_of_nonneg (by omega)]; exact f1
      have f2 : IntKind.u64.wrap ((a0 : Int) * 4294967296) = (a0 : Int) * 4294967296 := IntWalk.u64_in _ (by omega)
      have f3 : IntKind.u64.wrap (tt : Int) = (tt : Int) := IntWalk.u64_in _ (by omega)
      have f4 : IntKind.u64.wrap (G0 : Int) = (G0 : Int) := IntWalk.u64_in _ (by omega)
      have f5 : ((vt : Int) == 0) = false := eqB (by omega)
      have f6 : ¬ vt = 0 := by omega
      have c0 : (j : Int) + (n : Int) = (y0 : Int) := by omega
      have c1' : (y0 : Int) - 1 = (y1 : Int) := by omega
      have b0 : (y0 : Int) < (l.length : Int) + 1 := by omega
      have b1 : (y1 : Int) < (l.length : Int) + 1 := by omega
      have Hz0 := Lib.hid hz0
      have Hjk : Hid (j + n + 1 ≤ l.length + 1) := Lib.hid (by omega)
      have hQf := Lib.hid hQB
      have hgf := Lib.hid hge
      have Hy0 := Lib.hid hy0
      have hjb : j < 90001 := by omega
      have hy0b : y0 < 200000 := by omega
      clear hLl hDl e1 hjt hDd hz0 hQB hge hy1 ha0 ha1 hvt hvp la0 la1 htt hG0 hG0t hy0
      go_wp2_with fail
      go_quiet (fail)
      obtain ⟨bb, hb1, hb2, hb3⟩ : ∃ bb : Bool, decide ((4294967296 : Int) ≤ (G0 : Int)) = bb ∧ decide (4294967296 ≤ G0) = bb ∧ Hid (bb = true ↔ 4294967296 ≤ G0) := ⟨decide (4294967296 ≤ G0), by simp only [decide_eq_decide]; omega, rfl, Lib.hid (by simp)⟩
      go_upto_if 94 with fail
      go_cut [15] (fun s15 wx => ∃ G : Nat, s15 = .int .u64 (G : Int) ∧ DigitOk 4294967296 (val 4294967296 L) j D G ∧ wx = World.drewN wr nq)
      case first =>
        rcases bb with _ | _
        · have hGl : DigitOk 4294967296 (val 4294967296 L) j D G0 := ⟨by have h := hb3.out; rcases Nat.lt_or_ge G0 4294967296 with h1 | h1
                                                                         · exact h1
                                                                         · exact absurd (h.2 h1) (by simp), hgf.out⟩
          clear hb1 hb2 hb3 f0 f1 f1' f2 f3 f4 f5 f6 hgf
          go_wp2_with fail
          go_meet
          case rel => exact ⟨G0, rfl, hGl, rfl⟩
        · have hgg : DigitOk 4294967296 (val 4294967296 L) j D 4294967295 := ⟨by omega, by have := hQf.out; exact Nat.le_of_lt_succ this⟩
          clear hb1 hb2 hb3 f0 f1 f1' f2 f3 f4 f5 f6 hgf
          go_wp2_with fail
          go_meet
          case rel => exact ⟨4294967295, rfl, hgg, rfl⟩
      case rest =>
        obtain ⟨G, rfl, hGd, rfl⟩ := hcut
        clear hb1 hb2 hb3 hQf hgf f0 f1 f1' f2 f3 f4 f5 f6 r0 r1 d1 c1' b0 b1
        have hbu' := hbu.drewN nq
        have hbq' := hbq.drewN nq
        have hbw' := hbw.drewN nq
        have hRD' := hRD.drewN nq
        have hB' := below_drewN hB nq
        clear hbu hbq hbw hRD hB
        go_wp2_with fail
        go_loopw [15] (fun gv wr => ∃ (G : Nat) (Wl : List Nat), gv = .int .u64 (G : Int) ∧ DigitOk 4294967296 (val 4294967296 L) j D G ∧ Hid (Wl.length = n + 1) ∧ Blk wr W.heap.size L ∧ Blk wr w2.heap.size qs ∧ Blk wr (w2.heap.size + 1) Wl ∧ RN wr (In w1.heap.size w2.heap.size) (some ⟨w1.heap.size, 0, none⟩) n (digs 4294967296 D) ∧ Below w.heap.size w wr) (fun gv _ => (intOf gv).toNat)
        case atStart => exact ⟨G, Wl, rfl, hGd, HW, hbu', hbq', hbw', hRD', hB'⟩
        case round =>
          clear hGd HW hbu' hbq' hbw' hRD' hB'
          obtain ⟨G, Wl, rfl, hGd, HW, hbu, hbq, hbw, hRD, hB⟩ := hrel
          have hwW := Hsz.out
          have hless := less_any W.heap.size (w2.heap.size + 1) j n (l.length + 1) G _ _ _ L _ Wl wr hbu hbw hRD (by omega) (fun b hb => by have := hb.2; omega) hDL (Dig.digs D) HL.out HDn.out HW.out Hjk.out (by omega) hGd.1 Hz0.out
          rw [HDv.out] at hless
          have Hless := Lib.hid hless
          clear hwW hless
          go_wp2_with fail
          refine Hless.out.mono ?_
          rintro e w5 ⟨L5, W5, hbu5, hDL5, hl5, hbw5, hw5, htwo, ⟨rfl, hv5⟩ | ⟨rfl, rfl, hv5⟩⟩
          · have hlt5 := quo_rest (by omega) hD0 hGd.2 hv5
            have hjq : j < qs.length := by have := Hqs.out; have := Hjk.out; omega
            have hQ' := hQ.step hjq hv5 hlt5
            have hneq : w2.heap.size ≠ W.heap.size := by omega
            have hwW := Hsz.out
            have hbq5 : Blk w5 w2.heap.size qs := (htwo.block _ hneq (by omega)).trans hbq
            have hRD5 := hRD.two htwo (fun b hb => by have := hb.1; have := hb.2; omega)
            have hB5 := hB.trans (htwo.below (B := w.heap.size) (by omega) (by omega))
            have q3 := hbq5.cell hjq
            have q4 := hbq5.free j
            have hbq' := hbq5.set j G
            have hDq' := hDq.set j G hGd.1
            have hB' := hB5.setCell (p := ⟨w2.heap.size, j, none⟩) (by show w.heap.size ≤ w2.heap.size; omega) (.int .u64 (G : Int))
            have hRD' : RN (World.setCell w5 ⟨w2.heap.size, j, none⟩ (.int .u64 (G : Int))) (In w1.heap.size w2.heap.size) (some ⟨w1.heap.size, 0, none⟩) n (digs 4294967296 D) := hRD5.keep fun q hq => World.cell?_of_block (w := w5) (Below.heap_setCell _ _ _ q.block (by have := hq.2; show q.block ≠ w2.heap.size; omega))
            have hbu' := hbu5.other (p := ⟨w2.heap.size, j, none⟩) (by show W.heap.size ≠ w2.heap.size; omega) (.int .u64 (G : Int))
            have hbw' := hbw5.other (p := ⟨w2.heap.size, j, none⟩) (by show w2.heap.size + 1 ≠ w2.heap.size; omega) (.int .u64 (G : Int))
            have Hqs' : Hid ((qs.set j G).length = t) := Lib.hid (by simpa using Hqs.out)
            have k1 : j < t := by omega
            have Hs' := Lib.hid (Below1.start j)
            have HL5 := Lib.hid hl5
            have HW5 := Lib.hid hw5
            clear hQ hDq hB hRD hbu hbq hbw hbu5 hbq5 hbw5 hRD5 hB5 htwo hv5 hlt5 hl5 hw5 hneq hwW hjq Hless hGd
            go_wp2
            go_roundw
            case rel => exact ⟨j, _, L5, qs.set j G, W5, rfl, Hs'.out, by omega, hQ', HL5, Hqs', HW5, hDL5, hDq', hbu', hbq', hbw', hRD', hB'⟩
            case measure => simp [intOf]
          · have hpos := Nat.lt_of_le_of_lt (Nat.zero_le _) hv5
            obtain ⟨G, rfl⟩ : ∃ k, G = k + 1 := ⟨G - 1, by omega⟩
            have hGd' : DigitOk 4294967296 (val 4294967296 L5) j D G := ⟨by have := hGd.1; omega, Nat.le_of_lt_succ hv5⟩
            have hGi : IntKind.u64.wrap (G : Int) = (G : Int) := IntWalk.u64_in _ (by have := hGd'.1; omega)
            have hwW := Hsz.out
            have hbq5 : Blk w5 w2.heap.size qs := (htwo.block _ (by omega) (by omega)).trans hbq
            have hRD5 := hRD.two htwo (fun b hb => by have := hb.1; have := hb.2; omega)
            have hB5 := hB.trans (htwo.below (B := w.heap.size) (by omega) (by omega))
            have HW5 := Lib.hid hw5
            clear hQ hB hRD hbu hbq hbw htwo hv5 hl5 hw5 hwW Hless hGd hpos
            go_wp2
            go_roundw
            case rel => exact ⟨G, W5, by go_num, hGd', HW5, hbu5, hbq5, hbw5, hRD5, hB5⟩
            case measure => simp [intOf]
theorem refQuo_small (P P' : Nat → Prop) (A A' : Option Addr) (c c' : Nat) (x y : Nat) (w : World) (h : RN w P A c (digs 4294967296 x)) (h' : RN w P' A' c' (digs 4294967296 y)) (hP : ∀ b, P b → b < w.heap.size) (hl : (digs 4294967296 x).length < 100000) (h0 : 0 < y) (hs : x < y ∨ (digs 4294967296 y).length = 1) :
    Calls Try.prog 86 #[.slice A (digs 4294967296 x).length c, .slice A' (digs 4294967296 y).length c'] w fun e w' => ∃ A1 c1 v2, e = .returned (.tuple #[.slice A1 (digs 4294967296 (x / y)).length c1, v2]) ∧ OB w' w.heap.size A1 c1 (digs 4294967296 (x / y)) ∧ Below w.heap.size w w' :=
  (refQuo_small2 P P' A A' c c' x y w h h' hP hl h0 hs).mono fun _ _ ⟨A1, c1, _, _, he, hO, _, hB⟩ => ⟨A1, c1, _, he, hO, hB⟩
theorem refQuo_big (P P' : Nat → Prop) (A A' : Option Addr) (c c' : Nat) (x y : Nat) (w : World) (h : RN w P A c (digs 4294967296 x)) (h' : RN w P' A' c' (digs 4294967296 y)) (hP : ∀ b, P b → b < w.heap.size) (hP' : ∀ b, P' b → b < w.heap.size) (hl : (digs 4294967296 x).length < 90000) (hge : y ≤ x) (hbig : 1 < (digs 4294967296 y).length) :
    Calls Try.prog 86 #[.slice A (digs 4294967296 x).length c, .slice A' (digs 4294967296 y).length c'] w fun e w' => ∃ A1 c1 v2, e = .returned (.tuple #[.slice A1 (digs 4294967296 (x / y)).length c1, v2]) ∧ OB w' w.heap.size A1 c1 (digs 4294967296 (x / y)) ∧ Below w.heap.size w w' :=
  (refQuo_big2 P P' A A' c c' x y w h h' hP hP' hl hge hbig).mono fun _ _ ⟨A1, c1, _, _, he, hO, _, hB⟩ => ⟨A1, c1, _, he, hO, hB⟩
/-- Both at once. -/
theorem refQuo_any (P P' : Nat → Prop) (A A' : Option Addr) (c c' : Nat) (x y : Nat) (w : World) (h : RN w P A c (digs 4294967296 x)) (h' : RN w P' A' c' (digs 4294967296 y)) (hP : ∀ b, P b → b < w.heap.size) (hP' : ∀ b, P' b → b < w.heap.size) (hl : (digs 4294967296 x).length < 90000) (h0 : 0 < y) :
    Calls Try.prog 86 #[.slice A (digs 4294967296 x).length c, .slice A' (digs 4294967296 y).length c'] w fun e w' => ∃ A1 c1 A2 c2, e = .returned (.tuple #[.slice A1 (digs 4294967296 (x / y)).length c1, .slice A2 (digs 4294967296 (x % y)).length c2]) ∧ OB w' w.heap.size A1 c1 (digs 4294967296 (x / y)) ∧ RN w' (fun b => b < w'.heap.size) A2 c2 (digs 4294967296 (x % y)) ∧ Below w.heap.size w w' := by
  have hpos : 0 < (digs 4294967296 y).length := by
    rw [digs_pos (by omega) h0]; simp
  by_cases hs : x < y ∨ (digs 4294967296 y).length = 1
  · exact refQuo_small2 P P' A A' c c' x y w h h' hP (by omega) h0 hs
  · exact refQuo_big2 P P' A A' c c' x y w h h' hP hP' hl (by omega) (by omega)
end Go.Proofs.Ytldhmjfjbalakaa

namespace Go.Proofs.Ytldhmjfjbalakaa
open Go.RowKit

/-- The number that a slice of the reference's digits reads as, whatever it is. -/
def readDigs (w : World) (v : Value) : Nat := match v with
  | .slice (some a) n _ => val 4294967296 ((List.range n).map fun i => match w.cell? (a.add i) with | some (.int _ z) => z.toNat | _ => 0)
  | _ => 0
theorem RN.readD {w : World} {P : Nat → Prop} {A : Option Addr} {c x : Nat} (h : RN w P A c (digs 4294967296 x)) : readDigs w (.slice A (digs 4294967296 x).length c) = x := by
  have hx := val_digs (B := 4294967296) (by omega) x
  rcases Nat.eq_zero_or_pos (digs 4294967296 x).length with h0 | h0
  · have hn := List.eq_nil_of_length_eq_zero h0
    rw [hn] at hx ⊢
    cases A <;> simp [readDigs] <;> simpa using hx
  · obtain ⟨ad, rfl, _, _⟩ := h.at_ h0
    simp only [readDigs]
    refine Eq.trans (congrArg _ ?_) hx
    apply List.ext_getElem?
    intro i
    rw [List.getElem?_map]
    by_cases hi : i < (digs 4294967296 x).length
    · rw [List.getElem?_range hi, List.getElem?_eq_getElem hi, Option.map_some, h.cells i hi, getD_eq hi]
      simp
    · rw [List.getElem?_eq_none (by simp; omega), List.getElem?_eq_none (by omega)]
      rfl
theorem cmpV_zero {x y : Nat} (h : cmpV x y = 0) : x = y := by rcases cmpV_cases x y with h1 | h1 | h1 <;> omega
theorem dig32_len {v M k : Nat} (h : v ≤ M) (hM : (digs 4294967296 M).length ≤ k) : (digs 4294967296 v).length ≤ k := Nat.le_trans (digs_length_mono (by omega) h) hM
theorem dig32_mul {x y j k : Nat} (hx : (digs 4294967296 x).length ≤ j) (hy : (digs 4294967296 y).length ≤ k) : (digs 4294967296 (x * y)).length ≤ j + k := by
  have h1 := lt_pow_digs (B := 4294967296) (by omega) x
  have h2 := lt_pow_digs (B := 4294967296) (by omega) y
  have h3 : 4294967296 ^ (digs 4294967296 x).length ≤ 4294967296 ^ j := Nat.pow_le_pow_right (by omega) hx
  have h4 : 4294967296 ^ (digs 4294967296 y).length ≤ 4294967296 ^ k := Nat.pow_le_pow_right (by omega) hy
  refine digs_length_of_lt (by omega) ?_
  rw [Nat.pow_add]
  exact Nat.mul_lt_mul'' (by omega) (by omega)
theorem dig32_add {x y M k : Nat} (hx : x ≤ M) (hy : y ≤ M) (hM : (digs 4294967296 M).length ≤ k) : (digs 4294967296 (x + y)).length ≤ k + 1 := by
  have h1 := lt_pow_digs (B := 4294967296) (by omega) M
  have h2 : 4294967296 ^ (digs 4294967296 M).length ≤ 4294967296 ^ k := Nat.pow_le_pow_right (by omega) hM
  refine digs_length_of_lt (by omega) ?_
  rw [Nat.pow_succ]
  omega

set_option maxRecDepth 100000 in
set_option maxHeartbeats 1000000 in
theorem refMod_any (A A' : Option Addr) (c c' x y : Nat) (w : World) (h : RU w A c (digs 4294967296 x)) (h' : RU w A' c' (digs 4294967296 y)) (hl : (digs 4294967296 x).length < 90000) (h0 : 0 < y) :
    Calls Try.prog 53 #[.slice A (digs 4294967296 x).length c, .slice A' (digs 4294967296 y).length c'] w fun e w' => ∃ A1 c1, e = .returned (.slice A1 (digs 4294967296 (x % y)).length c1) ∧ RU w' A1 c1 (digs 4294967296 (x % y)) ∧ Below w.heap.size w w' := by
  have hq := Lib.hid (refQuo_any _ _ A A' c c' x y w h h' (fun _ hb => hb) (fun _ hb => hb) hl h0)
  go_enter Try.func53, Try.ntmps53
  go_wp2_with fail
  refine hq.out.mono ?_
  rintro e w1 ⟨A1, c1, A2, c2, rfl, hO, hR, hB⟩
  go_wp2
  go_ret
  exact ⟨A2, c2, rfl, hR, hB⟩

set_option maxRecDepth 100000 in
set_option maxHeartbeats 1000000 in
theorem refMulMod_any (A A' Am : Option Addr) (c c' cm x y m : Nat) (w : World) (h : RU w A c (digs 4294967296 x)) (h' : RU w A' c' (digs 4294967296 y)) (hm : RU w Am cm (digs 4294967296 m)) (hl : (digs 4294967296 x).length < 40000) (hl' : (digs 4294967296 y).length < 40000) (h0 : 0 < m) :
    Calls Try.prog 85 #[.slice A (digs 4294967296 x).length c, .slice A' (digs 4294967296 y).length c', .slice Am (digs 4294967296 m).length cm] w fun e w' => ∃ A1 c1, e = .returned (.slice A1 (digs 4294967296 (x * y % m)).length c1) ∧ RU w' A1 c1 (digs 4294967296 (x * y % m)) ∧ Below w.heap.size w w' := by
  have hq := Lib.hid (refMul_any _ _ A A' c c' x y w h h' (fun _ hb => hb) (fun _ hb => hb) (by omega) (by omega))
  go_enter Try.func85, Try.ntmps85
  go_wp2_with fail
  refine hq.out.mono ?_
  rintro e w1 ⟨A1, c1, rfl, hO, hB⟩
  have hr := Lib.hid (refMod_any A1 Am c1 cm (x * y) m w1 hO.ru (hm.up hB) (by have := dig32_mul (Nat.le_refl (digs 4294967296 x).length) (Nat.le_refl (digs 4294967296 y).length); omega) h0)
  go_wp2_with fail
  refine hr.out.mono ?_
  rintro e w2 ⟨A2, c2, rfl, hR, hB2⟩
  go_wp2
  go_ret
  exact ⟨A2, c2, rfl, hR, hB.trans (hB2.mono hB.size)⟩
end Go.Proofs.Ytldhmjfjbalakaa

namespace Go.Proofs.Ytldhmjfjbalakaa
open Go.RowKit

/-- The value is that curve, in the reference's words. -/
def RC (w : World) (C : Crv) (v : Value) : Prop := ∃ (Ap An Ab Ax Ay : Option Addr) (cp cn cb cx cy : Nat),
 v = .agg #[.slice Ap (digs 4294967296 C.M).length cp, .slice An (digs 4294967296 (val 18446744073709551616 C.nl)).length cn, .slice Ab (digs 4294967296 C.bb).length cb, .slice Ax (digs 4294967296 (val 18446744073709551616 C.xl)).length cx, .slice Ay (digs 4294967296 (val 18446744073709551616 C.yl)).length cy, .int .i64 (C.size : Int)] ∧
 RU w Ap cp (digs 4294967296 C.M) ∧ RU w An cn (digs 4294967296 (val 18446744073709551616 C.nl)) ∧ RU w Ab cb (digs 4294967296 C.bb) ∧ RU w Ax cx (digs 4294967296 (val 18446744073709551616 C.xl)) ∧ RU w Ay cy (digs 4294967296 (val 18446744073709551616 C.yl))
theorem RC.ext {w X : World} {C : Crv} {v : Value} (h : RC w C v) (hE : Ext w X) : RC X C v := by
 obtain ⟨Ap, An, Ab, Ax, Ay, cp, cn, cb, cx, cy, e, h1, h2, h3, h4, h5⟩ := h
 exact ⟨Ap, An, Ab, Ax, Ay, cp, cn, cb, cx, cy, e, h1.up hE, h2.up hE, h3.up hE, h4.up hE, h5.up hE⟩
theorem len32 {x n : Nat} (h : x < 4294967296 ^ n) : (digs 4294967296 x).length ≤ n := digs_length_of_lt (by omega) h
theorem infoRC : (Try.prog.info? 31).map (·.size) = some 6 := by kernel_rfl
theorem infoRP : (Try.prog.info? 34).map (·.size) = some 3 := by kernel_rfl

set_option maxRecDepth 100000 in
set_option maxHeartbeats 4000000 in
theorem times_any {C : Crv} {v : Value} (A A' : Option Addr) (c c' x y : Nat) (w : World) (hc : RC w C v) (h : RU w A c (digs 4294967296 x)) (h' : RU w A' c' (digs 4294967296 y)) (hl : (digs 4294967296 x).length < 40000) (hl' : (digs 4294967296 y).length < 40000) (h0 : 0 < C.M) :
 Calls Try.prog 52 #[v, .slice A (digs 4294967296 x).length c, .slice A' (digs 4294967296 y).length c'] w fun e w' => ∃ A1 c1, e = .returned (.slice A1 (digs 4294967296 (x * y % C.M)).length c1) ∧ RU w' A1 c1 (digs 4294967296 (x * y % C.M)) ∧ Ext w w' := by
 obtain ⟨Ap, An, Ab, Ax, Ay, cp, cn, cb, cx, cy, rfl, h1, h2, h3, h4, h5⟩ := hc
 have hE := fun o => Ext.alloc w o
 have hm := fun o => refMulMod_any A A' Ap c c' cp x y C.M (w.alloc o) (h.up (hE o)) (h'.up (hE o)) (h1.up (hE o)) hl hl' h0
 have Hm := Lib.hid hm
 clear hm hE
 go_enter Try.func52, Try.ntmps52
 go_wp2_with (go_at_call 85; refine (Hm.out _).mono ?_; rintro e w2 ⟨A1, c1, rfl, hO, hB⟩)
 go_ret
 exact ⟨A1, c1, rfl, hO, (Ext.alloc w _).trans hB⟩

set_option maxRecDepth 100000 in
set_option maxHeartbeats 4000000 in
theorem minus_any {C : Crv} {v : Value} (A A' : Option Addr) (c c' x y : Nat) (w : World) (hc : RC w C v) (h : RU w A c (digs 4294967296 x)) (h' : RU w A' c' (digs 4294967296 y)) (hl : (digs 4294967296 x).length < 40000) (hlM : (digs 4294967296 C.M).length < 40000) (hxy : y ≤ x + C.M) (h0 : 0 < C.M) :
 Calls Try.prog 54 #[v, .slice A (digs 4294967296 x).length c, .slice A' (digs 4294967296 y).length c'] w fun e w' => ∃ A1 c1, e = .returned (.slice A1 (digs 4294967296 ((x + C.M - y) % C.M)).length c1) ∧ RU w' A1 c1 (digs 4294967296 ((x + C.M - y) % C.M)) ∧ Ext w w' := by
 obtain ⟨Ap, An, Ab, Ax, Ay, cp, cn, cb, cx, cy, rfl, h1, h2, h3, h4, h5⟩ := hc
 have hls : (digs 4294967296 (x + C.M)).length < 50000 := by
  have a1 := Nat.lt_of_lt_of_le (lt_pow_digs (B := 4294967296) (by omega) x) (Nat.pow_le_pow_right (by omega) (Nat.le_of_lt hl))
  have a2 := Nat.lt_of_lt_of_le (lt_pow_digs (B := 4294967296) (by omega) C.M) (Nat.pow_le_pow_right (by omega) (Nat.le_of_lt hlM))
  obtain ⟨k, hk⟩ : ∃ k, k = 40000 := ⟨_, rfl⟩
  rw [← hk] at a1 a2
  have := digs_length_of_lt (B := 4294967296) (n := k + 1) (by omega) (show x + C.M < 4294967296 ^ (k + 1) by rw [Nat.pow_succ]; generalize 4294967296 ^ k = R at *; omega)
  omega
 have hle : (digs 4294967296 (x + C.M - y)).length ≤ 50000 := by
  obtain ⟨k, hk⟩ : ∃ k, k = 50000 := ⟨_, rfl⟩
  rw [← hk] at hls ⊢
  exact digs_length_of_lt (by omega) (Nat.lt_of_le_of_lt (Nat.sub_le (x + C.M) y) (Nat.lt_of_lt_of_le (lt_pow_digs (B := 4294967296) (by omega) (x + C.M)) (Nat.pow_le_pow_right (by omega) (Nat.le_of_lt hls))))
 obtain ⟨q, hq⟩ : ∃ q, w.heap.size = q := ⟨_, rfl⟩
 obtain ⟨W0, hW0⟩ : ∃ W0, W0 = w.alloc (.cells #[.slice Ap (digs 4294967296 C.M).length cp, .slice An (digs 4294967296 (val 18446744073709551616 C.nl)).length cn, .slice Ab (digs 4294967296 C.bb).length cb, .slice Ax (digs 4294967296 (val 18446744073709551616 C.xl)).length cx, .slice Ay (digs 4294967296 (val 18446744073709551616 C.yl)).length cy, .int .i64 (C.size : Int)] 31) := ⟨_, rfl⟩
 have hE0 : Ext w W0 := by rw [hW0]; exact Ext.alloc _ _
 have b0 : W0.cell? ⟨q, 0, none⟩ = some (.slice Ap (digs 4294967296 C.M).length cp) := by rw [hW0, ← hq]; exact blk_cell (heap_alloc_new w _) 0
 have HE0 := Lib.hid hE0
 clear hE0
 go_enter Try.func54, Try.ntmps54
 go_upto_region 1 with fail
 rw [← hW0]
 have HW0 := Lib.hid hW0
 have Hq := Lib.hid hq
 clear hW0 hq
 refine Par.region_ext (by kernel_rfl) 10 [0, 0, 2, 7, 0, 31, 0, 64, 255, 511] [] (fun j f X => match j with
  | 0 => f 0 = .slice A (digs 4294967296 x).length c
  | 1 => f 1 = .pointer (some ⟨q, 0, none⟩)
  | 2 => f 2 = .slice Ap (digs 4294967296 C.M).length cp
  | 3 => ∃ A1 c1, f 3 = .slice A1 (digs 4294967296 (x + C.M)).length c1 ∧ RU X A1 c1 (digs 4294967296 (x + C.M))
  | 4 => f 4 = .slice A' (digs 4294967296 y).length c'
  | 5 => ∃ A1 c1, f 5 = .slice A1 (digs 4294967296 (x + C.M - y)).length c1 ∧ RU X A1 c1 (digs 4294967296 (x + C.M - y))
  | 6 => f 6 = .pointer (some ⟨q, 0, none⟩)
  | 7 => f 7 = .slice Ap (digs 4294967296 C.M).length cp
  | 8 => ∃ A1 c1, f 8 = .slice A1 (digs 4294967296 ((x + C.M - y) % C.M)).length c1 ∧ RU X A1 c1 (digs 4294967296 ((x + C.M - y) % C.M))
  | 9 => f 9 = (f 8)
  | _ => True) (by kernel_rfl) [(7, 0), (8, 1), (9, 2), (10, 3), (11, 4), (12, 5), (13, 6), (14, 7), (15, 8), (6, 9)] (by kernel_rfl) ?_
 refine Par.S 1 9 [(8, 1), (9, 2), (11, 4), (13, 6), (14, 7)] (fun f X hX hR K hK => ?_) ?_
 · simp only [yA, yB, yC, yD, yE]
   refine ⟨?_⟩
   go_simp
   exact Par.k hK (s := by simp only [yA, yB, yC, yD, yE])
 refine Par.S 2 8 [(7, 0), (11, 4), (13, 6), (14, 7)] (fun f X hX hR K hK => ?_) ?_
 · simp only [yA, yB, yC, yD, yE]
   refine ⟨?_⟩
   go_simp
   exact Par.k hK (s := by simp only [yA, yB, yC, yD, yE])
 refine Par.S 3 7 [(7, 0), (8, 1), (11, 4), (13, 6), (14, 7)] (fun f X hX hR K hK => ?_) ?_
 · have e1 : f 1 = _ := hR.out 1 rfl
   have x0 := hX.cell b0
   simp only [yA, yB, yC, yD, yE, e1]
   refine ⟨?_⟩
   go_simp
   exact Par.k hK (s := by simp only [yA, yB, yC, yD, yE, e1])
 refine Par.S 4 6 [(7, 0), (8, 1), (9, 2), (11, 4), (13, 6), (14, 7)] (fun f X hX hR K hK => ?_) ?_
 · have e0 : f 0 = _ := hR.out 0 rfl
   have e2 : f 2 = _ := hR.out 2 rfl
   simp only [yA, yB, yC, yD, yE, e0, e2]
   refine ⟨?_⟩
   go_simp
   refine (refAdd_any _ _ A Ap c cp x C.M X (h.up (HE0.out.trans hX)) (h1.up (HE0.out.trans hX)) (fun _ hb => hb) (fun _ hb => hb) (by omega) (by omega)).mono ?_
   rintro e w2 ⟨A1, c1, rfl, hO, hB⟩
   exact hK.out _ (.slice A1 (digs 4294967296 (x + C.M)).length c1) _ (by simp only [yA, yB, yC, yD, yE, e0, e2]) hB trivial (fun Y hY => ⟨A1, c1, rfl, hO.ru.up hY⟩)
 refine Par.S 5 5 [(7, 0), (8, 1), (9, 2), (10, 3), (13, 6), (14, 7)] (fun f X hX hR K hK => ?_) ?_
 · simp only [yA, yB, yC, yD, yE]
   refine ⟨?_⟩
   go_simp
   exact Par.k hK (s := by simp only [yA, yB, yC, yD, yE])
 refine Par.S 6 4 [(7, 0), (8, 1), (9, 2), (10, 3), (11, 4), (13, 6), (14, 7)] (fun f X hX hR K hK => ?_) ?_
 · obtain ⟨A3, c3, (e3 : f 3 = _), o3⟩ := hR.out 3 rfl
   have e4 : f 4 = _ := hR.out 4 rfl
   simp only [yA, yB, yC, yD, yE, e3, e4]
   refine ⟨?_⟩
   go_simp
   refine (refSub_any _ _ A3 A' c3 c' (x + C.M) y X o3 (h'.up (HE0.out.trans hX)) (fun _ hb => hb) (fun _ hb => hb) (by omega) hxy).mono ?_
   rintro e w2 ⟨A1, c1, rfl, hO, hB⟩
   exact hK.out _ (.slice A1 (digs 4294967296 (x + C.M - y)).length c1) _ (by simp only [yA, yB, yC, yD, yE, e3, e4]) hB trivial (fun Y hY => ⟨A1, c1, rfl, hO.ru.up hY⟩)
 refine Par.S 7 3 [(7, 0), (8, 1), (9, 2), (10, 3), (11, 4), (12, 5)] (fun f X hX hR K hK => ?_) ?_
 · simp only [yA, yB, yC, yD, yE]
   refine ⟨?_⟩
   go_simp
   exact Par.k hK (s := by simp only [yA, yB, yC, yD, yE])
 refine Par.S 8 2 [(7, 0), (8, 1), (9, 2), (10, 3), (11, 4), (12, 5), (13, 6)] (fun f X hX hR K hK => ?_) ?_
 · have e6 : f 6 = _ := hR.out 6 rfl
   have x0 := hX.cell b0
   simp only [yA, yB, yC, yD, yE, e6]
   refine ⟨?_⟩
   go_simp
   exact Par.k hK (s := by simp only [yA, yB, yC, yD, yE, e6])
 refine Par.S 9 1 [(7, 0), (8, 1), (9, 2), (10, 3), (11, 4), (12, 5), (13, 6), (14, 7)] (fun f X hX hR K hK => ?_) ?_
 · obtain ⟨A5, c5, (e5 : f 5 = _), o5⟩ := hR.out 5 rfl
   have e7 : f 7 = _ := hR.out 7 rfl
   simp only [yA, yB, yC, yD, yE, e5, e7]
   refine ⟨?_⟩
   go_simp
   refine (refMod_any A5 Ap c5 cp (x + C.M - y) C.M X o5 (h1.up (HE0.out.trans hX)) (by omega) h0).mono ?_
   rintro e w2 ⟨A1, c1, rfl, hO, hB⟩
   exact hK.out _ (.slice A1 (digs 4294967296 ((x + C.M - y) % C.M)).length c1) _ (by simp only [yA, yB, yC, yD, yE, e5, e7]) hB trivial (fun Y hY => ⟨A1, c1, rfl, hO.up hY⟩)
 refine Par.S 10 0 [(7, 0), (8, 1), (9, 2), (10, 3), (11, 4), (12, 5), (13, 6), (14, 7), (15, 8)] (fun f X hX hR K hK => ?_) ?_
 · obtain ⟨A8, c8, (e8 : f 8 = _), o8⟩ := hR.out 8 rfl
   simp only [yA, yB, yC, yD, yE, e8]
   refine ⟨?_⟩
   go_simp
   exact hK.out _ ((f 8)) _ (by simp only [yA, yB, yC, yD, yE, e8]) (Ext.refl _) trivial (fun _ _ => rfl)
 refine Par.AllOps.fin ⟨fun f X hX hR hal hap => ?_⟩
 have e0 : f 0 = _ := hR 0 (by decide)
 have e1 : f 1 = _ := hR 1 (by decide)
 have e2 : f 2 = _ := hR 2 (by decide)
 obtain ⟨A3, c3, (e3 : f 3 = _), o3⟩ := hR 3 (by decide)
 have e4 : f 4 = _ := hR 4 (by decide)
 obtain ⟨A5, c5, (e5 : f 5 = _), o5⟩ := hR 5 (by decide)
 have e6 : f 6 = _ := hR 6 (by decide)
 have e7 : f 7 = _ := hR 7 (by decide)
 obtain ⟨A8, c8, (e8 : f 8 = _), o8⟩ := hR 8 (by decide)
 have e9 : f 9 = (f 8) := hR 9 (by decide)
 simp only [yA, yB, yC, yD, yE, e0, e1, e2, e3, e4, e5, e6, e7, e8, e9]
 clear hR hal hap e0 e1 e2 e3 e4 e5 e6 e7 e8 e9
 refine Par.Chain.done ?_
 go_wp2
 go_ret
 exact ⟨A8, c8, rfl, o8, HE0.out.trans hX⟩
end Go.Proofs.Ytldhmjfjbalakaa
