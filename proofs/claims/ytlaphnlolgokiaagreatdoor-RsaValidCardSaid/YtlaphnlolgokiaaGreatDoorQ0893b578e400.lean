/- What the reference's Quo computes: quotient and remainder. What baileyref2's Mod and Mul compute. What the reference's Bits, Bit and Bytes compute. What baileyref2's Exp and Strong compute. What baileyref2's Strong computes. RSA keys in plain words: which numbers are taken for primes, which keys for valid. modarith.Probable at any number; rsa's less and one; limb's functions in whatever block. rsa.Valid: a key is told to be valid just if its parts go together. -/
import Derived.Test.YtlaphnlolgokiaaGreatDoorQ5a9c05d19298
namespace Go.Proofs.YtlaphnlolgokiaaGreatDoor
open Go.RowKit

def DigitOk (B V k D G : Nat) : Prop := G < B ∧ V / (B ^ k * D) ≤ G
theorem quo_rest {B k D g V x : Nat} (hB : 0 < B) (hD : 0 < D) (hq : V / (B ^ k * D) ≤ g) (he : x + B ^ k * (g * D) = V) : x < B ^ k * D := by
 have h5 := Nat.lt_mul_div_succ V (show 0 < B ^ k * D from Nat.mul_pos (Nat.pow_pos hB) hD)
 have h6 : B ^ k * D * (V / (B ^ k * D) + 1) ≤ B ^ k * D * (g + 1) := Nat.mul_le_mul_left _ (by omega)
 have e : B ^ k * D * (g + 1) = B ^ k * (g * D) + B ^ k * D := by rw [Nat.mul_add, Nat.mul_one, Nat.mul_assoc, Nat.mul_comm D]
 omega
theorem scale_setup {y n1 : Nat} (hn : (digs 4294967296 y).length = n1 + 1) : ∃ top sc, dg (digs 4294967296 y) n1 = top ∧ 0 < top ∧ top < 4294967296 ∧ 4294967296 / (top + 1) = sc ∧ 0 < sc ∧ sc < 4294967296 ∧ (digs 4294967296 (sc * y)).length = n1 + 1 ∧ 0 < dg (digs 4294967296 (sc * y)) n1 ∧ 4294967296 ^ n1 ≤ y := by
 have hB : (2 : Nat) ≤ 4294967296 := by omega
 have hlt := digs_lt hB y
 have hy0 : 0 < y := by
  rcases Nat.eq_zero_or_pos y with h | h
  · subst h; rw [digs_zero] at hn; simp at hn
  · exact h
 have hlow := pow_digs_le hB hy0
 rw [hn, Nat.add_sub_cancel] at hlow
 obtain ⟨top, ht⟩ : ∃ top, dg (digs 4294967296 y) n1 = top := ⟨_, rfl⟩
 have htl : top < 4294967296 := by rw [← ht]; exact getD_lt (by omega) hlt _
 have ey : y = val 4294967296 ((digs 4294967296 y).take n1) + 4294967296 ^ n1 * top := by
  rw [← ht, ← val_take_getD, ← hn, List.take_length, val_digs hB]
 have hr : val 4294967296 ((digs 4294967296 y).take n1) < 4294967296 ^ n1 := by
  have := val_lt (B := 4294967296) (l := (digs 4294967296 y).take n1) fun x hx => hlt x (List.mem_of_mem_take hx)
  rwa [List.length_take, Nat.min_eq_left (by omega)] at this
 have h0 : 0 < top := by
  rcases Nat.eq_zero_or_pos top with h | h
  · subst h; omega
  · exact h
 obtain ⟨sc, hsc⟩ : ∃ sc, 4294967296 / (top + 1) = sc := ⟨_, rfl⟩
 have hs1 : sc * (top + 1) ≤ 4294967296 := by rw [← hsc]; exact Nat.div_mul_le_self _ _
 have hs0 : 0 < sc := by rw [← hsc]; exact Nat.div_pos (by omega) (by omega)
 have hsl : sc < 4294967296 := by rw [← hsc]; exact Nat.div_lt_self (by omega) (by omega)
 have hup : sc * y < 4294967296 ^ (n1 + 1) := by
  have k1 : y < 4294967296 ^ n1 * (top + 1) := by rw [Nat.mul_add, Nat.mul_one]; omega
  have k2 : sc * y < sc * (4294967296 ^ n1 * (top + 1)) := Nat.mul_lt_mul_of_pos_left k1 hs0
  have k3 : sc * (4294967296 ^ n1 * (top + 1)) = 4294967296 ^ n1 * (sc * (top + 1)) := Nat.mul_left_comm _ _ _
  have k4 : 4294967296 ^ n1 * (sc * (top + 1)) ≤ 4294967296 ^ n1 * 4294967296 := Nat.mul_le_mul_left _ hs1
  rw [Nat.pow_succ]
  omega
 have hlo2 : 4294967296 ^ n1 ≤ sc * y := Nat.le_trans hlow (Nat.le_mul_of_pos_left _ hs0)
 have hlen : (digs 4294967296 (sc * y)).length = n1 + 1 := by
  refine Nat.le_antisymm (digs_length_of_lt hB hup) ?_
  have := digs_length_mono hB (show y ≤ sc * y from Nat.le_mul_of_pos_left _ hs0)
  omega
 refine ⟨top, sc, ht, h0, htl, hsc, hs0, hsl, hlen, ?_, hlow⟩
 have ed : sc * y = val 4294967296 ((digs 4294967296 (sc * y)).take n1) + 4294967296 ^ n1 * dg (digs 4294967296 (sc * y)) n1 := by
  rw [← val_take_getD, ← hlen, List.take_length, val_digs hB]
 have hr2 : val 4294967296 ((digs 4294967296 (sc * y)).take n1) < 4294967296 ^ n1 := by
  have := val_lt (B := 4294967296) (l := (digs 4294967296 (sc * y)).take n1) fun x hx => digs_lt hB (sc * y) x (List.mem_of_mem_take hx)
  rwa [List.length_take, Nat.min_eq_left (by omega)] at this
 rcases Nat.eq_zero_or_pos (dg (digs 4294967296 (sc * y)) n1) with h | h
 · rw [h, Nat.mul_zero] at ed
   omega
 · exact h

def Tu (w : World) (b : Nat) : Prop := ∃ cur, w.heap[b]? = some (.cells cur 34 (0, 0))
theorem OB.tt {w : World} {base : Nat} {A : Option Addr} {c : Nat} {l : List Nat} (h : OB w base A c l) : RN w (fun b => b < w.heap.size ∧ Tu w b) A c l := by
 have hr := h.rn
 obtain ⟨h1, h2, h3, h4⟩ := h
 obtain ⟨⟨r1, r2, r3, r4⟩, r5⟩ := hr
 refine ⟨⟨r1, r2, r3, fun hl => ?_⟩, r5⟩
 obtain ⟨g, cur, rfl, hb, hg, hc⟩ := h4 hl
 obtain ⟨ad, e, hin, hcell⟩ := r4 hl
 cases e
 exact ⟨_, rfl, ⟨hin.2, cur, hg⟩, hcell⟩
theorem OB.rt {w : World} {base : Nat} {P : Nat → Prop} {A : Option Addr} {c : Nat} {l : List Nat} (h : OB w base A c l) : RN w (fun b => b < w.heap.size ∧ (P b ∨ Tu w b)) A c l := RN.mono h.tt fun _ hb => ⟨hb.1, .inr hb.2⟩
set_option maxRecDepth 100000 in
set_option maxHeartbeats 2000000 in
theorem refQuo_small3 (P P' : Nat → Prop) (A A' : Option Addr) (c c' : Nat) (x y : Nat) (w : World) (h : RN w P A c (digs 4294967296 x)) (h' : RN w P' A' c' (digs 4294967296 y)) (hP : ∀ b, P b → b < w.heap.size) (hl : (digs 4294967296 x).length < 100000) (h0 : 0 < y) (hs : x < y ∨ (digs 4294967296 y).length = 1) :
 Calls Tryz.prog 54 #[.slice A (digs 4294967296 x).length c, .slice A' (digs 4294967296 y).length c'] w fun e w' => ∃ A1 c1 A2 c2, e = .returned (.tuple #[.slice A1 (digs 4294967296 (x / y)).length c1, .slice A2 (digs 4294967296 (x % y)).length c2]) ∧ OB w' w.heap.size A1 c1 (digs 4294967296 (x / y)) ∧ RN w' (fun b => b < w'.heap.size ∧ (P b ∨ Tu w' b)) A2 c2 (digs 4294967296 (x % y)) ∧ Below w.heap.size w w' := by
 have tc := refCmp_any P P' A A' c c' x y w h h'
 by_cases hlt : x < y
 · rw [cmpV_lt hlt] at tc
   have Tc := Lib.hid tc
   have hd : x / y = 0 := Nat.div_eq_of_lt hlt
   have hm : x % y = x := Nat.mod_eq_of_lt hlt
   rw [hd, hm, digs_zero]
   clear tc hlt hs hd hm
   go_enter Tryz.func54, Tryz.ntmps54
   go_wp2_with fail
   refine Tc.out.mono ?_
   rintro e w1 ⟨rfl, nd, rfl⟩
   go_wp2
   go_ret2
   exact ⟨none, 0, A, c, rfl, OB.nil_ _ _, RN.drewN (h.mono fun b hb => ⟨hP b hb, .inl hb⟩) nd, below_drewN (Below.refl _ _) _⟩
 · have hn : (digs 4294967296 y).length = 1 := by omega
   have hyB : y < 4294967296 := by
    have := lt_pow_digs (B := 4294967296) (by omega) y
    rw [hn] at this
    omega
   have hd1 : digs 4294967296 y = [y] := by
    rw [digs_pos (by omega) h0, Nat.mod_eq_of_lt hyB, Nat.div_eq_of_lt hyB, digs_zero]
   have hcv : 0 ≤ cmpV x y := by rcases cmpV_cases x y with h | h | h <;> omega
   generalize cmpV x y = v at tc hcv
   have hcv' : ¬ v < 0 := by omega
   have Tc := Lib.hid tc
   obtain ⟨ad, rfl, _, q1⟩ := h'.at_ (i := 0) (by omega)
   rw [hd1] at q1 Tc
   rw [hd1]
   have q1' : w.cell? (ad.add 0) = some (.int .u64 (y : Int)) := q1
   have q2 : ad.add 0 = ad := rfl
   rw [q2] at q1'
   have tS := fun n => refSmall_any P A c _ y (w.drewN n) (h.drewN n) hP (Dig.digs x) hl h0 (by omega)
   rw [val_digs (by omega)] at tS
   have TS := Lib.hid tS
   have hrB : x % y < 4294967296 := Nat.lt_trans (Nat.mod_lt _ h0) hyB
   obtain ⟨r, hr⟩ : ∃ r, x % y = r := ⟨_, rfl⟩
   rw [hr] at TS hrB
   have Hr := Lib.hid hrB
   have Hrr := Lib.hid hr
   clear tc tS hlt hs hn hcv h' hr hrB hd1 q1 q2 hyB
   go_enter Tryz.func54, Tryz.ntmps54
   go_wp2_with fail
   refine Tc.out.mono ?_
   rintro e w1 ⟨rfl, nd, rfl⟩
   go_wp2_with fail
   refine (TS.out nd).mono ?_
   rintro e w2 ⟨A1, c1, rfl, hO, hB⟩
   have hdr : Dig [r] := by intro x hx; rw [List.mem_singleton.1 hx]; exact Hr.out
   have ht := refTrim_any _ _ _ [r] _ (RN.one w2 r (by have := Hr.out; omega)) hdr
   have hO2 := (OB.of_blk (c := 1) (w := w2.alloc (.cells #[.int .u64 (r : Int)] 34)) (g := w2.heap.size) (l := [r]) (show Blk (w2.alloc (.cells #[.int .u64 (r : Int)] 34)) w2.heap.size [r] from heap_alloc_new w2 _) (base := 0) (Nat.zero_le _) ⟨fun x hx => by have := hdr x hx; omega, by simp⟩ (by simp) (by unfold maxLen; omega)).trim32 hdr
   have hvr : val 4294967296 [r] = r := by simp
   rw [hvr] at ht hO2
   have Ht := Lib.hid ht
   clear ht hdr hvr
   go_wp2_with fail
   refine Ht.out.mono ?_
   rintro e w3 ⟨rfl, rfl⟩
   go_wp2
   go_ret2
   exact ⟨A1, c1, some ⟨w2.heap.size, 0, none⟩, (digs 4294967296 r).length, by rw [Hrr.out]; rfl, hO.below ((Below.refl w2.heap.size w2).alloc (Nat.le_refl _) _) (Nat.le_refl _), by rw [Hrr.out]; exact hO2.rt, (Below.mk hB.os hB.tape hB.output hB.size hB.block : Below w.heap.size w w2).alloc hB.size _⟩

set_option maxRecDepth 100000 in
set_option maxHeartbeats 2000000 in
theorem refQuo_big3 (P P' : Nat → Prop) (A A' : Option Addr) (c c' : Nat) (x y : Nat) (w : World) (h : RN w P A c (digs 4294967296 x)) (h' : RN w P' A' c' (digs 4294967296 y)) (hP : ∀ b, P b → b < w.heap.size) (hP' : ∀ b, P' b → b < w.heap.size) (hl : (digs 4294967296 x).length < 90000) (hge : y ≤ x) (hbig : 1 < (digs 4294967296 y).length) :
 Calls Tryz.prog 54 #[.slice A (digs 4294967296 x).length c, .slice A' (digs 4294967296 y).length c'] w fun e w' => ∃ A1 c1 A2 c2, e = .returned (.tuple #[.slice A1 (digs 4294967296 (x / y)).length c1, .slice A2 (digs 4294967296 (x % y)).length c2]) ∧ OB w' w.heap.size A1 c1 (digs 4294967296 (x / y)) ∧ RN w' (fun b => b < w'.heap.size ∧ (P b ∨ Tu w' b)) A2 c2 (digs 4294967296 (x % y)) ∧ Below w.heap.size w w' := by
 have tc := refCmp_any P P' A A' c c' x y w h h'
 have hcv : 0 ≤ cmpV x y := by rcases cmpV_cases x y with h | h | h <;> omega
 generalize cmpV x y = v at tc hcv
 have hcv' : ¬ v < 0 := by omega
 obtain ⟨n1, hn⟩ : ∃ n1, (digs 4294967296 y).length = n1 + 1 := ⟨(digs 4294967296 y).length - 1, by omega⟩
 obtain ⟨top, sc, htop, ht0, htl, hsc, hs0, hsl, hDn, hDt, hlow⟩ := scale_setup hn
 have hy0 : 0 < y := by have := Nat.pow_pos (n := n1) (show 0 < 4294967296 by omega); omega
 have hmono := digs_length_mono (B := 4294967296) (by omega) hge
 have hxl := lt_pow_digs (B := 4294967296) (by omega) x
 have hxv := val_digs (B := 4294967296) (by omega) x
 have hyv := val_digs (B := 4294967296) (by omega) y
 have dx := Dig.digs x
 have dy := Dig.digs y
 generalize digs 4294967296 x = l at *
 generalize digs 4294967296 y = m at *
 obtain ⟨n, hn'⟩ : ∃ n, n1 + 1 = n := ⟨_, rfl⟩
 rw [hn'] at hn hDn
 obtain ⟨t, htt⟩ : ∃ t, l.length + 1 - n = t := ⟨_, rfl⟩
 have hXD : sc * x < 4294967296 ^ t * (sc * y) := by
  have k1 : 4294967296 ^ l.length ≤ 4294967296 ^ t * y := by
   have : 4294967296 ^ t * 4294967296 ^ n1 ≤ 4294967296 ^ t * y := Nat.mul_le_mul_left _ hlow
   rwa [← Nat.pow_add, show t + n1 = l.length by omega] at this
  rw [Nat.mul_left_comm]
  exact Nat.mul_lt_mul_of_pos_left (Nat.lt_of_lt_of_le hxl k1) hs0
 have T1 := Lib.hid fun W (hW : RN W P A c l) (hp : ∀ b, P b → b < W.heap.size) => refTimes_any P A c l sc W hW hp dx (by omega) hsl
 have T2 := Lib.hid fun W (hW : RN W P' A' c' m) (hp : ∀ b, P' b → b < W.heap.size) => refTimes_any P' A' c' m sc W hW hp dy (by omega) hsl
 rw [hxv] at T1
 rw [hyv, hn] at T2
 rw [hn] at tc
 rw [hn]
 have hqx : (sc * x) / (sc * y) = x / y := Nat.mul_div_mul_left _ _ hs0
 have hrx : (sc * x) % (sc * y) / sc = x % y := by rw [Nat.mul_mod_mul_left, Nat.mul_div_cancel_left _ hs0]
 generalize x % y = rr at *
 have hD0 : 0 < sc * y := Nat.mul_pos hs0 hy0
 have dD := Dig.digs (sc * y)
 have hDv := val_digs (B := 4294967296) (by omega) (sc * y)
 obtain ⟨D, hD⟩ : ∃ D, sc * y = D := ⟨_, rfl⟩
 obtain ⟨X, hX⟩ : ∃ X, sc * x = X := ⟨_, rfl⟩
 rw [hD] at hqx hrx hD0 dD hDv hDn hDt hXD T2
 rw [hX] at hqx hrx hXD T1
 have hnb : n < 90000 := by omega
 have hlb : l.length < 90000 := by omega
 have i1 : (n : Int) - 1 = (n1 : Int) := by omega
 have i2 : n1 < n := by omega
 have i3 : ((n : Int) == 1) = false := eqB (by omega)
 have i4 : (l.length : Int) + 1 - (n : Int) = (t : Int) := by omega
 have i5 : (4294967296 : Int) / ((top : Int) + 1) = (sc : Int) := by rw [← hsc]; simp
 have i5' : (4294967296 : Int).tdiv ((top : Int) + 1) = (sc : Int) := by rw [Int.tdiv_eq_ediv_of_nonneg (by omega)]; exact i5
 have i6 : ((top : Int) + 1 == 0) = false := eqB (by omega)
 have i7 : IntKind.u64.wrap ((top : Int) + 1) = (top : Int) + 1 := IntWalk.u64_in _ (by omega)
 have i8 : IntKind.u64.wrap (sc : Int) = (sc : Int) := IntWalk.u64_in _ (by omega)
 have i9 : ¬ (top : Int) + 1 = 0 := by omega
 obtain ⟨ad', rfl, hPad, q1⟩ := h'.at_ (i := n1) (by omega)
 rw [htop] at q1
 have Htc := Lib.hid tc
 have Hn1 := Lib.hid hn'
 have HXD := Lib.hid hXD
 have Htt := Lib.hid htt
 have Hqx := Lib.hid hqx
 have Hrx := Lib.hid hrx
 have HDv := Lib.hid hDv
 have HDn := Lib.hid hDn
 have HDt := Lib.hid hDt
 have Hs0 := Lib.hid hs0
 have Hsl := Lib.hid (show sc < 4294967297 by omega)
 have HdD := Lib.hid dD
 clear tc hn' hXD htt hqx hrx hDv hDn hDt hX hD hlow hxl hxv hyv hsc htop ht0 hbig hge hy0 hmono dx dy hs0 hsl htl hcv dD
 go_enter Tryz.func54, Tryz.ntmps54
 go_wp2_with fail
 refine Htc.out.mono ?_
 rintro e w1 ⟨rfl, nd, rfl⟩
 obtain ⟨W, hW⟩ : ∃ W, W = w.drewN nd := ⟨_, rfl⟩
 have q2 : W.cell? (ad'.add n1) = some (.int .u64 (top : Int)) := by rw [hW]; exact q1
 have Hsz := Lib.hid (show W.heap.size = w.heap.size by rw [hW]; rfl)
 have hB0 : Below w.heap.size w W := by rw [hW]; exact below_drewN (Below.refl _ _) _
 have hRa : RN W P A c l := by rw [hW]; exact h.drewN _
 have hRb : RN W P' (some ad') c' m := by rw [hW]; exact h'.drewN _
 rw [← hW]
 have T1' := Lib.hid (T1.out W hRa (by rw [Hsz.out]; exact hP))
 clear hW q1 T1 hRa h h'
 go_wp2_with fail
 refine T1'.out.mono ?_
 rintro e w1 ⟨u0, rfl, hbu, hul, hDu, hvu, hB1⟩
 have hB1s := hB1.size
 have hgu := hbu.lt
 have T2' := Lib.hid (T2.out w1 (hRb.below hB1 (by rw [Hsz.out]; exact hP')) (by have := Hsz.out; intro b hb; have := hP' b hb; omega))
 clear T2 hRb q2
 go_wp2_with fail
 refine T2'.out.mono ?_
 rintro e w2 ⟨v0, rfl, hbv, hvl, hDv0, hvv, hB2⟩
 have hB2s := hB2.size
 have hOv : OB w2 w1.heap.size (some ⟨w1.heap.size, 0, none⟩) (n + 1) v0 := OB.of_blk hbv (Nat.le_refl _) ⟨fun x hx => by have := hDv0 x hx; omega, by omega⟩ (by omega) (by unfold maxLen; omega)
 have htv := refTrim_any _ _ _ _ _ hOv.rn hDv0
 have hRv := (hOv.trim32 hDv0).rn
 rw [hvv, HDn.out, hvl] at htv
 rw [hvv, HDn.out] at hRv
 have Htv := Lib.hid htv
 clear htv hOv hbv hvl hDv0 hvv T2' T1'
 go_wp2_with fail
 refine Htv.out.mono ?_
 rintro e w3 ⟨rfl, hw3⟩
 obtain rfl : w2 = w3 := hw3
 have hmk1 := run_make_row' (P := Tryz.prog) 30 34 (.int .u64 0) 8 Tryz.underlying30 info64 rfl .i64 .i64 t (by have := Htt.out; omega) (by have := Htt.out; omega)
 have hmk2 := run_make_row' (P := Tryz.prog) 30 34 (.int .u64 0) 8 Tryz.underlying30 info64 rfl .i64 .i64 (n + 1) (by omega) (by omega)
 simp only [Int.natCast_add, Int.cast_ofNat_Int] at hmk2
 have htb : t ≤ 90001 := by have := Htt.out; omega
 go_wp2_with fail
 have hWw := Hsz.out
 have hbu4 := ((hbu.below hB2 hgu).alloc (.cells (madeCells #[.int .u64 0] t) 34)).alloc (.cells (madeCells #[.int .u64 0] (n + 1)) 34)
 have hbq4 := (Blk.made w2 t).alloc (.cells (madeCells #[.int .u64 0] (n + 1)) 34)
 have hbw4 : Blk ((w2.alloc (.cells (madeCells #[.int .u64 0] t) 34)).alloc (.cells (madeCells #[.int .u64 0] (n + 1)) 34)) (w2.heap.size + 1) (List.replicate (n + 1) 0) := by
  have := Blk.made (w2.alloc (.cells (madeCells #[.int .u64 0] t) 34)) (n + 1)
  simpa using this
 have hRv4 := (hRv.alloc_ (fun b hb => hb.2) (.cells (madeCells #[.int .u64 0] t) 34)).alloc_ (fun b hb => by have := hb.2; simp; omega) (.cells (madeCells #[.int .u64 0] (n + 1)) 34)
 have hB4 := ((hB0.trans (hB1.mono (by omega))).trans (hB2.mono (by omega))).alloc (by omega) (.cells (madeCells #[.int .u64 0] t) 34) |>.alloc (by simp; omega) (.cells (madeCells #[.int .u64 0] (n + 1)) 34)
 have Hs := Lib.hid (Below1.start t)
 clear hbu hRv hB0 hB1 hB2 hWw
 go_loopw [14] (fun iv wr => ∃ (k : Nat) (z : Int) (L qs Wl : List Nat), iv = .int .i64 z ∧ Below1 k z ∧ k ≤ t ∧ QuoAt 4294967296 X D L qs k ∧ Hid (L.length = l.length + 1) ∧ Hid (qs.length = t) ∧ Hid (Wl.length = n + 1) ∧ Dig L ∧ Dig qs ∧ Blk wr W.heap.size L ∧ Blk wr w2.heap.size qs ∧ Blk wr (w2.heap.size + 1) Wl ∧ RN wr (In w1.heap.size w2.heap.size) (some ⟨w1.heap.size, 0, none⟩) n (digs 4294967296 D) ∧ Below w.heap.size w wr) (fun iv _ => (intOf iv + 1).toNat)
 case atStart => exact ⟨t, _, u0, List.replicate t 0, _, rfl, Hs.out, by omega, by rw [← hvu]; exact QuoAt.start (by simp) (by rw [hvu]; exact HXD.out), Lib.hid hul, Lib.hid (by simp), Lib.hid (by simp), hDu, by intro x hx; simp at hx; omega, hbu4, hbq4, hbw4, hRv4, hB4⟩
 case round =>
  obtain ⟨k, z, L, qs, Wl, rfl, hz, hk, hQ, HL, Hqs, HW, hDL, hDq, hbu, hbq, hbw, hRD, hB⟩ := hrel
  clear hbu4 hbq4 hbw4 hRv4 hB4 hvu hul hDu
  rcases hz with ⟨rfl, rfl⟩ | ⟨j, rfl, rfl⟩
  · obtain ⟨v1, v2⟩ := hQ.fin
    rw [Hqx.out] at v1
    have hws := hB.size
    have hWw := Hsz.out
    have hOu := OB.of_blk (c := l.length + 1) hbu (base := w.heap.size) (by omega) ⟨fun x hx => by have := hDL x hx; omega, by have := HL.out; omega⟩ (by have := HL.out; omega) (by unfold maxLen; omega)
    have hOq := OB.of_blk (c := t) hbq (base := w.heap.size) (by omega) ⟨fun x hx => by have := hDq x hx; omega, by have := Hqs.out; omega⟩ (by have := Hqs.out; omega) (by unfold maxLen; omega)
    have tu := refTrim_any _ _ _ _ _ hOu.rn hDL
    have hOu' := hOu.trim32 hDL
    have tq := fun w h => refTrim_any (fun b => b < w.heap.size) (some ⟨w2.heap.size, 0, none⟩) t qs w h hDq
    have hOq' := hOq.trim32 hDq
    rw [HL.out] at tu
    have hlu : (digs 4294967296 (val 4294967296 L)).length < 100000 := by have := digs_length_le (B := 4294967296) (by omega) hDL; have := HL.out; omega
    have ts := refSmall_any _ _ _ _ sc _ hOu'.rn (fun b hb => hb.2) (Dig.digs _) hlu Hs0.out Hsl.out
    rw [v1] at hOq' tq
    rw [Hqs.out] at tq
    have Hv6 := Lib.hid (show val 4294967296 (digs 4294967296 (val 4294967296 L)) / sc = rr by rw [v2, val_digs (B := 4294967296) (by omega), Hrx.out])
    have Tu := Lib.hid tu
    have Ts := Lib.hid ts
    have Tq := Lib.hid tq
    have hqu : RN _ (fun b => b < _) (some ⟨w2.heap.size, 0, none⟩) t qs := hOq.rn.mono fun b hb => hb.2
    clear hQ hDL hDq hbu hbq hbw hRD hOu hOu' tu ts tq hlu v1 v2 hOq hWw
    go_wp2_with fail
    refine Tu.out.mono ?_
    rintro e w5 ⟨rfl, rfl⟩
    go_wp2_with fail
    refine Ts.out.mono ?_
    rintro e w6 ⟨A6, c6, rfl, hO6, hB6⟩
    go_wp2_with fail
    refine (Tq.out w6 ((hqu.below hB6 fun b hb => hb).mono fun b hb => Nat.lt_of_lt_of_le hb hB6.size)).mono ?_
    rintro e w7 ⟨rfl, rfl⟩
    go_wp2
    go_ret2
    exact ⟨_, _, A6, c6, by rw [Hv6.out]; rfl, hOq'.below hB6 (Nat.le_refl _), by rw [← Hv6.out]; exact hO6.rt, hB.trans (hB6.mono hws)⟩
  · have hLl := HL.out
    have hDl := HDn.out
    have e1 := Hn1.out
    have hjt := Htt.out
    have hDd := HdD.out
    obtain ⟨hz0, hQB, hge⟩ := guess2_ge (k := j) e1 hDL hDd hDl (by omega) HDt.out (by rw [HDv.out]; exact hQ.2)
    rw [HDv.out] at hQB hge
    have d1 := hRD.cells n1 (by omega)
    obtain ⟨y0, hy0⟩ : ∃ y0, j + n = y0 := ⟨_, rfl⟩
    obtain ⟨y1, hy1⟩ : ∃ y1, j + n1 = y1 := ⟨_, rfl⟩
    rw [hy0, hy1] at hge
    have r0 := hbu.cell (i := y0) (by omega)
    have r1 := hbu.cell (i := y1) (by omega)
    rw [add_blk] at d1
    obtain ⟨a0, ha0⟩ : ∃ a0, dg L y0 = a0 := ⟨_, rfl⟩
    obtain ⟨a1, ha1⟩ : ∃ a1, dg L y1 = a1 := ⟨_, rfl⟩
    obtain ⟨vt, hvt⟩ : ∃ vt, dg (digs 4294967296 D) n1 = vt := ⟨_, rfl⟩
    have hvp := HDt.out
    have la0 := hDL.dgLt y0
    have la1 := hDL.dgLt y1
    rw [ha0] at r0 hge la0
    rw [ha1] at r1 hge la1
    rw [hvt] at d1 hge hvp
    obtain ⟨tt, htt⟩ : ∃ tt, a0 * 4294967296 + a1 = tt := ⟨_, rfl⟩
    rw [htt] at hge
    obtain ⟨G0, hG0⟩ : ∃ G0, tt / vt = G0 := ⟨_, rfl⟩
    rw [hG0] at hge
    have hG0t : G0 ≤ tt := by rw [← hG0]; exact Nat.div_le_self _ _
    have f0 : (a0 : Int) * 4294967296 + (a1 : Int) = (tt : Int) := by omega
    have f1 : (tt : Int) / (vt : Int) = (G0 : Int) := by rw [← Int.natCast_ediv, hG0]
    have f1' : (tt : Int).tdiv (vt : Int) = (G0 : Int) := by rw [Int.tdiv_eq_ediv_of_nonneg (by omega)]; exact f1
    have f2 : IntKind.u64.wrap ((a0 : Int) * 4294967296) = (a0 : Int) * 4294967296 := IntWalk.u64_in _ (by omega)
    have f3 : IntKind.u64.wrap (tt : Int) = (tt : Int) := IntWalk.u64_in _ (by omega)
    have f4 : IntKind.u64.wrap (G0 : Int) = (G0 : Int) := IntWalk.u64_in _ (by omega)
    have f5 : ((vt : Int) == 0) = false := eqB (by omega)
    have f6 : ¬ vt = 0 := by omega
    have c0 : (j : Int) + (n : Int) = (y0 : Int) := by omega
    have c1' : (y0 : Int) - 1 = (y1 : Int) := by omega
    have b0 : (y0 : Int) < (l.length : Int) + 1 := by omega
    have b1 : (y1 : Int) < (l.length : Int) + 1 := by omega
    have Hz0 := Lib.hid hz0
    have Hjk : Hid (j + n + 1 ≤ l.length + 1) := Lib.hid (by omega)
    have hQf := Lib.hid hQB
    have hgf := Lib.hid hge
    have Hy0 := Lib.hid hy0
    have hjb : j < 90001 := by omega
    have hy0b : y0 < 200000 := by omega
    clear hLl hDl e1 hjt hDd hz0 hQB hge hy1 ha0 ha1 hvt hvp la0 la1 htt hG0 hG0t hy0
    go_wp2_with fail
    go_quiet (fail)
    obtain ⟨bb, hb1, hb2, hb3⟩ : ∃ bb : Bool, decide ((4294967296 : Int) ≤ (G0 : Int)) = bb ∧ decide (4294967296 ≤ G0) = bb ∧ Hid (bb = true ↔ 4294967296 ≤ G0) := ⟨decide (4294967296 ≤ G0), by simp only [decide_eq_decide]; omega, rfl, Lib.hid (by simp)⟩
    go_upto_if 94 with fail
    go_cut [15] (fun s15 wx => ∃ G : Nat, s15 = .int .u64 (G : Int) ∧ DigitOk 4294967296 (val 4294967296 L) j D G ∧ wx = World.drewN wr nq)
    case first =>
     rcases bb with _ | _
     · have hGl : DigitOk 4294967296 (val 4294967296 L) j D G0 := ⟨(Nat.lt_or_ge G0 4294967296).elim id (fun h1 => absurd (hb3.out.2 h1) (by simp)), hgf.out⟩
       clear hb1 hb2 hb3 f0 f1 f1' f2 f3 f4 f5 f6 hgf
       go_wp2_with fail
       go_meet
       case rel => exact ⟨G0, rfl, hGl, rfl⟩
     · have hgg : DigitOk 4294967296 (val 4294967296 L) j D 4294967295 := ⟨by omega, by have := hQf.out; exact Nat.le_of_lt_succ this⟩
       clear hb1 hb2 hb3 f0 f1 f1' f2 f3 f4 f5 f6 hgf
       go_wp2_with fail
       go_meet
       case rel => exact ⟨4294967295, rfl, hgg, rfl⟩
    case rest =>
     obtain ⟨G, rfl, hGd, rfl⟩ := hcut
     clear hb1 hb2 hb3 hQf hgf f0 f1 f1' f2 f3 f4 f5 f6 r0 r1 d1 c1' b0 b1
     have hbu' := hbu.drewN nq
     have hbq' := hbq.drewN nq
     have hbw' := hbw.drewN nq
     have hRD' := hRD.drewN nq
     have hB' := below_drewN hB nq
     clear hbu hbq hbw hRD hB
     go_wp2_with fail
     go_loopw [15] (fun gv wr => ∃ (G : Nat) (Wl : List Nat), gv = .int .u64 (G : Int) ∧ DigitOk 4294967296 (val 4294967296 L) j D G ∧ Hid (Wl.length = n + 1) ∧ Blk wr W.heap.size L ∧ Blk wr w2.heap.size qs ∧ Blk wr (w2.heap.size + 1) Wl ∧ RN wr (In w1.heap.size w2.heap.size) (some ⟨w1.heap.size, 0, none⟩) n (digs 4294967296 D) ∧ Below w.heap.size w wr) (fun gv _ => (intOf gv).toNat)
     case atStart => exact ⟨G, Wl, rfl, hGd, HW, hbu', hbq', hbw', hRD', hB'⟩
     case round =>
      clear hGd HW hbu' hbq' hbw' hRD' hB'
      obtain ⟨G, Wl, rfl, hGd, HW, hbu, hbq, hbw, hRD, hB⟩ := hrel
      have hwW := Hsz.out
      have hless := less_any W.heap.size (w2.heap.size + 1) j n (l.length + 1) G _ _ _ L _ Wl wr hbu hbw hRD (by omega) (fun b hb => by have := hb.2; omega) hDL (Dig.digs D) HL.out HDn.out HW.out Hjk.out (by omega) hGd.1 Hz0.out
      rw [HDv.out] at hless
      have Hless := Lib.hid hless
      clear hwW hless
      go_wp2_with fail
      refine Hless.out.mono ?_
      rintro e w5 ⟨L5, W5, hbu5, hDL5, hl5, hbw5, hw5, htwo, ⟨rfl, hv5⟩ | ⟨rfl, rfl, hv5⟩⟩
      · have hlt5 := quo_rest (by omega) hD0 hGd.2 hv5
        have hjq : j < qs.length := by have := Hqs.out; have := Hjk.out; omega
        have hQ' := hQ.step hjq hv5 hlt5
        have hneq : w2.heap.size ≠ W.heap.size := by omega
        have hwW := Hsz.out
        have hbq5 : Blk w5 w2.heap.size qs := (htwo.block _ hneq (by omega)).trans hbq
        have hRD5 := hRD.two htwo (fun b hb => by have := hb.1; have := hb.2; omega)
        have hB5 := hB.trans (htwo.below (B := w.heap.size) (by omega) (by omega))
        have q3 := hbq5.cell hjq
        have q4 := hbq5.free j
        have hbq' := hbq5.set j G
        have hDq' := hDq.set j G hGd.1
        have hB' := hB5.setCell (p := ⟨w2.heap.size, j, none⟩) (by show w.heap.size ≤ w2.heap.size; omega) (.int .u64 (G : Int))
        have hRD' : RN (World.setCell w5 ⟨w2.heap.size, j, none⟩ (.int .u64 (G : Int))) (In w1.heap.size w2.heap.size) (some ⟨w1.heap.size, 0, none⟩) n (digs 4294967296 D) := hRD5.keep fun q hq => World.cell?_of_block (w := w5) (Below.heap_setCell _ _ _ q.block (by have := hq.2; show q.block ≠ w2.heap.size; omega))
        have hbu' := hbu5.other (p := ⟨w2.heap.size, j, none⟩) (by show W.heap.size ≠ w2.heap.size; omega) (.int .u64 (G : Int))
        have hbw' := hbw5.other (p := ⟨w2.heap.size, j, none⟩) (by show w2.heap.size + 1 ≠ w2.heap.size; omega) (.int .u64 (G : Int))
        have Hqs' : Hid ((qs.set j G).length = t) := Lib.hid (by simpa using Hqs.out)
        have k1 : j < t := by omega
        have Hs' := Lib.hid (Below1.start j)
        have HL5 := Lib.hid hl5
        have HW5 := Lib.hid hw5
        clear hQ hDq hB hRD hbu hbq hbw hbu5 hbq5 hbw5 hRD5 hB5 htwo hv5 hlt5 hl5 hw5 hneq hwW hjq Hless hGd
        go_wp2
        go_roundw
        case rel => exact ⟨j, _, L5, qs.set j G, W5, rfl, Hs'.out, by omega, hQ', HL5, Hqs', HW5, hDL5, hDq', hbu', hbq', hbw', hRD', hB'⟩
        case measure => simp [intOf]
      · have hpos := Nat.lt_of_le_of_lt (Nat.zero_le _) hv5
        obtain ⟨G, rfl⟩ : ∃ k, G = k + 1 := ⟨G - 1, by omega⟩
        have hGd' : DigitOk 4294967296 (val 4294967296 L5) j D G := ⟨by have := hGd.1; omega, Nat.le_of_lt_succ hv5⟩
        have hGi : IntKind.u64.wrap (G : Int) = (G : Int) := IntWalk.u64_in _ (by have := hGd'.1; omega)
        have hwW := Hsz.out
        have hbq5 : Blk w5 w2.heap.size qs := (htwo.block _ (by omega) (by omega)).trans hbq
        have hRD5 := hRD.two htwo (fun b hb => by have := hb.1; have := hb.2; omega)
        have hB5 := hB.trans (htwo.below (B := w.heap.size) (by omega) (by omega))
        have HW5 := Lib.hid hw5
        clear hQ hB hRD hbu hbq hbw htwo hv5 hl5 hw5 hwW Hless hGd hpos
        go_wp2
        go_roundw
        case rel => exact ⟨G, W5, by go_num, hGd', HW5, hbu5, hbq5, hbw5, hRD5, hB5⟩
        case measure => simp [intOf]
theorem refQuo_t (P P' : Nat → Prop) (A A' : Option Addr) (c c' : Nat) (x y : Nat) (w : World) (h : RN w P A c (digs 4294967296 x)) (h' : RN w P' A' c' (digs 4294967296 y)) (hP : ∀ b, P b → b < w.heap.size) (hP' : ∀ b, P' b → b < w.heap.size) (hl : (digs 4294967296 x).length < 90000) (h0 : 0 < y) :
 Calls Tryz.prog 54 #[.slice A (digs 4294967296 x).length c, .slice A' (digs 4294967296 y).length c'] w fun e w' => ∃ A1 c1 A2 c2, e = .returned (.tuple #[.slice A1 (digs 4294967296 (x / y)).length c1, .slice A2 (digs 4294967296 (x % y)).length c2]) ∧ OB w' w.heap.size A1 c1 (digs 4294967296 (x / y)) ∧ RN w' (fun b => b < w'.heap.size ∧ (P b ∨ Tu w' b)) A2 c2 (digs 4294967296 (x % y)) ∧ Below w.heap.size w w' := by
 have hpos : 0 < (digs 4294967296 y).length := by
  rw [digs_pos (by omega) h0]; simp
 by_cases hs : x < y ∨ (digs 4294967296 y).length = 1
 · exact refQuo_small3 P P' A A' c c' x y w h h' hP (by omega) h0 hs
 · exact refQuo_big3 P P' A A' c c' x y w h h' hP hP' hl (by omega) (by omega)
theorem refQuo_any (P P' : Nat → Prop) (A A' : Option Addr) (c c' : Nat) (x y : Nat) (w : World) (h : RN w P A c (digs 4294967296 x)) (h' : RN w P' A' c' (digs 4294967296 y)) (hP : ∀ b, P b → b < w.heap.size) (hP' : ∀ b, P' b → b < w.heap.size) (hl : (digs 4294967296 x).length < 90000) (h0 : 0 < y) :
 Calls Tryz.prog 54 #[.slice A (digs 4294967296 x).length c, .slice A' (digs 4294967296 y).length c'] w fun e w' => ∃ A1 c1 A2 c2, e = .returned (.tuple #[.slice A1 (digs 4294967296 (x / y)).length c1, .slice A2 (digs 4294967296 (x % y)).length c2]) ∧ OB w' w.heap.size A1 c1 (digs 4294967296 (x / y)) ∧ RN w' (fun b => b < w'.heap.size) A2 c2 (digs 4294967296 (x % y)) ∧ Below w.heap.size w w' :=
 (refQuo_t P P' A A' c c' x y w h h' hP hP' hl h0).mono fun _ _ ⟨A1, c1, A2, c2, he, hO, hR, hB⟩ => ⟨A1, c1, A2, c2, he, hO, RN.mono hR fun _ hb => hb.1, hB⟩
end Go.Proofs.YtlaphnlolgokiaaGreatDoor

namespace Go.Proofs.YtlaphnlolgokiaaGreatDoor
open Go.RowKit

theorem cmpV_zero {x y : Nat} (h : cmpV x y = 0) : x = y := by rcases cmpV_cases x y with h1 | h1 | h1 <;> omega
theorem dig32_mul {x y j k : Nat} (hx : (digs 4294967296 x).length ≤ j) (hy : (digs 4294967296 y).length ≤ k) : (digs 4294967296 (x * y)).length ≤ j + k := by
 have h1 := lt_pow_digs (B := 4294967296) (by omega) x
 have h2 := lt_pow_digs (B := 4294967296) (by omega) y
 have h3 : 4294967296 ^ (digs 4294967296 x).length ≤ 4294967296 ^ j := Nat.pow_le_pow_right (by omega) hx
 have h4 : 4294967296 ^ (digs 4294967296 y).length ≤ 4294967296 ^ k := Nat.pow_le_pow_right (by omega) hy
 refine digs_length_of_lt (by omega) ?_
 rw [Nat.pow_add]
 exact Nat.mul_lt_mul'' (by omega) (by omega)
set_option maxRecDepth 100000 in
set_option maxHeartbeats 1000000 in
theorem refMod_any (A A' : Option Addr) (c c' x y : Nat) (w : World) (h : RU w A c (digs 4294967296 x)) (h' : RU w A' c' (digs 4294967296 y)) (hl : (digs 4294967296 x).length < 90000) (h0 : 0 < y) :
 Calls Tryz.prog 29 #[.slice A (digs 4294967296 x).length c, .slice A' (digs 4294967296 y).length c'] w fun e w' => ∃ A1 c1, e = .returned (.slice A1 (digs 4294967296 (x % y)).length c1) ∧ RU w' A1 c1 (digs 4294967296 (x % y)) ∧ Below w.heap.size w w' := by
 have hq := Lib.hid (refQuo_any _ _ A A' c c' x y w h h' (fun _ hb => hb) (fun _ hb => hb) hl h0)
 go_enter Tryz.func29, Tryz.ntmps29
 go_wp2_with fail
 refine hq.out.mono ?_
 rintro e w1 ⟨A1, c1, A2, c2, rfl, hO, hR, hB⟩
 go_wp2
 go_ret
 exact ⟨A2, c2, rfl, hR, hB⟩

set_option maxRecDepth 100000 in
set_option maxHeartbeats 1000000 in
theorem refMulMod_any (A A' Am : Option Addr) (c c' cm x y m : Nat) (w : World) (h : RU w A c (digs 4294967296 x)) (h' : RU w A' c' (digs 4294967296 y)) (hm : RU w Am cm (digs 4294967296 m)) (hl : (digs 4294967296 x).length < 40000) (hl' : (digs 4294967296 y).length < 40000) (h0 : 0 < m) :
 Calls Tryz.prog 80 #[.slice A (digs 4294967296 x).length c, .slice A' (digs 4294967296 y).length c', .slice Am (digs 4294967296 m).length cm] w fun e w' => ∃ A1 c1, e = .returned (.slice A1 (digs 4294967296 (x * y % m)).length c1) ∧ RU w' A1 c1 (digs 4294967296 (x * y % m)) ∧ Below w.heap.size w w' := by
 have hq := Lib.hid (refMul_any _ _ A A' c c' x y w h h' (fun _ hb => hb) (fun _ hb => hb) (by omega) (by omega))
 go_enter Tryz.func80, Tryz.ntmps80
 go_wp2_with fail
 refine hq.out.mono ?_
 rintro e w1 ⟨A1, c1, rfl, hO, hB⟩
 have hr := Lib.hid (refMod_any A1 Am c1 cm (x * y) m w1 hO.ru (hm.up hB) (by have := dig32_mul (Nat.le_refl (digs 4294967296 x).length) (Nat.le_refl (digs 4294967296 y).length); omega) h0)
 go_wp2_with fail
 refine hr.out.mono ?_
 rintro e w2 ⟨A2, c2, rfl, hR, hB2⟩
 go_wp2
 go_ret
 exact ⟨A2, c2, rfl, hR, hB.trans (hB2.mono hB.size)⟩
end Go.Proofs.YtlaphnlolgokiaaGreatDoor

namespace Go.Proofs.YtlaphnlolgokiaaGreatDoor
open Go.RowKit

theorem dg_last_pos32 {x : Nat} (hx : 0 < x) : 0 < dg (digs 4294967296 x) ((digs 4294967296 x).length - 1) := by
 have hne : digs 4294967296 x ≠ [] := by rw [digs_pos (by omega) hx]; simp
 have h := digs_last (B := 4294967296) (by omega) x hne
 have hpos := List.length_pos_iff.2 hne
 rw [List.getLast_eq_getElem] at h
 rw [dg, getD_eq' (by omega)]
 omega
theorem half_step (t k : Nat) : t / 2 ^ k / 2 = t / 2 ^ (k + 1) := by rw [Nat.div_div_eq_div_mul, Nat.pow_succ]

set_option maxRecDepth 100000 in
set_option maxHeartbeats 1000000 in
theorem refBits_any (P : Nat → Prop) (A : Option Addr) (c : Nat) (x : Nat) (w : World) (h : RN w P A c (digs 4294967296 x)) :
 Calls Tryz.prog 23 #[.slice A (digs 4294967296 x).length c] w fun e w' => e = .returned (.int .i64 (nbits x : Int)) ∧ w = w' := by
 rcases Nat.eq_zero_or_pos x with rfl | hx
 · rw [digs_zero]
   go_enter Tryz.func23, Tryz.ntmps23
   go_wp2
   go_ret
   exact ⟨rfl, rfl⟩
 · have htop := fun k hk h1 h2 => nbits_top (m := 32) (by omega) hx (k := k) hk h1 h2
   have hpos := dg_last_pos32 hx
   have hD := Dig.digs x
   obtain ⟨h1, h2, h3⟩ := h.cap
   have hne : 0 < (digs 4294967296 x).length := by rw [digs_pos (by omega) hx]; simp
   rw [show (2 : Nat) ^ 32 = 4294967296 by decide] at htop
   generalize digs 4294967296 x = l at *
   obtain ⟨n, hn⟩ : ∃ n, l.length = n + 1 := ⟨l.length - 1, by omega⟩
   obtain ⟨ad, rfl, _, q1⟩ := h.at_ (i := n) (by omega)
   rw [hn, Nat.add_sub_cancel] at htop hpos
   have hl := hD.dgLt n
   generalize dg l n = t at *
   rw [hn] at h1 h3 ⊢
   have Htop := Lib.hid htop
   have Hpos := Lib.hid hpos
   clear htop hpos hx hn hne h hD
   have Hl := Lib.hid hl
   clear hl
   go_enter Tryz.func23, Tryz.ntmps23
   go_wp2
   go_loop [4, 5] (fun kv tv => ∃ k z : Nat, kv = .int .i64 (k : Int) ∧ tv = .int .u64 (z : Int) ∧ Hid (z = t / 2 ^ k) ∧ Hid (z < 4294967296) ∧ k ≤ 32 ∧ (k = 0 ∨ 2 ^ (k - 1) ≤ t)) (fun kv _ => (33 - intOf kv).toNat)
   case atStart => exact ⟨0, t, rfl, rfl, Lib.hid (by simp), Hl, by omega, .inl rfl⟩
   case round =>
    obtain ⟨k, z, rfl, rfl, hz, hzl, hk, hor⟩ := hrel
    have Hor := Lib.hid hor
    clear hor
    by_cases h0 : z = 0
    · have hfin : nbits x = 32 * n + k := by
       have e := hz.out
       rw [h0] at e
       have hlt : t < 2 ^ k := by
        rcases Nat.lt_or_ge t (2 ^ k) with h | h
        · exact h
        · have := Nat.div_pos h (Nat.pow_pos (by omega)); omega
       have hk0 : 0 < k := by
        rcases Nat.eq_zero_or_pos k with rfl | h
        · have := Hpos.out; simp at hlt; omega
        · exact h
       rcases Hor.out with h | h
       · omega
       · exact Htop.out k hk0 h hlt
      have Hfin := Lib.hid hfin
      subst h0
      clear hfin
      go_wp2
      go_ret
      exact ⟨ret_int (by rw [Hfin.out]; simp), rfl⟩
    · have hk' : k < 32 := by
       rcases Nat.lt_or_ge k 32 with h | h
       · exact h
       · exfalso
         apply h0
         rw [hz.out]
         exact Nat.div_eq_of_lt (Nat.lt_of_lt_of_le Hl.out (by rw [show (4294967296 : Nat) = 2 ^ 32 by decide]; exact Nat.pow_le_pow_right (by omega) h))
      have hge : 2 ^ k ≤ t := by
       rcases Nat.lt_or_ge t (2 ^ k) with h | h
       · exfalso; apply h0; rw [hz.out]; exact Nat.div_eq_of_lt h
       · exact h
      have Hge := Lib.hid hge
      obtain ⟨z', hz', e1⟩ : ∃ z' : Nat, z / 2 = z' ∧ (z : Int) / 2 = (z' : Int) := ⟨z / 2, rfl, by omega⟩
      have hzz : Hid (z' = t / 2 ^ (k + 1)) := Lib.hid (by rw [← hz', hz.out, half_step])
      have hzl' : Hid (z' < 4294967296) := Lib.hid (by have := hzl.out; omega)
      have p1 : (0 : Int) < (z : Int) := by omega
      clear hge hz' h0
      go_wp2
      go_round
      case rel => exact ⟨k + 1, z', by go_num, by first | rfl | exact congrArg (Value.int .u64) (IntWalk.u64_in _ (by have := hzl'.out; omega)), hzz, hzl', by omega, .inr (by rw [Nat.add_sub_cancel]; exact Hge.out)⟩
      case measure => simp [intOf]; omega

theorem tmod2 (d j : Nat) : ((d : Int) / 2 ^ j).tmod 2 = ((d / 2 ^ j % 2 : Nat) : Int) := by
 rw [show (d : Int) / 2 ^ j = ((d / 2 ^ j : Nat) : Int) by simp]
 generalize d / 2 ^ j = z
 rw [Int.tmod_eq_emod_of_nonneg (by omega)]
 omega
theorem mod2 (d j : Nat) : IntKind.u64.wrap ((d : Int) / 2 ^ j % 2) = ((d / 2 ^ j % 2 : Nat) : Int) := by
 rw [show (d : Int) / 2 ^ j % 2 = ((d / 2 ^ j % 2 : Nat) : Int) by simp]
 generalize d / 2 ^ j = z
 exact IntWalk.u64_in _ (by omega)

set_option maxRecDepth 100000 in
set_option maxHeartbeats 1000000 in
theorem refBit_any (P : Nat → Prop) (A : Option Addr) (c : Nat) (x : Nat) (i : Int) (w : World) (h : RN w P A c (digs 4294967296 x)) (hi : i ≤ 9223372036854775807) :
 Calls Tryz.prog 28 #[.slice A (digs 4294967296 x).length c, .int .i64 i] w fun e w' => e = .returned (.int .u64 (bitOf x i : Int)) ∧ w = w' := by
 obtain ⟨h1, h2, h3⟩ := h.cap
 have hv := val_digs (B := 4294967296) (by omega) x
 have hD := Dig.digs x
 generalize digs 4294967296 x = a at *
 by_cases h0 : i < 0
 · have hb := Lib.hid (show bitOf x i = 0 by simp [bitOf, h0])
   go_enter Tryz.func28, Tryz.ntmps28
   go_wp2
   go_ret
   rw [hb.out]
   exact ⟨rfl, rfl⟩
 · obtain ⟨n, rfl⟩ : ∃ n : Nat, i = (n : Int) := ⟨i.toNat, by omega⟩
   obtain ⟨k, j, hj, hn⟩ : ∃ k j, j < 32 ∧ n = 32 * k + j := ⟨n / 32, n % 32, by omega, by omega⟩
   have hb : bitOf x (n : Int) = dg a k / 2 ^ j % 2 := by
    have := val_bit (m := 32) a hD k j hj
    rw [show (2 : Nat) ^ 32 = 4294967296 by decide, hv] at this
    rw [bitOf, if_neg h0, Int.toNat_natCast, hn]
    exact this
   have e1 : (n : Int) / 32 = (k : Int) := by omega
   have e2 : (n : Int) % 32 = (j : Int) := by omega
   have e4 : IntKind.i64.wrap ((n : Int) / 32) = (k : Int) := by rw [e1]; exact IntWalk.i64_in _ (by omega)
   by_cases hk : k < a.length
   · obtain ⟨ad, rfl, _, q1⟩ := h.at_ hk
     have hd := h.2.dgLt k
     have e3 := mod2 (dg a k) j
     have hj' : (j : Int) < 32 := by omega
     have hk' : (k : Int) < (a.length : Int) := by omega
     have Hb := Lib.hid hb
     clear hb hn hd h hi hD
     go_enter Tryz.func28, Tryz.ntmps28
     go_wp2
     go_ret
     exact ⟨ret_int (by rw [Hb.out]; exact tmod2 _ _), rfl⟩
   · have hd : dg a k = 0 := dg_none (by omega)
     rw [hd, Nat.zero_div] at hb
     have Hb := Lib.hid hb
     have hk' : ¬ (k : Int) < (a.length : Int) := by omega
     have hk2 : (a.length : Int) ≤ (k : Int) := by omega
     have hkb : (k : Int) ≤ 288230376151711743 := by omega
     clear hb hn hd h hi hD
     go_enter Tryz.func28, Tryz.ntmps28
     go_wp2
     go_ret
     rw [Hb.out]
     exact ⟨rfl, rfl⟩

def BackAt (x n : Nat) (o : List Nat) (k : Nat) : Prop := o.length = n ∧ (∀ j, j < n → n - 1 - j < k → dg o j = x / 2 ^ (8 * (n - 1 - j)) % 256) ∧ (∀ j, k ≤ n - 1 - j → dg o j = 0) ∧ ∀ b ∈ o, b < 256
theorem BackAt.zero (x n : Nat) : BackAt x n (List.replicate n 0) 0 := by
 refine ⟨by simp, fun j _ hj => by omega, fun j _ => ?_, fun b hb => by simp at hb; omega⟩
 rw [dg, List.getD_eq_getElem?_getD, List.getElem?_replicate]
 split <;> rfl
theorem BackAt.step {x n : Nat} {o : List Nat} {k b : Nat} (h : BackAt x n o k) (hk : k < n) (hb : x / 2 ^ (8 * k) % 256 = b) : BackAt x n (o.set (n - 1 - k) b) (k + 1) := by
 obtain ⟨h1, h2, h3, h4⟩ := h
 refine ⟨by simpa using h1, fun j hjn hj => ?_, fun j hj => by rw [getD_set_ne (by omega)]; exact h3 j (by omega), set_lt h4 (by omega)⟩
 rcases Nat.lt_or_ge (n - 1 - j) k with h | h
 · rw [getD_set_ne (by omega)]; exact h2 j hjn h
 · obtain rfl : j = n - 1 - k := by omega
   rw [getD_set_eq (by omega), show n - 1 - (n - 1 - k) = k by omega]; exact hb.symm
theorem BackAt.fin {x n : Nat} {o : List Nat} {k : Nat} (h : BackAt x n o k) (hk : ∀ j, k ≤ j → j < n → x / 2 ^ (8 * j) % 256 = 0) : o = bytesOf x n := by
 obtain ⟨h1, h2, h3, _⟩ := h
 apply List.ext_getElem (by rw [h1, bytesOf_length])
 intro i h4 h5
 have e : dg o i = x / 2 ^ (8 * (n - 1 - i)) % 256 := by
  rcases Nat.lt_or_ge (n - 1 - i) k with h | h
  · exact h2 i (by omega) h
  · rw [h3 i h, hk _ h (by omega)]
 rw [dg, getD_eq' h4] at e
 rw [e]
 simp [bytesOf]

end Go.Proofs.YtlaphnlolgokiaaGreatDoor

namespace Go.Proofs.YtlaphnlolgokiaaGreatDoor
open Go.RowKit

set_option maxRecDepth 100000 in
set_option maxHeartbeats 1000000 in
theorem refOdd_any (A : Option Addr) (c x : Nat) (w : World) (h : RU w A c (digs 4294967296 x)) :
 Calls Tryz.prog 52 #[.slice A (digs 4294967296 x).length c] w fun e w' => e = .returned (.bool (decide (x % 2 = 1))) ∧ w = w' := by
 have hb := refBit_any _ A c x 0 w h (by omega)
 rw [bitOf_zero] at hb
 have hlt := Nat.mod_lt x (show 0 < 2 by omega)
 generalize x % 2 = y at *
 have Hb := Lib.hid hb
 have he : ((y : Int) == 1) = decide (y = 1) := by
  rw [Bool.eq_iff_iff]; simp; omega
 clear hb
 go_enter Tryz.func52, Tryz.ntmps52
 go_wp2_with fail
 refine Hb.out.mono ?_
 rintro e w1 ⟨rfl, rfl⟩
 go_wp2
 go_ret
 exact ⟨by simp, rfl⟩

theorem pow_half {X E j M v : Nat} (hv : X ^ (E / 2 ^ (j + 1)) % M = v) (hb : E / 2 ^ j % 2 = 0) : X ^ (E / 2 ^ j) % M = v * v % M := by
 have e : E / 2 ^ j = E / 2 ^ (j + 1) + E / 2 ^ (j + 1) := by
  rw [Nat.pow_succ, ← Nat.div_div_eq_div_mul]; omega
 rw [← hv, ← Nat.mul_mod, ← Nat.pow_add, ← e]
theorem pow_half1 {X E j M v : Nat} (hv : X ^ (E / 2 ^ (j + 1)) % M = v) (hb : E / 2 ^ j % 2 = 1) : X ^ (E / 2 ^ j) % M = v * v % M * (X % M) % M := by
 have e : E / 2 ^ j = E / 2 ^ (j + 1) + E / 2 ^ (j + 1) + 1 := by
  rw [Nat.pow_succ, ← Nat.div_div_eq_div_mul]; omega
 rw [← hv, e, Nat.pow_succ, Nat.pow_add, Nat.mul_mod, Nat.mul_mod (X ^ (E / 2 ^ (j + 1))) (X ^ (E / 2 ^ (j + 1)))]

set_option maxRecDepth 100000 in
set_option maxHeartbeats 2000000 in
theorem refExp_any (A Ae Am : Option Addr) (c ce cm X E M : Nat) (w : World) (h : RU w A c (digs 4294967296 X)) (he : RU w Ae ce (digs 4294967296 E)) (hm : RU w Am cm (digs 4294967296 M)) (hl : (digs 4294967296 X).length < 40000) (hlM : (digs 4294967296 M).length < 40000) (h0 : 0 < M) (hn : nbits E ≤ 1000000) :
 Calls Tryz.prog 79 #[.slice A (digs 4294967296 X).length c, .slice Ae (digs 4294967296 E).length ce, .slice Am (digs 4294967296 M).length cm] w fun e w' => ∃ A1 c1, e = .returned (.slice A1 (digs 4294967296 (X ^ E % M)).length c1) ∧ RU w' A1 c1 (digs 4294967296 (X ^ E % M)) ∧ Below w.heap.size w w' := by
 have HlM := Lib.hid hlM
 obtain ⟨nb, hnb⟩ : ∃ nb, nbits E = nb := ⟨_, rfl⟩
 have Hst := Lib.hid (Below1.start nb)
 have Hv0 := Lib.hid (show X ^ (E / 2 ^ nb) % M = 1 % M by rw [Nat.div_eq_of_lt (lt_of_nbits (Nat.le_of_eq hnb)), Nat.pow_zero])
 have lm : ∀ v, v < M → (digs 4294967296 v).length < 40000 := fun v hv => Nat.lt_of_le_of_lt (digs_length_mono (by omega) (Nat.le_of_lt hv)) hlM
 have Hlm := Lib.hid lm
 obtain ⟨R, hR⟩ : ∃ R, X ^ E % M = R := ⟨_, rfl⟩
 rw [hR]
 have HR := Lib.hid hR
 have hof := Lib.hid (refOf_any 1 w (by omega))
 have h1M := Lib.hid (Nat.mod_lt 1 h0)
 clear hR lm
 go_enter Tryz.func79, Tryz.ntmps79
 go_wp2_with fail
 refine hof.out.mono ?_
 rintro e w1 ⟨A1, c1, rfl, hO1, hB1⟩
 have hm1 := Lib.hid (refMod_any A1 Am c1 cm 1 M w1 hO1.ru (hm.up hB1) (by rw [digs_pos (by omega) (by omega)]; simp [digs_zero]) h0)
 go_wp2_with fail
 refine hm1.out.mono ?_
 rintro e w2 ⟨A2, c2, rfl, hR2, hB2⟩
 have hB02 := hB1.trans (hB2.mono hB1.size)
 have hm2 := Lib.hid (refMod_any A Am c cm X M w2 (h.up hB02) (hm.up hB02) (by omega) h0)
 go_wp2_with fail
 refine hm2.out.mono ?_
 rintro e w3 ⟨A3, c3, rfl, hR3, hB3⟩
 have hB03 := hB02.trans (hB3.mono hB02.size)
 replace hR2 := hR2.up hB3
 have zm := hm.up hB03
 have ze := he.up hB03
 have hbi := refBits_any _ Ae ce E w3 ze
 rw [hnb] at hbi
 have Hbi := Lib.hid hbi
 have hXM := Lib.hid (Nat.mod_lt X h0)
 obtain ⟨Y, hY⟩ : ∃ Y, X % M = Y := ⟨_, rfl⟩
 rw [hY] at hR3 hXM ⊢
 have HY := Lib.hid hY
 clear hbi hof hm1 hm2 hO1 hB1 hB2 hB3 hB02 h he hm hY
 go_wp2_with fail
 refine Hbi.out.mono ?_
 rintro e w4 ⟨rfl, rfl⟩
 have hs3 := hB03.size
 go_wp2
 go_loopw [7, 8] (fun xv iv wr => ∃ (k v : Nat) (z : Int) (A1 : Option Addr) (c1 : Nat), iv = .int .i64 z ∧ Below1 k z ∧ xv = .slice A1 (digs 4294967296 v).length c1 ∧ k ≤ nb ∧ Hid (X ^ (E / 2 ^ k) % M = v) ∧ v < M ∧ RU wr A1 c1 (digs 4294967296 v) ∧ Below w3.heap.size w3 wr) (fun _ iv _ => (intOf iv + 1).toNat)
 case atStart => exact ⟨nb, 1 % M, _, A2, c2, rfl, Hst.out, rfl, Nat.le_refl _, Hv0, h1M.out, hR2, Below.refl _ _⟩
 case round =>
  obtain ⟨k, v, z, A1, c1, rfl, hz, rfl, hk, hv, hvM, hx, hB⟩ := hrel
  rcases hz with ⟨rfl, rfl⟩ | ⟨j, rfl, rfl⟩
  · have hvR : v = R := by have := hv.out; have := HR.out; rw [Nat.pow_zero, Nat.div_one] at *; omega
    subst hvR
    go_wp2
    go_ret
    exact ⟨A1, c1, rfl, hx, hB03.trans (hB.mono hs3)⟩
  · have hlv := Hlm.out v hvM
    have hsq := Lib.hid (refMulMod_any A1 A1 Am c1 c1 cm v v M wr hx hx (zm.up hB) hlv hlv h0)
    have Hs' := Lib.hid (Below1.start j)
    have hvv := Lib.hid (Nat.mod_lt (v * v) h0)
    obtain ⟨u, hu⟩ : ∃ u, v * v % M = u := ⟨_, rfl⟩
    rw [hu] at hsq hvv
    have hbt : E / 2 ^ j % 2 = 0 ∨ E / 2 ^ j % 2 = 1 := by have := Nat.mod_lt (E / 2 ^ j) (show 0 < 2 by omega); omega
    have Hu := Lib.hid hu
    clear hu hlv
    go_wp2_with fail
    refine hsq.out.mono ?_
    rintro e w5 ⟨A5, c5, rfl, hR5, hB5⟩
    have hB35 := hB.trans (hB5.mono hB.size)
    have hbit := refBit_any _ Ae ce E (j : Int) w5 (ze.up hB35) (by omega)
    rw [show bitOf E (j : Int) = E / 2 ^ j % 2 by rw [bitOf, if_neg (by omega), Int.toNat_natCast]] at hbit
    rcases hbt with h0b | h1b
    · rw [h0b] at hbit
      have Hbit := Lib.hid hbit
      have hp := Lib.hid ((pow_half hv.out h0b).trans Hu.out)
      clear hbit h0b hv
      go_wp2_with fail
      refine Hbit.out.mono ?_
      rintro e w6 ⟨rfl, rfl⟩
      go_wp2
      go_roundw
      case rel => exact ⟨j, u, _, A5, c5, rfl, Hs'.out, rfl, by omega, hp, hvv.out, hR5, hB35⟩
      case measure => simp [intOf]
    · rw [h1b] at hbit
      have Hbit := Lib.hid hbit
      have hp := pow_half1 hv.out h1b
      rw [Hu.out, HY.out] at hp
      have hlu := Hlm.out u hvv.out
      have hlY := Hlm.out Y hXM.out
      have hmu := Lib.hid (refMulMod_any A5 A3 Am c5 c3 cm u Y M w5 hR5 (hR3.up hB35) (zm.up hB35) hlu hlY h0)
      have huY := Lib.hid (Nat.mod_lt (u * Y) h0)
      obtain ⟨t, ht⟩ : ∃ t, u * Y % M = t := ⟨_, rfl⟩
      rw [ht] at hmu huY hp
      have Hp := Lib.hid hp
      clear hbit h1b hv hp ht hlu hlY
      go_wp2_with fail
      refine Hbit.out.mono ?_
      rintro e w6 ⟨rfl, rfl⟩
      go_wp2_with fail
      refine hmu.out.mono ?_
      rintro e w7 ⟨A7, c7, rfl, hR7, hB7⟩
      have hB37 := hB35.trans (hB7.mono hB35.size)
      go_wp2
      go_roundw
      case rel => exact ⟨j, t, _, A7, c7, rfl, Hs'.out, rfl, by omega, Hp, huY.out, hR7, hB37⟩
      case measure => simp [intOf]
end Go.Proofs.YtlaphnlolgokiaaGreatDoor

namespace Go.Proofs.YtlaphnlolgokiaaGreatDoor
open Go.RowKit

set_option maxRecDepth 100000 in
set_option maxHeartbeats 1000000 in
theorem refStrong_no (A A' : Option Addr) (c c' N W : Nat) (w : World) (h : RU w A c (digs 4294967296 N)) (hno : N % 2 = 0 ∨ N < 2) :
 Calls Tryz.prog 53 #[.slice A (digs 4294967296 N).length c, .slice A' (digs 4294967296 W).length c'] w fun e w' => e = .returned (.bool (strongB N W)) ∧ Below w.heap.size w w' := by
 have Hs := Lib.hid (strong_even W hno)
 have hle := cmpV_cases N 2
 have hcl : N % 2 = 1 → cmpV N 2 = -1 := fun h1 => by rcases hle with h | h | h <;> omega
 have hce : (cmpV N 2 == 0) = decide (N = 2) := by
  rw [Bool.eq_iff_iff]; simp; omega
 have hof := Lib.hid (refOf_any 1 w (by omega))
 generalize hcv : cmpV N 2 = cv at *
 have Hcv := Lib.hid hcv
 have Hcl := Lib.hid hcl
 have Hce := Lib.hid hce
 clear hno hle hcl hcv hce
 go_enter Tryz.func53, Tryz.ntmps53
 go_wp2_with fail
 refine hof.out.mono ?_
 rintro e w1 ⟨A1, c1, rfl, hO1, hB1⟩
 have hof2 := Lib.hid (refOf_any 2 w1 (by omega))
 go_wp2_with fail
 refine hof2.out.mono ?_
 rintro e w2 ⟨A2, c2, rfl, hO2, hB2⟩
 have hB02 := hB1.trans (hB2.mono hB1.size)
 have zn := h.up hB02
 have z2 := hO2.ru
 have Hod := Lib.hid (refOdd_any A c N w2 zn)
 have hcm := Lib.hid fun n => refCmp_any _ _ A A2 c c2 N 2 (w2.drewN n) (zn.ud n) (z2.ud n)
 rw [Hcv.out] at hcm
 clear hof hof2 hO1 hO2 hB1 hB2 h zn z2
 go_wp2_with fail
 refine Hod.out.mono ?_
 rintro e w3 ⟨rfl, rfl⟩
 have hcm0 := Lib.hid (hcm.out 0)
 rcases hodd : decide (N % 2 = 1) with _ | _
 · go_wp2_with fail
   refine hcm0.out.mono ?_
   rintro e w3 ⟨rfl, n1, rfl⟩
   go_wp2
   go_ret
   exact ⟨by rw [Hs.out, ← Hce.out]; simp, below_drewN hB02 n1⟩
 · have hc1 := Hcl.out (of_decide_eq_true hodd)
   subst hc1
   go_wp2_with fail
   refine hcm0.out.mono ?_
   rintro e w3 ⟨rfl, n1, rfl⟩
   have hcm1 := Lib.hid (hcm.out n1)
   go_wp2_with fail
   refine hcm1.out.mono ?_
   rintro e w3 ⟨rfl, n2, rfl⟩
   rw [drewN_add]
   go_wp2
   go_ret
   exact ⟨by rw [Hs.out, ← Hce.out]; simp, below_drewN hB02 _⟩

theorem strong_first {N W : Nat} (h : N % 2 = 1) (h1 : 1 < N) (h2 : nbits N ≤ 4096) (hw : W % N ≠ 0) (hl : lookAt N W 0 = 1) : strongB N W = true := by
 rw [strong_odd h h1 h2, if_neg hw, any_range, any_range_step _ (twos_even (by omega) (by omega))]
 simp [lookYes, hl]
theorem strong_rest {N W : Nat} (h : N % 2 = 1) (h1 : 1 < N) (h2 : nbits N ≤ 4096) (hw : W % N ≠ 0) (hl : lookAt N W 0 ≠ 1) : (List.range' 0 (twos (N - 1) - 0)).any (fun k => decide (lookAt N W k = N - 1)) = strongB N W := by
 rw [strong_odd h h1 h2, if_neg hw, any_range]
 congr 1
 funext k
 unfold lookYes
 by_cases hk : k = 0
 · subst hk; simp [hl]
 · simp [hk]

set_option maxRecDepth 100000 in
set_option maxHeartbeats 4000000 in
theorem refStrong_odd (A A' : Option Addr) (c c' N W : Nat) (w : World) (h : RU w A c (digs 4294967296 N)) (h' : RU w A' c' (digs 4294967296 W)) (hl : (digs 4294967296 N).length < 20000) (hlW : (digs 4294967296 W).length < 40000) (hodd : N % 2 = 1) (hgt : 1 < N) (hmay : nbits N ≤ 4096) :
 Calls Tryz.prog 53 #[.slice A (digs 4294967296 N).length c, .slice A' (digs 4294967296 W).length c'] w fun e w' => e = .returned (.bool (strongB N W)) ∧ Below w.heap.size w w' := by
 have hcv : cmpV N 2 = 1 := cmpV_gt (by omega)
 have hmi : ((nbits N : Nat) : Int) ≤ 4096 := by omega
 have h2s := twos_le hgt hmay
 have htop := twos_top (x := N - 1) (by omega)
 have hlow := fun k => @twos_low (N - 1) k
 have hw0 := fun h => strong_odd (W := W) hodd hgt hmay ▸ if_pos (c := W % N = 0) h
 have hw1 := @strong_first N W hodd hgt hmay
 have hw2 := @strong_rest N W hodd hgt hmay
 have hlook := lookAt_succ N W
 have hlook0 : (W % N) ^ ((N - 1) / 2 ^ twos (N - 1)) % N = lookAt N W 0 := by rw [lookAt, Nat.pow_zero, Nat.mul_one]
 have hlookN : ∀ k, lookAt N W k < N := fun k => Nat.mod_lt _ (by omega)
 have hnbd : ∀ k, nbits ((N - 1) / 2 ^ k) ≤ 1000000 := fun k => by
  have h1 := lt_of_nbits (x := N) (k := 4096) hmay
  have h2 : (N - 1) / 2 ^ k ≤ N - 1 := Nat.div_le_self _ _
  exact Nat.le_trans (nbits_le (k := 4096) (Nat.lt_of_le_of_lt (Nat.le_trans h2 (Nat.sub_le _ _)) h1)) (by omega)
 have lm : ∀ v, v ≤ N → (digs 4294967296 v).length < 20000 := fun v hv => Nat.lt_of_le_of_lt (digs_length_mono (by omega) hv) hl
 obtain ⟨s, hs⟩ : ∃ s, twos (N - 1) = s := ⟨_, rfl⟩
 rw [hs] at h2s htop hlow hw2 hlook0
 obtain ⟨B, hB⟩ : ∃ B, strongB N W = B := ⟨_, rfl⟩
 have hB0 : W % N = 0 → B = true := fun h0 => by rw [← hB, strong_odd hodd hgt hmay, if_pos h0]
 rw [hB] at hw1 hw2 ⊢
 have Hw1 := Lib.hid hw1
 have Hw2 := Lib.hid hw2
 have HB0 := Lib.hid hB0
 have Hlook := Lib.hid hlook
 have Hlook0 := Lib.hid hlook0
 have HlookN := Lib.hid hlookN
 have Hnbd := Lib.hid hnbd
 have Hlm := Lib.hid lm
 have Htop := Lib.hid htop
 have Hlow := Lib.hid hlow
 have Hgt := Lib.hid hgt
 have Hl := Lib.hid hl
 have HlW := Lib.hid hlW
 have Hbits := Lib.hid fun W h => refBits_any (fun b => b < W.heap.size) A c N W h
 have Hodd := Lib.hid hodd
 have hof := Lib.hid (refOf_any 1 w (by omega))
 generalize nbits N = nb at *
 clear hw0 hw1 hw2 hB0 hlook hlook0 hlookN hnbd lm htop hlow hgt hl hlW hB hs hmay hodd
 go_enter Tryz.func53, Tryz.ntmps53
 go_wp2_with fail
 refine hof.out.mono ?_
 rintro e w1 ⟨A1, c1, rfl, hO1, hB1⟩
 have hof2 := Lib.hid (refOf_any 2 w1 (by omega))
 go_wp2_with fail
 refine hof2.out.mono ?_
 rintro e w2 ⟨A2, c2, rfl, hO2, hB2⟩
 have hB02 := hB1.trans (hB2.mono hB1.size)
 have zn := h.up hB02
 have zw := h'.up hB02
 have z1 := hO1.ru.up hB2
 have z2 := hO2.ru
 have hod := refOdd_any A c N w2 zn
 rw [decide_eq_true Hodd.out] at hod
 have Hod := Lib.hid hod
 have hcm := refCmp_any _ _ A A2 c c2 N 2 w2 zn z2
 rw [hcv] at hcm
 have Hcm := Lib.hid hcm
 clear hof hof2 hO1 hO2 hB1 hB2 h h' hod hcm hcv
 go_wp2_with fail
 refine Hod.out.mono ?_
 rintro e w3 ⟨rfl, rfl⟩
 go_wp2_with fail
 refine Hcm.out.mono ?_
 rintro e w3 ⟨rfl, n1, rfl⟩
 have hB03 := below_drewN hB02 n1
 replace zn := zn.ud n1
 replace zw := zw.ud n1
 replace z1 := z1.ud n1
 replace z2 := z2.ud n1
 clear Hod Hcm hB02
 generalize w2.drewN n1 = w3 at *
 have Hbi := Lib.hid (Hbits.out w3 zn)
 go_wp2_with fail
 refine Hbi.out.mono ?_
 rintro e w4 ⟨rfl, rfl⟩
 have Hsu := Lib.hid (refSub_any _ _ A A1 c c1 N 1 w3 zn z1 lt_self lt_self (by have := Hl.out; omega) (by have := Hgt.out; omega))
 go_wp2_with fail
 refine Hsu.out.mono ?_
 rintro e w5 ⟨A5, c5, rfl, hO5, hB5⟩
 have hB05 := hB03.trans (hB5.mono hB03.size)
 replace zn := zn.up hB5
 replace zw := zw.up hB5
 replace z1 := z1.up hB5
 replace z2 := z2.up hB5
 have zl := hO5.ru
 clear Hbi Hsu hO5 hB5 hB03 Hbits
 have hs5 := hB05.size
 obtain ⟨L, hL⟩ : ∃ L, N - 1 = L := ⟨_, rfl⟩
 have hLN : L ≤ N := by omega
 rw [hL] at zl Htop Hlow Hw2 Hlook0 Hnbd ⊢
 clear hL
 go_wp2
 go_loopw [8, 9] (fun dv sv wr => ∃ (k : Nat) (A1 : Option Addr) (c1 : Nat), sv = .int .i64 (k : Int) ∧ dv = .slice A1 (digs 4294967296 (L / 2 ^ k)).length c1 ∧ k ≤ s ∧ RU wr A1 c1 (digs 4294967296 (L / 2 ^ k)) ∧ Below w5.heap.size w5 wr) (fun _ sv _ => s - (intOf sv).toNat)
 case atStart => exact ⟨0, A5, c5, rfl, by rw [Nat.pow_zero, Nat.div_one], by omega, by rw [Nat.pow_zero, Nat.div_one]; exact zl, Below.refl _ _⟩
 case round =>
  obtain ⟨k, A6, c6, rfl, rfl, hk, hd, hB⟩ := hrel
  have hod := refOdd_any A6 c6 (L / 2 ^ k) wr hd
  by_cases hks : k < s
  · rw [decide_eq_false (by rw [Hlow.out k hks]; omega : ¬ L / 2 ^ k % 2 = 1)] at hod
    have Hod := Lib.hid hod
    have Hq := Lib.hid (refQuo_any _ _ A6 A2 c6 c2 (L / 2 ^ k) 2 wr hd (z2.up hB) lt_self lt_self (by have := Hlm.out (L / 2 ^ k) (Nat.le_trans (Nat.div_le_self _ _) hLN); omega) (by omega))
    have e2 : L / 2 ^ k / 2 = L / 2 ^ (k + 1) := half_step L k
    rw [e2] at Hq
    clear hod e2
    go_wp2_with fail
    refine Hod.out.mono ?_
    rintro e w6 ⟨rfl, rfl⟩
    go_wp2_with fail
    refine Hq.out.mono ?_
    rintro e w7 ⟨A7, c7, A8, c8, rfl, hO7, _, hB7⟩
    have hB57 := hB.trans (hB7.mono hB.size)
    have hR7 := hO7.ru
    clear hO7 hB7 Hod Hq
    go_wp2
    go_roundw
    case rel => exact ⟨k + 1, A7, c7, by go_num, rfl, by omega, hR7, hB57⟩
    case measure => simp [intOf]; omega
  · obtain rfl : k = s := by omega
    rw [decide_eq_true Htop.out] at hod
    have Hod := Lib.hid hod
    clear hod Hlow Htop
    have hB0r := hB05.trans (hB.mono hs5)
    replace zn := zn.up hB
    replace zw := zw.up hB
    replace z1 := z1.up hB
    replace zl := zl.up hB
    clear hB hB05 z2
    have Hmw := Lib.hid (refMod_any A' A c' c W N wr zw zn (by have := HlW.out; omega) (by have := Hgt.out; omega))
    go_wp2_with fail
    refine Hod.out.mono ?_
    rintro e w6 ⟨rfl, rfl⟩
    go_wp2_with fail
    refine Hmw.out.mono ?_
    rintro e w7 ⟨A7, c7, rfl, hR7, hB7⟩
    have hB07 := hB0r.trans (hB7.mono hB0r.size)
    replace zn := zn.up hB7
    replace z1 := z1.up hB7
    replace zl := zl.up hB7
    replace hd := hd.up hB7
    clear hB7 hB0r Hod Hmw zw
    by_cases hw : W % N = 0
    · have hBt := HB0.out hw
      rw [hw, digs_zero] at *
      subst hBt
      go_wp2
      go_ret
      exact ⟨by simp, hB07⟩
    · have Hw1 := Lib.hid (Hw1.out hw)
      have Hw2 := Lib.hid (Hw2.out hw)
      obtain ⟨Y, hY⟩ : ∃ Y, W % N = Y := ⟨_, rfl⟩
      rw [hY] at hw hR7 Hlook0 ⊢
      have hYN : Y ≤ N := by rw [← hY]; exact Nat.le_of_lt (Nat.mod_lt _ (by have := Hgt.out; omega))
      have hyne : (((digs 4294967296 Y).length : Int) == 0) = false := eqB (by rw [digs_pos (by omega) (by omega)]; simp; omega)
      have Hex := refExp_any A7 A6 A c7 c6 c Y (L / 2 ^ k) N w7 hR7 hd zn (by have := Hlm.out Y hYN; omega) (by have := Hl.out; omega) (by have := Hgt.out; omega) (Hnbd.out k)
      rw [Hlook0.out] at Hex
      replace Hex := Lib.hid Hex
      clear hY HB0
      go_wp2_with fail
      refine Hex.out.mono ?_
      rintro e w8 ⟨A8, c8, rfl, hR8, hB8⟩
      have hB08 := hB07.trans (hB8.mono hB07.size)
      replace zn := zn.up hB8
      replace z1 := z1.up hB8
      replace zl := zl.up hB8
      have hcm := refCmp_any _ _ A8 A1 c8 c1 (lookAt N W 0) 1 w8 hR8 z1
      clear hB8 hB07 Hex hd hR7
      by_cases h1 : lookAt N W 0 = 1
      · have hBt := Hw1.out h1
        subst hBt
        rw [h1, cmpV_eq] at hcm
        rw [h1]
        have Hcm := Lib.hid hcm
        clear hcm
        go_wp2_with fail
        refine Hcm.out.mono ?_
        rintro e w9 ⟨rfl, n2, rfl⟩
        go_wp2
        go_ret
        exact ⟨by simp, below_drewN hB08 n2⟩
      · have hne : cmpV (lookAt N W 0) 1 ≠ 0 := fun e => h1 (cmpV_zero e)
        have Hw2 := Lib.hid (Hw2.out h1)
        generalize cmpV (lookAt N W 0) 1 = cv at *
        have hcvb : (cv == 0) = false := eqB hne
        have Hcm := Lib.hid hcm
        clear hcm Hw1
        go_wp2_with fail
        refine Hcm.out.mono ?_
        rintro e w9 ⟨rfl, n2, rfl⟩
        have hB09 := below_drewN hB08 n2
        replace zn := zn.ud n2
        replace zl := zl.ud n2
        replace hR8 := hR8.ud n2
        clear Hcm hB08 z1
        generalize w8.drewN n2 = w9 at *
        have hs9 := hB09.size
        go_wp2
        go_loopw [10, 11] (fun xv iv wr => ∃ (i : Nat) (A1 : Option Addr) (c1 : Nat), iv = .int .i64 (i : Int) ∧ xv = .slice A1 (digs 4294967296 (lookAt N W i)).length c1 ∧ i ≤ k ∧ RU wr A1 c1 (digs 4294967296 (lookAt N W i)) ∧ Hid ((List.range' i (k - i)).any (fun j => decide (lookAt N W j = L)) = B) ∧ Below w9.heap.size w9 wr) (fun _ iv _ => k - (intOf iv).toNat)
        case atStart => exact ⟨0, A8, c8, rfl, rfl, by omega, hR8, Hw2, Below.refl _ _⟩
        case round =>
         clear hR8 Hw2
         obtain ⟨i, A9, c9, rfl, rfl, hi, hx, hany, hB⟩ := hrel
         by_cases hik : i < k
         · have hcm := refCmp_any _ _ A9 A5 c9 c5 (lookAt N W i) L wr hx (zl.up hB)
           have hst := any_range_step (fun j => decide (lookAt N W j = L)) hik
           rw [hany.out] at hst
           by_cases hY : lookAt N W i = L
           · rw [hY, cmpV_eq] at hcm
             rw [hY]
             simp only [hY, decide_true, Bool.true_or] at hst
             subst hst
             have Hcm := Lib.hid hcm
             clear hcm hany hx
             go_wp2_with fail
             refine Hcm.out.mono ?_
             rintro e w10 ⟨rfl, n3, rfl⟩
             go_wp2
             go_ret
             exact ⟨by simp, below_drewN (hB09.trans (hB.mono hs9)) n3⟩
           · have hne2 : cmpV (lookAt N W i) L ≠ 0 := fun e => hY (cmpV_zero e)
             simp only [hY, decide_false, Bool.false_or] at hst
             have Hst := Lib.hid hst.symm
             have hlv : (digs 4294967296 (lookAt N W i)).length < 40000 := by have := Hlm.out _ (Nat.le_of_lt (HlookN.out i)); omega
             generalize cmpV (lookAt N W i) L = cw at *
             have hcwb : (cw == 0) = false := eqB hne2
             have Hcm := Lib.hid hcm
             have Hmu := Lib.hid fun n => refMulMod_any A9 A9 A c9 c9 c (lookAt N W i) (lookAt N W i) N (wr.drewN n) (hx.ud n) (hx.ud n) ((zn.up hB).ud n) hlv hlv (by have := Hgt.out; omega)
             rw [← Hlook.out] at Hmu
             clear hcm hany hst hY hne2 hlv
             go_wp2_with fail
             refine Hcm.out.mono ?_
             rintro e w10 ⟨rfl, n3, rfl⟩
             have Hmu3 := Lib.hid (Hmu.out n3)
             clear Hmu
             go_wp2_with fail
             refine Hmu3.out.mono ?_
             rintro e w11 ⟨A11, c11, rfl, hR11, hB11⟩
             have hB911 := (below_drewN hB n3).trans (hB11.mono hB.size)
             clear Hmu3 Hcm hB11
             go_wp2
             go_roundw
             case rel => exact ⟨i + 1, A11, c11, by go_num, rfl, by omega, hR11, Hst, hB911⟩
             case measure => simp [intOf]; omega
         · obtain rfl : i = k := by omega
           have hBf := hany.out
           rw [any_range_end] at hBf
           subst hBf
           clear hany
           go_wp2
           go_ret
           exact ⟨by simp, hB09.trans (hB.mono hs9)⟩
end Go.Proofs.YtlaphnlolgokiaaGreatDoor

namespace Go.Proofs.YtlaphnlolgokiaaGreatDoor
open Go.RowKit

def probB (N : Nat) : Bool := if N % 2 = 1 ∧ 1 < N then fewTo N 12 else decide (N = 2)
def partTo (N k : Nat) : Bool := (List.range k).any fun i => decide (N % fewL.getD i 0 = 0) && decide (N ≠ fewL.getD i 0)
theorem partTo_succ (N k : Nat) : partTo N (k + 1) = (partTo N k || (decide (N % fewL.getD k 0 = 0) && decide (N ≠ fewL.getD k 0))) := by
 rw [partTo, List.range_succ, List.any_append, List.any_cons, List.any_nil, Bool.or_false]; rfl
theorem partTo_true {N k : Nat} (h : partTo N k = true) : ∀ {m}, k ≤ m → partTo N m = true
  | 0, hm => by obtain rfl : k = 0 := by omega
                exact h
  | m + 1, hm => by
    rcases Nat.lt_or_ge m k with h1 | h1
    · obtain rfl : k = m + 1 := by omega
      exact h
    · rw [partTo_succ, partTo_true h h1, Bool.true_or]
theorem few_cases {k : Nat} (h : k < 12) : fewL.getD k 0 ∈ [2, 3, 5, 7, 11, 13, 17, 19, 23, 29, 31, 37] := by
 have : k = 0 ∨ k = 1 ∨ k = 2 ∨ k = 3 ∨ k = 4 ∨ k = 5 ∨ k = 6 ∨ k = 7 ∨ k = 8 ∨ k = 9 ∨ k = 10 ∨ k = 11 := by omega
 rcases this with rfl | rfl | rfl | rfl | rfl | rfl | rfl | rfl | rfl | rfl | rfl | rfl <;> decide
theorem strong_part {N p : Nat} (h : N % 2 = 1) (h1 : 1 < N) (h2 : nbits N ≤ 4096) (hp : 1 < p) (hd : N % p = 0) (hne : N ≠ p) : strongB N p = false := by
 rw [strong_odd h h1 h2]
 have hle : p ≤ N := Nat.le_of_dvd (by omega) (Nat.dvd_of_mod_eq_zero hd)
 rw [Nat.mod_eq_of_lt (by omega), if_neg (by omega), List.any_eq_false]
 intro k hk
 have hlk : lookAt N p k % p = 0 := by
  unfold lookAt
  rw [Nat.mod_eq_of_lt (by omega : p < N)]
  have he : 0 < (N - 1) / 2 ^ twos (N - 1) * 2 ^ k := Nat.mul_pos (Nat.div_pos (twos_pow (by omega)) (Nat.pow_pos (by omega))) (Nat.pow_pos (by omega))
  have hdv : p ∣ p ^ ((N - 1) / 2 ^ twos (N - 1) * 2 ^ k) := by have := Nat.pow_dvd_pow p he; rwa [Nat.pow_one] at this
  exact Nat.mod_eq_zero_of_dvd ((Nat.dvd_mod_iff (Nat.dvd_of_mod_eq_zero hd)).2 hdv)
 have hn1 : (N - 1) % p ≠ 0 := fun e => by
  have h3 : p ∣ N - (N - 1) := Nat.dvd_sub (Nat.dvd_of_mod_eq_zero hd) (Nat.dvd_of_mod_eq_zero e)
  have h4 := Nat.le_of_dvd (by omega) h3
  omega
 have ha : lookAt N p k ≠ N - 1 := fun e => hn1 (e ▸ hlk)
 have hb : lookAt N p k ≠ 1 := fun e => by rw [e, Nat.mod_eq_of_lt hp] at hlk; omega
 simp [lookYes, ha, hb]
theorem part_few {N : Nat} (h : N % 2 = 1) (h1 : 1 < N) (h2 : nbits N ≤ 4096) (hp : partTo N 12 = true) : fewTo N 12 = false := by
 unfold partTo at hp
 rw [List.any_eq_true] at hp
 obtain ⟨k, hk, hx⟩ := hp
 rw [List.mem_range] at hk
 simp only [Bool.and_eq_true, decide_eq_true_eq] at hx
 have hg : 1 < fewL.getD k 0 := by
  have := few_cases hk
  simp only [List.mem_cons, List.not_mem_nil, or_false] at this
  omega
 have hs := strong_part h h1 h2 hg hx.1 hx.2
 unfold fewTo
 rw [List.all_eq_false]
 exact ⟨k, List.mem_range.2 hk, by rw [hs]; decide⟩
def refProbB (N : Nat) : Bool := if partTo N 12 = true then false else if N = 2 then true else if N % 2 = 1 ∧ 2 < N then fewTo N 12 else false
theorem refProb_eq {N : Nat} (h2 : nbits N ≤ 4096) : refProbB N = probB N := by
 unfold refProbB probB
 by_cases hp : partTo N 12 = true
 · rw [if_pos hp]
   by_cases ho : N % 2 = 1 ∧ 1 < N
   · rw [if_pos ho, part_few ho.1 ho.2 h2 hp]
   · rw [if_neg ho]
     symm
     rw [decide_eq_false_iff_not]
     rintro rfl
     exact absurd hp (by decide)
 · rw [if_neg hp]
   by_cases he : N = 2
   · subst he; rfl
   rw [if_neg he]
   by_cases ho : N % 2 = 1 ∧ 1 < N
   · rw [if_pos ho, if_pos ⟨ho.1, by omega⟩]
   · rw [if_neg ho, if_neg (by omega)]
     symm
     rw [decide_eq_false_iff_not]
     exact he
def vOf (n e d p q : Nat) : Bool :=
 decide (256 ≤ nbits n) && decide (nbits n ≤ 4096) && decide (p ≠ q) && decide (d < n) && decide (e < n) && decide (e % 2 = 1) && decide (2 ≤ nbits e) && decide (p * q = n) && probB p && probB q && decide (e * d % (p - 1) = 1) && decide (e * d % (q - 1) = 1)
theorem prob_two {N : Nat} (h : probB N = true) : 2 ≤ N := by
 unfold probB at h
 split at h
 · omega
 · have := of_decide_eq_true h; omega
theorem nbits_mul_le {p q n : Nat} (h : p * q = n) (hn : 0 < n) : nbits p + nbits q ≤ nbits n + 1 ∧ nbits p ≤ nbits n ∧ nbits q ≤ nbits n := by
 have hp : p ≠ 0 := fun e => by subst e; omega
 have hq : q ≠ 0 := fun e => by subst e; omega
 have b1 := nbits_bounds hp
 have b2 := nbits_bounds hq
 have b3 := nbits_bounds (x := n) (by omega)
 refine ⟨?_, nbits_le (Nat.lt_of_le_of_lt (by rw [← h]; exact Nat.le_mul_of_pos_right p (by omega)) b3.2.1), nbits_le (Nat.lt_of_le_of_lt (by rw [← h]; exact Nat.le_mul_of_pos_left q (by omega)) b3.2.1)⟩
 have h3 : 2 ^ ((nbits p - 1) + (nbits q - 1)) ≤ n := by rw [Nat.pow_add, ← h]; exact Nat.mul_le_mul b1.1 b2.1
 have h5 : (nbits p - 1) + (nbits q - 1) < nbits n := (Nat.pow_lt_pow_iff_right (by omega : 1 < 2)).1 (Nat.lt_of_le_of_lt h3 b3.2.1)
 omega
end Go.Proofs.YtlaphnlolgokiaaGreatDoor

namespace Go.Proofs.YtlaphnlolgokiaaGreatDoor
open Go.RowKit

attribute [local go_sem] Oper.semAt_some

theorem nbits_lenU {w : World} {P : Nat → Prop} {A : Option Addr} {c : Nat} {l : List Nat} (h : RN w P A c l) : nbits (val 18446744073709551616 l) ≤ 64 * l.length := by
 refine nbits_le ?_
 have h1 := val_lt h.2.1
 rw [Nat.pow_mul]
 exact h1
theorem digs_mul_len {x y j k : Nat} (hx : (digs 18446744073709551616 x).length ≤ j) (hy : (digs 18446744073709551616 y).length ≤ k) : (digs 18446744073709551616 (x * y)).length ≤ j + k := by
 refine digs_length_of_lt (by omega) ?_
 have b : ∀ {z n : Nat}, (digs 18446744073709551616 z).length ≤ n → z < 18446744073709551616 ^ n := fun {z n} h => by
  have h1 := val_lt (digs_lt (B := 18446744073709551616) (by omega) z)
  rw [val_digs (by omega)] at h1
  exact Nat.lt_of_lt_of_le h1 (Nat.pow_le_pow_right (by omega) h)
 rw [Nat.pow_add]
 exact Nat.mul_lt_mul'' (b hx) (b hy)
theorem u_cmp {A A' : Option Addr} {c c' : Nat} {a b : List Nat} {X Y : Nat} {w : World} (h : RU w A c a) (h' : RU w A' c' b) (hX : val 18446744073709551616 a = X) (hY : val 18446744073709551616 b = Y) :
 Calls Tryz.prog 16 #[.slice A a.length c, .slice A' b.length c'] w fun e w' => e = .returned (.int .i64 (cmpV X Y)) ∧ Ext w w' := by
 subst hX hY
 refine (cmp_any _ _ A A' c c' a b w h h').mono ?_
 rintro e w' ⟨rfl, n, rfl⟩
 exact ⟨rfl, below_drewN (Below.refl _ w) n⟩
theorem u_bits {A : Option Addr} {c : Nat} {a : List Nat} {X : Nat} {w : World} (h : RU w A c a) (hX : val 18446744073709551616 a = X) :
 Calls Tryz.prog 15 #[.slice A a.length c] w fun e w' => e = .returned (.int .i64 (nbits X : Int)) ∧ Ext w w' := by
 subst hX
 refine (bits_any _ A c a w h).mono ?_
 rintro e w' ⟨rfl, rfl⟩
 exact ⟨rfl, Ext.refl w⟩
theorem u_bit0 {A : Option Addr} {c : Nat} {a : List Nat} {X : Nat} {w : World} (h : RU w A c a) (hX : val 18446744073709551616 a = X) :
 Calls Tryz.prog 17 #[.slice A a.length c, .int .i64 0] w fun e w' => e = .returned (.int .u64 ((X % 2 : Nat) : Int)) ∧ Ext w w' := by
 subst hX
 refine (bit_any _ A c a 0 w h (by omega)).mono ?_
 rintro e w' ⟨rfl, rfl⟩
 exact ⟨by rw [bitOf_zero], Ext.refl w⟩
theorem u_mul {A A' : Option Addr} {c c' : Nat} {a b : List Nat} {X Y : Nat} {w : World} (h : RU w A c a) (h' : RU w A' c' b) (hX : val 18446744073709551616 a = X) (hY : val 18446744073709551616 b = Y) (hl : a.length < 100000) (hl' : b.length < 100000) :
 Calls Tryz.prog 18 #[.slice A a.length c, .slice A' b.length c'] w fun e w' => ∃ A1 c1, e = .returned (.slice A1 (digs 18446744073709551616 (X * Y)).length c1) ∧ RU w' A1 c1 (digs 18446744073709551616 (X * Y)) ∧ Ext w w' := by
 subst hX hY
 refine (mul_any _ _ A A' c c' a b w h h' lt_self lt_self hl hl').mono ?_
 rintro e w' ⟨A1, c1, rfl, hO, hB⟩
 exact ⟨A1, c1, rfl, hO.ru, hB⟩
set_option maxRecDepth 100000 in
set_option maxHeartbeats 4000000 in
theorem rless_any {A : Option Addr} {c : Nat} {a : List Nat} {X : Nat} {w : World} (h : RU w A c a) (hX : val 18446744073709551616 a = X) (hl : a.length < 100000) (h1 : 1 ≤ X) :
 Calls Tryz.prog 22 #[.slice A a.length c] w fun e w' => ∃ A1 c1, e = .returned (.slice A1 (digs 18446744073709551616 (X - 1)).length c1) ∧ RU w' A1 c1 (digs 18446744073709551616 (X - 1)) ∧ Ext w w' := by
 have Hh := Lib.hid h
 have HX := Lib.hid hX
 have H1 := Lib.hid h1
 have Hl := Lib.hid hl
 clear h hX h1 hl
 go_enter Tryz.func22, Tryz.ntmps22
 go_wp2_with fail
 refine (of_any 1 w (by omega)).mono ?_
 rintro e w1 ⟨A1, c1, rfl, hO, hB⟩
 have HB := Lib.hid (show Ext w w1 from hB)
 have HO := Lib.hid hO
 clear hB hO
 go_wp2_with fail
 have hs := sub_yes _ _ A A1 c c1 a (digs 18446744073709551616 1) w1 (Hh.out.up HB.out) HO.out.ru lt_self lt_self Hl.out (by rw [HX.out, val_digs (by omega)]; exact H1.out)
 rw [HX.out, val_digs (by omega)] at hs
 refine hs.mono ?_
 rintro e w2 ⟨A2, c2, rfl, hO2, hB2⟩
 have HB2 := Lib.hid (Ext.trans HB.out hB2)
 have HO2 := Lib.hid hO2
 clear hO2 hB2 hs
 go_wp2
 go_ret
 exact ⟨A2, c2, rfl, HO2.out.ru, HB2.out⟩
theorem digs_is_one {X : Nat} : (cmpV X 1 == 0) = decide (X = 1) := by
 rcases cmpV_cases X 1 with h | h | h
 · rw [h.2]; simp; omega
 · rw [h.2]; simp; exact h.1
 · rw [h.2]; simp; omega
set_option maxRecDepth 100000 in
set_option maxHeartbeats 4000000 in
theorem rone_any {A A' : Option Addr} {c c' : Nat} {a b : List Nat} {X M : Nat} {w : World} (h : RU w A c a) (h' : RU w A' c' b) (hX : val 18446744073709551616 a = X) (hM : val 18446744073709551616 b = M) (hl : a.length < 90000) (hl' : b.length < 90000) (h0 : 0 < M) :
 Calls Tryz.prog 21 #[.slice A a.length c, .slice A' b.length c'] w fun e w' => e = .returned (.bool (decide (X % M = 1))) ∧ Ext w w' := by
 have hq := quo_any _ _ A A' c c' a b w h h' lt_self lt_self hl hl' (by rw [hM]; exact h0)
 rw [hX, hM] at hq
 have Hq := Lib.hid hq
 obtain ⟨r, hr⟩ : ∃ r, X % M = r := ⟨_, rfl⟩
 rw [hr] at Hq ⊢
 have hz := digs_is_one (X := r)
 obtain ⟨z, hzz⟩ : ∃ z, cmpV r 1 = z := ⟨_, rfl⟩
 rw [hzz] at hz
 have Hz := Lib.hid hz
 have Hzz := Lib.hid hzz
 clear h h' hX hM hl hl' h0 hq hr hz hzz
 go_enter Tryz.func21, Tryz.ntmps21
 go_wp2_with fail
 refine Hq.out.mono ?_
 rintro e w1 ⟨A1, c1, A2, c2, rfl, hO1, hO2, hB⟩
 have HB := Lib.hid (show Ext w w1 from hB)
 have HO2 := Lib.hid hO2
 clear hO1 hB hO2 Hq
 go_wp2_with fail
 refine (of_any 1 w1 (by omega)).mono ?_
 rintro e w2 ⟨A3, c3, rfl, hO, hB2⟩
 have HB2 := Lib.hid (show Ext w1 w2 from hB2)
 have hc := u_cmp (HO2.out.ru.up HB2.out) hO.ru (val_digs (by omega) r) (val_digs (by omega) 1)
 rw [Hzz.out] at hc
 have Hc := Lib.hid hc
 clear hO hB2 hc
 go_wp2_with fail
 refine Hc.out.mono ?_
 rintro e w3 ⟨rfl, hB3⟩
 have HB3 := Lib.hid (Ext.trans HB.out (Ext.trans HB2.out hB3))
 clear hB3
 go_wp2
 go_ret
 refine ⟨?_, HB3.out⟩
 rw [← Hz.out]
 first | rfl | simp
set_option maxRecDepth 100000 in
set_option maxHeartbeats 4000000 in
theorem prob_no (P : Nat → Prop) (A : Option Addr) (c : Nat) (a : List Nat) (N : Nat) (w : World) (h : RN w P A c a) (hP : ∀ b, P b → b < w.heap.size) (hN : val 18446744073709551616 a = N) (hno : N % 2 = 0 ∨ N < 2) :
 Calls Tryz.prog 19 #[.slice A a.length c, .func (.func 46) #[] #[]] w fun e w' => e = .returned (.bool (decide (N = 2))) ∧ Below w.heap.size w w' := by
 obtain ⟨s, hs⟩ : ∃ s, w.heap.size = s := ⟨_, rfl⟩
 have m0 := heap_alloc_new w (.cells #[.slice A a.length c] 23)
 have hB0 : Below w.heap.size w (w.alloc (.cells #[.slice A a.length c] 23)) := (Below.refl _ w).alloc (Nat.le_refl _) _
 have hz0 : (w.alloc (.cells #[.slice A a.length c] 23)).heap.size = s + 1 := by simp [hs]
 rw [hs] at m0 hB0 hP ⊢
 refine (callsIn_wide (n := 6)).1 ?_
 refine callsIn_of_wp_marks Tryz.func19 rfl trivial ?_ rfl
 simp only [Tryz.ntmps19, List.size_toArray, List.length_cons, List.length_nil, Nat.reduceAdd, Nat.reduceSub, Array.replicate_succ, Array.replicate_zero, List.push_toArray, List.append_toArray, List.nil_append, List.cons_append]
 have d0 := blk_cell m0 0
 simp only [List.getElem?_toArray, List.getElem?_cons_zero] at d0
 have hc := fun (V : World) (hV : RN V P A c a) (hs : ∀ b, P b → b < V.heap.size) => candidate_no P A c a N V hV hs hN hno
 have Hc := Lib.hid hc
 have ha0 := h.below hB0 hP
 have hP0 : ∀ b, P b → b < (w.alloc (.cells #[.slice A a.length c] 23)).heap.size := fun b hb => by have := hP b hb; omega
 clear hc
 gi_wp2
 refine wpIn_wide.2 ?_
 go_step3
 generalize w.alloc (.cells #[.slice A a.length c] 23) = W0 at *
 go_wp2_with fail
 refine (Hc.out _ ha0 hP0).mono ?_
 rintro e' W1 ⟨rfl, hB1⟩
 rw [hz0] at hB1
 have hB01 := hB0.trans (hB1.mono (by omega))
 go_wp2
 rw [Exit.noGoto_ret]
 exact ⟨_, results_tmp rfl _ _ _, rfl, hB01⟩
end Go.Proofs.YtlaphnlolgokiaaGreatDoor

namespace Go.Proofs.YtlaphnlolgokiaaGreatDoor
open Go.RowKit

attribute [local go_sem] Oper.semAt_some

def NV (w : World) (A : Option Addr) (c : Nat) (l : List Nat) (x : Nat) : Prop := RU w A c l ∧ val 18446744073709551616 l = x ∧ l.length ≤ 20000
theorem NV.ext {w X : World} {A : Option Addr} {c : Nat} {l : List Nat} {x : Nat} (h : NV w A c l x) (hE : Ext w X) : NV X A c l x := ⟨h.1.up hE, h.2⟩
def RK (w : World) (v : Value) (n e d p q : Nat) : Prop := ∃ (A0 A1 A2 A3 A4 : Option Addr) (c0 c1 c2 c3 c4 : Nat) (l0 l1 l2 l3 l4 : List Nat),
 v = .agg #[.slice A0 l0.length c0, .slice A1 l1.length c1, .slice A2 l2.length c2, .slice A3 l3.length c3, .slice A4 l4.length c4] ∧ NV w A0 c0 l0 n ∧ NV w A1 c1 l1 e ∧ NV w A2 c2 l2 d ∧ NV w A3 c3 l3 p ∧ NV w A4 c4 l4 q
theorem RK.ext {w X : World} {v : Value} {n e d p q : Nat} (h : RK w v n e d p q) (hE : Ext w X) : RK X v n e d p q := by
 obtain ⟨A0, A1, A2, A3, A4, c0, c1, c2, c3, c4, l0, l1, l2, l3, l4, rfl, h0, h1, h2, h3, h4⟩ := h
 exact ⟨A0, A1, A2, A3, A4, c0, c1, c2, c3, c4, l0, l1, l2, l3, l4, rfl, h0.ext hE, h1.ext hE, h2.ext hE, h3.ext hE, h4.ext hE⟩
theorem fiveF {W : World} {g : Nat} {ty : TypeId} {x0 x1 x2 x3 x4 : Value} (h : W.heap[g]? = some (.cells #[x0, x1, x2, x3, x4] ty (0, 0))) :
 W.cell? ⟨g, 0, none⟩ = some x0 ∧ W.cell? ⟨g, 1, none⟩ = some x1 ∧ W.cell? ⟨g, 2, none⟩ = some x2 ∧ W.cell? ⟨g, 3, none⟩ = some x3 ∧ W.cell? ⟨g, 4, none⟩ = some x4 :=
 ⟨blk_cell h 0, blk_cell h 1, blk_cell h 2, blk_cell h 3, blk_cell h 4⟩
theorem cmp_ge {x y : Nat} : decide ((0 : Int) ≤ cmpV x y) = decide (y ≤ x) := by
 rcases cmpV_cases x y with h | h | h <;> rw [h.2] <;> simp <;> omega
theorem cmp_ne {x y : Nat} : (cmpV x y != 0) = decide (x ≠ y) := by
 rcases cmpV_cases x y with h | h | h <;> rw [h.2] <;> simp <;> omega
theorem cmp_z {x y : Nat} : (cmpV x y == 0) = decide (x = y) := by
 rcases cmpV_cases x y with h | h | h <;> rw [h.2] <;> simp <;> omega
theorem probable_any {A : Option Addr} {c : Nat} {a : List Nat} {N : Nat} {w : World} (h : NV w A c a N) (hb : nbits N ≤ 4096) :
 Calls Tryz.prog 19 #[.slice A a.length c, .func (.func 46) #[] #[]] w fun e w' => e = .returned (.bool (probB N)) ∧ Ext w w' := by
 unfold probB
 by_cases ho : N % 2 = 1 ∧ 1 < N
 · rw [if_pos ho]
   exact prob_few _ A c a N w h.1 lt_self h.2.1 ho.1 ho.2 hb (by have := h.2.2; omega)
 · rw [if_neg ho]
   exact prob_no _ A c a N w h.1 lt_self h.2.1 (by omega)
theorem fewP_any (w : World) : Calls Tryz.prog 20 #[] w fun e w' => e = .returned (.func (.func 46) #[] #[]) ∧ Ext w w' := by
 refine (few_call w).mono ?_
 rintro e w' ⟨rfl, rfl⟩
 exact ⟨rfl, Ext.refl w⟩
set_option maxRecDepth 100000 in
set_option maxHeartbeats 8000000 in
theorem valid_any {v : Value} {n e d p q : Nat} (w : World) (hk : RK w v n e d p q) :
 Calls Tryz.prog 6 #[v] w fun ev w' => ev = .returned (.bool (vOf n e d p q)) ∧ Ext w w' := by
 obtain ⟨A0, A1, A2, A3, A4, c0, c1, c2, c3, c4, l0, l1, l2, l3, l4, rfl, h0, h1, h2, h3, h4⟩ := hk
 obtain ⟨W0, hW0⟩ : ∃ W0, W0 = w.alloc (.cells #[.slice A0 l0.length c0, .slice A1 l1.length c1, .slice A2 l2.length c2, .slice A3 l3.length c3, .slice A4 l4.length c4] 25) := ⟨_, rfl⟩
 obtain ⟨s, hs⟩ : ∃ s, w.heap.size = s := ⟨_, rfl⟩
 have hq0 := heap_alloc_new w (.cells #[.slice A0 l0.length c0, .slice A1 l1.length c1, .slice A2 l2.length c2, .slice A3 l3.length c3, .slice A4 l4.length c4] 25)
 have hE : Ext w W0 := by rw [hW0]; exact Ext.alloc _ _
 rw [← hW0, hs] at hq0
 have HN := Lib.hid (fun X (hX : Ext W0 X) => h0.ext (Ext.trans hE hX))
 have HEe := Lib.hid (fun X (hX : Ext W0 X) => h1.ext (Ext.trans hE hX))
 have HD := Lib.hid (fun X (hX : Ext W0 X) => h2.ext (Ext.trans hE hX))
 have HPp := Lib.hid (fun X (hX : Ext W0 X) => h3.ext (Ext.trans hE hX))
 have HQ := Lib.hid (fun X (hX : Ext W0 X) => h4.ext (Ext.trans hE hX))
 have HE0 := Lib.hid hE
 have Hs := Lib.hid hs
 have Hq0 := Lib.hid hq0
 obtain ⟨V, hV⟩ : ∃ V, vOf n e d p q = V := ⟨_, rfl⟩
 rw [hV]
 obtain ⟨nb, hnb⟩ : ∃ nb, nbits n = nb := ⟨_, rfl⟩
 obtain ⟨eb, heb⟩ : ∃ eb, nbits e = eb := ⟨_, rfl⟩
 obtain ⟨r2, hr2⟩ : ∃ r, e % 2 = r := ⟨_, rfl⟩
 obtain ⟨z3, hz3⟩ : ∃ z, cmpV p q = z := ⟨_, rfl⟩
 obtain ⟨z4, hz4⟩ : ∃ z, cmpV d n = z := ⟨_, rfl⟩
 obtain ⟨z5, hz5⟩ : ∃ z, cmpV e n = z := ⟨_, rfl⟩
 obtain ⟨b1, hb1⟩ : ∃ b, decide (nb < 256) = b := ⟨_, rfl⟩
 obtain ⟨b2, hb2⟩ : ∃ b, decide (4096 < nb) = b := ⟨_, rfl⟩
 obtain ⟨b3, hb3⟩ : ∃ b, (z3 == 0) = b := ⟨_, rfl⟩
 obtain ⟨b4, hb4⟩ : ∃ b, decide ((0 : Int) ≤ z4) = b := ⟨_, rfl⟩
 obtain ⟨b5, hb5⟩ : ∃ b, decide ((0 : Int) ≤ z5) = b := ⟨_, rfl⟩
 obtain ⟨b6, hb6⟩ : ∃ b, (((r2 : Nat) : Int) == 0) = b := ⟨_, rfl⟩
 obtain ⟨b7, hb7⟩ : ∃ b, decide (eb < 2) = b := ⟨_, rfl⟩
 have e3 : b3 = decide (p = q) := by rw [← hb3, ← hz3, cmp_z]
 have e4 : b4 = decide (n ≤ d) := by rw [← hb4, ← hz4, cmp_ge]
 have e5 : b5 = decide (n ≤ e) := by rw [← hb5, ← hz5, cmp_ge]
 have hv : V = (!b1 && !b2 && !b3 && !b4 && !b5 && !b6 && !b7 && decide (p * q = n) && probB p && probB q && decide (e * d % (p - 1) = 1) && decide (e * d % (q - 1) = 1)) := by
  rw [← hV, e3, e4, e5, ← hb1, ← hb2, ← hb6, ← hb7]
  unfold vOf
  rw [hnb, heb]
  congr 5
  have hr : r2 = 0 ∨ r2 = 1 := by omega
  have x1 : decide (256 ≤ nb) = !decide (nb < 256) := by by_cases h : nb < 256 <;> simp [h] <;> omega
  have x2 : decide (nb ≤ 4096) = !decide (4096 < nb) := by by_cases h : 4096 < nb <;> simp [h] <;> omega
  have x4 : decide (d < n) = !decide (n ≤ d) := by by_cases h : n ≤ d <;> simp [h] <;> omega
  have x5 : decide (e < n) = !decide (n ≤ e) := by by_cases h : n ≤ e <;> simp [h] <;> omega
  have x6 : decide (e % 2 = 1) = !(((r2 : Nat) : Int) == 0) := by rcases hr with h | h <;> rw [hr2, h] <;> decide
  have x7 : decide (2 ≤ eb) = !decide (eb < 2) := by by_cases h : eb < 2 <;> simp [h] <;> omega
  rw [x1, x2, x4, x5, x6, x7]
  simp
 have HC1 := Lib.hid (fun X (hX : Ext W0 X) => (hz3 ▸ u_cmp (HPp.out X hX).1 (HQ.out X hX).1 (HPp.out X hX).2.1 (HQ.out X hX).2.1 : Calls Tryz.prog 16 #[.slice A3 l3.length c3, .slice A4 l4.length c4] X fun e w' => e = .returned (.int .i64 z3) ∧ Ext X w'))
 have HC2 := Lib.hid (fun X (hX : Ext W0 X) => (hz4 ▸ u_cmp (HD.out X hX).1 (HN.out X hX).1 (HD.out X hX).2.1 (HN.out X hX).2.1 : Calls Tryz.prog 16 #[.slice A2 l2.length c2, .slice A0 l0.length c0] X fun e w' => e = .returned (.int .i64 z4) ∧ Ext X w'))
 have HC3 := Lib.hid (fun X (hX : Ext W0 X) => (hz5 ▸ u_cmp (HEe.out X hX).1 (HN.out X hX).1 (HEe.out X hX).2.1 (HN.out X hX).2.1 : Calls Tryz.prog 16 #[.slice A1 l1.length c1, .slice A0 l0.length c0] X fun e w' => e = .returned (.int .i64 z5) ∧ Ext X w'))
 have HB0 := Lib.hid (fun X (hX : Ext W0 X) => (hnb ▸ u_bits (HN.out X hX).1 (HN.out X hX).2.1 : Calls Tryz.prog 15 #[.slice A0 l0.length c0] X fun e w' => e = .returned (.int .i64 (nb : Int)) ∧ Ext X w'))
 have HB1 := Lib.hid (fun X (hX : Ext W0 X) => (heb ▸ u_bits (HEe.out X hX).1 (HEe.out X hX).2.1 : Calls Tryz.prog 15 #[.slice A1 l1.length c1] X fun e w' => e = .returned (.int .i64 (eb : Int)) ∧ Ext X w'))
 have HT0 := Lib.hid (fun X (hX : Ext W0 X) => (hr2 ▸ u_bit0 (HEe.out X hX).1 (HEe.out X hX).2.1 : Calls Tryz.prog 17 #[.slice A1 l1.length c1, .int .i64 0] X fun e w' => e = .returned (.int .u64 (r2 : Int)) ∧ Ext X w'))
 have Hv := Lib.hid hv
 have Hnb := Lib.hid hnb
 have Hb2 := Lib.hid hb2
 have Hb1 := Lib.hid hb1
 have g1 : decide ((nb : Int) < 256) = b1 := by rw [← hb1]; simp; omega
 have g2 : decide ((4096 : Int) < (nb : Int)) = b2 := by rw [← hb2]; simp; omega
 have g7 : decide ((eb : Int) < 2) = b7 := by rw [← hb7]; simp; omega
 clear h0 h1 h2 h3 h4 hE hs hV hnb heb hr2 hz3 hz4 hz5 e3 e4 e5 hv hq0
 go_enter Tryz.func6, Tryz.ntmps6
 go_upto_region 1 with fail
 rw [← hW0, Hs.out]
 clear hW0
 have hE := Ext.refl W0
 obtain ⟨y0, y1, y2, y3, y4⟩ := fiveF Hq0.out
 go_wp2_with fail
 refine (HB0.out _ hE).mono ?_
 rintro e w' ⟨rfl, hx⟩
 replace hE := Ext.trans hE hx
 clear hx y0 y1 y2 y3 y4
 obtain ⟨y0, y1, y2, y3, y4⟩ := fiveF (Ext.at_ hE Hq0.out)
 cases b1
 rotate_left
 · have hV : false = V := by rw [Hv.out]; simp
   subst hV
   go_wp2
   go_ret
   exact ⟨rfl, Ext.trans HE0.out hE⟩
 cases b2
 rotate_left
 · have hV : false = V := by rw [Hv.out]; simp
   subst hV
   go_wp2
   go_ret
   exact ⟨rfl, Ext.trans HE0.out hE⟩
 go_wp2_with fail
 refine (HC1.out _ hE).mono ?_
 rintro e w' ⟨rfl, hx⟩
 replace hE := Ext.trans hE hx
 clear hx y0 y1 y2 y3 y4
 obtain ⟨y0, y1, y2, y3, y4⟩ := fiveF (Ext.at_ hE Hq0.out)
 cases b3
 rotate_left
 · have hV : false = V := by rw [Hv.out]; simp
   subst hV
   go_wp2
   go_ret
   exact ⟨rfl, Ext.trans HE0.out hE⟩
 go_wp2_with fail
 refine (HC2.out _ hE).mono ?_
 rintro e w' ⟨rfl, hx⟩
 replace hE := Ext.trans hE hx
 clear hx y0 y1 y2 y3 y4
 obtain ⟨y0, y1, y2, y3, y4⟩ := fiveF (Ext.at_ hE Hq0.out)
 cases b4
 rotate_left
 · have hV : false = V := by rw [Hv.out]; simp
   subst hV
   go_wp2
   go_ret
   exact ⟨rfl, Ext.trans HE0.out hE⟩
 go_wp2_with fail
 refine (HC3.out _ hE).mono ?_
 rintro e w' ⟨rfl, hx⟩
 replace hE := Ext.trans hE hx
 clear hx y0 y1 y2 y3 y4
 obtain ⟨y0, y1, y2, y3, y4⟩ := fiveF (Ext.at_ hE Hq0.out)
 cases b5
 rotate_left
 · have hV : false = V := by rw [Hv.out]; simp
   subst hV
   go_wp2
   go_ret
   exact ⟨rfl, Ext.trans HE0.out hE⟩
 go_wp2_with fail
 refine (HT0.out _ hE).mono ?_
 rintro e w' ⟨rfl, hx⟩
 replace hE := Ext.trans hE hx
 clear hx y0 y1 y2 y3 y4
 obtain ⟨y0, y1, y2, y3, y4⟩ := fiveF (Ext.at_ hE Hq0.out)
 cases b6
 rotate_left
 · have hV : false = V := by rw [Hv.out]; simp
   subst hV
   go_wp2
   go_ret
   exact ⟨rfl, Ext.trans HE0.out hE⟩
 go_wp2_with fail
 refine (HB1.out _ hE).mono ?_
 rintro e w' ⟨rfl, hx⟩
 replace hE := Ext.trans hE hx
 clear hx y0 y1 y2 y3 y4
 obtain ⟨y0, y1, y2, y3, y4⟩ := fiveF (Ext.at_ hE Hq0.out)
 cases b7
 rotate_left
 · have hV : false = V := by rw [Hv.out]; simp
   subst hV
   go_wp2
   go_ret
   exact ⟨rfl, Ext.trans HE0.out hE⟩
 go_upto_region 4 with fail
 rename World => V4
 obtain ⟨kp, hkp⟩ : ∃ k, nbits p = k := ⟨_, rfl⟩
 obtain ⟨kq, hkq⟩ : ∃ k, nbits q = k := ⟨_, rfl⟩
 obtain ⟨dm, hdm⟩ : ∃ d, digs 18446744073709551616 (p * q) = d := ⟨_, rfl⟩
 obtain ⟨M, hM⟩ : ∃ m, dm.length = m := ⟨_, rfl⟩
 obtain ⟨z9, hz9⟩ : ∃ z, cmpV (p * q) n = z := ⟨_, rfl⟩
 obtain ⟨b9, hb9⟩ : ∃ b, (z9 != 0) = b := ⟨_, rfl⟩
 obtain ⟨b8, hb8⟩ : ∃ b, decide (nb + 1 < kp + kq) = b := ⟨_, rfl⟩
 have e9 : b9 = decide (p * q ≠ n) := by rw [← hb9, ← hz9, cmp_ne]
 have HBp := Lib.hid (fun X (hX : Ext W0 X) => (hkp ▸ u_bits (HPp.out X hX).1 (HPp.out X hX).2.1 : Calls Tryz.prog 15 #[.slice A3 l3.length c3] X fun e w' => e = .returned (.int .i64 (kp : Int)) ∧ Ext X w'))
 have HBq := Lib.hid (fun X (hX : Ext W0 X) => (hkq ▸ u_bits (HQ.out X hX).1 (HQ.out X hX).2.1 : Calls Tryz.prog 15 #[.slice A4 l4.length c4] X fun e w' => e = .returned (.int .i64 (kq : Int)) ∧ Ext X w'))
 have HMu := Lib.hid (fun X (hX : Ext W0 X) => (hM ▸ hdm ▸ u_mul (HPp.out X hX).1 (HQ.out X hX).1 (HPp.out X hX).2.1 (HQ.out X hX).2.1 (by have := (HPp.out X hX).2.2; omega) (by have := (HQ.out X hX).2.2; omega) : Calls Tryz.prog 18 #[.slice A3 l3.length c3, .slice A4 l4.length c4] X fun e w' => ∃ A1 c1, e = .returned (.slice A1 M c1) ∧ RU w' A1 c1 dm ∧ Ext X w'))
 have HCm := Lib.hid (fun X (hX : Ext W0 X) (A1 : Option Addr) (c1 : Nat) (h : RU X A1 c1 dm) => (hM ▸ hz9 ▸ u_cmp h (HN.out X hX).1 (by rw [← hdm]; exact val_digs (by omega) _) (HN.out X hX).2.1 : Calls Tryz.prog 16 #[.slice A1 M c1, .slice A0 l0.length c0] X fun e w' => e = .returned (.int .i64 z9) ∧ Ext X w'))
 have lp : kp ≤ 1280000 := by rw [← hkp]; have := HPp.out W0 (Ext.refl _); rw [← this.2.1]; exact Nat.le_trans (nbits_lenU this.1) (by have := this.2.2; omega)
 have lq : kq ≤ 1280000 := by rw [← hkq]; have := HQ.out W0 (Ext.refl _); rw [← this.2.1]; exact Nat.le_trans (nbits_lenU this.1) (by have := this.2.2; omega)
 have ln : nb ≤ 4096 := by have := Hb2.out; simpa using this
 have ln0 : 256 ≤ nb := by have := Hb1.out; simpa using this
 have hv8 : b8 = true → V = false := fun h => by
  rw [h] at hb8
  have h8 : nb + 1 < kp + kq := of_decide_eq_true hb8
  rw [Hv.out]
  have hne : ¬ p * q = n := fun e => by
   have hn0 : 0 < n := Nat.pos_of_ne_zero fun e => by have := Hnb.out; rw [e, nbits_zero] at this; omega
   have := nbits_mul_le e hn0
   rw [hkp, hkq, Hnb.out] at this
   omega
  simp [hne]
 have hv9 : b9 = true → V = false := fun h => by
  rw [h] at e9
  rw [Hv.out]
  have := of_decide_eq_true e9.symm
  simp [this]
 have g8 : decide ((nb : Int) + 1 < (kp : Int) + (kq : Int)) = b8 := by rw [← hb8]; simp; omega
 have HE := Lib.hid hE
 have Hlp := Lib.hid lp
 have Hlq := Lib.hid lq
 have Hln := Lib.hid ln
 have Hv8 := Lib.hid hv8
 have Hv9 := Lib.hid hv9
 have He9 := Lib.hid e9
 have Hkp := Lib.hid hkp
 have Hkq := Lib.hid hkq
 have Hz9 := Lib.hid hb9
 have Hg8 := Lib.hid g8
 clear hE hkp hkq hdm hM hz9 hb9 hb8 e9 lp lq ln ln0 hv8 hv9 g8 g1 g2 g7 HC1 HC2 HC3 HB0 HB1 HT0 hb1 hb2 hb3 hb4 hb5 hb6 hb7
 cases b8
 rotate_left
 · have hV := Hv8.out rfl
   subst hV
   refine Par.region_ext (by kernel_rfl) 21 [0, 1, 3, 0, 8, 31, 63, 0, 128, 511, 1023, 2047, 4095, 2047, 10239, 32767, 2047, 67583, 262143, 524287, 1048575] [] (fun j f X => match j with
    | 0 => f 0 = .pointer (some ⟨s, 3, none⟩)
    | 1 => f 1 = .slice A3 l3.length c3
    | 2 => f 2 = .int .i64 (kp : Int)
    | 3 => f 3 = .pointer (some ⟨s, 4, none⟩)
    | 4 => f 4 = .slice A4 l4.length c4
    | 5 => f 5 = .int .i64 (kq : Int)
    | 6 => f 6 = .int .i64 ((kp : Int) + (kq : Int))
    | 7 => f 7 = .int .i64 (nb : Int)
    | 8 => f 8 = .int .i64 ((nb : Int) + 1)
    | 9 => f 9 = .bool true
    | 10 => f 10 = .bool true
    | 11 => f 11 = undef
    | 12 => f 12 = undef
    | 13 => f 13 = undef
    | 14 => f 14 = undef
    | 15 => f 15 = undef
    | 16 => f 16 = undef
    | 17 => f 17 = undef
    | 18 => f 18 = undef
    | 19 => f 19 = undef
    | 20 => f 20 = .bool true
    | _ => True) (by kernel_rfl) [(50, 0), (51, 1), (52, 2), (53, 3), (54, 4), (55, 5), (56, 6), (57, 7), (58, 8), (59, 9), (60, 10), (61, 11), (62, 12), (63, 13), (64, 14), (65, 15), (66, 16), (67, 17), (68, 18), (69, 19), (70, 20)] (by kernel_rfl) ?_
   refine Par.v0 1 20 ?_
   refine Par.ld1 2 19 0 y3 ?_
   refine Par.c0 3 18 (fun f => #[f 1]) (F' := 15) (fun f X hX hR => ?_) ?_
   · have e1 : f 1 = _ := hR.out 1 rfl
     simp only [e1]
     refine (HBp.out X (Ext.trans HE.out hX)).mono ?_
     rintro e w' ⟨rfl, hB⟩
     exact ⟨(.int .i64 (kp : Int)), rfl, hB, fun _ _ => rfl⟩
   refine Par.v0 4 17 ?_
   refine Par.ld1 5 16 3 y4 ?_
   refine Par.c0 6 15 (fun f => #[f 4]) (F' := 15) (fun f X hX hR => ?_) ?_
   · have e4 : f 4 = _ := hR.out 4 rfl
     simp only [e4]
     refine (HBq.out X (Ext.trans HE.out hX)).mono ?_
     rintro e w' ⟨rfl, hB⟩
     exact ⟨(.int .i64 (kq : Int)), rfl, hB, fun _ _ => rfl⟩
   refine Par.S 7 14 [(50, 0), (51, 1), (52, 2), (53, 3), (54, 4), (55, 5), (57, 7), (58, 8)] (fun f X hX hR K hK => ?_) ?_
   · have e2 : f 2 = _ := hR.out 2 rfl
     have e5 : f 5 = _ := hR.out 5 rfl
     have hw : IntKind.i64.wrap ((kp : Int) + (kq : Int)) = (kp : Int) + (kq : Int) := IntWalk.i64_in _ (by have := Hlp.out; have := Hlq.out; omega)
     simp only [yA, yB, yC, yD, yE, e2, e5]
     refine ⟨?_⟩
     go_simp
     exact Par.k hK (s := by simp only [yA, yB, yC, yD, yE, e2, e5])
   refine Par.v0 8 13 ?_
   refine Par.S 9 12 [(50, 0), (51, 1), (52, 2), (53, 3), (54, 4), (55, 5), (56, 6), (57, 7)] (fun f X hX hR K hK => ?_) ?_
   · have e7 : f 7 = _ := hR.out 7 rfl
     have hw : IntKind.i64.wrap ((nb : Int) + 1) = (nb : Int) + 1 := IntWalk.i64_in _ (by have := Hln.out; omega)
     simp only [yA, yB, yC, yD, yE, e7]
     refine ⟨?_⟩
     go_simp
     exact Par.k hK (s := by simp only [yA, yB, yC, yD, yE, e7])
   refine Par.S 10 11 [(50, 0), (51, 1), (52, 2), (53, 3), (54, 4), (55, 5), (56, 6), (57, 7), (58, 8)] (fun f X hX hR K hK => ?_) ?_
   · have e6 : f 6 = _ := hR.out 6 rfl
     have e8 : f 8 = _ := hR.out 8 rfl
     have g8 := Hg8.out
     simp only [yA, yB, yC, yD, yE, e6, e8]
     refine ⟨?_⟩
     go_simp
     exact Par.k hK (s := by simp only [yA, yB, yC, yD, yE, e6, e8])
   refine Par.v1 11 10 9 ?_
   refine Par.sk 12 9 10 ?_
   refine Par.sk 13 8 10 ?_
   refine Par.sk 14 7 10 ?_
   refine Par.sk 15 6 10 ?_
   refine Par.sk 16 5 10 ?_
   refine Par.sk 17 4 10 ?_
   refine Par.sk 18 3 10 ?_
   refine Par.sk 19 2 10 ?_
   refine Par.sk 20 1 10 ?_
   refine Par.v2 21 0 10 19 ?_
   refine Par.AllOps.fin ⟨fun f X hX hR hal hap => ?_⟩
   have e20 : f 20 = _ := hR 20 (by decide)
   simp only [yA, yB, yD, yE, e20]
   clear hR hal hap e20
   refine Par.Chain.done ?_
   go_wp2
   go_ret
   exact ⟨rfl, Ext.trans HE0.out (Ext.trans HE.out hX)⟩
 refine Par.region_ext (by kernel_rfl) 21 [0, 1, 3, 0, 8, 31, 63, 0, 128, 511, 1023, 2047, 4095, 2047, 10239, 32767, 2047, 67583, 262143, 524287, 1048575] [] (fun j f X => match j with
  | 0 => f 0 = .pointer (some ⟨s, 3, none⟩)
  | 1 => f 1 = .slice A3 l3.length c3
  | 2 => f 2 = .int .i64 (kp : Int)
  | 3 => f 3 = .pointer (some ⟨s, 4, none⟩)
  | 4 => f 4 = .slice A4 l4.length c4
  | 5 => f 5 = .int .i64 (kq : Int)
  | 6 => f 6 = .int .i64 ((kp : Int) + (kq : Int))
  | 7 => f 7 = .int .i64 (nb : Int)
  | 8 => f 8 = .int .i64 ((nb : Int) + 1)
  | 9 => f 9 = .bool false
  | 10 => f 10 = .bool false
  | 11 => f 11 = .pointer (some ⟨s, 3, none⟩)
  | 12 => f 12 = .slice A3 l3.length c3
  | 13 => f 13 = .pointer (some ⟨s, 4, none⟩)
  | 14 => f 14 = .slice A4 l4.length c4
  | 15 => ∃ A c, f 15 = .slice A M c ∧ RU X A c dm
  | 16 => f 16 = .pointer (some ⟨s, 0, none⟩)
  | 17 => f 17 = .slice A0 l0.length c0
  | 18 => f 18 = .int .i64 z9
  | 19 => f 19 = .bool b9
  | 20 => f 20 = .bool b9
  | _ => True) (by kernel_rfl) [(50, 0), (51, 1), (52, 2), (53, 3), (54, 4), (55, 5), (56, 6), (57, 7), (58, 8), (59, 9), (60, 10), (61, 11), (62, 12), (63, 13), (64, 14), (65, 15), (66, 16), (67, 17), (68, 18), (69, 19), (70, 20)] (by kernel_rfl) ?_
 refine Par.v0 1 20 ?_
 refine Par.ld1 2 19 0 y3 ?_
 refine Par.c0 3 18 (fun f => #[f 1]) (F' := 15) (fun f X hX hR => ?_) ?_
 · have e1 : f 1 = _ := hR.out 1 rfl
   simp only [e1]
   refine (HBp.out X (Ext.trans HE.out hX)).mono ?_
   rintro e w' ⟨rfl, hB⟩
   exact ⟨(.int .i64 (kp : Int)), rfl, hB, fun _ _ => rfl⟩
 refine Par.v0 4 17 ?_
 refine Par.ld1 5 16 3 y4 ?_
 refine Par.c0 6 15 (fun f => #[f 4]) (F' := 15) (fun f X hX hR => ?_) ?_
 · have e4 : f 4 = _ := hR.out 4 rfl
   simp only [e4]
   refine (HBq.out X (Ext.trans HE.out hX)).mono ?_
   rintro e w' ⟨rfl, hB⟩
   exact ⟨(.int .i64 (kq : Int)), rfl, hB, fun _ _ => rfl⟩
 refine Par.S 7 14 [(50, 0), (51, 1), (52, 2), (53, 3), (54, 4), (55, 5), (57, 7), (58, 8)] (fun f X hX hR K hK => ?_) ?_
 · have e2 : f 2 = _ := hR.out 2 rfl
   have e5 : f 5 = _ := hR.out 5 rfl
   have hw : IntKind.i64.wrap ((kp : Int) + (kq : Int)) = (kp : Int) + (kq : Int) := IntWalk.i64_in _ (by have := Hlp.out; have := Hlq.out; omega)
   simp only [yA, yB, yC, yD, yE, e2, e5]
   refine ⟨?_⟩
   go_simp
   exact Par.k hK (s := by simp only [yA, yB, yC, yD, yE, e2, e5])
 refine Par.v0 8 13 ?_
 refine Par.S 9 12 [(50, 0), (51, 1), (52, 2), (53, 3), (54, 4), (55, 5), (56, 6), (57, 7)] (fun f X hX hR K hK => ?_) ?_
 · have e7 : f 7 = _ := hR.out 7 rfl
   have hw : IntKind.i64.wrap ((nb : Int) + 1) = (nb : Int) + 1 := IntWalk.i64_in _ (by have := Hln.out; omega)
   simp only [yA, yB, yC, yD, yE, e7]
   refine ⟨?_⟩
   go_simp
   exact Par.k hK (s := by simp only [yA, yB, yC, yD, yE, e7])
 refine Par.S 10 11 [(50, 0), (51, 1), (52, 2), (53, 3), (54, 4), (55, 5), (56, 6), (57, 7), (58, 8)] (fun f X hX hR K hK => ?_) ?_
 · have e6 : f 6 = _ := hR.out 6 rfl
   have e8 : f 8 = _ := hR.out 8 rfl
   have g8 := Hg8.out
   simp only [yA, yB, yC, yD, yE, e6, e8]
   refine ⟨?_⟩
   go_simp
   exact Par.k hK (s := by simp only [yA, yB, yC, yD, yE, e6, e8])
 refine Par.v1 11 10 9 ?_
 refine Par.v1 12 9 10 ?_
 refine Par.S 13 8 [(50, 0), (51, 1), (52, 2), (53, 3), (54, 4), (55, 5), (56, 6), (57, 7), (58, 8), (59, 9), (60, 10), (61, 11), (63, 13), (64, 14), (66, 16), (67, 17)] (fun f X hX hR K hK => ?_) ?_
 · have e10 : f 10 = _ := hR.out 10 rfl
   have e11 : f 11 = _ := hR.out 11 rfl
   have x0 := hX.cell y3
   simp only [yA, yB, yC, yD, yE, e10, e11]
   refine ⟨Par.want (by kernel_rfl) ?_⟩
   go_simp
   exact Par.k hK (s := by simp only [yA, yB, yC, yD, yE, e10, e11])
 refine Par.v1 14 7 10 ?_
 refine Par.S 15 6 [(50, 0), (51, 1), (52, 2), (53, 3), (54, 4), (55, 5), (56, 6), (57, 7), (58, 8), (59, 9), (60, 10), (61, 11), (62, 12), (63, 13), (66, 16), (67, 17)] (fun f X hX hR K hK => ?_) ?_
 · have e10 : f 10 = _ := hR.out 10 rfl
   have e13 : f 13 = _ := hR.out 13 rfl
   have x0 := hX.cell y4
   simp only [yA, yB, yC, yD, yE, e10, e13]
   refine ⟨Par.want (by kernel_rfl) ?_⟩
   go_simp
   exact Par.k hK (s := by simp only [yA, yB, yC, yD, yE, e10, e13])
 refine Par.c1 16 5 10 (fun f => #[f 12, f 14]) (F' := 18) (fun f X hX hR => ?_) ?_
 · have e12 : f 12 = _ := hR.out 12 rfl
   have e14 : f 14 = _ := hR.out 14 rfl
   simp only [e12, e14]
   refine (HMu.out X (Ext.trans HE.out hX)).mono ?_
   rintro e w' ⟨Ax, cx, rfl, hr, hB⟩
   exact ⟨(.slice Ax M cx), rfl, hB, fun Y hY => ⟨Ax, cx, rfl, RN.up hr hY⟩⟩
 refine Par.v1 17 4 10 ?_
 refine Par.S 18 3 [(50, 0), (51, 1), (52, 2), (53, 3), (54, 4), (55, 5), (56, 6), (57, 7), (58, 8), (59, 9), (60, 10), (61, 11), (62, 12), (63, 13), (64, 14), (65, 15), (66, 16)] (fun f X hX hR K hK => ?_) ?_
 · have e10 : f 10 = _ := hR.out 10 rfl
   have e16 : f 16 = _ := hR.out 16 rfl
   have x0 := hX.cell y0
   simp only [yA, yB, yC, yD, yE, e10, e16]
   refine ⟨Par.want (by kernel_rfl) ?_⟩
   go_simp
   exact Par.k hK (s := by simp only [yA, yB, yC, yD, yE, e10, e16])
 refine Par.c1 19 2 10 (fun f => #[f 15, f 17]) (F' := 16) (fun f X hX hR => ?_) ?_
 · obtain ⟨A15, c15, (e15 : f 15 = _), r15⟩ := hR.out 15 rfl
   have e17 : f 17 = _ := hR.out 17 rfl
   simp only [e15, e17]
   refine (HCm.out X (Ext.trans HE.out hX) _ _ r15).mono ?_
   rintro e w' ⟨rfl, hB⟩
   exact ⟨(.int .i64 z9), rfl, hB, fun _ _ => rfl⟩
 refine Par.S 20 1 [(50, 0), (51, 1), (52, 2), (53, 3), (54, 4), (55, 5), (56, 6), (57, 7), (58, 8), (59, 9), (60, 10), (61, 11), (62, 12), (63, 13), (64, 14), (65, 15), (66, 16), (67, 17), (68, 18)] (fun f X hX hR K hK => ?_) ?_
 · have e10 : f 10 = _ := hR.out 10 rfl
   have e18 : f 18 = _ := hR.out 18 rfl
   have hz9 := Hz9.out
   simp only [yA, yB, yC, yD, yE, e10, e18]
   refine ⟨Par.want (by kernel_rfl) ?_⟩
   go_simp
   exact Par.k hK (s := by simp only [yA, yB, yC, yD, yE, e10, e18])
 refine Par.v2 21 0 10 19 ?_
 refine Par.AllOps.fin ⟨fun f X hX hR hal hap => ?_⟩
 obtain ⟨A15, c15, (e15 : f 15 = _), r15⟩ := hR 15 (by decide)
 have e20 : f 20 = _ := hR 20 (by decide)
 simp only [yA, yB, yD, yE, e15, e20]
 clear hR hal hap e15 e20
 refine Par.Chain.done ?_
 replace HE := Lib.hid (Ext.trans HE.out hX)
 clear hX r15 y0 y1 y2 y3 y4
 rename World => V5
 obtain ⟨y0, y1, y2, y3, y4⟩ := fiveF (Ext.at_ HE.out Hq0.out)
 cases b9
 rotate_left
 · have hV := Hv9.out rfl
   subst hV
   go_wp2
   go_ret
   exact ⟨rfl, Ext.trans HE0.out HE.out⟩
 have hpq : p * q = n := by have := He9.out; simpa using this.symm
 have hn0 : 0 < n := Nat.pos_of_ne_zero fun e => by have h1 := Hnb.out; have h2 := Hb1.out; rw [e, nbits_zero] at h1; rw [← h1] at h2; simp at h2
 have hbn := nbits_mul_le hpq hn0
 rw [Hnb.out] at hbn
 have hb4 : nb ≤ 4096 := Hln.out
 obtain ⟨pp, hpp⟩ : ∃ b, probB p = b := ⟨_, rfl⟩
 obtain ⟨pq, hpq'⟩ : ∃ b, probB q = b := ⟨_, rfl⟩
 have HPp5 := Lib.hid (fun X (hX : Ext W0 X) => (hpp ▸ probable_any (HPp.out X hX) (by omega) : Calls Tryz.prog 19 #[.slice A3 l3.length c3, .func (.func 46) #[] #[]] X fun e w' => e = .returned (.bool pp) ∧ Ext X w'))
 have HQ5 := Lib.hid (fun X (hX : Ext W0 X) => (hpq' ▸ probable_any (HQ.out X hX) (by omega) : Calls Tryz.prog 19 #[.slice A4 l4.length c4, .func (.func 46) #[] #[]] X fun e w' => e = .returned (.bool pq) ∧ Ext X w'))
 have hv2 := Hv.out
 rw [hpp, hpq', decide_eq_true hpq] at hv2
 have h2p : pp = true → 2 ≤ p := fun h => by rw [h] at hpp; exact prob_two hpp
 have h2q : pq = true → 2 ≤ q := fun h => by rw [h] at hpq'; exact prob_two hpq'
 have Hv2 := Lib.hid hv2
 have H2p := Lib.hid h2p
 have H2q := Lib.hid h2q
 clear hpq hn0 hbn hb4 hpp hpq' hv2 h2p h2q Hv
 go_upto_region 6 with fail
 cases pp
 · have hV : false = V := by rw [Hv2.out]; simp
   subst hV
   refine Par.region_ext (by kernel_rfl) 12 [0, 1, 0, 7, 15, 31, 63, 127, 63, 511, 1023, 2047] [] (fun j f X => match j with
    | 0 => f 0 = .pointer (some ⟨s, 3, none⟩)
    | 1 => f 1 = .slice A3 l3.length c3
    | 2 => f 2 = .func (.func 46) #[] #[]
    | 3 => f 3 = .bool false
    | 4 => f 4 = .bool true
    | 5 => f 5 = .bool true
    | 6 => f 6 = undef
    | 7 => f 7 = undef
    | 8 => f 8 = undef
    | 9 => f 9 = undef
    | 10 => f 10 = undef
    | 11 => f 11 = .bool true
    | _ => True) (by kernel_rfl) [(71, 0), (72, 1), (73, 2), (74, 3), (75, 4), (76, 5), (77, 6), (78, 7), (79, 8), (80, 9), (81, 10), (82, 11)] (by kernel_rfl) ?_
   refine Par.v0 1 11 ?_
   refine Par.ld1 2 10 0 y3 ?_
   refine Par.c0 3 9 (fun _ => #[]) (F' := 20) (fun f X hX hR => ?_) ?_
   · refine (fewP_any X).mono ?_
     rintro e w' ⟨rfl, hB⟩
     exact ⟨(.func (.func 46) #[] #[]), rfl, hB, fun _ _ => rfl⟩
   refine Par.c0 4 8 (fun f => #[f 1, f 2]) (F' := 19) (fun f X hX hR => ?_) ?_
   · have e1 : f 1 = _ := hR.out 1 rfl
     have e2 : f 2 = _ := hR.out 2 rfl
     simp only [e1, e2]
     refine (HPp5.out X (Ext.trans HE.out hX)).mono ?_
     rintro e w' ⟨rfl, hB⟩
     exact ⟨_, rfl, hB, fun _ _ => rfl⟩
   refine Par.v1 5 7 3 ?_
   refine Par.v1 6 6 4 ?_
   refine Par.sk 7 5 5 ?_
   refine Par.sk 8 4 5 ?_
   refine Par.sk 9 3 5 ?_
   refine Par.sk 10 2 5 ?_
   refine Par.sk 11 1 5 ?_
   refine Par.v2 12 0 5 10 ?_
   refine Par.AllOps.fin ⟨fun f X hX hR hal hap => ?_⟩
   have e11 : f 11 = _ := hR 11 (by decide)
   simp only [yA, yB, yD, yE, e11]
   clear hR hal hap e11
   refine Par.Chain.done ?_
   go_wp2
   go_ret
   exact ⟨rfl, Ext.trans HE0.out (Ext.trans HE.out hX)⟩
 refine Par.region_ext (by kernel_rfl) 12 [0, 1, 0, 7, 15, 31, 63, 127, 63, 511, 1023, 2047] [] (fun j f X => match j with
  | 0 => f 0 = .pointer (some ⟨s, 3, none⟩)
  | 1 => f 1 = .slice A3 l3.length c3
  | 2 => f 2 = .func (.func 46) #[] #[]
  | 3 => f 3 = .bool true
  | 4 => f 4 = .bool false
  | 5 => f 5 = .bool false
  | 6 => f 6 = .pointer (some ⟨s, 4, none⟩)
  | 7 => f 7 = .slice A4 l4.length c4
  | 8 => f 8 = .func (.func 46) #[] #[]
  | 9 => f 9 = .bool pq
  | 10 => f 10 = .bool (!pq)
  | 11 => f 11 = .bool (!pq)
  | _ => True) (by kernel_rfl) [(71, 0), (72, 1), (73, 2), (74, 3), (75, 4), (76, 5), (77, 6), (78, 7), (79, 8), (80, 9), (81, 10), (82, 11)] (by kernel_rfl) ?_
 refine Par.v0 1 11 ?_
 refine Par.ld1 2 10 0 y3 ?_
 refine Par.c0 3 9 (fun _ => #[]) (F' := 20) (fun f X hX hR => ?_) ?_
 · refine (fewP_any X).mono ?_
   rintro e w' ⟨rfl, hB⟩
   exact ⟨(.func (.func 46) #[] #[]), rfl, hB, fun _ _ => rfl⟩
 refine Par.c0 4 8 (fun f => #[f 1, f 2]) (F' := 19) (fun f X hX hR => ?_) ?_
 · have e1 : f 1 = _ := hR.out 1 rfl
   have e2 : f 2 = _ := hR.out 2 rfl
   simp only [e1, e2]
   refine (HPp5.out X (Ext.trans HE.out hX)).mono ?_
   rintro e w' ⟨rfl, hB⟩
   exact ⟨_, rfl, hB, fun _ _ => rfl⟩
 refine Par.v1 5 7 3 ?_
 refine Par.v1 6 6 4 ?_
 refine Par.v1 7 5 5 ?_
 refine Par.S 8 4 [(71, 0), (72, 1), (73, 2), (74, 3), (75, 4), (76, 5), (77, 6), (79, 8)] (fun f X hX hR K hK => ?_) ?_
 · have e5 : f 5 = _ := hR.out 5 rfl
   have e6 : f 6 = _ := hR.out 6 rfl
   have x0 := hX.cell y4
   simp only [yA, yB, yC, yD, yE, e5, e6]
   refine ⟨Par.want (by kernel_rfl) ?_⟩
   go_simp
   exact Par.k hK (s := by simp only [yA, yB, yC, yD, yE, e5, e6])
 refine Par.c1 9 3 5 (fun _ => #[]) (F' := 20) (fun f X hX hR => ?_) ?_
 · refine (fewP_any X).mono ?_
   rintro e w' ⟨rfl, hB⟩
   exact ⟨(.func (.func 46) #[] #[]), rfl, hB, fun _ _ => rfl⟩
 refine Par.c1 10 2 5 (fun f => #[f 7, f 8]) (F' := 19) (fun f X hX hR => ?_) ?_
 · have e7 : f 7 = _ := hR.out 7 rfl
   have e8 : f 8 = _ := hR.out 8 rfl
   simp only [e7, e8]
   refine (HQ5.out X (Ext.trans HE.out hX)).mono ?_
   rintro e w' ⟨rfl, hB⟩
   exact ⟨(.bool pq), rfl, hB, fun _ _ => rfl⟩
 refine Par.v2 11 1 5 9 ?_
 refine Par.v2 12 0 5 10 ?_
 refine Par.AllOps.fin ⟨fun f X hX hR hal hap => ?_⟩
 have e11 : f 11 = _ := hR 11 (by decide)
 simp only [yA, yB, yD, yE, e11]
 clear hR hal hap e11
 refine Par.Chain.done ?_
 replace HE := Lib.hid (Ext.trans HE.out hX)
 clear hX y0 y1 y2 y3 y4
 rename World => V6
 obtain ⟨y0, y1, y2, y3, y4⟩ := fiveF (Ext.at_ HE.out Hq0.out)
 cases pq
 · have hV : false = V := by rw [Hv2.out]; simp
   subst hV
   go_wp2
   go_ret
   exact ⟨rfl, Ext.trans HE0.out HE.out⟩
 have p1 := H2p.out rfl
 have q1 := H2q.out rfl
 have hEd := HEe.out V6 HE.out
 have hDd := HD.out V6 HE.out
 have lE : (digs 18446744073709551616 e).length ≤ 20000 := by rw [← hEd.2.1]; exact Nat.le_trans (digs_length_le (by omega) hEd.1.2.1) hEd.2.2
 have lD : (digs 18446744073709551616 d).length ≤ 20000 := by rw [← hDd.2.1]; exact Nat.le_trans (digs_length_le (by omega) hDd.1.2.1) hDd.2.2
 have lx := digs_mul_len lE lD
 have HM8 := Lib.hid (u_mul hEd.1 hDd.1 hEd.2.1 hDd.2.1 (by have := hEd.2.2; omega) (by have := hDd.2.2; omega))
 have Hlx := Lib.hid lx
 have lP : (digs 18446744073709551616 (p - 1)).length ≤ 20000 := by
  have h := HPp.out V6 HE.out
  refine Nat.le_trans (digs_length_mono (by omega) (Nat.sub_le p 1)) ?_
  rw [← h.2.1]; exact Nat.le_trans (digs_length_le (by omega) h.1.2.1) h.2.2
 have lQ : (digs 18446744073709551616 (q - 1)).length ≤ 20000 := by
  have h := HQ.out V6 HE.out
  refine Nat.le_trans (digs_length_mono (by omega) (Nat.sub_le q 1)) ?_
  rw [← h.2.1]; exact Nat.le_trans (digs_length_le (by omega) h.1.2.1) h.2.2
 have HlP := Lib.hid lP
 have HlQ := Lib.hid lQ
 have Hp1 := Lib.hid p1
 have Hq1 := Lib.hid q1
 clear hEd hDd lE lD lx lP lQ p1 q1
 obtain ⟨zp, hzp⟩ : ∃ b, decide (e * d % (p - 1) = 1) = b := ⟨_, rfl⟩
 obtain ⟨zq, hzq⟩ : ∃ b, decide (e * d % (q - 1) = 1) = b := ⟨_, rfl⟩
 have hV : V = (zp && zq) := by rw [Hv2.out, hzp, hzq]; simp
 have HVz := Lib.hid hV
 have Hzp := Lib.hid hzp
 have Hzq := Lib.hid hzq
 clear hV hzp hzq Hv2
 go_upto_region 8 with fail
 go_wp2_with fail
 refine HM8.out.mono ?_
 rintro e9 w8 ⟨Ax, cx, rfl, hrx, hB8⟩
 replace HE := Lib.hid (Ext.trans HE.out hB8)
 have Hrx := Lib.hid hrx
 clear hrx hB8 y0 y1 y2 y3 y4 HM8
 obtain ⟨y0, y1, y2, y3, y4⟩ := fiveF (Ext.at_ HE.out Hq0.out)
 go_upto_region 9 with fail
 go_wp2_with fail
 refine (rless_any (HPp.out _ HE.out).1 (HPp.out _ HE.out).2.1 (by have := (HPp.out _ HE.out).2.2; omega) (by have := Hp1.out; omega)).mono ?_
 rintro e9 w9 ⟨A9, c9, rfl, hr9, hB9⟩
 replace HE := Lib.hid (Ext.trans HE.out hB9)
 replace Hrx := Lib.hid (RN.up Hrx.out hB9)
 have Hr9 := Lib.hid hr9
 clear hr9 hB9 y0 y1 y2 y3 y4
 obtain ⟨y0, y1, y2, y3, y4⟩ := fiveF (Ext.at_ HE.out Hq0.out)
 have hone := rone_any Hrx.out Hr9.out (val_digs (by omega) _) (val_digs (by omega) _) (by have := Hlx.out; omega) (by have := HlP.out; omega) (by have := Hp1.out; omega)
 rw [Hzp.out] at hone
 have Hone := Lib.hid hone
 clear hone Hr9
 go_wp2_with fail
 refine Hone.out.mono ?_
 rintro e9 w9 ⟨rfl, hB9⟩
 replace HE := Lib.hid (Ext.trans HE.out hB9)
 replace Hrx := Lib.hid (RN.up Hrx.out hB9)
 clear hB9 y0 y1 y2 y3 y4 Hone
 obtain ⟨y0, y1, y2, y3, y4⟩ := fiveF (Ext.at_ HE.out Hq0.out)
 cases zp
 · have hV : V = false := by rw [HVz.out]; rfl
   subst hV
   go_wp2
   go_ret
   exact ⟨rfl, Ext.trans HE0.out HE.out⟩
 go_wp2_with fail
 refine (rless_any (HQ.out _ HE.out).1 (HQ.out _ HE.out).2.1 (by have := (HQ.out _ HE.out).2.2; omega) (by have := Hq1.out; omega)).mono ?_
 rintro e9 w9 ⟨A9, c9, rfl, hr9, hB9⟩
 replace HE := Lib.hid (Ext.trans HE.out hB9)
 replace Hrx := Lib.hid (RN.up Hrx.out hB9)
 have Hr9 := Lib.hid hr9
 clear hr9 hB9 y0 y1 y2 y3 y4
 obtain ⟨y0, y1, y2, y3, y4⟩ := fiveF (Ext.at_ HE.out Hq0.out)
 have hone := rone_any Hrx.out Hr9.out (val_digs (by omega) _) (val_digs (by omega) _) (by have := Hlx.out; omega) (by have := HlQ.out; omega) (by have := Hq1.out; omega)
 rw [Hzq.out] at hone
 have Hone := Lib.hid hone
 clear hone Hr9
 go_wp2_with fail
 refine Hone.out.mono ?_
 rintro e9 w9 ⟨rfl, hB9⟩
 replace HE := Lib.hid (Ext.trans HE.out hB9)
 replace Hrx := Lib.hid (RN.up Hrx.out hB9)
 clear hB9 y0 y1 y2 y3 y4 Hone
 obtain ⟨y0, y1, y2, y3, y4⟩ := fiveF (Ext.at_ HE.out Hq0.out)
 have hV : V = zq := by rw [HVz.out]; simp
 subst hV
 go_wp2
 go_ret
 exact ⟨rfl, Ext.trans HE0.out HE.out⟩
end Go.Proofs.YtlaphnlolgokiaaGreatDoor
