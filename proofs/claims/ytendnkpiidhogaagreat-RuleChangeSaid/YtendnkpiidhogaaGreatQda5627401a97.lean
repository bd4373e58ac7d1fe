/- baileylaw18.begun: one object is made: true. Plain arithmetic of shifts of numbers: nothing of the program. What limb.Shl and Shr compute. What limb.Quo computes: a divisor of two limbs or more. What the reference's Quo computes: quotient and remainder. What baileyref2's Mod and Mul compute. modarith: rest, may, Gcd. Newton's inverse of a limb: plain law. modarith: Inverse. What the reference's Bits, Bit and Bytes compute. zmont: a modulus's record; fill. Bytes as a string. limb.Each's iterator, in the words of a known row of values. zmont's Exp. modarith: Exp modulo an odd number above 1. modarith: candidate. The test of Miller and Rabin: the plain law. modarith: Strong. What baileyref2's Exp and Strong compute. What baileyref2's Strong computes. ModStrong: the test of Miller and Rabin is passed as it should be: the walk of the law. Probable: it answers, and what it takes is 2 at least. -/
import Derived.Test.YtendnkpiidhogaaGreatQ26e4e7029573
import Derived.RegionTactic
import Derived.ChangeAlike
import Derived.BigQuiet
import Derived.Deep.RegionHeld3
import Derived.Laws.BytesArg
import Derived.Lib.Bytes
import Derived.ControlIn
namespace Go.Proofs.YtendnkpiidhogaaGreat.At
open Go.RowKit Go.Shelf

attribute [local go_sem] Oper.semAt_some

theorem n4 : num4 4 = [0, 0, 0, 4] := by decide
theorem n31 : num4 31 = [0, 0, 0, 31] := by decide
theorem made16 (w : World) : RB (w.alloc (.cells (madeCells #[.int .u8 0] 16) 5)) (fun k => k < (w.alloc (.cells (madeCells #[.int .u8 0] 16) 5)).heap.size) (some ⟨w.heap.size, 0, none⟩) 16 [0, 0, 0, 0, 0, 0, 0, 0, 0, 0, 0, 0, 0, 0, 0, 0] :=
 RB.fresh _ _ _ 16 _ (by simp [madeCells, bys, List.range_succ]) (by simp) rfl (by omega) rfl (by simp)
theorem rbUp {w X : World} {A : Option Addr} {c : Nat} {bs : List Nat} (h : RB w (fun b => b < w.heap.size) A c bs) (hE : Ext w X) : RB X (fun b => b < X.heap.size) A c bs := (h.below hE (fun _ hb => hb)).mono fun _ hb => Nat.lt_of_lt_of_le hb hE.bsize
theorem raUp {w X : World} {A : Option Addr} {c : Nat} {l : Attrs} (h : RA w (fun b => b < w.heap.size) A c l) (hE : Ext w X) : RA X (fun b => b < X.heap.size) A c l := (h.below hE (fun _ hb => hb)).mono fun _ hb => Nat.lt_of_lt_of_le hb hE.bsize

set_option maxRecDepth 100000 in
set_option maxHeartbeats 8000000 in
theorem begun18_any (w : World) : Calls Tryz.prog 9 #[] w fun e w' => e = .returned (.bool true) ∧ Below w.heap.size w w' := by
 go_enter Tryz.func9, Tryz.ntmps9
 go_upto_region 1 with fail
 refine Par.region_ext (by kernel_rfl) 6 [0, 1, 0, 4, 15, 31] [] (fun j f X => match j with
  | 0 => ∃ A0 c0, f 0 = .agg #[.int .i64 0, .slice A0 4 c0] ∧ RB X (fun q => q < X.heap.size) A0 c0 [0, 0, 0, 4]
  | 1 => ∃ A0 c0, f 1 = .agg #[.int .i64 256, .slice A0 4 c0] ∧ RB X (fun q => q < X.heap.size) A0 c0 [0, 0, 0, 31]
  | 2 => ∃ b, f 2 = .slice (some ⟨b, 0, none⟩) 16 16 ∧ RB X (fun q => q < X.heap.size) (some ⟨b, 0, none⟩) 16 [0, 0, 0, 0, 0, 0, 0, 0, 0, 0, 0, 0, 0, 0, 0, 0]
  | 3 => ∃ b, f 3 = .agg #[.int .i64 17, .slice (some ⟨b, 0, none⟩) 16 16] ∧ RB X (fun q => q < X.heap.size) (some ⟨b, 0, none⟩) 16 [0, 0, 0, 0, 0, 0, 0, 0, 0, 0, 0, 0, 0, 0, 0, 0]
  | 4 => ∃ b, f 4 = .slice (some ⟨b, 0, none⟩) 3 3 ∧ RA X (fun q => q < X.heap.size) (some ⟨b, 0, none⟩) 3 bt0
  | 5 => ∃ b, f 5 = .slice (some ⟨b, 0, none⟩) 3 3 ∧ RA X (fun q => q < X.heap.size) (some ⟨b, 0, none⟩) 3 bt0
  | _ => True) (by kernel_rfl) [(13, 0), (14, 1), (15, 2), (16, 3), (17, 4), (1, 5)] (by kernel_rfl) ?_
 refine Par.c0 1 5 (fun _ => #[Value.int IntKind.i64 0, Value.int IntKind.i64 4]) (F' := 31) (fun f X hX hR => ?_) ?_
 · refine (refNum_any 0 4 X).mono ?_
   rw [n4]
   rintro e w2 ⟨A0, c0, rfl, hr, hB⟩
   exact ⟨(.agg #[.int .i64 0, .slice A0 4 c0]), rfl, hB, fun Y hY => ⟨A0, c0, rfl, rbUp (hr.mono fun b hb => hb.2) hY⟩⟩
 refine Par.c0 2 4 (fun _ => #[Value.int IntKind.i64 256, Value.int IntKind.i64 31]) (F' := 31) (fun f X hX hR => ?_) ?_
 · refine (refNum_any 256 31 X).mono ?_
   rw [n31]
   rintro e w2 ⟨A0, c0, rfl, hr, hB⟩
   exact ⟨(.agg #[.int .i64 256, .slice A0 4 c0]), rfl, hB, fun Y hY => ⟨A0, c0, rfl, rbUp (hr.mono fun b hb => hb.2) hY⟩⟩
 refine Par.S 3 3 [(13, 0), (14, 1)] (fun f X hX hR K hK => ?_) ?_
 · have hmk := run_make_row' (P := Tryz.prog) 33 5 (.int .u8 0) 1 Tryz.underlying33 info5 rfl .i64 .i64 16 (by omega) (by omega)
   simp only [Int.cast_ofNat_Int] at hmk
   simp only [yA, yB, yC, yD, yE]
   refine ⟨?_⟩
   go_simp
   exact hK.out _ _ _ (by simp only [yA, yB, yC, yD, yE]) (Ext.alloc _ _) trivial (fun Y hY => ⟨_, rfl, rbUp (made16 X) hY⟩)
 refine Par.S 4 2 [(13, 0), (14, 1), (15, 2)] (fun f X hX hR K hK => ?_) ?_
 · obtain ⟨b2, (e2 : f 2 = _), r2⟩ := hR.out 2 rfl
   simp only [yA, yB, yC, yD, yE, e2]
   refine ⟨?_⟩
   go_simp
   exact hK.out _ (.agg #[.int .i64 17, .slice (some ⟨b2, 0, none⟩) 16 16]) _ (by simp only [yA, yB, yC, yD, yE, e2]) (Ext.refl _) trivial (fun Y hY => ⟨b2, rfl, rbUp r2 hY⟩)
 refine Par.S 5 1 [(13, 0), (14, 1), (15, 2), (16, 3)] (fun f X hX hR K hK => ?_) ?_
 · obtain ⟨A0, c0, (e0 : f 0 = _), r0⟩ := hR.out 0 rfl
   obtain ⟨A1, c1, (e1 : f 1 = _), r1⟩ := hR.out 1 rfl
   obtain ⟨b3, (e3 : f 3 = _), r3⟩ := hR.out 3 rfl
   simp only [yA, yB, yC, yD, yE, e0, e1, e3]
   refine ⟨?_⟩
   go_simp
   exact hK.out _ (.slice (some ⟨X.heap.size, 0, none⟩) 3 3) _ (by simp only [yA, yB, yC, yD, yE, e0, e1, e3]) (Ext.alloc _ _) trivial (fun Y hY => ⟨_, rfl, raUp (RA.lit (P := fun q => q < (X.alloc (.cells #[.int .i64 0, .slice A0 4 c0, .int .i64 256, .slice A1 4 c1, .int .i64 17, .slice (some ⟨b3, 0, none⟩) 16 16] 37)).heap.size) _ _ bt0 3 _ ((CA.single (x := (0, [0, 0, 0, 4])) r0).app ((CA.single (x := (256, [0, 0, 0, 31])) r1).app (CA.single (x := (17, [0, 0, 0, 0, 0, 0, 0, 0, 0, 0, 0, 0, 0, 0, 0, 0])) r3) rfl) rfl) rfl rfl (by omega) rfl (fun b hb => hb) (by simp) (fun b hb => by simp; omega)) hY⟩)
 refine Par.S 6 0 [(13, 0), (14, 1), (15, 2), (16, 3), (17, 4)] (fun f X hX hR K hK => ?_) ?_
 · obtain ⟨b4, (e4 : f 4 = _), r4⟩ := hR.out 4 rfl
   simp only [yA, yB, yC, yD, yE, e4]
   refine ⟨?_⟩
   go_simp
   exact hK.out _ (.slice (some ⟨b4, 0, none⟩) 3 3) _ (by simp only [yA, yB, yC, yD, yE, e4]) (Ext.refl _) trivial (fun Y hY => ⟨b4, rfl, raUp r4 hY⟩)
 refine Par.AllOps.fin ⟨fun f X hX hR hal hap => ?_⟩
 obtain ⟨A0, c0, (e0 : f 0 = _), r0⟩ := hR 0 (by decide)
 obtain ⟨A1, c1, (e1 : f 1 = _), r1⟩ := hR 1 (by decide)
 obtain ⟨b2, (e2 : f 2 = _), r2⟩ := hR 2 (by decide)
 obtain ⟨b3, (e3 : f 3 = _), r3⟩ := hR 3 (by decide)
 obtain ⟨b4, (e4 : f 4 = _), r4⟩ := hR 4 (by decide)
 obtain ⟨b5, (e5 : f 5 = _), r5⟩ := hR 5 (by decide)
 simp only [yA, yB, yD, yE, e0, e1, e2, e3, e4, e5]
 clear hR hal hap e0 e1 e2 e3 e4 e5
 refine Par.Chain.done ?_
 have hB0 : Below w.heap.size w X := hX
 have HB0 := Lib.hid hB0
 have Ht := Lib.hid r5
 have hl3 : bt0.length = 3 := rfl
 have hM := made_1 _ (some ⟨b5, 0, none⟩) 3 bt0 ball (bobj 0 []) _ X r5 (fun b hb => hb) (by rw [hl3]; omega) b_check b_kinds b_joined b_lay (fun x => seek_short b_lens x) b_no b_val rfl (by decide)
 rw [hl3, b_reck, b_len] at hM
 have HM := Lib.hid hM
 clear hX hB0 r5 r4 hM
 go_wp2_with fail
 refine HM.out.mono ?_
 rintro e w2 ⟨A2, c2, rfl, hr2, hB2⟩
 have Ht2 := Lib.hid (raUp Ht.out hB2)
 have HB2 := Lib.hid (HB0.out.trans (hB2.mono HB0.out.size))
 have Ho2 := Lib.hid hr2
 clear hr2 hB2 HM
 have hK2 := kinds_any _ (some ⟨b5, 0, none⟩) 3 bt0 (-1) 0 w2 Ht2.out (fun b hb => hb)
 rw [hl3, b_kinds] at hK2
 have HK2 := Lib.hid hK2
 clear hK2
 go_wp2_with fail
 refine HK2.out.mono ?_
 rintro e w3 ⟨rfl, hB3⟩
 have Ht3 := Lib.hid (raUp Ht2.out hB3)
 have Ho3 := Lib.hid (raUp Ho2.out hB3)
 have HB3 := Lib.hid (HB2.out.trans (hB3.mono HB2.out.size))
 clear hB3
 have hW3 := wants_any _ (some ⟨b5, 0, none⟩) 3 bt0 4 w3 Ht3.out (fun b hb => hb)
 rw [hl3, b_token, b_private] at hW3
 have HW3 := Lib.hid hW3
 clear hW3
 go_wp2_with fail
 refine HW3.out.mono ?_
 rintro e w4 ⟨rfl, hB4⟩
 have Ht4 := Lib.hid (raUp Ht3.out hB4)
 have Ho4 := Lib.hid (raUp Ho3.out hB4)
 have HB4 := Lib.hid (HB3.out.trans (hB4.mono HB3.out.size))
 clear hB4
 go_wp2_with fail
 refine (refBool_any 259 true w4).mono ?_
 rintro e w5 ⟨A5, c5, rfl, hr5, hB5⟩
 have Ht5 := Lib.hid (raUp Ht4.out hB5)
 have Ho5 := Lib.hid (raUp Ho4.out hB5)
 have HB5 := Lib.hid (HB4.out.trans (hB5.mono HB4.out.size))
 have hL5 := RA.lit (P := fun q => q < (w5.alloc (.cells #[.int .i64 259, .slice A5 1 c5] 37)).heap.size) (w := w5) #[.int .i64 259, .slice A5 1 c5] 37 [(259, [1])] 1 w5.heap.size (CA.single (x := (259, [1])) (hr5.mono fun b hb => hb.2)) rfl rfl (by omega) rfl (fun b hb => hb) (by simp) (fun b hb => by simp; omega)
 have hs5 := set_any _ _ A2 (some ⟨w5.heap.size, 0, none⟩) c2 1 (bobj 0 [0, 0, 0, 16]) [(259, [1])] _ (raUp Ho5.out (Ext.alloc w5 (.cells #[.int .i64 259, .slice A5 1 c5] 37))) (fun b hb => hb) hL5 (fun b hb => hb) (by decide) (by decide)
 rw [b_set, b_len] at hs5
 have HS5 := Lib.hid hs5
 have Ht6 := Lib.hid (raUp Ht5.out (Ext.alloc w5 (.cells #[.int .i64 259, .slice A5 1 c5] 37)))
 have HB6 := Lib.hid (HB5.out.alloc HB5.out.size (.cells #[.int .i64 259, .slice A5 1 c5] 37))
 clear hB5 hr5 hL5 hs5
 go_wp2_with fail
 refine HS5.out.mono ?_
 rintro e w7 ⟨⟨A7, c7, rfl, hr7⟩, hB7⟩
 have Ht7 := Lib.hid (raUp Ht6.out hB7)
 have HB7 := Lib.hid (HB6.out.trans (hB7.mono HB6.out.size))
 have hs7 := hr7.mono (P' := fun b => b < w7.heap.size) fun b hb => hb.2
 have hI := RI.fresh (P := fun q => q < (w7.alloc (.cells #[.int .i64 17, .int .i64 353] 3)).heap.size) w7 #[.int .i64 17, .int .i64 353] 3 [17, 353] 2 rfl rfl (by omega) (by simp)
 have hE7 := Ext.alloc w7 (.cells #[.int .i64 17, .int .i64 353] 3)
 have hs8 := raUp hs7 hE7
 have hg8 := rget_any _ _ A7 (some ⟨w7.heap.size, 0, none⟩) c7 2 (bobj 1 [0, 0, 0, 16]) [17, 353] _ hs8 (fun b hb => hb) hI (fun b hb => hb) (by decide)
 rw [b_get] at hg8
 have HG8 := Lib.hid hg8
 have Hs8 := Lib.hid hs8
 have Ht8 := Lib.hid (raUp Ht7.out hE7)
 have HB8 := Lib.hid (HB7.out.alloc HB7.out.size (.cells #[.int .i64 17, .int .i64 353] 3))
 clear hB7 hr7 hs7 hI hE7 hs8 hg8
 go_wp2_with fail
 refine HG8.out.mono ?_
 rintro e w9 ⟨A9, c9, rfl, hr9, hB9⟩
 have Ht9 := Lib.hid (raUp Ht8.out hB9)
 have Hs9 := Lib.hid (raUp Hs8.out hB9)
 have HB9 := Lib.hid (HB8.out.trans (hB9.mono HB8.out.size))
 obtain ⟨ad, Av, cv, rfl, _, q0, q1, _⟩ := hr9.at_ (i := 0) (by simp)
 obtain ⟨ad', Av', cv', ead, _, q2, q3, _⟩ := hr9.at_ (i := 1) (by simp)
 injection ead with ead
 subst ead
 simp [Addr.add] at q0 q1 q2 q3
 clear hr9 hB9
 have hh9 := has_any 4 31 17 w9
 rw [b_has] at hh9
 have HH9 := Lib.hid hh9
 clear hh9
 go_wp2_with fail
 refine HH9.out.mono ?_
 rintro e w10 ⟨rfl, hB10⟩
 have Ht10 := Lib.hid (raUp Ht9.out hB10)
 have Hs10 := Lib.hid (raUp Hs9.out hB10)
 have HB10 := Lib.hid (HB9.out.trans (hB10.mono HB9.out.size))
 have hd10 := hidden_any _ A7 c7 (bobj 1 [0, 0, 0, 16]) 17 w10 Hs10.out (fun b hb => hb)
 rw [b_hidden] at hd10
 have HD10 := Lib.hid hd10
 clear hB10 hd10
 go_wp2_with fail
 refine HD10.out.mono ?_
 rintro e w11 ⟨rfl, hB11⟩
 have Ht11 := Lib.hid (raUp Ht10.out hB11)
 have HB11 := Lib.hid (HB10.out.trans (hB11.mono HB10.out.size))
 have hc11 := check_any _ (some ⟨b5, 0, none⟩) 3 bt0 1 (-1) 0 w11 Ht11.out (fun b hb => hb)
 rw [b_check, hl3] at hc11
 have HC11 := Lib.hid hc11
 clear hB11 hc11
 go_wp2_with fail
 refine HC11.out.mono ?_
 rintro e w12 ⟨rfl, hB12⟩
 go_wp2
 go_ret
 exact ⟨rfl, HB11.out.trans (hB12.mono HB11.out.size)⟩
end Go.Proofs.YtendnkpiidhogaaGreat.At

namespace Go.Proofs.YtendnkpiidhogaaGreat

def ShlAt (l o : List Nat) (w k i : Nat) : Prop := val 18446744073709551616 o = 2 ^ (64 * w + k) * val 18446744073709551616 (l.take i) ∧ (∀ j, i + w < j → dg o j = 0) ∧ dg o (i + w) < 2 ^ k
theorem dg_replicate (n j : Nat) : dg (List.replicate n 0) j = 0 := by
 rw [dg, List.getD_eq_getElem?_getD, List.getElem?_replicate]
 split <;> rfl
theorem ShlAt.zero (l : List Nat) (w k n : Nat) : ShlAt l (List.replicate n 0) w k 0 := by
 refine ⟨by rw [val_replicate]; simp, fun j _ => dg_replicate n j, by rw [dg_replicate]; exact Nat.pow_pos (by omega)⟩
theorem ShlAt.step {l o : List Nat} {w k i hi lo : Nat} (h : ShlAt l o w k i) (ho : i + w + 1 < o.length) (he : lo + 18446744073709551616 * hi = dg l i * 2 ^ k) (hh : hi < 2 ^ k) : ShlAt l ((o.set (i + w) (dg o (i + w) + lo)).set (i + w + 1) hi) w k (i + 1) := by
 obtain ⟨h1, h2, h3⟩ := h
 refine ⟨?_, fun j hj => by rw [getD_set_ne (by omega), getD_set_ne (by omega)]; exact h2 j (by omega), by rw [show i + 1 + w = i + w + 1 by omega, getD_set_eq (by simp; omega)]; exact hh⟩
 have s1 := val_set' 18446744073709551616 (show i + w < o.length by omega) (dg o (i + w) + lo)
 have s2 := val_set' 18446744073709551616 (l := o.set (i + w) (dg o (i + w) + lo)) (n := i + w + 1) (by simp; omega) hi
 rw [getD_set_ne (by omega : i + w ≠ i + w + 1), h2 (i + w + 1) (by omega)] at s2
 rw [val_take_getD, Nat.mul_add, ← h1]
 have e : 2 ^ (64 * w + k) * (18446744073709551616 ^ i * dg l i) = 18446744073709551616 ^ (i + w) * (dg l i * 2 ^ k) := by
  rw [Nat.pow_add, Nat.pow_mul, show (2 : Nat) ^ 64 = 18446744073709551616 by decide, Nat.pow_add]
  generalize 18446744073709551616 ^ w = a
  generalize 18446744073709551616 ^ i = b
  generalize 2 ^ k = c
  generalize dg l i = d
  rw [Nat.mul_comm b d, ← Nat.mul_assoc, Nat.mul_comm _ b, Nat.mul_assoc a, Nat.mul_comm c d, ← Nat.mul_assoc b a]
 rw [e, ← he, Nat.mul_add, ← Nat.mul_assoc, ← Nat.pow_succ]
 rw [Nat.mul_add] at s1
 generalize 18446744073709551616 ^ (i + w + 1) * hi = q1 at *
 generalize 18446744073709551616 ^ (i + w) * lo = q2 at *
 generalize 18446744073709551616 ^ (i + w) * dg o (i + w) = q3 at *
 generalize val 18446744073709551616 (o.set (i + w) (dg o (i + w) + lo)) = q4 at *
 generalize val 18446744073709551616 ((o.set (i + w) (dg o (i + w) + lo)).set (i + w + 1) hi) = q5 at *
 generalize val 18446744073709551616 o = q6 at *
 omega
theorem ShlAt.fin {l o : List Nat} {w k : Nat} (h : ShlAt l o w k l.length) : val 18446744073709551616 o = val 18446744073709551616 l * 2 ^ (64 * w + k) := by
 have := h.1
 rwa [List.take_length, Nat.mul_comm] at this
def ShrAt (l o : List Nat) (w k i : Nat) : Prop := ∀ j, j < i → dg o j = val 18446744073709551616 l / 2 ^ (64 * (j + w) + k) % 18446744073709551616
theorem digit_of_val {B : Nat} {o : List Nat} (x : Nat) (hd : ∀ j, j < o.length → dg o j = x / B ^ j % B) (hx : x < B ^ o.length) : val B o = x := by
  have : ∀ i, i ≤ o.length → val B (o.take i) = x % B ^ i := by
    intro i
    induction i with
    | zero => intro _; simp [Nat.mod_one]
    | succ i ih =>
      intro hi
      rw [val_take_getD, ih (by omega), hd i (by omega), Nat.pow_succ, Nat.mod_mul]
  have h := this o.length (Nat.le_refl _)
  rw [List.take_length, Nat.mod_eq_of_lt hx] at h
  exact h
theorem ShrAt.fin {l o : List Nat} {w k : Nat} (h : ShrAt l o w k o.length) (hl : ∀ x ∈ l, x < 18446744073709551616) (hn : l.length = o.length + w) : val 18446744073709551616 o = val 18446744073709551616 l / 2 ^ (64 * w + k) := by
 apply digit_of_val
 · intro j hj
   rw [h j hj, Nat.div_div_eq_div_mul]
   congr 2
   rw [show (18446744073709551616 : Nat) = 2 ^ 64 by decide, ← Nat.pow_mul, ← Nat.pow_add]
   congr 1
   omega
 · apply Nat.div_lt_of_lt_mul
   have h1 := val_lt hl
   rw [hn, Nat.pow_add] at h1
   rw [Nat.pow_add, Nat.pow_mul, show (2 : Nat) ^ 64 = 18446744073709551616 by decide]
   have h2 : 18446744073709551616 ^ o.length * 18446744073709551616 ^ w * 1 ≤ 18446744073709551616 ^ o.length * 18446744073709551616 ^ w * 2 ^ k := Nat.mul_le_mul_left _ (Nat.pow_pos (by omega))
   have h3 : 18446744073709551616 ^ w * 2 ^ k * 18446744073709551616 ^ o.length = 18446744073709551616 ^ o.length * 18446744073709551616 ^ w * 2 ^ k := by
    rw [Nat.mul_comm, Nat.mul_assoc]
   rw [h3]
   omega
end Go.Proofs.YtendnkpiidhogaaGreat

namespace Go.Proofs.YtendnkpiidhogaaGreat
open Go.RowKit

end Go.Proofs.YtendnkpiidhogaaGreat

namespace Go.Proofs.YtendnkpiidhogaaGreat
open Go.RowKit

theorem Row.alloc_ {w : World} {g : Nat} {l : List Nat} (h : Row w g l) (o : Obj) : Row (w.alloc o) g l := h.of_heap (Below.heap_alloc w o g h.lt)
theorem RN.alloc_ {w : World} {P : Nat → Prop} {A : Option Addr} {c : Nat} {l : List Nat} (h : RN w P A c l) (hP : ∀ b, P b → b < w.heap.size) (o : Obj) : RN (w.alloc o) P A c l := h.below ((Below.refl w.heap.size w).alloc (Nat.le_refl _) o) hP
end Go.Proofs.YtendnkpiidhogaaGreat

namespace Go.Proofs.YtendnkpiidhogaaGreat
open Go.RowKit

def DigitOk (B V k D G : Nat) : Prop := G < B ∧ V / (B ^ k * D) ≤ G
theorem quo_rest {B k D g V x : Nat} (hB : 0 < B) (hD : 0 < D) (hq : V / (B ^ k * D) ≤ g) (he : x + B ^ k * (g * D) = V) : x < B ^ k * D := by
 have h5 := Nat.lt_mul_div_succ V (show 0 < B ^ k * D from Nat.mul_pos (Nat.pow_pos hB) hD)
 have h6 : B ^ k * D * (V / (B ^ k * D) + 1) ≤ B ^ k * D * (g + 1) := Nat.mul_le_mul_left _ (by omega)
 have e : B ^ k * D * (g + 1) = B ^ k * (g * D) + B ^ k * D := by rw [Nat.mul_add, Nat.mul_one, Nat.mul_assoc, Nat.mul_comm D]
 omega
theorem scale_setup {y n1 : Nat} (hn : (digs 4294967296 y).length = n1 + 1) : ∃ top sc, dg (digs 4294967296 y) n1 = top ∧ 0 < top ∧ top < 4294967296 ∧ 4294967296 / (top + 1) = sc ∧ 0 < sc ∧ sc < 4294967296 ∧ (digs 4294967296 (sc * y)).length = n1 + 1 ∧ 0 < dg (digs 4294967296 (sc * y)) n1 ∧ 4294967296 ^ n1 ≤ y := by
 have hB : (2 : Nat) ≤ 4294967296 := by omega
 have hlt := digs_lt hB y
 have hy0 : 0 < y := by
  rcases Nat.eq_zero_or_pos y with h | h
  · subst h; rw [digs_zero] at hn; simp at hn
  · exact h
 have hlow := pow_digs_le hB hy0
 rw [hn, Nat.add_sub_cancel] at hlow
 obtain ⟨top, ht⟩ : ∃ top, dg (digs 4294967296 y) n1 = top := ⟨_, rfl⟩
 have htl : top < 4294967296 := by rw [← ht]; exact getD_lt (by omega) hlt _
 have ey : y = val 4294967296 ((digs 4294967296 y).take n1) + 4294967296 ^ n1 * top := by
  rw [← ht, ← val_take_getD, ← hn, List.take_length, val_digs hB]
 have hr : val 4294967296 ((digs 4294967296 y).take n1) < 4294967296 ^ n1 := by
  have := val_lt (B := 4294967296) (l := (digs 4294967296 y).take n1) fun x hx => hlt x (List.mem_of_mem_take hx)
  rwa [List.length_take, Nat.min_eq_left (by omega)] at this
 have h0 : 0 < top := by
  rcases Nat.eq_zero_or_pos top with h | h
  · subst h; omega
  · exact h
 obtain ⟨sc, hsc⟩ : ∃ sc, 4294967296 / (top + 1) = sc := ⟨_, rfl⟩
 have hs1 : sc * (top + 1) ≤ 4294967296 := by rw [← hsc]; exact Nat.div_mul_le_self _ _
 have hs0 : 0 < sc := by rw [← hsc]; exact Nat.div_pos (by omega) (by omega)
 have hsl : sc < 4294967296 := by rw [← hsc]; exact Nat.div_lt_self (by omega) (by omega)
 have hup : sc * y < 4294967296 ^ (n1 + 1) := by
  have k1 : y < 4294967296 ^ n1 * (top + 1) := by rw [Nat.mul_add, Nat.mul_one]; omega
  have k2 : sc * y < sc * (4294967296 ^ n1 * (top + 1)) := Nat.mul_lt_mul_of_pos_left k1 hs0
  have k3 : sc * (4294967296 ^ n1 * (top + 1)) = 4294967296 ^ n1 * (sc * (top + 1)) := Nat.mul_left_comm _ _ _
  have k4 : 4294967296 ^ n1 * (sc * (top + 1)) ≤ 4294967296 ^ n1 * 4294967296 := Nat.mul_le_mul_left _ hs1
  rw [Nat.pow_succ]
  omega
 have hlo2 : 4294967296 ^ n1 ≤ sc * y := Nat.le_trans hlow (Nat.le_mul_of_pos_left _ hs0)
 have hlen : (digs 4294967296 (sc * y)).length = n1 + 1 := by
  refine Nat.le_antisymm (digs_length_of_lt hB hup) ?_
  have := digs_length_mono hB (show y ≤ sc * y from Nat.le_mul_of_pos_left _ hs0)
  omega
 refine ⟨top, sc, ht, h0, htl, hsc, hs0, hsl, hlen, ?_, hlow⟩
 have ed : sc * y = val 4294967296 ((digs 4294967296 (sc * y)).take n1) + 4294967296 ^ n1 * dg (digs 4294967296 (sc * y)) n1 := by
  rw [← val_take_getD, ← hlen, List.take_length, val_digs hB]
 have hr2 : val 4294967296 ((digs 4294967296 (sc * y)).take n1) < 4294967296 ^ n1 := by
  have := val_lt (B := 4294967296) (l := (digs 4294967296 (sc * y)).take n1) fun x hx => digs_lt hB (sc * y) x (List.mem_of_mem_take hx)
  rwa [List.length_take, Nat.min_eq_left (by omega)] at this
 rcases Nat.eq_zero_or_pos (dg (digs 4294967296 (sc * y)) n1) with h | h
 · rw [h, Nat.mul_zero] at ed
   omega
 · exact h

def Tu (w : World) (b : Nat) : Prop := ∃ cur, w.heap[b]? = some (.cells cur 139 (0, 0))
theorem OB.tt {w : World} {base : Nat} {A : Option Addr} {c : Nat} {l : List Nat} (h : OB w base A c l) : RN w (fun b => b < w.heap.size ∧ Tu w b) A c l := by
 have hr := h.rn
 obtain ⟨h1, h2, h3, h4⟩ := h
 obtain ⟨⟨r1, r2, r3, r4⟩, r5⟩ := hr
 refine ⟨⟨r1, r2, r3, fun hl => ?_⟩, r5⟩
 obtain ⟨g, cur, rfl, hb, hg, hc⟩ := h4 hl
 obtain ⟨ad, e, hin, hcell⟩ := r4 hl
 cases e
 exact ⟨_, rfl, ⟨hin.2, cur, hg⟩, hcell⟩
theorem OB.rt {w : World} {base : Nat} {P : Nat → Prop} {A : Option Addr} {c : Nat} {l : List Nat} (h : OB w base A c l) : RN w (fun b => b < w.heap.size ∧ (P b ∨ Tu w b)) A c l := RN.mono h.tt fun _ hb => ⟨hb.1, .inr hb.2⟩
set_option maxRecDepth 100000 in
set_option maxHeartbeats 2000000 in
theorem refQuo_small3 (P P' : Nat → Prop) (A A' : Option Addr) (c c' : Nat) (x y : Nat) (w : World) (h : RN w P A c (digs 4294967296 x)) (h' : RN w P' A' c' (digs 4294967296 y)) (hP : ∀ b, P b → b < w.heap.size) (hl : (digs 4294967296 x).length < 100000) (h0 : 0 < y) (hs : x < y ∨ (digs 4294967296 y).length = 1) :
 Calls Tryz.prog 195 #[.slice A (digs 4294967296 x).length c, .slice A' (digs 4294967296 y).length c'] w fun e w' => ∃ A1 c1 A2 c2, e = .returned (.tuple #[.slice A1 (digs 4294967296 (x / y)).length c1, .slice A2 (digs 4294967296 (x % y)).length c2]) ∧ OB w' w.heap.size A1 c1 (digs 4294967296 (x / y)) ∧ RN w' (fun b => b < w'.heap.size ∧ (P b ∨ Tu w' b)) A2 c2 (digs 4294967296 (x % y)) ∧ Below w.heap.size w w' := by
 have tc := refCmp_any P P' A A' c c' x y w h h'
 by_cases hlt : x < y
 · rw [cmpV_lt hlt] at tc
   have Tc := Lib.hid tc
   have hd : x / y = 0 := Nat.div_eq_of_lt hlt
   have hm : x % y = x := Nat.mod_eq_of_lt hlt
   rw [hd, hm, digs_zero]
   clear tc hlt hs hd hm
   go_enter Tryz.func195, Tryz.ntmps195
   go_wp2_with fail
   refine Tc.out.mono ?_
   rintro e w1 ⟨rfl, nd, rfl⟩
   go_wp2
   go_ret2
   exact ⟨none, 0, A, c, rfl, OB.nil_ _ _, RN.drewN (h.mono fun b hb => ⟨hP b hb, .inl hb⟩) nd, below_drewN (Below.refl _ _) _⟩
 · have hn : (digs 4294967296 y).length = 1 := by omega
   have hyB : y < 4294967296 := by
    have := lt_pow_digs (B := 4294967296) (by omega) y
    rw [hn] at this
    omega
   have hd1 : digs 4294967296 y = [y] := by
    rw [digs_pos (by omega) h0, Nat.mod_eq_of_lt hyB, Nat.div_eq_of_lt hyB, digs_zero]
   have hcv : 0 ≤ cmpV x y := by rcases cmpV_cases x y with h | h | h <;> omega
   generalize cmpV x y = v at tc hcv
   have hcv' : ¬ v < 0 := by omega
   have Tc := Lib.hid tc
   obtain ⟨ad, rfl, _, q1⟩ := h'.at_ (i := 0) (by omega)
   rw [hd1] at q1 Tc
   rw [hd1]
   have q1' : w.cell? (ad.add 0) = some (.int .u64 (y : Int)) := q1
   have q2 : ad.add 0 = ad := rfl
   rw [q2] at q1'
   have tS := fun n => refSmall_any P A c _ y (w.drewN n) (h.drewN n) hP (Dig.digs x) hl h0 (by omega)
   rw [val_digs (by omega)] at tS
   have TS := Lib.hid tS
   have hrB : x % y < 4294967296 := Nat.lt_trans (Nat.mod_lt _ h0) hyB
   obtain ⟨r, hr⟩ : ∃ r, x % y = r := ⟨_, rfl⟩
   rw [hr] at TS hrB
   have Hr := Lib.hid hrB
   have Hrr := Lib.hid hr
   clear tc tS hlt hs hn hcv h' hr hrB hd1 q1 q2 hyB
   go_enter Tryz.func195, Tryz.ntmps195
   go_wp2_with fail
   refine Tc.out.mono ?_
   rintro e w1 ⟨rfl, nd, rfl⟩
   go_wp2_with fail
   refine (TS.out nd).mono ?_
   rintro e w2 ⟨A1, c1, rfl, hO, hB⟩
   have hdr : Dig [r] := by intro x hx; rw [List.mem_singleton.1 hx]; exact Hr.out
   have ht := refTrim_any _ _ _ [r] _ (RN.one w2 r (by have := Hr.out; omega)) hdr
   have hO2 := (OB.of_blk (c := 1) (w := w2.alloc (.cells #[.int .u64 (r : Int)] 139)) (g := w2.heap.size) (l := [r]) (show Blk (w2.alloc (.cells #[.int .u64 (r : Int)] 139)) w2.heap.size [r] from heap_alloc_new w2 _) (base := 0) (Nat.zero_le _) ⟨fun x hx => by have := hdr x hx; omega, by simp⟩ (by simp) (by unfold maxLen; omega)).trim32 hdr
   have hvr : val 4294967296 [r] = r := by simp
   rw [hvr] at ht hO2
   have Ht := Lib.hid ht
   clear ht hdr hvr
   go_wp2_with fail
   refine Ht.out.mono ?_
   rintro e w3 ⟨rfl, rfl⟩
   go_wp2
   go_ret2
   exact ⟨A1, c1, some ⟨w2.heap.size, 0, none⟩, (digs 4294967296 r).length, by rw [Hrr.out]; rfl, hO.below ((Below.refl w2.heap.size w2).alloc (Nat.le_refl _) _) (Nat.le_refl _), by rw [Hrr.out]; exact hO2.rt, (Below.mk hB.os hB.tape hB.output hB.size hB.block : Below w.heap.size w w2).alloc hB.size _⟩

set_option maxRecDepth 100000 in
set_option maxHeartbeats 2000000 in
theorem refQuo_big3 (P P' : Nat → Prop) (A A' : Option Addr) (c c' : Nat) (x y : Nat) (w : World) (h : RN w P A c (digs 4294967296 x)) (h' : RN w P' A' c' (digs 4294967296 y)) (hP : ∀ b, P b → b < w.heap.size) (hP' : ∀ b, P' b → b < w.heap.size) (hl : (digs 4294967296 x).length < 90000) (hge : y ≤ x) (hbig : 1 < (digs 4294967296 y).length) :
 Calls Tryz.prog 195 #[.slice A (digs 4294967296 x).length c, .slice A' (digs 4294967296 y).length c'] w fun e w' => ∃ A1 c1 A2 c2, e = .returned (.tuple #[.slice A1 (digs 4294967296 (x / y)).length c1, .slice A2 (digs 4294967296 (x % y)).length c2]) ∧ OB w' w.heap.size A1 c1 (digs 4294967296 (x / y)) ∧ RN w' (fun b => b < w'.heap.size ∧ (P b ∨ Tu w' b)) A2 c2 (digs 4294967296 (x % y)) ∧ Below w.heap.size w w' := by
 have tc := refCmp_any P P' A A' c c' x y w h h'
 have hcv : 0 ≤ cmpV x y := by rcases cmpV_cases x y with h | h | h <;> omega
 generalize cmpV x y = v at tc hcv
 have hcv' : ¬ v < 0 := by omega
 obtain ⟨n1, hn⟩ : ∃ n1, (digs 4294967296 y).length = n1 + 1 := ⟨(digs 4294967296 y).length - 1, by omega⟩
 obtain ⟨top, sc, htop, ht0, htl, hsc, hs0, hsl, hDn, hDt, hlow⟩ := scale_setup hn
 have hy0 : 0 < y := by have := Nat.pow_pos (n := n1) (show 0 < 4294967296 by omega); omega
 have hmono := digs_length_mono (B := 4294967296) (by omega) hge
 have hxl := lt_pow_digs (B := 4294967296) (by omega) x
 have hxv := val_digs (B := 4294967296) (by omega) x
 have hyv := val_digs (B := 4294967296) (by omega) y
 have dx := Dig.digs x
 have dy := Dig.digs y
 generalize digs 4294967296 x = l at *
 generalize digs 4294967296 y = m at *
 obtain ⟨n, hn'⟩ : ∃ n, n1 + 1 = n := ⟨_, rfl⟩
 rw [hn'] at hn hDn
 obtain ⟨t, htt⟩ : ∃ t, l.length + 1 - n = t := ⟨_, rfl⟩
 have hXD : sc * x < 4294967296 ^ t * (sc * y) := by
  have k1 : 4294967296 ^ l.length ≤ 4294967296 ^ t * y := by
   have : 4294967296 ^ t * 4294967296 ^ n1 ≤ 4294967296 ^ t * y := Nat.mul_le_mul_left _ hlow
   rwa [← Nat.pow_add, show t + n1 = l.length by omega] at this
  rw [Nat.mul_left_comm]
  exact Nat.mul_lt_mul_of_pos_left (Nat.lt_of_lt_of_le hxl k1) hs0
 have T1 := Lib.hid fun W (hW : RN W P A c l) (hp : ∀ b, P b → b < W.heap.size) => refTimes_any P A c l sc W hW hp dx (by omega) hsl
 have T2 := Lib.hid fun W (hW : RN W P' A' c' m) (hp : ∀ b, P' b → b < W.heap.size) => refTimes_any P' A' c' m sc W hW hp dy (by omega) hsl
 rw [hxv] at T1
 rw [hyv, hn] at T2
 rw [hn] at tc
 rw [hn]
 have hqx : (sc * x) / (sc * y) = x / y := Nat.mul_div_mul_left _ _ hs0
 have hrx : (sc * x) % (sc * y) / sc = x % y := by rw [Nat.mul_mod_mul_left, Nat.mul_div_cancel_left _ hs0]
 generalize x % y = rr at *
 have hD0 : 0 < sc * y := Nat.mul_pos hs0 hy0
 have dD := Dig.digs (sc * y)
 have hDv := val_digs (B := 4294967296) (by omega) (sc * y)
 obtain ⟨D, hD⟩ : ∃ D, sc * y = D := ⟨_, rfl⟩
 obtain ⟨X, hX⟩ : ∃ X, sc * x = X := ⟨_, rfl⟩
 rw [hD] at hqx hrx hD0 dD hDv hDn hDt hXD T2
 rw [hX] at hqx hrx hXD T1
 have hnb : n < 90000 := by omega
 have hlb : l.length < 90000 := by omega
 have i1 : (n : Int) - 1 = (n1 : Int) := by omega
 have i2 : n1 < n := by omega
 have i3 : ((n : Int) == 1) = false := eqB (by omega)
 have i4 : (l.length : Int) + 1 - (n : Int) = (t : Int) := by omega
 have i5 : (4294967296 : Int) / ((top : Int) + 1) = (sc : Int) := by rw [← hsc]; simp
 have i5' : (4294967296 : Int).tdiv ((top : Int) + 1) = (sc : Int) := by rw [Int.tdiv_eq_ediv_of_nonneg (by omega)]; exact i5
 have i6 : ((top : Int) + 1 == 0) = false := eqB (by omega)
 have i7 : IntKind.u64.wrap ((top : Int) + 1) = (top : Int) + 1 := IntWalk.u64_in _ (by omega)
 have i8 : IntKind.u64.wrap (sc : Int) = (sc : Int) := IntWalk.u64_in _ (by omega)
 have i9 : ¬ (top : Int) + 1 = 0 := by omega
 obtain ⟨ad', rfl, hPad, q1⟩ := h'.at_ (i := n1) (by omega)
 rw [htop] at q1
 have Htc := Lib.hid tc
 have Hn1 := Lib.hid hn'
 have HXD := Lib.hid hXD
 have Htt := Lib.hid htt
 have Hqx := Lib.hid hqx
 have Hrx := Lib.hid hrx
 have HDv := Lib.hid hDv
 have HDn := Lib.hid hDn
 have HDt := Lib.hid hDt
 have Hs0 := Lib.hid hs0
 have Hsl := Lib.hid (show sc < 4294967297 by omega)
 have HdD := Lib.hid dD
 clear tc hn' hXD htt hqx hrx hDv hDn hDt hX hD hlow hxl hxv hyv hsc htop ht0 hbig hge hy0 hmono dx dy hs0 hsl htl hcv dD
 go_enter Tryz.func195, Tryz.ntmps195
 go_wp2_with fail
 refine Htc.out.mono ?_
 rintro e w1 ⟨rfl, nd, rfl⟩
 obtain ⟨W, hW⟩ : ∃ W, W = w.drewN nd := ⟨_, rfl⟩
 have q2 : W.cell? (ad'.add n1) = some (.int .u64 (top : Int)) := by rw [hW]; exact q1
 have Hsz := Lib.hid (show W.heap.size = w.heap.size by rw [hW]; rfl)
 have hB0 : Below w.heap.size w W := by rw [hW]; exact below_drewN (Below.refl _ _) _
 have hRa : RN W P A c l := by rw [hW]; exact h.drewN _
 have hRb : RN W P' (some ad') c' m := by rw [hW]; exact h'.drewN _
 rw [← hW]
 have T1' := Lib.hid (T1.out W hRa (by rw [Hsz.out]; exact hP))
 clear hW q1 T1 hRa h h'
 go_wp2_with fail
 refine T1'.out.mono ?_
 rintro e w1 ⟨u0, rfl, hbu, hul, hDu, hvu, hB1⟩
 have hB1s := hB1.size
 have hgu := hbu.lt
 have T2' := Lib.hid (T2.out w1 (hRb.below hB1 (by rw [Hsz.out]; exact hP')) (by have := Hsz.out; intro b hb; have := hP' b hb; omega))
 clear T2 hRb q2
 go_wp2_with fail
 refine T2'.out.mono ?_
 rintro e w2 ⟨v0, rfl, hbv, hvl, hDv0, hvv, hB2⟩
 have hB2s := hB2.size
 have hOv : OB w2 w1.heap.size (some ⟨w1.heap.size, 0, none⟩) (n + 1) v0 := OB.of_blk hbv (Nat.le_refl _) ⟨fun x hx => by have := hDv0 x hx; omega, by omega⟩ (by omega) (by unfold maxLen; omega)
 have htv := refTrim_any _ _ _ _ _ hOv.rn hDv0
 have hRv := (hOv.trim32 hDv0).rn
 rw [hvv, HDn.out, hvl] at htv
 rw [hvv, HDn.out] at hRv
 have Htv := Lib.hid htv
 clear htv hOv hbv hvl hDv0 hvv T2' T1'
 go_wp2_with fail
 refine Htv.out.mono ?_
 rintro e w3 ⟨rfl, hw3⟩
 obtain rfl : w2 = w3 := hw3
 have hmk1 := run_make_row' (P := Tryz.prog) 90 139 (.int .u64 0) 8 Tryz.underlying90 info64 rfl .i64 .i64 t (by have := Htt.out; omega) (by have := Htt.out; omega)
 have hmk2 := run_make_row' (P := Tryz.prog) 90 139 (.int .u64 0) 8 Tryz.underlying90 info64 rfl .i64 .i64 (n + 1) (by omega) (by omega)
 simp only [Int.natCast_add, Int.cast_ofNat_Int] at hmk2
 have htb : t ≤ 90001 := by have := Htt.out; omega
 go_wp2_with fail
 have hWw := Hsz.out
 have hbu4 := ((hbu.below hB2 hgu).alloc (.cells (madeCells #[.int .u64 0] t) 139)).alloc (.cells (madeCells #[.int .u64 0] (n + 1)) 139)
 have hbq4 := (Blk.made w2 t).alloc (.cells (madeCells #[.int .u64 0] (n + 1)) 139)
 have hbw4 : Blk ((w2.alloc (.cells (madeCells #[.int .u64 0] t) 139)).alloc (.cells (madeCells #[.int .u64 0] (n + 1)) 139)) (w2.heap.size + 1) (List.replicate (n + 1) 0) := by
  have := Blk.made (w2.alloc (.cells (madeCells #[.int .u64 0] t) 139)) (n + 1)
  simpa using this
 have hRv4 := (hRv.alloc_ (fun b hb => hb.2) (.cells (madeCells #[.int .u64 0] t) 139)).alloc_ (fun b hb => by have := hb.2; simp; omega) (.cells (madeCells #[.int .u64 0] (n + 1)) 139)
 have hB4 := ((hB0.trans (hB1.mono (by omega))).trans (hB2.mono (by omega))).alloc (by omega) (.cells (madeCells #[.int .u64 0] t) 139) |>.alloc (by simp; omega) (.cells (madeCells #[.int .u64 0] (n + 1)) 139)
 have Hs := Lib.hid (Below1.start t)
 clear hbu hRv hB0 hB1 hB2 hWw
 go_loopw [14] (fun iv wr => ∃ (k : Nat) (z : Int) (L qs Wl : List Nat), iv = .int .i64 z ∧ Below1 k z ∧ k ≤ t ∧ QuoAt 4294967296 X D L qs k ∧ Hid (L.length = l.length + 1) ∧ Hid (qs.length = t) ∧ Hid (Wl.length = n + 1) ∧ Dig L ∧ Dig qs ∧ Blk wr W.heap.size L ∧ Blk wr w2.heap.size qs ∧ Blk wr (w2.heap.size + 1) Wl ∧ RN wr (In w1.heap.size w2.heap.size) (some ⟨w1.heap.size, 0, none⟩) n (digs 4294967296 D) ∧ Below w.heap.size w wr) (fun iv _ => (intOf iv + 1).toNat)
 case atStart => exact ⟨t, _, u0, List.replicate t 0, _, rfl, Hs.out, by omega, by rw [← hvu]; exact QuoAt.start (by simp) (by rw [hvu]; exact HXD.out), Lib.hid hul, Lib.hid (by simp), Lib.hid (by simp), hDu, by intro x hx; simp at hx; omega, hbu4, hbq4, hbw4, hRv4, hB4⟩
 case round =>
  obtain ⟨k, z, L, qs, Wl, rfl, hz, hk, hQ, HL, Hqs, HW, hDL, hDq, hbu, hbq, hbw, hRD, hB⟩ := hrel
  clear hbu4 hbq4 hbw4 hRv4 hB4 hvu hul hDu
  rcases hz with ⟨rfl, rfl⟩ | ⟨j, rfl, rfl⟩
  · obtain ⟨v1, v2⟩ := hQ.fin
    rw [Hqx.out] at v1
    have hws := hB.size
    have hWw := Hsz.out
    have hOu := OB.of_blk (c := l.length + 1) hbu (base := w.heap.size) (by omega) ⟨fun x hx => by have := hDL x hx; omega, by have := HL.out; omega⟩ (by have := HL.out; omega) (by unfold maxLen; omega)
    have hOq := OB.of_blk (c := t) hbq (base := w.heap.size) (by omega) ⟨fun x hx => by have := hDq x hx; omega, by have := Hqs.out; omega⟩ (by have := Hqs.out; omega) (by unfold maxLen; omega)
    have tu := refTrim_any _ _ _ _ _ hOu.rn hDL
    have hOu' := hOu.trim32 hDL
    have tq := fun w h => refTrim_any (fun b => b < w.heap.size) (some ⟨w2.heap.size, 0, none⟩) t qs w h hDq
    have hOq' := hOq.trim32 hDq
    rw [HL.out] at tu
    have hlu : (digs 4294967296 (val 4294967296 L)).length < 100000 := by have := digs_length_le (B := 4294967296) (by omega) hDL; have := HL.out; omega
    have ts := refSmall_any _ _ _ _ sc _ hOu'.rn (fun b hb => hb.2) (Dig.digs _) hlu Hs0.out Hsl.out
    rw [v1] at hOq' tq
    rw [Hqs.out] at tq
    have Hv6 := Lib.hid (show val 4294967296 (digs 4294967296 (val 4294967296 L)) / sc = rr by rw [v2, val_digs (B := 4294967296) (by omega), Hrx.out])
    have Tu := Lib.hid tu
    have Ts := Lib.hid ts
    have Tq := Lib.hid tq
    have hqu : RN _ (fun b => b < _) (some ⟨w2.heap.size, 0, none⟩) t qs := hOq.rn.mono fun b hb => hb.2
    clear hQ hDL hDq hbu hbq hbw hRD hOu hOu' tu ts tq hlu v1 v2 hOq hWw
    go_wp2_with fail
    refine Tu.out.mono ?_
    rintro e w5 ⟨rfl, rfl⟩
    go_wp2_with fail
    refine Ts.out.mono ?_
    rintro e w6 ⟨A6, c6, rfl, hO6, hB6⟩
    go_wp2_with fail
    refine (Tq.out w6 ((hqu.below hB6 fun b hb => hb).mono fun b hb => Nat.lt_of_lt_of_le hb hB6.size)).mono ?_
    rintro e w7 ⟨rfl, rfl⟩
    go_wp2
    go_ret2
    exact ⟨_, _, A6, c6, by rw [Hv6.out]; rfl, hOq'.below hB6 (Nat.le_refl _), by rw [← Hv6.out]; exact hO6.rt, hB.trans (hB6.mono hws)⟩
  · have hLl := HL.out
    have hDl := HDn.out
    have e1 := Hn1.out
    have hjt := Htt.out
    have hDd := HdD.out
    obtain ⟨hz0, hQB, hge⟩ := guess2_ge (k := j) e1 hDL hDd hDl (by omega) HDt.out (by rw [HDv.out]; exact hQ.2)
    rw [HDv.out] at hQB hge
    have d1 := hRD.cells n1 (by omega)
    obtain ⟨y0, hy0⟩ : ∃ y0, j + n = y0 := ⟨_, rfl⟩
    obtain ⟨y1, hy1⟩ : ∃ y1, j + n1 = y1 := ⟨_, rfl⟩
    rw [hy0, hy1] at hge
    have r0 := hbu.cell (i := y0) (by omega)
    have r1 := hbu.cell (i := y1) (by omega)
    rw [add_blk] at d1
    obtain ⟨a0, ha0⟩ : ∃ a0, dg L y0 = a0 := ⟨_, rfl⟩
    obtain ⟨a1, ha1⟩ : ∃ a1, dg L y1 = a1 := ⟨_, rfl⟩
    obtain ⟨vt, hvt⟩ : ∃ vt, dg (digs 4294967296 D) n1 = vt := ⟨_, rfl⟩
    have hvp := HDt.out
    have la0 := hDL.dgLt y0
    have la1 := hDL.dgLt y1
    rw [ha0] at r0 hge la0
    rw [ha1] at r1 hge la1
    rw [hvt] at d1 hge hvp
    obtain ⟨tt, htt⟩ : ∃ tt, a0 * 4294967296 + a1 = tt := ⟨_, rfl⟩
    rw [htt] at hge
    obtain ⟨G0, hG0⟩ : ∃ G0, tt / vt = G0 := ⟨_, rfl⟩
    rw [hG0] at hge
    have hG0t : G0 ≤ tt := by rw [← hG0]; exact Nat.div_le_self _ _
    have f0 : (a0 : Int) * 4294967296 + (a1 : Int) = (tt : Int) := by omega
    have f1 : (tt : Int) / (vt : Int) = (G0 : Int) := by rw [← Int.natCast_ediv, hG0]
    have f1' : (tt : Int).tdiv (vt : Int) = (G0 : Int) := by rw [Int.tdiv_eq_ediv_of_nonneg (by omega)]; exact f1
    have f2 : IntKind.u64.wrap ((a0 : Int) * 4294967296) = (a0 : Int) * 4294967296 := IntWalk.u64_in _ (by omega)
    have f3 : IntKind.u64.wrap (tt : Int) = (tt : Int) := IntWalk.u64_in _ (by omega)
    have f4 : IntKind.u64.wrap (G0 : Int) = (G0 : Int) := IntWalk.u64_in _ (by omega)
    have f5 : ((vt : Int) == 0) = false := eqB (by omega)
    have f6 : ¬ vt = 0 := by omega
    have c0 : (j : Int) + (n : Int) = (y0 : Int) := by omega
    have c1' : (y0 : Int) - 1 = (y1 : Int) := by omega
    have b0 : (y0 : Int) < (l.length : Int) + 1 := by omega
    have b1 : (y1 : Int) < (l.length : Int) + 1 := by omega
    have Hz0 := Lib.hid hz0
    have Hjk : Hid (j + n + 1 ≤ l.length + 1) := Lib.hid (by omega)
    have hQf := Lib.hid hQB
    have hgf := Lib.hid hge
    have Hy0 := Lib.hid hy0
    have hjb : j < 90001 := by omega
    have hy0b : y0 < 200000 := by omega
    clear hLl hDl e1 hjt hDd hz0 hQB hge hy1 ha0 ha1 hvt hvp la0 la1 htt hG0 hG0t hy0
    go_wp2_with fail
    go_quiet (fail)
    obtain ⟨bb, hb1, hb2, hb3⟩ : ∃ bb : Bool, decide ((4294967296 : Int) ≤ (G0 : Int)) = bb ∧ decide (4294967296 ≤ G0) = bb ∧ Hid (bb = true ↔ 4294967296 ≤ G0) := ⟨decide (4294967296 ≤ G0), by simp only [decide_eq_decide]; omega, rfl, Lib.hid (by simp)⟩
    go_upto_if 94 with fail
    go_cut [15] (fun s15 wx => ∃ G : Nat, s15 = .int .u64 (G : Int) ∧ DigitOk 4294967296 (val 4294967296 L) j D G ∧ wx = World.drewN wr nq)
    case first =>
     rcases bb with _ | _
     · have hGl : DigitOk 4294967296 (val 4294967296 L) j D G0 := ⟨(Nat.lt_or_ge G0 4294967296).elim id (fun h1 => absurd (hb3.out.2 h1) (by simp)), hgf.out⟩
       clear hb1 hb2 hb3 f0 f1 f1' f2 f3 f4 f5 f6 hgf
       go_wp2_with fail
       go_meet
       case rel => exact ⟨G0, rfl, hGl, rfl⟩
     · have hgg : DigitOk 4294967296 (val 4294967296 L) j D 4294967295 := ⟨by omega, by have := hQf.out; exact Nat.le_of_lt_succ this⟩
       clear hb1 hb2 hb3 f0 f1 f1' f2 f3 f4 f5 f6 hgf
       go_wp2_with fail
       go_meet
       case rel => exact ⟨4294967295, rfl, hgg, rfl⟩
    case rest =>
     obtain ⟨G, rfl, hGd, rfl⟩ := hcut
     clear hb1 hb2 hb3 hQf hgf f0 f1 f1' f2 f3 f4 f5 f6 r0 r1 d1 c1' b0 b1
     have hbu' := hbu.drewN nq
     have hbq' := hbq.drewN nq
     have hbw' := hbw.drewN nq
     have hRD' := hRD.drewN nq
     have hB' := below_drewN hB nq
     clear hbu hbq hbw hRD hB
     go_wp2_with fail
     go_loopw [15] (fun gv wr => ∃ (G : Nat) (Wl : List Nat), gv = .int .u64 (G : Int) ∧ DigitOk 4294967296 (val 4294967296 L) j D G ∧ Hid (Wl.length = n + 1) ∧ Blk wr W.heap.size L ∧ Blk wr w2.heap.size qs ∧ Blk wr (w2.heap.size + 1) Wl ∧ RN wr (In w1.heap.size w2.heap.size) (some ⟨w1.heap.size, 0, none⟩) n (digs 4294967296 D) ∧ Below w.heap.size w wr) (fun gv _ => (intOf gv).toNat)
     case atStart => exact ⟨G, Wl, rfl, hGd, HW, hbu', hbq', hbw', hRD', hB'⟩
     case round =>
      clear hGd HW hbu' hbq' hbw' hRD' hB'
      obtain ⟨G, Wl, rfl, hGd, HW, hbu, hbq, hbw, hRD, hB⟩ := hrel
      have hwW := Hsz.out
      have hless := less_any W.heap.size (w2.heap.size + 1) j n (l.length + 1) G _ _ _ L _ Wl wr hbu hbw hRD (by omega) (fun b hb => by have := hb.2; omega) hDL (Dig.digs D) HL.out HDn.out HW.out Hjk.out (by omega) hGd.1 Hz0.out
      rw [HDv.out] at hless
      have Hless := Lib.hid hless
      clear hwW hless
      go_wp2_with fail
      refine Hless.out.mono ?_
      rintro e w5 ⟨L5, W5, hbu5, hDL5, hl5, hbw5, hw5, htwo, ⟨rfl, hv5⟩ | ⟨rfl, rfl, hv5⟩⟩
      · have hlt5 := quo_rest (by omega) hD0 hGd.2 hv5
        have hjq : j < qs.length := by have := Hqs.out; have := Hjk.out; omega
        have hQ' := hQ.step hjq hv5 hlt5
        have hneq : w2.heap.size ≠ W.heap.size := by omega
        have hwW := Hsz.out
        have hbq5 : Blk w5 w2.heap.size qs := (htwo.block _ hneq (by omega)).trans hbq
        have hRD5 := hRD.two htwo (fun b hb => by have := hb.1; have := hb.2; omega)
        have hB5 := hB.trans (htwo.below (B := w.heap.size) (by omega) (by omega))
        have q3 := hbq5.cell hjq
        have q4 := hbq5.free j
        have hbq' := hbq5.set j G
        have hDq' := hDq.set j G hGd.1
        have hB' := hB5.setCell (p := ⟨w2.heap.size, j, none⟩) (by show w.heap.size ≤ w2.heap.size; omega) (.int .u64 (G : Int))
        have hRD' : RN (World.setCell w5 ⟨w2.heap.size, j, none⟩ (.int .u64 (G : Int))) (In w1.heap.size w2.heap.size) (some ⟨w1.heap.size, 0, none⟩) n (digs 4294967296 D) := hRD5.keep fun q hq => World.cell?_of_block (w := w5) (Below.heap_setCell _ _ _ q.block (by have := hq.2; show q.block ≠ w2.heap.size; omega))
        have hbu' := hbu5.other (p := ⟨w2.heap.size, j, none⟩) (by show W.heap.size ≠ w2.heap.size; omega) (.int .u64 (G : Int))
        have hbw' := hbw5.other (p := ⟨w2.heap.size, j, none⟩) (by show w2.heap.size + 1 ≠ w2.heap.size; omega) (.int .u64 (G : Int))
        have Hqs' : Hid ((qs.set j G).length = t) := Lib.hid (by simpa using Hqs.out)
        have k1 : j < t := by omega
        have Hs' := Lib.hid (Below1.start j)
        have HL5 := Lib.hid hl5
        have HW5 := Lib.hid hw5
        clear hQ hDq hB hRD hbu hbq hbw hbu5 hbq5 hbw5 hRD5 hB5 htwo hv5 hlt5 hl5 hw5 hneq hwW hjq Hless hGd
        go_wp2
        go_roundw
        case rel => exact ⟨j, _, L5, qs.set j G, W5, rfl, Hs'.out, by omega, hQ', HL5, Hqs', HW5, hDL5, hDq', hbu', hbq', hbw', hRD', hB'⟩
        case measure => simp [intOf]
      · have hpos := Nat.lt_of_le_of_lt (Nat.zero_le _) hv5
        obtain ⟨G, rfl⟩ : ∃ k, G = k + 1 := ⟨G - 1, by omega⟩
        have hGd' : DigitOk 4294967296 (val 4294967296 L5) j D G := ⟨by have := hGd.1; omega, Nat.le_of_lt_succ hv5⟩
        have hGi : IntKind.u64.wrap (G : Int) = (G : Int) := IntWalk.u64_in _ (by have := hGd'.1; omega)
        have hwW := Hsz.out
        have hbq5 : Blk w5 w2.heap.size qs := (htwo.block _ (by omega) (by omega)).trans hbq
        have hRD5 := hRD.two htwo (fun b hb => by have := hb.1; have := hb.2; omega)
        have hB5 := hB.trans (htwo.below (B := w.heap.size) (by omega) (by omega))
        have HW5 := Lib.hid hw5
        clear hQ hB hRD hbu hbq hbw htwo hv5 hl5 hw5 hwW Hless hGd hpos
        go_wp2
        go_roundw
        case rel => exact ⟨G, W5, by go_num, hGd', HW5, hbu5, hbq5, hbw5, hRD5, hB5⟩
        case measure => simp [intOf]
theorem refQuo_t (P P' : Nat → Prop) (A A' : Option Addr) (c c' : Nat) (x y : Nat) (w : World) (h : RN w P A c (digs 4294967296 x)) (h' : RN w P' A' c' (digs 4294967296 y)) (hP : ∀ b, P b → b < w.heap.size) (hP' : ∀ b, P' b → b < w.heap.size) (hl : (digs 4294967296 x).length < 90000) (h0 : 0 < y) :
 Calls Tryz.prog 195 #[.slice A (digs 4294967296 x).length c, .slice A' (digs 4294967296 y).length c'] w fun e w' => ∃ A1 c1 A2 c2, e = .returned (.tuple #[.slice A1 (digs 4294967296 (x / y)).length c1, .slice A2 (digs 4294967296 (x % y)).length c2]) ∧ OB w' w.heap.size A1 c1 (digs 4294967296 (x / y)) ∧ RN w' (fun b => b < w'.heap.size ∧ (P b ∨ Tu w' b)) A2 c2 (digs 4294967296 (x % y)) ∧ Below w.heap.size w w' := by
 have hpos : 0 < (digs 4294967296 y).length := by
  rw [digs_pos (by omega) h0]; simp
 by_cases hs : x < y ∨ (digs 4294967296 y).length = 1
 · exact refQuo_small3 P P' A A' c c' x y w h h' hP (by omega) h0 hs
 · exact refQuo_big3 P P' A A' c c' x y w h h' hP hP' hl (by omega) (by omega)
theorem refQuo_any (P P' : Nat → Prop) (A A' : Option Addr) (c c' : Nat) (x y : Nat) (w : World) (h : RN w P A c (digs 4294967296 x)) (h' : RN w P' A' c' (digs 4294967296 y)) (hP : ∀ b, P b → b < w.heap.size) (hP' : ∀ b, P' b → b < w.heap.size) (hl : (digs 4294967296 x).length < 90000) (h0 : 0 < y) :
 Calls Tryz.prog 195 #[.slice A (digs 4294967296 x).length c, .slice A' (digs 4294967296 y).length c'] w fun e w' => ∃ A1 c1 A2 c2, e = .returned (.tuple #[.slice A1 (digs 4294967296 (x / y)).length c1, .slice A2 (digs 4294967296 (x % y)).length c2]) ∧ OB w' w.heap.size A1 c1 (digs 4294967296 (x / y)) ∧ RN w' (fun b => b < w'.heap.size) A2 c2 (digs 4294967296 (x % y)) ∧ Below w.heap.size w w' :=
 (refQuo_t P P' A A' c c' x y w h h' hP hP' hl h0).mono fun _ _ ⟨A1, c1, A2, c2, he, hO, hR, hB⟩ => ⟨A1, c1, A2, c2, he, hO, RN.mono hR fun _ hb => hb.1, hB⟩
end Go.Proofs.YtendnkpiidhogaaGreat

namespace Go.Proofs.YtendnkpiidhogaaGreat
open Go.RowKit

theorem cmpV_zero {x y : Nat} (h : cmpV x y = 0) : x = y := by rcases cmpV_cases x y with h1 | h1 | h1 <;> omega
theorem dig32_mul {x y j k : Nat} (hx : (digs 4294967296 x).length ≤ j) (hy : (digs 4294967296 y).length ≤ k) : (digs 4294967296 (x * y)).length ≤ j + k := by
 have h1 := lt_pow_digs (B := 4294967296) (by omega) x
 have h2 := lt_pow_digs (B := 4294967296) (by omega) y
 have h3 : 4294967296 ^ (digs 4294967296 x).length ≤ 4294967296 ^ j := Nat.pow_le_pow_right (by omega) hx
 have h4 : 4294967296 ^ (digs 4294967296 y).length ≤ 4294967296 ^ k := Nat.pow_le_pow_right (by omega) hy
 refine digs_length_of_lt (by omega) ?_
 rw [Nat.pow_add]
 exact Nat.mul_lt_mul'' (by omega) (by omega)
def RT (w : World) (A : Option Addr) (c : Nat) (l : List Nat) : Prop := RN w (fun b => b < w.heap.size ∧ Tu w b) A c l
set_option maxRecDepth 100000 in
set_option maxHeartbeats 1000000 in
theorem refMod_t (A A' : Option Addr) (c c' x y : Nat) (w : World) (h : RT w A c (digs 4294967296 x)) (h' : RU w A' c' (digs 4294967296 y)) (hl : (digs 4294967296 x).length < 90000) (h0 : 0 < y) :
 Calls Tryz.prog 158 #[.slice A (digs 4294967296 x).length c, .slice A' (digs 4294967296 y).length c'] w fun e w' => ∃ A1 c1, e = .returned (.slice A1 (digs 4294967296 (x % y)).length c1) ∧ RT w' A1 c1 (digs 4294967296 (x % y)) ∧ Below w.heap.size w w' := by
 have hq := Lib.hid (refQuo_t _ _ A A' c c' x y w h h' (fun _ hb => hb.1) (fun _ hb => hb) hl h0)
 go_enter Tryz.func158, Tryz.ntmps158
 go_wp2_with fail
 refine hq.out.mono ?_
 rintro e w1 ⟨A1, c1, A2, c2, rfl, hO, hR, hB⟩
 go_wp2
 go_ret
 exact ⟨A2, c2, rfl, RN.mono hR fun b hb => ⟨hb.1, hb.2.elim (fun g => ⟨g.2.choose, (hB.block b g.1).trans g.2.choose_spec⟩) id⟩, hB⟩
set_option maxRecDepth 100000 in
set_option maxHeartbeats 1000000 in
theorem refMod_any (A A' : Option Addr) (c c' x y : Nat) (w : World) (h : RU w A c (digs 4294967296 x)) (h' : RU w A' c' (digs 4294967296 y)) (hl : (digs 4294967296 x).length < 90000) (h0 : 0 < y) :
 Calls Tryz.prog 158 #[.slice A (digs 4294967296 x).length c, .slice A' (digs 4294967296 y).length c'] w fun e w' => ∃ A1 c1, e = .returned (.slice A1 (digs 4294967296 (x % y)).length c1) ∧ RU w' A1 c1 (digs 4294967296 (x % y)) ∧ Below w.heap.size w w' := by
 have hq := Lib.hid (refQuo_any _ _ A A' c c' x y w h h' (fun _ hb => hb) (fun _ hb => hb) hl h0)
 go_enter Tryz.func158, Tryz.ntmps158
 go_wp2_with fail
 refine hq.out.mono ?_
 rintro e w1 ⟨A1, c1, A2, c2, rfl, hO, hR, hB⟩
 go_wp2
 go_ret
 exact ⟨A2, c2, rfl, hR, hB⟩

set_option maxRecDepth 100000 in
set_option maxHeartbeats 1000000 in
theorem refMulMod_any (A A' Am : Option Addr) (c c' cm x y m : Nat) (w : World) (h : RU w A c (digs 4294967296 x)) (h' : RU w A' c' (digs 4294967296 y)) (hm : RU w Am cm (digs 4294967296 m)) (hl : (digs 4294967296 x).length < 40000) (hl' : (digs 4294967296 y).length < 40000) (h0 : 0 < m) :
 Calls Tryz.prog 220 #[.slice A (digs 4294967296 x).length c, .slice A' (digs 4294967296 y).length c', .slice Am (digs 4294967296 m).length cm] w fun e w' => ∃ A1 c1, e = .returned (.slice A1 (digs 4294967296 (x * y % m)).length c1) ∧ RU w' A1 c1 (digs 4294967296 (x * y % m)) ∧ Below w.heap.size w w' := by
 have hq := Lib.hid (refMul_any _ _ A A' c c' x y w h h' (fun _ hb => hb) (fun _ hb => hb) (by omega) (by omega))
 go_enter Tryz.func220, Tryz.ntmps220
 go_wp2_with fail
 refine hq.out.mono ?_
 rintro e w1 ⟨A1, c1, rfl, hO, hB⟩
 have hr := Lib.hid (refMod_any A1 Am c1 cm (x * y) m w1 hO.ru (hm.up hB) (by have := dig32_mul (Nat.le_refl (digs 4294967296 x).length) (Nat.le_refl (digs 4294967296 y).length); omega) h0)
 go_wp2_with fail
 refine hr.out.mono ?_
 rintro e w2 ⟨A2, c2, rfl, hR, hB2⟩
 go_wp2
 go_ret
 exact ⟨A2, c2, rfl, hR, hB.trans (hB2.mono hB.size)⟩
end Go.Proofs.YtendnkpiidhogaaGreat

namespace Go.Proofs.YtendnkpiidhogaaGreat
open Go.RowKit

def RNN (w : World) (P : Nat → Prop) (A : Option Addr) (c : Nat) (ls : List (List Nat)) (cs : List Value) : Prop :=
 RS w P 1 A ls.length c cs ∧ ls.length ≤ 1000 ∧ ∀ (j : Nat) l, ls[j]? = some l → ∃ A' c', cs[j]? = some (.slice A' l.length c') ∧ RN w P A' c' l

end Go.Proofs.YtendnkpiidhogaaGreat

namespace Go.Proofs.YtendnkpiidhogaaGreat

def NewtAt (m : Int) (r : Nat) (y : Int) : Prop := ∃ t, m * y = 1 + 2 ^ (2 ^ r) * t
theorem NewtAt.zero {m : Int} (h : m % 2 = 1) : NewtAt m 0 1 := ⟨(m - 1) / 2, by omega⟩
theorem NewtAt.step {m y : Int} {r : Nat} (h : NewtAt m r y) (hr : r < 6) : NewtAt m (r + 1) (y * ((2 - m * y % 18446744073709551616) % 18446744073709551616) % 18446744073709551616) := by
 obtain ⟨t, ht⟩ := h
 obtain ⟨z, hz⟩ := newton_wrap (m := m) (y := y)
 have hj : ∃ j, 2 ^ r + 2 ^ r + j = 64 := by
  have : r = 0 ∨ r = 1 ∨ r = 2 ∨ r = 3 ∨ r = 4 ∨ r = 5 := by omega
  rcases this with rfl | rfl | rfl | rfl | rfl | rfl
  · exact ⟨62, rfl⟩
  · exact ⟨60, rfl⟩
  · exact ⟨56, rfl⟩
  · exact ⟨48, rfl⟩
  · exact ⟨32, rfl⟩
  · exact ⟨0, rfl⟩
 obtain ⟨j, hj⟩ := hj
 obtain ⟨s, hs⟩ := newton (z := z) ht hz hj
 exact ⟨s, by rw [Nat.pow_succ, Nat.mul_two]; exact hs⟩
theorem NewtAt.fin {m : Int} {y : Int} (h : NewtAt m 6 y) : ∃ t, m * y = 1 + 18446744073709551616 * t := by
 obtain ⟨t, ht⟩ := h
 exact ⟨t, ht⟩
end Go.Proofs.YtendnkpiidhogaaGreat

namespace Go.Proofs.YtendnkpiidhogaaGreat
open Go.RowKit

theorem RNN.two {w : World} {P P' : Nat → Prop} {A A' : Option Addr} {c c' : Nat} {a b : List Nat} (h : RN w P A c a) (h' : RN w P' A' c' b) (hP : ∀ b, P b → b < w.heap.size) (hP' : ∀ b, P' b → b < w.heap.size) :
 RNN (w.alloc (.cells #[.slice A a.length c, .slice A' b.length c'] 106)) (fun _ => True) (some ⟨w.heap.size, 0, none⟩) 2 [a, b] [.slice A a.length c, .slice A' b.length c'] := by
 have hB : Below w.heap.size w (w.alloc (.cells #[.slice A a.length c, .slice A' b.length c'] 106)) := (Below.refl _ w).alloc (Nat.le_refl _) _
 refine ⟨RS.fresh (w := w) (P := fun _ => True) #[.slice A a.length c, .slice A' b.length c'] 106 1 2 rfl (by unfold maxLen; omega) trivial, by simp, fun j l hl => ?_⟩
 match j, hl with
 | 0, hl => simp at hl; subst hl; exact ⟨A, c, rfl, (h.below hB hP).mono fun _ _ => trivial⟩
 | 1, hl => simp at hl; subst hl; exact ⟨A', c', rfl, (h'.below hB hP').mono fun _ _ => trivial⟩
 | j + 2, hl => simp at hl

end Go.Proofs.YtendnkpiidhogaaGreat

namespace Go.Proofs.YtendnkpiidhogaaGreat
open Go.RowKit

theorem dg_last_pos32 {x : Nat} (hx : 0 < x) : 0 < dg (digs 4294967296 x) ((digs 4294967296 x).length - 1) := by
 have hne : digs 4294967296 x ≠ [] := by rw [digs_pos (by omega) hx]; simp
 have h := digs_last (B := 4294967296) (by omega) x hne
 have hpos := List.length_pos_iff.2 hne
 rw [List.getLast_eq_getElem] at h
 rw [dg, getD_eq' (by omega)]
 omega
theorem half_step (t k : Nat) : t / 2 ^ k / 2 = t / 2 ^ (k + 1) := by rw [Nat.div_div_eq_div_mul, Nat.pow_succ]

set_option maxRecDepth 100000 in
set_option maxHeartbeats 1000000 in
theorem refBits_any (P : Nat → Prop) (A : Option Addr) (c : Nat) (x : Nat) (w : World) (h : RN w P A c (digs 4294967296 x)) :
 Calls Tryz.prog 118 #[.slice A (digs 4294967296 x).length c] w fun e w' => e = .returned (.int .i64 (nbits x : Int)) ∧ w = w' := by
 rcases Nat.eq_zero_or_pos x with rfl | hx
 · rw [digs_zero]
   go_enter Tryz.func118, Tryz.ntmps118
   go_wp2
   go_ret
   exact ⟨rfl, rfl⟩
 · have htop := fun k hk h1 h2 => nbits_top (m := 32) (by omega) hx (k := k) hk h1 h2
   have hpos := dg_last_pos32 hx
   have hD := Dig.digs x
   obtain ⟨h1, h2, h3⟩ := h.cap
   have hne : 0 < (digs 4294967296 x).length := by rw [digs_pos (by omega) hx]; simp
   rw [show (2 : Nat) ^ 32 = 4294967296 by decide] at htop
   generalize digs 4294967296 x = l at *
   obtain ⟨n, hn⟩ : ∃ n, l.length = n + 1 := ⟨l.length - 1, by omega⟩
   obtain ⟨ad, rfl, _, q1⟩ := h.at_ (i := n) (by omega)
   rw [hn, Nat.add_sub_cancel] at htop hpos
   have hl := hD.dgLt n
   generalize dg l n = t at *
   rw [hn] at h1 h3 ⊢
   have Htop := Lib.hid htop
   have Hpos := Lib.hid hpos
   clear htop hpos hx hn hne h hD
   have Hl := Lib.hid hl
   clear hl
   go_enter Tryz.func118, Tryz.ntmps118
   go_wp2
   go_loop [4, 5] (fun kv tv => ∃ k z : Nat, kv = .int .i64 (k : Int) ∧ tv = .int .u64 (z : Int) ∧ Hid (z = t / 2 ^ k) ∧ Hid (z < 4294967296) ∧ k ≤ 32 ∧ (k = 0 ∨ 2 ^ (k - 1) ≤ t)) (fun kv _ => (33 - intOf kv).toNat)
   case atStart => exact ⟨0, t, rfl, rfl, Lib.hid (by simp), Hl, by omega, .inl rfl⟩
   case round =>
    obtain ⟨k, z, rfl, rfl, hz, hzl, hk, hor⟩ := hrel
    have Hor := Lib.hid hor
    clear hor
    by_cases h0 : z = 0
    · have hfin : nbits x = 32 * n + k := by
       have e := hz.out
       rw [h0] at e
       have hlt : t < 2 ^ k := by
        rcases Nat.lt_or_ge t (2 ^ k) with h | h
        · exact h
        · have := Nat.div_pos h (Nat.pow_pos (by omega)); omega
       have hk0 : 0 < k := by
        rcases Nat.eq_zero_or_pos k with rfl | h
        · have := Hpos.out; simp at hlt; omega
        · exact h
       rcases Hor.out with h | h
       · omega
       · exact Htop.out k hk0 h hlt
      have Hfin := Lib.hid hfin
      subst h0
      clear hfin
      go_wp2
      go_ret
      exact ⟨ret_int (by rw [Hfin.out]; simp), rfl⟩
    · have hk' : k < 32 := by
       rcases Nat.lt_or_ge k 32 with h | h
       · exact h
       · exfalso
         apply h0
         rw [hz.out]
         exact Nat.div_eq_of_lt (Nat.lt_of_lt_of_le Hl.out (by rw [show (4294967296 : Nat) = 2 ^ 32 by decide]; exact Nat.pow_le_pow_right (by omega) h))
      have hge : 2 ^ k ≤ t := by
       rcases Nat.lt_or_ge t (2 ^ k) with h | h
       · exfalso; apply h0; rw [hz.out]; exact Nat.div_eq_of_lt h
       · exact h
      have Hge := Lib.hid hge
      obtain ⟨z', hz', e1⟩ : ∃ z' : Nat, z / 2 = z' ∧ (z : Int) / 2 = (z' : Int) := ⟨z / 2, rfl, by omega⟩
      have hzz : Hid (z' = t / 2 ^ (k + 1)) := Lib.hid (by rw [← hz', hz.out, half_step])
      have hzl' : Hid (z' < 4294967296) := Lib.hid (by have := hzl.out; omega)
      have p1 : (0 : Int) < (z : Int) := by omega
      clear hge hz' h0
      go_wp2
      go_round
      case rel => exact ⟨k + 1, z', by go_num, by first | rfl | exact congrArg (Value.int .u64) (IntWalk.u64_in _ (by have := hzl'.out; omega)), hzz, hzl', by omega, .inr (by rw [Nat.add_sub_cancel]; exact Hge.out)⟩
      case measure => simp [intOf]; omega

theorem tmod2 (d j : Nat) : ((d : Int) / 2 ^ j).tmod 2 = ((d / 2 ^ j % 2 : Nat) : Int) := by
 rw [show (d : Int) / 2 ^ j = ((d / 2 ^ j : Nat) : Int) by simp]
 generalize d / 2 ^ j = z
 rw [Int.tmod_eq_emod_of_nonneg (by omega)]
 omega
theorem mod2 (d j : Nat) : IntKind.u64.wrap ((d : Int) / 2 ^ j % 2) = ((d / 2 ^ j % 2 : Nat) : Int) := by
 rw [show (d : Int) / 2 ^ j % 2 = ((d / 2 ^ j % 2 : Nat) : Int) by simp]
 generalize d / 2 ^ j = z
 exact IntWalk.u64_in _ (by omega)

set_option maxRecDepth 100000 in
set_option maxHeartbeats 1000000 in
theorem refBit_any (P : Nat → Prop) (A : Option Addr) (c : Nat) (x : Nat) (i : Int) (w : World) (h : RN w P A c (digs 4294967296 x)) (hi : i ≤ 9223372036854775807) :
 Calls Tryz.prog 119 #[.slice A (digs 4294967296 x).length c, .int .i64 i] w fun e w' => e = .returned (.int .u64 (bitOf x i : Int)) ∧ w = w' := by
 obtain ⟨h1, h2, h3⟩ := h.cap
 have hv := val_digs (B := 4294967296) (by omega) x
 have hD := Dig.digs x
 generalize digs 4294967296 x = a at *
 by_cases h0 : i < 0
 · have hb := Lib.hid (show bitOf x i = 0 by simp [bitOf, h0])
   go_enter Tryz.func119, Tryz.ntmps119
   go_wp2
   go_ret
   rw [hb.out]
   exact ⟨rfl, rfl⟩
 · obtain ⟨n, rfl⟩ : ∃ n : Nat, i = (n : Int) := ⟨i.toNat, by omega⟩
   obtain ⟨k, j, hj, hn⟩ : ∃ k j, j < 32 ∧ n = 32 * k + j := ⟨n / 32, n % 32, by omega, by omega⟩
   have hb : bitOf x (n : Int) = dg a k / 2 ^ j % 2 := by
    have := val_bit (m := 32) a hD k j hj
    rw [show (2 : Nat) ^ 32 = 4294967296 by decide, hv] at this
    rw [bitOf, if_neg h0, Int.toNat_natCast, hn]
    exact this
   have e1 : (n : Int) / 32 = (k : Int) := by omega
   have e2 : (n : Int) % 32 = (j : Int) := by omega
   have e4 : IntKind.i64.wrap ((n : Int) / 32) = (k : Int) := by rw [e1]; exact IntWalk.i64_in _ (by omega)
   by_cases hk : k < a.length
   · obtain ⟨ad, rfl, _, q1⟩ := h.at_ hk
     have hd := h.2.dgLt k
     have e3 := mod2 (dg a k) j
     have hj' : (j : Int) < 32 := by omega
     have hk' : (k : Int) < (a.length : Int) := by omega
     have Hb := Lib.hid hb
     clear hb hn hd h hi hD
     go_enter Tryz.func119, Tryz.ntmps119
     go_wp2
     go_ret
     exact ⟨ret_int (by rw [Hb.out]; exact tmod2 _ _), rfl⟩
   · have hd : dg a k = 0 := dg_none (by omega)
     rw [hd, Nat.zero_div] at hb
     have Hb := Lib.hid hb
     have hk' : ¬ (k : Int) < (a.length : Int) := by omega
     have hk2 : (a.length : Int) ≤ (k : Int) := by omega
     have hkb : (k : Int) ≤ 288230376151711743 := by omega
     clear hb hn hd h hi hD
     go_enter Tryz.func119, Tryz.ntmps119
     go_wp2
     go_ret
     rw [Hb.out]
     exact ⟨rfl, rfl⟩

def BackAt (x n : Nat) (o : List Nat) (k : Nat) : Prop := o.length = n ∧ (∀ j, j < n → n - 1 - j < k → dg o j = x / 2 ^ (8 * (n - 1 - j)) % 256) ∧ (∀ j, k ≤ n - 1 - j → dg o j = 0) ∧ ∀ b ∈ o, b < 256
theorem BackAt.zero (x n : Nat) : BackAt x n (List.replicate n 0) 0 := by
 refine ⟨by simp, fun j _ hj => by omega, fun j _ => ?_, fun b hb => by simp at hb; omega⟩
 rw [dg, List.getD_eq_getElem?_getD, List.getElem?_replicate]
 split <;> rfl
theorem BackAt.step {x n : Nat} {o : List Nat} {k b : Nat} (h : BackAt x n o k) (hk : k < n) (hb : x / 2 ^ (8 * k) % 256 = b) : BackAt x n (o.set (n - 1 - k) b) (k + 1) := by
 obtain ⟨h1, h2, h3, h4⟩ := h
 refine ⟨by simpa using h1, fun j hjn hj => ?_, fun j hj => by rw [getD_set_ne (by omega)]; exact h3 j (by omega), set_lt h4 (by omega)⟩
 rcases Nat.lt_or_ge (n - 1 - j) k with h | h
 · rw [getD_set_ne (by omega)]; exact h2 j hjn h
 · obtain rfl : j = n - 1 - k := by omega
   rw [getD_set_eq (by omega), show n - 1 - (n - 1 - k) = k by omega]; exact hb.symm
theorem BackAt.fin {x n : Nat} {o : List Nat} {k : Nat} (h : BackAt x n o k) (hk : ∀ j, k ≤ j → j < n → x / 2 ^ (8 * j) % 256 = 0) : o = bytesOf x n := by
 obtain ⟨h1, h2, h3, _⟩ := h
 apply List.ext_getElem (by rw [h1, bytesOf_length])
 intro i h4 h5
 have e : dg o i = x / 2 ^ (8 * (n - 1 - i)) % 256 := by
  rcases Nat.lt_or_ge (n - 1 - i) k with h | h
  · exact h2 i (by omega) h
  · rw [h3 i h, hk _ h (by omega)]
 rw [dg, getD_eq' h4] at e
 rw [e]
 simp [bytesOf]

end Go.Proofs.YtendnkpiidhogaaGreat

namespace Go.Proofs.YtendnkpiidhogaaGreat
open Go.RowKit

structure ZM (w : World) (P : Nat → Prop) (g M inv : Nat) (Am Ao Ar : Option Addr) (cm co cr : Nat) (ol rl : List Nat) : Prop where
 blk : w.heap[g]? = some (.cells #[.slice Am (digs 18446744073709551616 M).length cm, .int .u64 (inv : Int), .slice Ao ol.length co, .slice Ar rl.length cr] 253 (0, 0))
 m : RN w P Am cm (digs 18446744073709551616 M)
 one : RN w P Ao co ol
 rr : RN w P Ar cr rl
 oneLen : ol.length = (digs 18446744073709551616 M).length
 rrLen : rl.length = (digs 18446744073709551616 M).length
 oneV : val 18446744073709551616 ol = RM M % M
 rrV : val 18446744073709551616 rl = RM M * RM M % M
 invLt : inv < 18446744073709551616
 invV : (inv * M + 1) % 18446744073709551616 = 0
 big : 1 < M
 small : (digs 18446744073709551616 M).length ≤ 100000
theorem ZM.below {w w' : World} {P : Nat → Prop} {g M inv : Nat} {Am Ao Ar : Option Addr} {cm co cr B : Nat} {ol rl : List Nat} (h : ZM w P g M inv Am Ao Ar cm co cr ol rl) (hb : Below B w w') (hP : ∀ b, P b → b < B) (hg : g < B) : ZM w' P g M inv Am Ao Ar cm co cr ol rl :=
 ⟨(hb.block g hg).trans h.blk, h.m.below hb hP, h.one.below hb hP, h.rr.below hb hP, h.oneLen, h.rrLen, h.oneV, h.rrV, h.invLt, h.invV, h.big, h.small⟩

end Go.Proofs.YtendnkpiidhogaaGreat

namespace Go.Proofs.YtendnkpiidhogaaGreat
open Go.RowKit

def strB (bs : List Nat) : ByteArray := strOfNums (bs.map fun b : Nat => (b : Int))
theorem strB_inj {a b : List Nat} (ha : ∀ x ∈ a, x < 256) (hb : ∀ x ∈ b, x < 256) (h : (strB a).toList = (strB b).toList) : a = b := by
 have e : ∀ l : List Nat, (∀ x ∈ l, x < 256) → (strB l).toList.map UInt8.toNat = l := by
  intro l hl
  rw [strB, Lib.strOfNums_toList, Lib.bytesOf]
  simp only [List.map_map]
  conv => rhs; rw [← List.map_id l]
  apply List.map_congr_left
  intro x hx
  have := hl x hx
  simp
  omega
 rw [← e a ha, ← e b hb, h]

section
variable {w : World} {Q : Nat → Prop} {A : Option Addr} {c : Nat} {bs : List Nat}
end

end Go.Proofs.YtendnkpiidhogaaGreat

namespace Go.Proofs.YtendnkpiidhogaaGreat
open Go.RowKit Go.Shelf

attribute [local go_sem] Oper.semAt_some

def Stay (lo hi : Nat) (W W' : World) : Prop := W.heap.size ≤ W'.heap.size ∧ ∀ k, lo ≤ k → k < hi → W'.heap[k]? = W.heap[k]?
theorem Stay.trans {lo hi : Nat} {a b c : World} (h : Stay lo hi a b) (k : Stay lo hi b c) : Stay lo hi a c := ⟨Nat.le_trans h.1 k.1, fun i h1 h2 => (k.2 i h1 h2).trans (h.2 i h1 h2)⟩
theorem Stay.refl (lo hi : Nat) (w : World) : Stay lo hi w w := ⟨Nat.le_refl _, fun _ _ _ => rfl⟩

end Go.Proofs.YtendnkpiidhogaaGreat

namespace Go.Proofs.YtendnkpiidhogaaGreat
open Go.RowKit Go.Shelf

attribute [local go_sem] Oper.semAt_some

theorem OB.same {w w' : World} {base : Nat} {A : Option Addr} {c : Nat} {l : List Nat} (h : OB w base A c l) (hs : ∀ (b : Nat) (o : Obj), w.heap[b]? = some o → o.isCells = true → w'.heap[b]? = some o) : OB w' base A c l := by
 obtain ⟨h1, h2, h3, h4⟩ := h
 refine ⟨h1, h2, h3, fun hn => ?_⟩
 obtain ⟨g, cur, e, hg, hh, hc⟩ := h4 hn
 exact ⟨g, cur, e, hg, hs g _ hh rfl, hc⟩
theorem OB.put {w : World} {base q : Nat} {A : Option Addr} {c : Nat} {l : List Nat} {cs : Array Value} (h : OB w base A c l) (hq : w.heap[q]? = some (.cells cs 89 (0, 0))) (v : Value) : OB (w.setCell ⟨q, 0, none⟩ v) base A c l := by
 obtain ⟨h1, h2, h3, h4⟩ := h
 refine ⟨h1, h2, h3, fun hn => ?_⟩
 obtain ⟨g, cur, e, hg, hh, hc⟩ := h4 hn
 refine ⟨g, cur, e, hg, (Below.heap_setCell _ _ _ _ (show g ≠ q from fun e' => ?_)).trans hh, hc⟩
 subst e'
 rw [hh] at hq
 injection hq with hq
 injection hq with h1 h2
 exact absurd h2 (by decide)
end Go.Proofs.YtendnkpiidhogaaGreat

namespace Go.Proofs.YtendnkpiidhogaaGreat
open Go.RowKit

theorem RNN.three {w : World} {P P' P'' : Nat → Prop} {A A' A'' : Option Addr} {c c' c'' : Nat} {a b d : List Nat} (h : RN w P A c a) (h' : RN w P' A' c' b) (h'' : RN w P'' A'' c'' d) (hP : ∀ b, P b → b < w.heap.size) (hP' : ∀ b, P' b → b < w.heap.size) (hP'' : ∀ b, P'' b → b < w.heap.size) :
 RNN (w.alloc (.cells #[.slice A a.length c, .slice A' b.length c', .slice A'' d.length c''] 106)) (fun _ => True) (some ⟨w.heap.size, 0, none⟩) 3 [a, b, d] [.slice A a.length c, .slice A' b.length c', .slice A'' d.length c''] := by
 have hB : Below w.heap.size w (w.alloc (.cells #[.slice A a.length c, .slice A' b.length c', .slice A'' d.length c''] 106)) := (Below.refl _ w).alloc (Nat.le_refl _) _
 refine ⟨RS.fresh (w := w) (P := fun _ => True) #[.slice A a.length c, .slice A' b.length c', .slice A'' d.length c''] 106 1 3 rfl (by unfold maxLen; omega) trivial, by simp, fun j l hl => ?_⟩
 match j, hl with
 | 0, hl => simp at hl; subst hl; exact ⟨A, c, rfl, (h.below hB hP).mono fun _ _ => trivial⟩
 | 1, hl => simp at hl; subst hl; exact ⟨A', c', rfl, (h'.below hB hP').mono fun _ _ => trivial⟩
 | 2, hl => simp at hl; subst hl; exact ⟨A'', c'', rfl, (h''.below hB hP'').mono fun _ _ => trivial⟩
 | j + 3, hl => simp at hl
end Go.Proofs.YtendnkpiidhogaaGreat

namespace Go.Proofs.YtendnkpiidhogaaGreat
open Go.RowKit

theorem RNN.one {w : World} {P : Nat → Prop} {A : Option Addr} {c : Nat} {a : List Nat} (h : RN w P A c a) (hP : ∀ b, P b → b < w.heap.size) :
 RNN (w.alloc (.cells #[.slice A a.length c] 106)) (fun _ => True) (some ⟨w.heap.size, 0, none⟩) 1 [a] [.slice A a.length c] := by
 have hB : Below w.heap.size w (w.alloc (.cells #[.slice A a.length c] 106)) := (Below.refl _ w).alloc (Nat.le_refl _) _
 refine ⟨RS.fresh (w := w) (P := fun _ => True) #[.slice A a.length c] 106 1 1 rfl (by unfold maxLen; omega) trivial, by simp, fun j l hl => ?_⟩
 match j, hl with
 | 0, hl => simp at hl; subst hl; exact ⟨A, c, rfl, (h.below hB hP).mono fun _ _ => trivial⟩
 | j + 1, hl => simp at hl

theorem bitOf_zero (N : Nat) : bitOf N 0 = N % 2 := by simp [bitOf]
end Go.Proofs.YtendnkpiidhogaaGreat

namespace Go.Proofs.YtendnkpiidhogaaGreat

def twosF : Nat → Nat → Nat
 | 0, _ => 0
 | f + 1, x => if x % 2 = 0 then twosF f (x / 2) + 1 else 0
def twos (x : Nat) : Nat := twosF x x
theorem twosF_low : ∀ (f x k : Nat), k < twosF f x → x / 2 ^ k % 2 = 0
  | 0, _, _, h => by simp [twosF] at h
  | f + 1, x, k, h => by
    by_cases h0 : x % 2 = 0
    · simp only [twosF, h0, if_true] at h
      match k, h with
      | 0, _ => simpa using h0
      | k + 1, h =>
        have := twosF_low f (x / 2) k (by omega)
        rwa [Nat.div_div_eq_div_mul, ← Nat.pow_succ', ] at this
    · simp [twosF, h0] at h
theorem twosF_top : ∀ (f x : Nat), 0 < x → x ≤ f → x / 2 ^ twosF f x % 2 = 1
  | 0, _, h, h' => by omega
  | f + 1, x, h, h' => by
    by_cases h0 : x % 2 = 0
    · simp only [twosF, h0, if_true]
      have := twosF_top f (x / 2) (by omega) (by omega)
      rwa [Nat.div_div_eq_div_mul, ← Nat.pow_succ'] at this
    · simp only [twosF, h0, if_false, Nat.pow_zero, Nat.div_one]
      omega
theorem twos_low {x k : Nat} (h : k < twos x) : x / 2 ^ k % 2 = 0 := twosF_low x x k h
theorem twos_top {x : Nat} (h : 0 < x) : x / 2 ^ twos x % 2 = 1 := twosF_top x x h (Nat.le_refl _)
theorem twos_pow {x : Nat} (h : 0 < x) : 2 ^ twos x ≤ x := by
 have h1 := twos_top h
 rcases Nat.lt_or_ge x (2 ^ twos x) with h2 | h2
 · rw [Nat.div_eq_of_lt h2] at h1; omega
 · exact h2
theorem twos_even {x : Nat} (h0 : 0 < x) (h : x % 2 = 0) : 0 < twos x := by
 rcases Nat.eq_zero_or_pos (twos x) with h1 | h1
 · have := twos_top h0; rw [h1] at this; simp at this; omega
 · exact h1

def lookAt (N W k : Nat) : Nat := (W % N) ^ ((N - 1) / 2 ^ twos (N - 1) * 2 ^ k) % N
def lookYes (N W k : Nat) : Bool := decide (lookAt N W k = N - 1) || (decide (k = 0) && decide (lookAt N W k = 1))
def strongB (N W : Nat) : Bool :=
 if N % 2 = 0 ∨ N < 2 then decide (N = 2) else if 4096 < nbits N then false else if W % N = 0 then true else (List.range (twos (N - 1))).any (lookYes N W)
theorem lookAt_succ (N W k : Nat) : lookAt N W (k + 1) = lookAt N W k * lookAt N W k % N := by
 unfold lookAt
 rw [← Nat.mul_mod, ← Nat.pow_add, Nat.pow_succ, ← Nat.mul_assoc]
 congr 2
 omega
theorem any_range_step (f : Nat → Bool) {n k : Nat} (h : k < n) : (List.range' k (n - k)).any f = (f k || (List.range' (k + 1) (n - (k + 1))).any f) := by
 rw [show n - k = (n - (k + 1)) + 1 by omega, List.range'_succ, List.any_cons]
theorem any_range (f : Nat → Bool) (n : Nat) : (List.range n).any f = (List.range' 0 (n - 0)).any f := by
 rw [List.range_eq_range', Nat.sub_zero]
theorem any_range_end (f : Nat → Bool) (n : Nat) : (List.range' n (n - n)).any f = false := by simp
theorem strong_even {N : Nat} (W : Nat) (h : N % 2 = 0 ∨ N < 2) : strongB N W = decide (N = 2) := by simp only [strongB, h, if_true]
theorem strong_odd {N W : Nat} (h : N % 2 = 1) (h1 : 1 < N) (h2 : nbits N ≤ 4096) : strongB N W = if W % N = 0 then true else (List.range (twos (N - 1))).any (lookYes N W) := by
 simp only [strongB, show ¬ (N % 2 = 0 ∨ N < 2) by omega, show ¬ 4096 < nbits N by omega, if_false]
theorem pow_bound {a b x : Nat} (h : 2 ^ a ≤ x) (h' : x < 2 ^ b) : a ≤ b := by
 rcases Nat.lt_or_ge b a with h5 | h5
 · have : 2 ^ b ≤ 2 ^ a := Nat.pow_le_pow_right (by omega) (by omega)
   omega
 · exact h5
theorem twos_nbits {N K : Nat} (h : 1 < N) (h2 : nbits N ≤ K) : twos (N - 1) ≤ K :=
 pow_bound (twos_pow (x := N - 1) (by omega)) (Nat.lt_of_le_of_lt (Nat.sub_le N 1) (lt_of_nbits h2))
theorem twos_le {N : Nat} (h : 1 < N) (h2 : nbits N ≤ 4096) : twos (N - 1) ≤ 4096 := twos_nbits h h2
end Go.Proofs.YtendnkpiidhogaaGreat

namespace Go.Proofs.YtendnkpiidhogaaGreat
open Go.RowKit

section
variable {w : World} {P : Nat → Prop} {g M inv : Nat} {Am Ao Ar : Option Addr} {cm co cr : Nat} {ol rl : List Nat}
end

end Go.Proofs.YtendnkpiidhogaaGreat

namespace Go.Proofs.YtendnkpiidhogaaGreat
open Go.RowKit

set_option maxRecDepth 100000 in
set_option maxHeartbeats 1000000 in
theorem refOdd_any (A : Option Addr) (c x : Nat) (w : World) (h : RU w A c (digs 4294967296 x)) :
 Calls Tryz.prog 193 #[.slice A (digs 4294967296 x).length c] w fun e w' => e = .returned (.bool (decide (x % 2 = 1))) ∧ w = w' := by
 have hb := refBit_any _ A c x 0 w h (by omega)
 rw [bitOf_zero] at hb
 have hlt := Nat.mod_lt x (show 0 < 2 by omega)
 generalize x % 2 = y at *
 have Hb := Lib.hid hb
 have he : ((y : Int) == 1) = decide (y = 1) := by
  rw [Bool.eq_iff_iff]; simp; omega
 clear hb
 go_enter Tryz.func193, Tryz.ntmps193
 go_wp2_with fail
 refine Hb.out.mono ?_
 rintro e w1 ⟨rfl, rfl⟩
 go_wp2
 go_ret
 exact ⟨by simp, rfl⟩

theorem pow_half {X E j M v : Nat} (hv : X ^ (E / 2 ^ (j + 1)) % M = v) (hb : E / 2 ^ j % 2 = 0) : X ^ (E / 2 ^ j) % M = v * v % M := by
 have e : E / 2 ^ j = E / 2 ^ (j + 1) + E / 2 ^ (j + 1) := by
  rw [Nat.pow_succ, ← Nat.div_div_eq_div_mul]; omega
 rw [← hv, ← Nat.mul_mod, ← Nat.pow_add, ← e]
theorem pow_half1 {X E j M v : Nat} (hv : X ^ (E / 2 ^ (j + 1)) % M = v) (hb : E / 2 ^ j % 2 = 1) : X ^ (E / 2 ^ j) % M = v * v % M * (X % M) % M := by
 have e : E / 2 ^ j = E / 2 ^ (j + 1) + E / 2 ^ (j + 1) + 1 := by
  rw [Nat.pow_succ, ← Nat.div_div_eq_div_mul]; omega
 rw [← hv, e, Nat.pow_succ, Nat.pow_add, Nat.mul_mod, Nat.mul_mod (X ^ (E / 2 ^ (j + 1))) (X ^ (E / 2 ^ (j + 1)))]

set_option maxRecDepth 100000 in
set_option maxHeartbeats 2000000 in
theorem refExp_any (A Ae Am : Option Addr) (c ce cm X E M : Nat) (w : World) (h : RU w A c (digs 4294967296 X)) (he : RU w Ae ce (digs 4294967296 E)) (hm : RU w Am cm (digs 4294967296 M)) (hl : (digs 4294967296 X).length < 40000) (hlM : (digs 4294967296 M).length < 40000) (h0 : 0 < M) (hn : nbits E ≤ 1000000) :
 Calls Tryz.prog 223 #[.slice A (digs 4294967296 X).length c, .slice Ae (digs 4294967296 E).length ce, .slice Am (digs 4294967296 M).length cm] w fun e w' => ∃ A1 c1, e = .returned (.slice A1 (digs 4294967296 (X ^ E % M)).length c1) ∧ RU w' A1 c1 (digs 4294967296 (X ^ E % M)) ∧ Below w.heap.size w w' := by
 have HlM := Lib.hid hlM
 obtain ⟨nb, hnb⟩ : ∃ nb, nbits E = nb := ⟨_, rfl⟩
 have Hst := Lib.hid (Below1.start nb)
 have Hv0 := Lib.hid (show X ^ (E / 2 ^ nb) % M = 1 % M by rw [Nat.div_eq_of_lt (lt_of_nbits (Nat.le_of_eq hnb)), Nat.pow_zero])
 have lm : ∀ v, v < M → (digs 4294967296 v).length < 40000 := fun v hv => Nat.lt_of_le_of_lt (digs_length_mono (by omega) (Nat.le_of_lt hv)) hlM
 have Hlm := Lib.hid lm
 obtain ⟨R, hR⟩ : ∃ R, X ^ E % M = R := ⟨_, rfl⟩
 rw [hR]
 have HR := Lib.hid hR
 have hof := Lib.hid (refOf_any 1 w (by omega))
 have h1M := Lib.hid (Nat.mod_lt 1 h0)
 clear hR lm
 go_enter Tryz.func223, Tryz.ntmps223
 go_wp2_with fail
 refine hof.out.mono ?_
 rintro e w1 ⟨A1, c1, rfl, hO1, hB1⟩
 have hm1 := Lib.hid (refMod_any A1 Am c1 cm 1 M w1 hO1.ru (hm.up hB1) (by rw [digs_pos (by omega) (by omega)]; simp [digs_zero]) h0)
 go_wp2_with fail
 refine hm1.out.mono ?_
 rintro e w2 ⟨A2, c2, rfl, hR2, hB2⟩
 have hB02 := hB1.trans (hB2.mono hB1.size)
 have hm2 := Lib.hid (refMod_any A Am c cm X M w2 (h.up hB02) (hm.up hB02) (by omega) h0)
 go_wp2_with fail
 refine hm2.out.mono ?_
 rintro e w3 ⟨A3, c3, rfl, hR3, hB3⟩
 have hB03 := hB02.trans (hB3.mono hB02.size)
 replace hR2 := hR2.up hB3
 have zm := hm.up hB03
 have ze := he.up hB03
 have hbi := refBits_any _ Ae ce E w3 ze
 rw [hnb] at hbi
 have Hbi := Lib.hid hbi
 have hXM := Lib.hid (Nat.mod_lt X h0)
 obtain ⟨Y, hY⟩ : ∃ Y, X % M = Y := ⟨_, rfl⟩
 rw [hY] at hR3 hXM ⊢
 have HY := Lib.hid hY
 clear hbi hof hm1 hm2 hO1 hB1 hB2 hB3 hB02 h he hm hY
 go_wp2_with fail
 refine Hbi.out.mono ?_
 rintro e w4 ⟨rfl, rfl⟩
 have hs3 := hB03.size
 go_wp2
 go_loopw [7, 8] (fun xv iv wr => ∃ (k v : Nat) (z : Int) (A1 : Option Addr) (c1 : Nat), iv = .int .i64 z ∧ Below1 k z ∧ xv = .slice A1 (digs 4294967296 v).length c1 ∧ k ≤ nb ∧ Hid (X ^ (E / 2 ^ k) % M = v) ∧ v < M ∧ RU wr A1 c1 (digs 4294967296 v) ∧ Below w3.heap.size w3 wr) (fun _ iv _ => (intOf iv + 1).toNat)
 case atStart => exact ⟨nb, 1 % M, _, A2, c2, rfl, Hst.out, rfl, Nat.le_refl _, Hv0, h1M.out, hR2, Below.refl _ _⟩
 case round =>
  obtain ⟨k, v, z, A1, c1, rfl, hz, rfl, hk, hv, hvM, hx, hB⟩ := hrel
  rcases hz with ⟨rfl, rfl⟩ | ⟨j, rfl, rfl⟩
  · have hvR : v = R := by have := hv.out; have := HR.out; rw [Nat.pow_zero, Nat.div_one] at *; omega
    subst hvR
    go_wp2
    go_ret
    exact ⟨A1, c1, rfl, hx, hB03.trans (hB.mono hs3)⟩
  · have hlv := Hlm.out v hvM
    have hsq := Lib.hid (refMulMod_any A1 A1 Am c1 c1 cm v v M wr hx hx (zm.up hB) hlv hlv h0)
    have Hs' := Lib.hid (Below1.start j)
    have hvv := Lib.hid (Nat.mod_lt (v * v) h0)
    obtain ⟨u, hu⟩ : ∃ u, v * v % M = u := ⟨_, rfl⟩
    rw [hu] at hsq hvv
    have hbt : E / 2 ^ j % 2 = 0 ∨ E / 2 ^ j % 2 = 1 := by have := Nat.mod_lt (E / 2 ^ j) (show 0 < 2 by omega); omega
    have Hu := Lib.hid hu
    clear hu hlv
    go_wp2_with fail
    refine hsq.out.mono ?_
    rintro e w5 ⟨A5, c5, rfl, hR5, hB5⟩
    have hB35 := hB.trans (hB5.mono hB.size)
    have hbit := refBit_any _ Ae ce E (j : Int) w5 (ze.up hB35) (by omega)
    rw [show bitOf E (j : Int) = E / 2 ^ j % 2 by rw [bitOf, if_neg (by omega), Int.toNat_natCast]] at hbit
    rcases hbt with h0b | h1b
    · rw [h0b] at hbit
      have Hbit := Lib.hid hbit
      have hp := Lib.hid ((pow_half hv.out h0b).trans Hu.out)
      clear hbit h0b hv
      go_wp2_with fail
      refine Hbit.out.mono ?_
      rintro e w6 ⟨rfl, rfl⟩
      go_wp2
      go_roundw
      case rel => exact ⟨j, u, _, A5, c5, rfl, Hs'.out, rfl, by omega, hp, hvv.out, hR5, hB35⟩
      case measure => simp [intOf]
    · rw [h1b] at hbit
      have Hbit := Lib.hid hbit
      have hp := pow_half1 hv.out h1b
      rw [Hu.out, HY.out] at hp
      have hlu := Hlm.out u hvv.out
      have hlY := Hlm.out Y hXM.out
      have hmu := Lib.hid (refMulMod_any A5 A3 Am c5 c3 cm u Y M w5 hR5 (hR3.up hB35) (zm.up hB35) hlu hlY h0)
      have huY := Lib.hid (Nat.mod_lt (u * Y) h0)
      obtain ⟨t, ht⟩ : ∃ t, u * Y % M = t := ⟨_, rfl⟩
      rw [ht] at hmu huY hp
      have Hp := Lib.hid hp
      clear hbit h1b hv hp ht hlu hlY
      go_wp2_with fail
      refine Hbit.out.mono ?_
      rintro e w6 ⟨rfl, rfl⟩
      go_wp2_with fail
      refine hmu.out.mono ?_
      rintro e w7 ⟨A7, c7, rfl, hR7, hB7⟩
      have hB37 := hB35.trans (hB7.mono hB35.size)
      go_wp2
      go_roundw
      case rel => exact ⟨j, t, _, A7, c7, rfl, Hs'.out, rfl, by omega, Hp, huY.out, hR7, hB37⟩
      case measure => simp [intOf]
end Go.Proofs.YtendnkpiidhogaaGreat

namespace Go.Proofs.YtendnkpiidhogaaGreat
open Go.RowKit

set_option maxRecDepth 100000 in
set_option maxHeartbeats 1000000 in
theorem refStrong_no (A A' : Option Addr) (c c' N W : Nat) (w : World) (h : RU w A c (digs 4294967296 N)) (hno : N % 2 = 0 ∨ N < 2) :
 Calls Tryz.prog 194 #[.slice A (digs 4294967296 N).length c, .slice A' (digs 4294967296 W).length c'] w fun e w' => e = .returned (.bool (strongB N W)) ∧ Below w.heap.size w w' := by
 have Hs := Lib.hid (strong_even W hno)
 have hle := cmpV_cases N 2
 have hcl : N % 2 = 1 → cmpV N 2 = -1 := fun h1 => by rcases hle with h | h | h <;> omega
 have hce : (cmpV N 2 == 0) = decide (N = 2) := by
  rw [Bool.eq_iff_iff]; simp; omega
 have hof := Lib.hid (refOf_any 1 w (by omega))
 generalize hcv : cmpV N 2 = cv at *
 have Hcv := Lib.hid hcv
 have Hcl := Lib.hid hcl
 have Hce := Lib.hid hce
 clear hno hle hcl hcv hce
 go_enter Tryz.func194, Tryz.ntmps194
 go_wp2_with fail
 refine hof.out.mono ?_
 rintro e w1 ⟨A1, c1, rfl, hO1, hB1⟩
 have hof2 := Lib.hid (refOf_any 2 w1 (by omega))
 go_wp2_with fail
 refine hof2.out.mono ?_
 rintro e w2 ⟨A2, c2, rfl, hO2, hB2⟩
 have hB02 := hB1.trans (hB2.mono hB1.size)
 have zn := h.up hB02
 have z2 := hO2.ru
 have Hod := Lib.hid (refOdd_any A c N w2 zn)
 have hcm := Lib.hid fun n => refCmp_any _ _ A A2 c c2 N 2 (w2.drewN n) (zn.ud n) (z2.ud n)
 rw [Hcv.out] at hcm
 clear hof hof2 hO1 hO2 hB1 hB2 h zn z2
 go_wp2_with fail
 refine Hod.out.mono ?_
 rintro e w3 ⟨rfl, rfl⟩
 have hcm0 := Lib.hid (hcm.out 0)
 rcases hodd : decide (N % 2 = 1) with _ | _
 · go_wp2_with fail
   refine hcm0.out.mono ?_
   rintro e w3 ⟨rfl, n1, rfl⟩
   go_wp2
   go_ret
   exact ⟨by rw [Hs.out, ← Hce.out]; simp, below_drewN hB02 n1⟩
 · have hc1 := Hcl.out (of_decide_eq_true hodd)
   subst hc1
   go_wp2_with fail
   refine hcm0.out.mono ?_
   rintro e w3 ⟨rfl, n1, rfl⟩
   have hcm1 := Lib.hid (hcm.out n1)
   go_wp2_with fail
   refine hcm1.out.mono ?_
   rintro e w3 ⟨rfl, n2, rfl⟩
   rw [drewN_add]
   go_wp2
   go_ret
   exact ⟨by rw [Hs.out, ← Hce.out]; simp, below_drewN hB02 _⟩

theorem strong_first {N W : Nat} (h : N % 2 = 1) (h1 : 1 < N) (h2 : nbits N ≤ 4096) (hw : W % N ≠ 0) (hl : lookAt N W 0 = 1) : strongB N W = true := by
 rw [strong_odd h h1 h2, if_neg hw, any_range, any_range_step _ (twos_even (by omega) (by omega))]
 simp [lookYes, hl]
theorem strong_rest {N W : Nat} (h : N % 2 = 1) (h1 : 1 < N) (h2 : nbits N ≤ 4096) (hw : W % N ≠ 0) (hl : lookAt N W 0 ≠ 1) : (List.range' 0 (twos (N - 1) - 0)).any (fun k => decide (lookAt N W k = N - 1)) = strongB N W := by
 rw [strong_odd h h1 h2, if_neg hw, any_range]
 congr 1
 funext k
 unfold lookYes
 by_cases hk : k = 0
 · subst hk; simp [hl]
 · simp [hk]

set_option maxRecDepth 100000 in
set_option maxHeartbeats 4000000 in
theorem refStrong_odd (A A' : Option Addr) (c c' N W : Nat) (w : World) (h : RU w A c (digs 4294967296 N)) (h' : RU w A' c' (digs 4294967296 W)) (hl : (digs 4294967296 N).length < 20000) (hlW : (digs 4294967296 W).length < 40000) (hodd : N % 2 = 1) (hgt : 1 < N) (hmay : nbits N ≤ 4096) :
 Calls Tryz.prog 194 #[.slice A (digs 4294967296 N).length c, .slice A' (digs 4294967296 W).length c'] w fun e w' => e = .returned (.bool (strongB N W)) ∧ Below w.heap.size w w' := by
 have hcv : cmpV N 2 = 1 := cmpV_gt (by omega)
 have hmi : ((nbits N : Nat) : Int) ≤ 4096 := by omega
 have h2s := twos_le hgt hmay
 have htop := twos_top (x := N - 1) (by omega)
 have hlow := fun k => @twos_low (N - 1) k
 have hw0 := fun h => strong_odd (W := W) hodd hgt hmay ▸ if_pos (c := W % N = 0) h
 have hw1 := @strong_first N W hodd hgt hmay
 have hw2 := @strong_rest N W hodd hgt hmay
 have hlook := lookAt_succ N W
 have hlook0 : (W % N) ^ ((N - 1) / 2 ^ twos (N - 1)) % N = lookAt N W 0 := by rw [lookAt, Nat.pow_zero, Nat.mul_one]
 have hlookN : ∀ k, lookAt N W k < N := fun k => Nat.mod_lt _ (by omega)
 have hnbd : ∀ k, nbits ((N - 1) / 2 ^ k) ≤ 1000000 := fun k => by
  have h1 := lt_of_nbits (x := N) (k := 4096) hmay
  have h2 : (N - 1) / 2 ^ k ≤ N - 1 := Nat.div_le_self _ _
  exact Nat.le_trans (nbits_le (k := 4096) (Nat.lt_of_le_of_lt (Nat.le_trans h2 (Nat.sub_le _ _)) h1)) (by omega)
 have lm : ∀ v, v ≤ N → (digs 4294967296 v).length < 20000 := fun v hv => Nat.lt_of_le_of_lt (digs_length_mono (by omega) hv) hl
 obtain ⟨s, hs⟩ : ∃ s, twos (N - 1) = s := ⟨_, rfl⟩
 rw [hs] at h2s htop hlow hw2 hlook0
 obtain ⟨B, hB⟩ : ∃ B, strongB N W = B := ⟨_, rfl⟩
 have hB0 : W % N = 0 → B = true := fun h0 => by rw [← hB, strong_odd hodd hgt hmay, if_pos h0]
 rw [hB] at hw1 hw2 ⊢
 have Hw1 := Lib.hid hw1
 have Hw2 := Lib.hid hw2
 have HB0 := Lib.hid hB0
 have Hlook := Lib.hid hlook
 have Hlook0 := Lib.hid hlook0
 have HlookN := Lib.hid hlookN
 have Hnbd := Lib.hid hnbd
 have Hlm := Lib.hid lm
 have Htop := Lib.hid htop
 have Hlow := Lib.hid hlow
 have Hgt := Lib.hid hgt
 have Hl := Lib.hid hl
 have HlW := Lib.hid hlW
 have Hbits := Lib.hid fun W h => refBits_any (fun b => b < W.heap.size) A c N W h
 have Hodd := Lib.hid hodd
 have hof := Lib.hid (refOf_any 1 w (by omega))
 generalize nbits N = nb at *
 clear hw0 hw1 hw2 hB0 hlook hlook0 hlookN hnbd lm htop hlow hgt hl hlW hB hs hmay hodd
 go_enter Tryz.func194, Tryz.ntmps194
 go_wp2_with fail
 refine hof.out.mono ?_
 rintro e w1 ⟨A1, c1, rfl, hO1, hB1⟩
 have hof2 := Lib.hid (refOf_any 2 w1 (by omega))
 go_wp2_with fail
 refine hof2.out.mono ?_
 rintro e w2 ⟨A2, c2, rfl, hO2, hB2⟩
 have hB02 := hB1.trans (hB2.mono hB1.size)
 have zn := h.up hB02
 have zw := h'.up hB02
 have z1 := hO1.ru.up hB2
 have z2 := hO2.ru
 have hod := refOdd_any A c N w2 zn
 rw [decide_eq_true Hodd.out] at hod
 have Hod := Lib.hid hod
 have hcm := refCmp_any _ _ A A2 c c2 N 2 w2 zn z2
 rw [hcv] at hcm
 have Hcm := Lib.hid hcm
 clear hof hof2 hO1 hO2 hB1 hB2 h h' hod hcm hcv
 go_wp2_with fail
 refine Hod.out.mono ?_
 rintro e w3 ⟨rfl, rfl⟩
 go_wp2_with fail
 refine Hcm.out.mono ?_
 rintro e w3 ⟨rfl, n1, rfl⟩
 have hB03 := below_drewN hB02 n1
 replace zn := zn.ud n1
 replace zw := zw.ud n1
 replace z1 := z1.ud n1
 replace z2 := z2.ud n1
 clear Hod Hcm hB02
 generalize w2.drewN n1 = w3 at *
 have Hbi := Lib.hid (Hbits.out w3 zn)
 go_wp2_with fail
 refine Hbi.out.mono ?_
 rintro e w4 ⟨rfl, rfl⟩
 have Hsu := Lib.hid (refSub_any _ _ A A1 c c1 N 1 w3 zn z1 lt_self lt_self (by have := Hl.out; omega) (by have := Hgt.out; omega))
 go_wp2_with fail
 refine Hsu.out.mono ?_
 rintro e w5 ⟨A5, c5, rfl, hO5, hB5⟩
 have hB05 := hB03.trans (hB5.mono hB03.size)
 replace zn := zn.up hB5
 replace zw := zw.up hB5
 replace z1 := z1.up hB5
 replace z2 := z2.up hB5
 have zl := hO5.ru
 clear Hbi Hsu hO5 hB5 hB03 Hbits
 have hs5 := hB05.size
 obtain ⟨L, hL⟩ : ∃ L, N - 1 = L := ⟨_, rfl⟩
 have hLN : L ≤ N := by omega
 rw [hL] at zl Htop Hlow Hw2 Hlook0 Hnbd ⊢
 clear hL
 go_wp2
 go_loopw [8, 9] (fun dv sv wr => ∃ (k : Nat) (A1 : Option Addr) (c1 : Nat), sv = .int .i64 (k : Int) ∧ dv = .slice A1 (digs 4294967296 (L / 2 ^ k)).length c1 ∧ k ≤ s ∧ RU wr A1 c1 (digs 4294967296 (L / 2 ^ k)) ∧ Below w5.heap.size w5 wr) (fun _ sv _ => s - (intOf sv).toNat)
 case atStart => exact ⟨0, A5, c5, rfl, by rw [Nat.pow_zero, Nat.div_one], by omega, by rw [Nat.pow_zero, Nat.div_one]; exact zl, Below.refl _ _⟩
 case round =>
  obtain ⟨k, A6, c6, rfl, rfl, hk, hd, hB⟩ := hrel
  have hod := refOdd_any A6 c6 (L / 2 ^ k) wr hd
  by_cases hks : k < s
  · rw [decide_eq_false (by rw [Hlow.out k hks]; omega : ¬ L / 2 ^ k % 2 = 1)] at hod
    have Hod := Lib.hid hod
    have Hq := Lib.hid (refQuo_any _ _ A6 A2 c6 c2 (L / 2 ^ k) 2 wr hd (z2.up hB) lt_self lt_self (by have := Hlm.out (L / 2 ^ k) (Nat.le_trans (Nat.div_le_self _ _) hLN); omega) (by omega))
    have e2 : L / 2 ^ k / 2 = L / 2 ^ (k + 1) := half_step L k
    rw [e2] at Hq
    clear hod e2
    go_wp2_with fail
    refine Hod.out.mono ?_
    rintro e w6 ⟨rfl, rfl⟩
    go_wp2_with fail
    refine Hq.out.mono ?_
    rintro e w7 ⟨A7, c7, A8, c8, rfl, hO7, _, hB7⟩
    have hB57 := hB.trans (hB7.mono hB.size)
    have hR7 := hO7.ru
    clear hO7 hB7 Hod Hq
    go_wp2
    go_roundw
    case rel => exact ⟨k + 1, A7, c7, by go_num, rfl, by omega, hR7, hB57⟩
    case measure => simp [intOf]; omega
  · obtain rfl : k = s := by omega
    rw [decide_eq_true Htop.out] at hod
    have Hod := Lib.hid hod
    clear hod Hlow Htop
    have hB0r := hB05.trans (hB.mono hs5)
    replace zn := zn.up hB
    replace zw := zw.up hB
    replace z1 := z1.up hB
    replace zl := zl.up hB
    clear hB hB05 z2
    have Hmw := Lib.hid (refMod_any A' A c' c W N wr zw zn (by have := HlW.out; omega) (by have := Hgt.out; omega))
    go_wp2_with fail
    refine Hod.out.mono ?_
    rintro e w6 ⟨rfl, rfl⟩
    go_wp2_with fail
    refine Hmw.out.mono ?_
    rintro e w7 ⟨A7, c7, rfl, hR7, hB7⟩
    have hB07 := hB0r.trans (hB7.mono hB0r.size)
    replace zn := zn.up hB7
    replace z1 := z1.up hB7
    replace zl := zl.up hB7
    replace hd := hd.up hB7
    clear hB7 hB0r Hod Hmw zw
    by_cases hw : W % N = 0
    · have hBt := HB0.out hw
      rw [hw, digs_zero] at *
      subst hBt
      go_wp2
      go_ret
      exact ⟨by simp, hB07⟩
    · have Hw1 := Lib.hid (Hw1.out hw)
      have Hw2 := Lib.hid (Hw2.out hw)
      obtain ⟨Y, hY⟩ : ∃ Y, W % N = Y := ⟨_, rfl⟩
      rw [hY] at hw hR7 Hlook0 ⊢
      have hYN : Y ≤ N := by rw [← hY]; exact Nat.le_of_lt (Nat.mod_lt _ (by have := Hgt.out; omega))
      have hyne : (((digs 4294967296 Y).length : Int) == 0) = false := eqB (by rw [digs_pos (by omega) (by omega)]; simp; omega)
      have Hex := refExp_any A7 A6 A c7 c6 c Y (L / 2 ^ k) N w7 hR7 hd zn (by have := Hlm.out Y hYN; omega) (by have := Hl.out; omega) (by have := Hgt.out; omega) (Hnbd.out k)
      rw [Hlook0.out] at Hex
      replace Hex := Lib.hid Hex
      clear hY HB0
      go_wp2_with fail
      refine Hex.out.mono ?_
      rintro e w8 ⟨A8, c8, rfl, hR8, hB8⟩
      have hB08 := hB07.trans (hB8.mono hB07.size)
      replace zn := zn.up hB8
      replace z1 := z1.up hB8
      replace zl := zl.up hB8
      have hcm := refCmp_any _ _ A8 A1 c8 c1 (lookAt N W 0) 1 w8 hR8 z1
      clear hB8 hB07 Hex hd hR7
      by_cases h1 : lookAt N W 0 = 1
      · have hBt := Hw1.out h1
        subst hBt
        rw [h1, cmpV_eq] at hcm
        rw [h1]
        have Hcm := Lib.hid hcm
        clear hcm
        go_wp2_with fail
        refine Hcm.out.mono ?_
        rintro e w9 ⟨rfl, n2, rfl⟩
        go_wp2
        go_ret
        exact ⟨by simp, below_drewN hB08 n2⟩
      · have hne : cmpV (lookAt N W 0) 1 ≠ 0 := fun e => h1 (cmpV_zero e)
        have Hw2 := Lib.hid (Hw2.out h1)
        generalize cmpV (lookAt N W 0) 1 = cv at *
        have hcvb : (cv == 0) = false := eqB hne
        have Hcm := Lib.hid hcm
        clear hcm Hw1
        go_wp2_with fail
        refine Hcm.out.mono ?_
        rintro e w9 ⟨rfl, n2, rfl⟩
        have hB09 := below_drewN hB08 n2
        replace zn := zn.ud n2
        replace zl := zl.ud n2
        replace hR8 := hR8.ud n2
        clear Hcm hB08 z1
        generalize w8.drewN n2 = w9 at *
        have hs9 := hB09.size
        go_wp2
        go_loopw [10, 11] (fun xv iv wr => ∃ (i : Nat) (A1 : Option Addr) (c1 : Nat), iv = .int .i64 (i : Int) ∧ xv = .slice A1 (digs 4294967296 (lookAt N W i)).length c1 ∧ i ≤ k ∧ RU wr A1 c1 (digs 4294967296 (lookAt N W i)) ∧ Hid ((List.range' i (k - i)).any (fun j => decide (lookAt N W j = L)) = B) ∧ Below w9.heap.size w9 wr) (fun _ iv _ => k - (intOf iv).toNat)
        case atStart => exact ⟨0, A8, c8, rfl, rfl, by omega, hR8, Hw2, Below.refl _ _⟩
        case round =>
         clear hR8 Hw2
         obtain ⟨i, A9, c9, rfl, rfl, hi, hx, hany, hB⟩ := hrel
         by_cases hik : i < k
         · have hcm := refCmp_any _ _ A9 A5 c9 c5 (lookAt N W i) L wr hx (zl.up hB)
           have hst := any_range_step (fun j => decide (lookAt N W j = L)) hik
           rw [hany.out] at hst
           by_cases hY : lookAt N W i = L
           · rw [hY, cmpV_eq] at hcm
             rw [hY]
             simp only [hY, decide_true, Bool.true_or] at hst
             subst hst
             have Hcm := Lib.hid hcm
             clear hcm hany hx
             go_wp2_with fail
             refine Hcm.out.mono ?_
             rintro e w10 ⟨rfl, n3, rfl⟩
             go_wp2
             go_ret
             exact ⟨by simp, below_drewN (hB09.trans (hB.mono hs9)) n3⟩
           · have hne2 : cmpV (lookAt N W i) L ≠ 0 := fun e => hY (cmpV_zero e)
             simp only [hY, decide_false, Bool.false_or] at hst
             have Hst := Lib.hid hst.symm
             have hlv : (digs 4294967296 (lookAt N W i)).length < 40000 := by have := Hlm.out _ (Nat.le_of_lt (HlookN.out i)); omega
             generalize cmpV (lookAt N W i) L = cw at *
             have hcwb : (cw == 0) = false := eqB hne2
             have Hcm := Lib.hid hcm
             have Hmu := Lib.hid fun n => refMulMod_any A9 A9 A c9 c9 c (lookAt N W i) (lookAt N W i) N (wr.drewN n) (hx.ud n) (hx.ud n) ((zn.up hB).ud n) hlv hlv (by have := Hgt.out; omega)
             rw [← Hlook.out] at Hmu
             clear hcm hany hst hY hne2 hlv
             go_wp2_with fail
             refine Hcm.out.mono ?_
             rintro e w10 ⟨rfl, n3, rfl⟩
             have Hmu3 := Lib.hid (Hmu.out n3)
             clear Hmu
             go_wp2_with fail
             refine Hmu3.out.mono ?_
             rintro e w11 ⟨A11, c11, rfl, hR11, hB11⟩
             have hB911 := (below_drewN hB n3).trans (hB11.mono hB.size)
             clear Hmu3 Hcm hB11
             go_wp2
             go_roundw
             case rel => exact ⟨i + 1, A11, c11, by go_num, rfl, by omega, hR11, Hst, hB911⟩
             case measure => simp [intOf]; omega
         · obtain rfl : i = k := by omega
           have hBf := hany.out
           rw [any_range_end] at hBf
           subst hBf
           clear hany
           go_wp2
           go_ret
           exact ⟨by simp, hB09.trans (hB.mono hs9)⟩
end Go.Proofs.YtendnkpiidhogaaGreat

namespace Go.Proofs.YtendnkpiidhogaaGreat
open Go.RowKit

set_option maxRecDepth 100000 in
set_option maxHeartbeats 1000000 in
theorem refStrong_any (A A' : Option Addr) (c c' N W : Nat) (w : World) (h : RU w A c (digs 4294967296 N)) (h' : RU w A' c' (digs 4294967296 W)) (hl : (digs 4294967296 N).length < 20000) (hlW : (digs 4294967296 W).length < 40000) (hmay : nbits N ≤ 4096) :
 Calls Tryz.prog 194 #[.slice A (digs 4294967296 N).length c, .slice A' (digs 4294967296 W).length c'] w fun e w' => e = .returned (.bool (strongB N W)) ∧ Below w.heap.size w w' := by
 by_cases hno : N % 2 = 0 ∨ N < 2
 · exact refStrong_no A A' c c' N W w h hno
 · exact refStrong_odd A A' c c' N W w h h' hl hlW (by omega) (by omega) hmay
end Go.Proofs.YtendnkpiidhogaaGreat

namespace Go.Proofs.YtendnkpiidhogaaGreat.At
open Go.RowKit Go.Shelf

attribute [local go_sem] Oper.semAt_some

def fews : List Nat := [2, 3, 5, 7, 11, 13, 17, 19, 23, 29, 31, 37]
theorem fews_pos : ∀ k, k < 12 → 2 ≤ dg fews k ∧ dg fews k < 40 := by decide

set_option maxHeartbeats 1000000 in
theorem few_any (w : World) : Calls Tryz.prog 192 #[] w fun e w' => ∃ A, e = .returned (.slice A 12 12) ∧ RN w' (fun b => b < w'.heap.size) A 12 fews ∧ Below w.heap.size w w' := by
 go_enter Tryz.func192, Tryz.ntmps192
 go_wp2
 go_ret
 refine ⟨_, rfl, ⟨?_, ⟨by decide, by decide⟩⟩, (Below.refl _ w).alloc (Nat.le_refl _) _⟩
 exact RS.fresh (P := fun b => b < _) _ _ 1 12 rfl (by unfold maxLen; omega) (by simp)
theorem cmp_cases (x y : Nat) : (cmpV x y = -1 ∧ x < y) ∨ (cmpV x y = 0 ∧ x = y) ∨ (cmpV x y = 1 ∧ y < x) := by
 rcases Nat.lt_trichotomy x y with h | h | h
 · exact .inl ⟨cmpV_lt h, h⟩
 · subst h; exact .inr (.inl ⟨cmpV_eq x, rfl⟩)
 · exact .inr (.inr ⟨cmpV_gt h, h⟩)
set_option maxRecDepth 100000 in
set_option maxHeartbeats 4000000 in
theorem probable_t (A : Option Addr) (c n : Nat) (w : World) (h : RU w A c (digs 4294967296 n)) (hl : (digs 4294967296 n).length < 20000) :
 Calls Tryz.prog 157 #[.slice A (digs 4294967296 n).length c] w fun e w' => (∃ b : Bool, e = .returned (.bool b) ∧ (b = true → 2 ≤ n)) ∧ Below w.heap.size w w' := by
 have HU := Lib.hid (fun (X : World) (hX : Below w.heap.size w X) => h.up hX)
 obtain ⟨ln, hln⟩ : ∃ ln, (digs 4294967296 n).length = ln := ⟨_, rfl⟩
 have Hln := Lib.hid hln
 rw [hln] at hl ⊢
 clear h hln
 go_enter Tryz.func157, Tryz.ntmps157
 go_wp2_with fail
 refine (few_any w).mono ?_
 rintro e w1 ⟨Af, rfl, hF, hB1⟩
 have HFw := Lib.hid (fun (X : World) (hX : Below w1.heap.size w1 X) => hF.below hX fun b hb => hb)
 have HB1 := Lib.hid hB1
 clear hF hB1
 go_wp2
 go_loopw [4] (fun i wr => ∃ k : Nat, k ≤ 12 ∧ i = .int .i64 k ∧ Below w1.heap.size w1 wr) (fun i _ => 12 - (intOf i).toNat)
 case atStart => exact ⟨0, by omega, rfl, Below.refl _ _⟩
 case round =>
  obtain ⟨k, hk, rfl, hB⟩ := hrel
  have hs := hB.size
  have HBw := Lib.hid (HB1.out.trans (hB.mono HB1.out.size))
  by_cases hlt : k < 12
  · obtain ⟨ad, rfl, _, q1⟩ := (HFw.out wr hB).at_ (i := k) hlt
    obtain ⟨f2, f40⟩ := fews_pos k hlt
    obtain ⟨p, hp⟩ : ∃ p, dg fews k = p := ⟨_, rfl⟩
    rw [hp] at q1 f2 f40
    have HO := Lib.hid (refOf_any p wr (by omega))
    clear hp
    go_wp2_with fail
    refine HO.out.mono ?_
    rintro e w2 ⟨A2, c2, rfl, hO2, hB2⟩
    have HO2 := Lib.hid hO2.ru
    have HB2 := Lib.hid (hB.trans (hB2.mono hs))
    have HBw2 := Lib.hid (HBw.out.trans (hB2.mono HBw.out.size))
    have hM := refMod_any A A2 c c2 n p w2 (HU.out w2 HBw2.out) HO2.out (by rw [Hln.out]; omega) (by omega)
    rw [Hln.out] at hM
    have HM := Lib.hid hM
    clear hO2 hB2 hM HO
    go_wp2_with fail
    refine HM.out.mono ?_
    rintro e w3 ⟨A3, c3, rfl, -, hB3⟩
    have HB3 := Lib.hid (HB2.out.trans (hB3.mono HB2.out.size))
    have HBw3 := Lib.hid (HBw2.out.trans (hB3.mono HBw2.out.size))
    have HO3 := Lib.hid (RN.up HO2.out hB3)
    clear hB3 HM
    obtain ⟨m, hm⟩ : ∃ m, (digs 4294967296 (n % p)).length = m := ⟨_, rfl⟩
    rw [hm]
    clear hm
    by_cases hm0 : m = 0
    · subst hm0
      have hC := refCmp_any _ _ A A2 c c2 n p w3 (HU.out w3 HBw3.out) HO3.out
      rw [Hln.out] at hC
      obtain ⟨v, hv⟩ : ∃ v, cmpV n p = v := ⟨_, rfl⟩
      rw [hv] at hC
      have HC := Lib.hid hC
      clear hC hv
      go_wp2_with fail
      refine HC.out.mono ?_
      rintro e w4 ⟨rfl, d, rfl⟩
      by_cases hv0 : v = 0
      · subst hv0
        go_wp2
        go_roundw
        case rel => exact ⟨k + 1, by omega, by go_num, below_drewN HB3.out d⟩
        case measure => simp [intOf]; omega
      · have hv0' : (v == 0) = false := by simpa using hv0
        go_wp2
        go_ret
        exact ⟨⟨false, rfl, fun h => by cases h⟩, below_drewN HBw3.out d⟩
    · have hm0' : (m == 0) = false := by simpa using hm0
      have hm1 : ¬ (m : Int) = 0 := by omega
      go_wp2
      go_roundw
      case rel => exact ⟨k + 1, by omega, by go_num, HB3.out⟩
      case measure => simp [intOf]; omega
  · obtain rfl : k = 12 := by omega
    have HB := Lib.hid hB
    clear hB hlt hk
    go_wp2_with fail
    refine (refOf_any 2 wr (by omega)).mono ?_
    rintro e w2 ⟨A2, c2, rfl, hO2, hB2⟩
    have HBw2 := Lib.hid (HBw.out.trans (hB2.mono HBw.out.size))
    have HB2 := Lib.hid (HB.out.trans (hB2.mono HB.out.size))
    have hC := refCmp_any _ _ A A2 c c2 n 2 w2 (HU.out w2 HBw2.out) hO2.ru
    rw [Hln.out] at hC
    have HC := Lib.hid hC
    clear hC hB2 hO2
    go_wp2_with fail
    refine HC.out.mono ?_
    rintro e w3 ⟨rfl, d, rfl⟩
    have HBw3 := Lib.hid (below_drewN HBw2.out d)
    have HB3 := Lib.hid (below_drewN HB2.out d)
    by_cases hn2 : n = 2
    · have hv : cmpV n 2 = 0 := by rw [hn2]; exact cmpV_eq 2
      have H2 := Lib.hid hn2
      rw [hv]
      clear hn2 hv
      go_wp2
      go_ret
      exact ⟨⟨true, rfl, fun _ => by have := H2.out; omega⟩, HBw3.out⟩
    obtain ⟨v, hv⟩ : ∃ v, cmpV n 2 = v := ⟨_, rfl⟩
    have hv0 : v ≠ 0 := by rcases cmp_cases n 2 with ⟨h1, h2⟩ | ⟨h1, h2⟩ | ⟨h1, h2⟩ <;> omega
    have hv0' : (v == 0) = false := by simpa using hv0
    have Hv := Lib.hid hv
    have Hn2 := Lib.hid hn2
    rw [hv]
    have hod := fun X (hX : Below w.heap.size w X) => refOdd_any A c n X (HU.out X hX)
    obtain ⟨b, hb⟩ : ∃ b, decide (n % 2 = 1) = b := ⟨_, rfl⟩
    rw [hb] at hod
    have HOd := Lib.hid (hod _ HBw3.out)
    rw [Hln.out] at HOd
    generalize w2.drewN d = w3 at *
    clear hv hn2 hv0 hod hb
    go_wp2_with fail
    refine HOd.out.mono ?_
    rintro e w3' ⟨rfl, rfl⟩
    cases b
    · go_wp2
      go_ret
      exact ⟨⟨false, rfl, fun h => by cases h⟩, HBw3.out⟩
    go_wp2_with fail
    refine (refOf_any 2 w3 (by omega)).mono ?_
    rintro e w4 ⟨A4, c4, rfl, hO4, hB4⟩
    have HBw4 := Lib.hid (HBw3.out.trans (hB4.mono HBw3.out.size))
    have HB4 := Lib.hid (HB3.out.trans (hB4.mono HB3.out.size))
    have hC4 := refCmp_any _ _ A A4 c c4 n 2 w4 (HU.out w4 HBw4.out) hO4.ru
    rw [Hln.out, Hv.out] at hC4
    have HC4 := Lib.hid hC4
    clear hC4 hB4 hO4
    go_wp2_with fail
    refine HC4.out.mono ?_
    rintro e w5 ⟨rfl, d5, rfl⟩
    have HBw5 := Lib.hid (below_drewN HBw4.out d5)
    have HB5 := Lib.hid (below_drewN HB4.out d5)
    generalize w4.drewN d5 = w5 at *
    by_cases hle : n < 2
    · have e1 : v = -1 := by rw [← Hv.out]; exact cmpV_lt hle
      subst e1
      go_wp2
      go_ret
      exact ⟨⟨false, rfl, fun h => by cases h⟩, HBw5.out⟩
    have hgt : 2 < n := by have := Hn2.out; omega
    have e1 : v = 1 := by rw [← Hv.out]; exact cmpV_gt hgt
    subst e1
    have hbits := refBits_any _ A c n w5 (HU.out w5 HBw5.out)
    rw [Hln.out] at hbits
    obtain ⟨nb, hnb⟩ : ∃ nb, nbits n = nb := ⟨_, rfl⟩
    rw [hnb] at hbits
    have HBi := Lib.hid hbits
    have Hnb := Lib.hid hnb
    have Hgt := Lib.hid hgt
    clear hbits hnb hgt hle
    go_wp2_with fail
    refine HBi.out.mono ?_
    rintro e w5' ⟨rfl, rfl⟩
    by_cases hmx : 4096 < nb
    · have hmx' : (4096 : Int) < (nb : Int) := by omega
      go_wp2
      go_ret
      exact ⟨⟨false, rfl, fun h => by cases h⟩, HBw5.out⟩
    have hmx' : ¬ (4096 : Int) < (nb : Int) := by omega
    have HBw := Lib.hid HBw5.out
    go_wp2
    clear HB HB2 HB3 HB4 HBw2 HBw3 HBw4
    go_loopw [7] (fun i wr => ∃ k : Nat, k ≤ 12 ∧ i = .int .i64 k ∧ Below w1.heap.size w1 wr) (fun i _ => 12 - (intOf i).toNat)
    case atStart => exact ⟨0, by omega, rfl, HB5.out⟩
    case round =>
     clear HB5 HBw5
     obtain ⟨k, hk, rfl, hB⟩ := hrel
     have hs := hB.size
     have HBw := Lib.hid (HB1.out.trans (hB.mono HB1.out.size))
     by_cases hlt : k < 12
     · obtain ⟨ad, rfl, _, q1⟩ := (HFw.out wr hB).at_ (i := k) hlt
       obtain ⟨f2, f40⟩ := fews_pos k hlt
       obtain ⟨p, hp⟩ : ∃ p, dg fews k = p := ⟨_, rfl⟩
       rw [hp] at q1 f2 f40
       have HO := Lib.hid (refOf_any p wr (by omega))
       clear hp
       go_wp2_with fail
       refine HO.out.mono ?_
       rintro e w2 ⟨A2, c2, rfl, hO2, hB2⟩
       have HB2 := Lib.hid (hB.trans (hB2.mono hs))
       have HBw2 := Lib.hid (HBw.out.trans (hB2.mono HBw.out.size))
       have hS := refStrong_any A A2 c c2 n p w2 (HU.out w2 HBw2.out) hO2.ru (by rw [Hln.out]; exact hl) (Nat.lt_of_le_of_lt (digs_length_of_lt (B := 4294967296) (n := 1) (by omega) (show p < 4294967296 ^ 1 by omega)) (by omega)) (by rw [Hnb.out]; omega)
       rw [Hln.out] at hS
       obtain ⟨bs, hbs⟩ : ∃ b, strongB n p = b := ⟨_, rfl⟩
       rw [hbs] at hS
       have HS := Lib.hid hS
       clear hO2 hB2 hS HO hbs
       go_wp2_with fail
       refine HS.out.mono ?_
       rintro e w3 ⟨rfl, hB3⟩
       have HB3 := Lib.hid (HB2.out.trans (hB3.mono HB2.out.size))
       have HBw3 := Lib.hid (HBw2.out.trans (hB3.mono HBw2.out.size))
       cases bs
       · go_wp2
         go_ret
         exact ⟨⟨false, rfl, fun h => by cases h⟩, HBw3.out⟩
       · go_wp2
         go_roundw
         case rel => exact ⟨k + 1, by omega, by go_num, HB3.out⟩
         case measure => simp [intOf]; omega
     · obtain rfl : k = 12 := by omega
       go_wp2
       go_ret
       exact ⟨⟨true, rfl, fun _ => by have := Hgt.out; omega⟩, HBw.out⟩
end Go.Proofs.YtendnkpiidhogaaGreat.At
