/- AttrCode: lists go to bytes and back, and any bytes are read or refused: the walk of the law. -/
import Derived.Test.YtpikikaoelnheaaOpen
namespace Go.Proofs.Ytpikikaoelnheaa
open Go.RowKit

theorem enc_length (l : List (Int × List Nat)) (x : Int × List Nat) : (encOne x ++ l.flatMap encOne).length = 4 + x.2.length + (l.flatMap encOne).length := by
  simp [encOne, num2_length]; omega
/-- What was written is read. -/
theorem decW_enc : ∀ (l : List (Int × List Nat)) (n : Nat), n + l.length ≤ 64 → l.all okEnc = true → decW n (l.flatMap encOne) = some l
  | [], n, _, _ => by rw [decW, if_pos (by simp)]
  | x :: r, n, hn, ho => by
    rw [List.all_cons, Bool.and_eq_true] at ho
    obtain ⟨hx, hr⟩ := ho
    simp only [okEnc, decide_eq_true_eq] at hx
    simp only [List.length_cons] at hn
    have ih := decW_enc r (n + 1) (by omega) hr
    rw [List.flatMap_cons]
    have hl := enc_length r x
    have e : encOne x ++ r.flatMap encOne = (x.1 / 256 % 256).toNat :: (x.1 % 256).toNat :: ((x.2.length : Int) / 256 % 256).toNat :: ((x.2.length : Int) % 256).toNat :: (x.2 ++ r.flatMap encOne) := by
      simp [encOne, num2]
    have g0 : (encOne x ++ r.flatMap encOne).getD 0 0 = (x.1 / 256 % 256).toNat := by rw [e]; rfl
    have g1 : (encOne x ++ r.flatMap encOne).getD 1 0 = (x.1 % 256).toNat := by rw [e]; rfl
    have g2 : (encOne x ++ r.flatMap encOne).getD 2 0 = ((x.2.length : Int) / 256 % 256).toNat := by rw [e]; rfl
    have g3 : (encOne x ++ r.flatMap encOne).getD 3 0 = ((x.2.length : Int) % 256).toNat := by rw [e]; rfl
    have hd4 : (encOne x ++ r.flatMap encOne).drop 4 = x.2 ++ r.flatMap encOne := by rw [e]; rfl
    have hm : (encOne x ++ r.flatMap encOne).getD 2 0 * 256 + (encOne x ++ r.flatMap encOne).getD 3 0 = x.2.length := by rw [g2, g3]; omega
    have ht : (((encOne x ++ r.flatMap encOne).getD 0 0 * 256 + (encOne x ++ r.flatMap encOne).getD 1 0 : Nat) : Int) = x.1 := by rw [g0, g1]; omega
    have hdm : (encOne x ++ r.flatMap encOne).drop (4 + x.2.length) = r.flatMap encOne := by
      rw [← List.drop_drop, hd4, List.drop_left]
    rw [decW, if_neg (by omega), if_neg (by omega), hm, if_neg (by omega), hdm, ih, ht, hd4, List.take_left]
    rfl
theorem dec_enc {l : List (Int × List Nat)} {e : List Nat} (h : encOf l = some e) : decOf e = some l := by
  unfold encOf at h
  split at h
  · rename_i hc
    injection h with h
    subst h
    exact decW_enc l 0 (by omega) hc.2
  · cases h

theorem RB.drewN {w : World} {P : Nat → Prop} {A : Option Addr} {c : Nat} {bs : List Nat} (h : RB w P A c bs) (n : Nat) : RB (w.drewN n) P A c bs := h

set_option maxRecDepth 100000 in
set_option maxHeartbeats 4000000 in
theorem code_any (P P' : Nat → Prop) (A A' : Option Addr) (c c' : Nat) (l : List (Int × List Nat)) (bs : List Nat) (w : World) (hv : RA w P A c l) (hP : ∀ b, P b → b < w.heap.size) (hv' : RB w P' A' c' bs) (hP' : ∀ b, P' b → b < w.heap.size) :
    Calls Try.prog 9 #[.slice A l.length c, .slice A' bs.length c'] w fun e w' => e = .returned (.bool true) ∧ Below w.heap.size w w' := by
  go_enter Try.func9, Try.ntmps9
  go_wp2_with fail
  refine (begun_any _).mono ?_
  rintro e w1 ⟨rfl, hB1⟩
  have hs1 := hB1.size
  go_wp2_with fail
  refine (cut_any P A c l 70 60 _ (hv.below hB1 hP) (fun b hb => by have := hP b hb; omega) (by omega) (by omega)).mono ?_
  rintro e w2 ⟨A2, c2, cs2, rfl, hO2, hB2⟩
  have hs2 := hB2.size
  obtain ⟨L, hL⟩ : ∃ L, cutOf l 70 60 = L := ⟨_, rfl⟩
  rw [hL] at hO2 ⊢
  have hr2 : RB w2 P' A' c' bs := (hv'.below hB1 hP').below hB2 fun b hb => by have := hP' b hb; omega
  go_wp2_with fail
  refine (short_any P' A' c' 200 bs _ hr2 (by omega)).mono ?_
  rintro e w3 ⟨rfl, rfl⟩
  obtain ⟨B, hBs⟩ : ∃ B, bs.take 200 = B := ⟨_, rfl⟩
  have hr3 : RB w2 P' A' c' B := hBs ▸ hr2.take 200
  rw [hBs]
  have hw2 : Below w.heap.size w w2 := hB1.trans (hB2.mono hs1)
  have hL2 : RA w2 (fun b => b < w2.heap.size) A2 c2 L := hO2.ra.mono fun b hb => hb.2
  clear hB1 hB2 hO2 hL hBs hr2
  obtain ⟨o, ho⟩ : ∃ o, encOf L = o := ⟨_, rfl⟩
  obtain ⟨d, hd⟩ : ∃ d, decOf B = d := ⟨_, rfl⟩
  have Ho := Lib.hid ho
  have Hd := Lib.hid hd
  clear ho hd
  go_wp2_with fail
  refine (enc_any _ A2 c2 L w2 hL2 (fun b hb => hb)).mono ?_
  rintro e w4 ⟨A4, c4, rfl, hr4, hB4⟩
  rw [Ho.out] at hr4 ⊢
  have hs4 := hB4.size
  have hL4 := hL2.below hB4 fun b hb => hb
  go_wp2_with fail
  refine (refEnc_any _ A2 c2 L w4 hL4 (fun b hb => by omega)).mono ?_
  rintro e w5 ⟨A5, c5, rfl, hr5, hB5⟩
  rw [Ho.out] at hr5 ⊢
  have hs5 := hB5.size
  have hL5 := hL4.below hB5 fun b hb => by omega
  have hr45 : RB w5 (In w2.heap.size w4.heap.size) A4 c4 _ := hr4.below hB5 fun b hb => hb.2
  have hr35 : RB w5 P' A' c' B := (hr3.below hB4 fun b hb => by have := hP' b hb; have := hw2.size; omega).below hB5 fun b hb => by have := hP' b hb; have := hw2.size; omega
  go_wp2_with fail
  refine (dec_any P' A' c' B w5 hr35 (fun b hb => by have := hP' b hb; have := hw2.size; omega)).mono ?_
  rintro e w6 ⟨A6, c6, cs6, rfl, hO6, hB6⟩
  rw [Hd.out] at hO6 ⊢
  have hs6 := hB6.size
  go_wp2_with fail
  refine (refDec_any P' A' c' B w6 (hr35.below hB6 fun b hb => by have := hP' b hb; have := hw2.size; omega) (fun b hb => by have := hP' b hb; have := hw2.size; omega)).mono ?_
  rintro e w7 ⟨A7, c7, cs7, rfl, hO7, hB7⟩
  rw [Hd.out] at hO7 ⊢
  have hs7 := hB7.size
  have hM6 : RA w7 (fun b => b < w7.heap.size) A6 c6 _ := (hO6.ra.below hB7 fun b hb => hb.2).mono fun b hb => by have := hb.2; omega
  have hM7 : RA w7 (fun b => b < w7.heap.size) A7 c7 _ := hO7.ra.mono fun b hb => hb.2
  have hc4 : RB w7 (fun b => b < w7.heap.size) A4 c4 _ := ((hr45.below hB6 fun b hb => by have := hb.2; omega).below hB7 fun b hb => by have := hb.2; omega).mono fun b hb => by have := hb.2; omega
  have hc5 : RB w7 (fun b => b < w7.heap.size) A5 c5 _ := ((hr5.below hB6 fun b hb => hb.2).below hB7 fun b hb => by have := hb.2; omega).mono fun b hb => by have := hb.2; omega
  have hL7 := (hL5.below hB6 fun b hb => by omega).below hB7 fun b hb => by omega
  have hw7 : Below w.heap.size w w7 := (((hw2.trans (hB4.mono hw2.size)).trans (hB5.mono (by have := hw2.size; omega))).trans (hB6.mono (by have := hw2.size; omega))).trans (hB7.mono (by have := hw2.size; omega))
  clear hB4 hB5 hB6 hB7 hO6 hO7 hr4 hr45 hr5 hr35 hr3 hL2 hL4 hL5 hw2
  have s4 := fun m => RB.str (P := Try.prog) (hc4.drewN m) 46 5 9 Try.underlying46 Try.underlying5 Try.underlying9
  have s5 := fun m => RB.str (P := Try.prog) (hc5.drewN m) 46 5 9 Try.underlying46 Try.underlying5 Try.underlying9
  have S4 := Lib.hid (s4 0)
  have S5 := Lib.hid (s5 0)
  have Heq := Lib.hid (eq_any _ _ A6 A7 c6 c7 _ _ w7 hM6 hM7)
  have hdt : decide (d.getD [] = d.getD []) = true := by simp
  rw [hdt] at Heq
  clear hdt s4 s5
  rcases o with _ | e
  · have s4 : (convert 46 9 (.slice A4 0 c4)).run Try.prog w7 = .ok (.string (strB [])) w7 := S4.out
    have s5 : (convert 46 9 (.slice A5 0 c5)).run Try.prog w7 = .ok (.string (strB [])) w7 := S5.out
    rcases d with _ | m
    all_goals
      go_wp2_with fail
      refine Heq.out.mono ?_
      rintro e w8 ⟨rfl, q, rfl⟩
      go_wp2
      go_ret
      exact ⟨rfl, below_drewN hw7 q⟩
  · have Hde := Lib.hid (dec_enc Ho.out)
    have s4 : (convert 46 9 (.slice A4 e.length c4)).run Try.prog w7 = .ok (.string (strB e)) w7 := S4.out
    have s5 : (convert 46 9 (.slice A5 e.length c5)).run Try.prog w7 = .ok (.string (strB e)) w7 := S5.out
    rcases d with _ | m
    all_goals
      go_wp2_with fail
      refine Heq.out.mono ?_
      rintro e w8 ⟨rfl, q, rfl⟩
      go_wp2_with fail
      refine (dec_any (fun b => b < w7.heap.size) A4 c4 e _ (hc4.drewN q) (fun b hb => hb)).mono ?_
      rintro e w9 ⟨A9, c9, cs9, rfl, hO9, hB9⟩
      rw [Hde.out] at hO9 ⊢
      have hs9 := hB9.size
      have hL9 : RA w9 (fun b => b < w2.heap.size) A2 c2 L := RA.below (w := w7.drewN q) hL7 hB9 fun b hb => by
        show b < w7.heap.size
        omega
      have Heq2 := Lib.hid (eq_any _ _ A9 A2 c9 c2 L L w9 hO9.ra hL9)
      have hLL : decide (L = L) = true := by simp
      rw [hLL] at Heq2
      clear hLL
      go_wp2_with fail
      refine Heq2.out.mono ?_
      rintro e w10 ⟨rfl, q', rfl⟩
      go_wp2
      go_ret
      exact ⟨rfl, below_drewN ((below_drewN hw7 q).trans (Below.mono (B' := w.heap.size) hB9 (by show w.heap.size ≤ w7.heap.size; exact hw7.size))) q'⟩
end Go.Proofs.Ytpikikaoelnheaa
