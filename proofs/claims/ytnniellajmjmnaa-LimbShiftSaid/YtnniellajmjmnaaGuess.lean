/- What limb.guess computes. -/
import Derived.Test.YtnniellajmjmnaaQuo
import Derived.Test.YtnniellajmjmnaaQuoN
import Derived.WalkMore
namespace Go.Proofs.Ytnniellajmjmnaa
open Go.RowKit

/-- A guess of a limb of a quotient: not too small. -/
def Guessed (u u1 y1 y0 G : Nat) : Prop := G < 18446744073709551616 ∧ ∀ q, q < 18446744073709551616 → q * (y1 * 18446744073709551616 + y0) ≤ u * 18446744073709551616 + u1 → q ≤ G
theorem Guessed.top (u u1 y1 y0 : Nat) : Guessed u u1 y1 y0 18446744073709551615 := ⟨by omega, fun q hq _ => by omega⟩
theorem Guessed.of_eq {u u1 y1 y0 G : Nat} (h : GuessOk 18446744073709551616 u u1 y1 y0) (he : G = (u * 18446744073709551616 + u1) / (y1 * 18446744073709551616 + y0)) : Guessed u u1 y1 y0 G := by
  refine ⟨by rw [he]; exact h.quo_lt, fun q _ hle => ?_⟩
  rw [he]
  refine (Nat.le_div_iff_mul_le ?_).2 hle
  have := h.hy
  omega
/-- The loop's question in two limbs. -/
theorem two_le {hi lo r x p : Nat} (h : lo + 18446744073709551616 * hi = p) (hlo : lo < 18446744073709551616) (hx : x < 18446744073709551616) : (hi < r ∨ hi = r ∧ lo ≤ x) ↔ p ≤ 18446744073709551616 * r + x := by
  subst h
  rcases Nat.lt_trichotomy hi r with h1 | h1 | h1
  · refine ⟨fun _ => ?_, fun _ => .inl h1⟩
    omega
  · subst h1
    exact ⟨fun h => by omega, fun h => by omega⟩
  · exact ⟨fun h => by omega, fun h => by omega⟩

theorem top_quo {B x2 x1 y1 : Nat} (h1 : x1 < B) (h : x2 < y1) : (x2 * B + x1) / y1 < B := by
  apply Nat.div_lt_of_lt_mul
  have : (x2 + 1) * B ≤ y1 * B := Nat.mul_le_mul_right _ h
  rw [Nat.add_mul, Nat.one_mul] at this
  omega

theorem ret_u {a b : Int} (h : a = b) : Ending.returned (.int .u64 a) = .returned (.int .u64 b) := by rw [h]
/-- What limb.guess answers. -/
def guessF (x2 x1 x0 y1 y0 : Nat) : Nat := if y1 ≤ x2 then 18446744073709551615 else ((x2 * 18446744073709551616 + x1) * 18446744073709551616 + x0) / (y1 * 18446744073709551616 + y0)
theorem guessF_ok {x2 x1 x0 y1 y0 : Nat} (h1 : x1 < 18446744073709551616) (h0 : x0 < 18446744073709551616) (g1 : y1 < 18446744073709551616) (g0 : y0 < 18446744073709551616) (gt : 18446744073709551616 ≤ 2 * y1) :
    Guessed (x2 * 18446744073709551616 + x1) x0 y1 y0 (guessF x2 x1 x0 y1 y0) := by
  unfold guessF
  split
  · exact Guessed.top _ _ _ _
  · have hu : x2 * 18446744073709551616 + x1 < y1 * 18446744073709551616 + y0 := by omega
    exact Guessed.of_eq ⟨by omega, gt, g1, g0, h0, hu⟩ rfl

set_option maxRecDepth 100000 in
set_option maxHeartbeats 2000000 in
theorem guess_any (x2 x1 x0 y1 y0 : Nat) (w : World) (h1 : x1 < 18446744073709551616) (h0 : x0 < 18446744073709551616) (g1 : y1 < 18446744073709551616) (g0 : y0 < 18446744073709551616) (gt : 18446744073709551616 ≤ 2 * y1) :
    Calls Try.prog 64 #[.int .u64 (x2 : Int), .int .u64 (x1 : Int), .int .u64 (x0 : Int), .int .u64 (y1 : Int), .int .u64 (y0 : Int)] w fun e w' => e = .returned (.int .u64 (guessF x2 x1 x0 y1 y0 : Int)) ∧ ∃ n, w' = w.drewN n := by
  by_cases hge : y1 ≤ x2
  · have k1 : y1 ≤ x2 := hge
    have ht : guessF x2 x1 x0 y1 y0 = 18446744073709551615 := if_pos hge
    have Ht := Lib.hid ht
    clear h1 h0 g1 g0 gt hge ht
    go_enter Try.func64, Try.ntmps64
    go_wp2
    go_step3
    go_wp2
    try rw [Exit.noGoto_ret]
    go_ret
    exact ⟨by rw [Ht.out]; rfl, 0, rfl⟩
  · have k1 : ¬ y1 ≤ x2 := hge
    have hlt : x2 < y1 := by omega
    have hu : x2 * 18446744073709551616 + x1 < y1 * 18446744073709551616 + y0 := by omega
    have hq := top_quo h1 hlt
    have hdv := fun q r (hr : r < y1) (he : _ = y1 * q + r) => div64_any x2 x1 y1 w h1 hlt g1 q r hr he
    have hF : guessF x2 x1 x0 y1 y0 = ((x2 * 18446744073709551616 + x1) * 18446744073709551616 + x0) / (y1 * 18446744073709551616 + y0) := if_neg hge
    obtain ⟨u, hu'⟩ : ∃ u, x2 * 18446744073709551616 + x1 = u := ⟨_, rfl⟩
    rw [hu'] at hu hq hdv hF
    have G := (⟨by omega, gt, g1, g0, h0, hu⟩ : GuessOk 18446744073709551616 u x0 y1 y0)
    obtain ⟨hg, hr, hp⟩ := G.start
    have hrr : u - u / y1 * y1 < y1 := (rest_of (by omega)).2
    have HG : Hid (∀ g, g = (u * 18446744073709551616 + x0) / (y1 * 18446744073709551616 + y0) → g = guessF x2 x1 x0 y1 y0) := Lib.hid fun g he => he.trans hF.symm
    clear hF
    clear hu hu'
    obtain ⟨q, hq'⟩ : ∃ q, u / y1 = q := ⟨_, rfl⟩
    rw [hq'] at hg hr hp hrr hq
    obtain ⟨p, hp'⟩ : ∃ p, q * y1 = p := ⟨_, rfl⟩
    rw [hp'] at hg hr hp hrr
    obtain ⟨r, hr'⟩ : ∃ r, u - p = r := ⟨_, rfl⟩
    rw [hr'] at hg hr hrr
    have Hdv := Lib.hid (hdv q r hrr (by rw [Nat.mul_comm, hp']; omega))
    have HGk := Lib.hid G
    clear hdv hq' hp' hr' hp hrr hge hlt h1 G gt
    go_enter Try.func64, Try.ntmps64
    go_wp2
    go_step3
    go_wp2_with fail
    refine Hdv.out.mono ?_
    rintro e w1 ⟨rfl, n, rfl⟩
    go_wp2
    go_step3
    go_wp2
    go_loop [11, 12] (fun qv rv => ∃ q r : Nat, qv = .int .u64 (q : Int) ∧ rv = .int .u64 (r : Int) ∧ GuessAt 18446744073709551616 u x0 y1 y0 q r ∧ r < 18446744073709551616 ∧ q < 18446744073709551616) (fun qv _ => (intOf qv).toNat)
    case atStart => exact ⟨q, r, rfl, rfl, hg, hr, hq⟩
    case round =>
      clear hg hr hq
      obtain ⟨q, r, rfl, rfl, hg, hr, hq⟩ := hrel
      obtain ⟨hi', lo, b1, b2⟩ : ∃ hi' lo : Nat, lo < 18446744073709551616 ∧ lo + 18446744073709551616 * hi' = q * y0 := ⟨q * y0 / 18446744073709551616, q * y0 % 18446744073709551616, by omega, by omega⟩
      have hmul := Lib.hid (fun w => mul64_at q y0 hi' lo hq g0 b1 b2 w)
      have hle := two_le (r := r) b2 b1 h0
      by_cases hc : q * y0 ≤ 18446744073709551616 * r + x0
      · have hQ := Lib.hid (HG.out _ (hg.le HGk.out hc))
        have hc' := hle.2 hc
        clear hle hc hg hr hq b1 b2 g0 g1 h0
        rcases hc' with hc' | ⟨rfl, hc'⟩
        · have i1 : hi' < r := by omega
          clear hc'
          go_wp2_with fail
          refine (hmul.out _).mono ?_
          rintro e w1 ⟨rfl, rfl⟩
          go_wp2
          try rw [Exit.noGoto_ret]
          go_ret
          exact ⟨by rw [← hQ.out]; rfl, _, rfl⟩
        · have i1 : ¬ hi' < hi' := by omega
          have i2 : lo ≤ x0 := by omega
          clear hc'
          go_wp2_with fail
          refine (hmul.out _).mono ?_
          rintro e w1 ⟨rfl, rfl⟩
          go_wp2
          try rw [Exit.noGoto_ret]
          go_ret
          exact ⟨by rw [← hQ.out]; rfl, _, rfl⟩
      · obtain ⟨hg', hq1⟩ := hg.step HGk.out (.inr (by omega))
        obtain ⟨m, rfl⟩ : ∃ m, q = m + 1 := ⟨q - 1, by omega⟩
        rw [Nat.add_sub_cancel] at hg'
        have hmB : m < 18446744073709551616 := by omega
        obtain ⟨s, cc, s1, s2, s3⟩ : ∃ s cc : Nat, s < 18446744073709551616 ∧ cc ≤ 1 ∧ s + 18446744073709551616 * cc = r + y1 + 0 := ⟨(r + y1) % 18446744073709551616, (r + y1) / 18446744073709551616, by omega, by omega, by omega⟩
        have hadd := fun w => add64_at r y1 0 s cc (by omega) s1 s3 w
        simp only [Int.cast_ofNat_Int] at hadd
        have hn : ¬ (hi' < r ∨ hi' = r ∧ lo ≤ x0) := fun h => hc (hle.1 h)
        have hmi : (m : Int) < 18446744073709551616 := by omega
        rcases Nat.eq_zero_or_pos cc with rfl | hcc
        · have hs : s = r + y1 := by omega
          rw [← hs] at hg'
          have Hs1 := Lib.hid s1
          have Hmb := Lib.hid hmB
          clear s1 s2 s3 hs hg hle hc b1 b2 hq hr hq1 hmB
          by_cases hi : hi' = r
          · subst hi
            have i1 : ¬ hi' < hi' := by omega
            have i2 : ¬ lo ≤ x0 := by omega
            clear hn
            go_wp2_with fail
            refine (hmul.out _).mono ?_
            rintro e w1 ⟨rfl, rfl⟩
            go_wp2
            go_round
            case rel => exact ⟨m, s, by go_num, rfl, hg', Hs1.out, Hmb.out⟩
            case measure => simp [intOf]
          · have i1 : ¬ hi' < r := by omega
            have i2 : ((hi' : Int) == (r : Int)) = false := eqB (by omega)
            clear hn hi
            go_wp2_with fail
            refine (hmul.out _).mono ?_
            rintro e w1 ⟨rfl, rfl⟩
            go_wp2
            go_round
            case rel => exact ⟨m, s, by go_num, rfl, hg', Hs1.out, Hmb.out⟩
            case measure => simp [intOf]
        · obtain rfl : cc = 1 := by omega
          have hQ := Lib.hid (HG.out _ (hg'.out HGk.out (by omega) (by omega)))
          clear s1 s2 s3 hg hg' hle hc b1 b2 hq hr hq1 hmB
          simp only [Int.cast_ofNat_Int] at hadd
          by_cases hi : hi' = r
          · subst hi
            have i1 : ¬ hi' < hi' := by omega
            have i2 : ¬ lo ≤ x0 := by omega
            clear hn
            go_wp2_with fail
            refine (hmul.out _).mono ?_
            rintro e w1 ⟨rfl, rfl⟩
            go_wp2
            try rw [Exit.noGoto_ret]
            go_ret
            exact ⟨by rw [← hQ.out]; exact ret_u (by simp), _, rfl⟩
          · have i1 : ¬ hi' < r := by omega
            have i2 : ((hi' : Int) == (r : Int)) = false := eqB (by omega)
            clear hn hi
            go_wp2_with fail
            refine (hmul.out _).mono ?_
            rintro e w1 ⟨rfl, rfl⟩
            go_wp2
            try rw [Exit.noGoto_ret]
            go_ret
            exact ⟨by rw [← hQ.out]; exact ret_u (by simp), _, rfl⟩
end Go.Proofs.Ytnniellajmjmnaa
