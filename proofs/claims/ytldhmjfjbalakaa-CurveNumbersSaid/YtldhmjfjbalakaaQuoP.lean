/- Plain arithmetic of the rounds of a long division: nothing of the program. What limb.guess computes. What limb.takes and limb.gives compute. Plain arithmetic of one limb of a long division: nothing of the program. -/
import Derived.Test.YtldhmjfjbalakaaKAb
import Derived.Test.YtldhmjfjbalakaaKAe
import Derived.Test.YtldhmjfjbalakaaQuo
import Derived.WalkMore
namespace Go.Proofs.Ytldhmjfjbalakaa

/-- Within 'takes': j limbs of q y are off, from place f on. -/
def TakesAt (B : Nat) (L0 y : List Nat) (q f : Nat) (L : List Nat) (j c b : Nat) : Prop :=
  L.length = L0.length ∧ val B L + B ^ f * (q * val B (y.take j)) = val B L0 + B ^ (f + j) * (c + b) ∧ ∀ i, f + j ≤ i → dg L i = dg L0 i
theorem TakesAt.zero (B : Nat) (L y : List Nat) (q f : Nat) : TakesAt B L y q f L 0 0 0 := by simp [TakesAt]
theorem TakesAt.step {B : Nat} {L0 y L : List Nat} {q f j c b lo c' x b' : Nat} (h : TakesAt B L0 y q f L j c b) (hL : f + j < L.length) (h1 : lo + B * c' = q * dg y j + c) (h2 : x + lo + b = dg L (f + j) + B * b') :
    TakesAt B L0 y q f (L.set (f + j) x) (j + 1) c' b' := by
  obtain ⟨g1, g2, g3⟩ := h
  refine ⟨by simpa using g1, ?_, fun i hi => by rw [getD_set_ne (by omega)]; exact g3 i (by omega)⟩
  have hs := val_set' B hL x
  rw [val_take_getD, Nat.mul_add, Nat.mul_add, ← Nat.add_assoc f j 1, Nat.pow_succ]
  have e1 : B ^ f * (q * (B ^ j * dg y j)) = B ^ (f + j) * (q * dg y j) := by
    rw [Nat.pow_add, Nat.mul_left_comm q, ← Nat.mul_assoc]
  have e2 : B ^ (f + j) * (lo + B * c') = B ^ (f + j) * (q * dg y j + c) := by rw [h1]
  have e3 : B ^ (f + j) * (x + lo + b) = B ^ (f + j) * (dg L (f + j) + B * b') := by rw [h2]
  rw [e1, Nat.mul_assoc, Nat.mul_add]
  rw [Nat.mul_add] at g2
  simp only [Nat.mul_add] at e2 e3 ⊢
  generalize B ^ (f + j) * (B * c') = p1 at *
  generalize B ^ (f + j) * (B * b') = p2 at *
  generalize B ^ (f + j) * lo = p3 at *
  generalize B ^ (f + j) * (q * dg y j) = p4 at *
  generalize B ^ (f + j) * c = p5 at *
  generalize B ^ (f + j) * b = p6 at *
  generalize B ^ (f + j) * x = p7 at *
  generalize B ^ (f + j) * dg L (f + j) = p8 at *
  generalize B ^ f * (q * val B (y.take j)) = p9 at *
  generalize val B (L.set (f + j) x) = p10 at *
  generalize val B L = p11 at *
  generalize val B L0 = p12 at *
  omega
theorem TakesAt.fin {B : Nat} {L0 y L : List Nat} {q f n c b x b' : Nat} (h : TakesAt B L0 y q f L n c b) (hn : y.length = n) (hL : f + n < L.length) (h2 : x + c + b = dg L (f + n) + B * b') :
    (L.set (f + n) x).length = L0.length ∧ val B (L.set (f + n) x) + B ^ f * (q * val B y) = val B L0 + B ^ (f + n + 1) * b' ∧ ∀ i, f + n + 1 ≤ i → dg (L.set (f + n) x) i = dg L0 i := by
  obtain ⟨g1, g2, g3⟩ := h
  refine ⟨by simpa using g1, ?_, fun i hi => by rw [getD_set_ne (by omega)]; exact g3 i (by omega)⟩
  rw [List.take_of_length_le (by omega)] at g2
  have hs := val_set' B hL x
  have e3 : B ^ (f + n) * (x + c + b) = B ^ (f + n) * (dg L (f + n) + B * b') := by rw [h2]
  rw [Nat.pow_succ, Nat.mul_assoc]
  simp only [Nat.mul_add] at e3 g2
  generalize B ^ (f + n) * (B * b') = p2 at *
  generalize B ^ (f + n) * c = p5 at *
  generalize B ^ (f + n) * b = p6 at *
  generalize B ^ (f + n) * x = p7 at *
  generalize B ^ (f + n) * dg L (f + n) = p8 at *
  generalize B ^ f * (q * val B y) = p9 at *
  generalize val B (L.set (f + n) x) = p10 at *
  generalize val B L = p11 at *
  generalize val B L0 = p12 at *
  omega
/-- Within 'gives': j limbs of y are added, from place f on. -/
def GivesAt (B : Nat) (L0 y : List Nat) (f : Nat) (L : List Nat) (j c : Nat) : Prop :=
  L.length = L0.length ∧ val B L + B ^ (f + j) * c = val B L0 + B ^ f * val B (y.take j) ∧ ∀ i, f + j ≤ i → dg L i = dg L0 i
theorem GivesAt.zero (B : Nat) (L y : List Nat) (f : Nat) : GivesAt B L y f L 0 0 := by simp [GivesAt]
theorem GivesAt.step {B : Nat} {L0 y L : List Nat} {f j c x c' : Nat} (h : GivesAt B L0 y f L j c) (hL : f + j < L.length) (h1 : x + B * c' = dg L (f + j) + dg y j + c) : GivesAt B L0 y f (L.set (f + j) x) (j + 1) c' := by
  obtain ⟨g1, g2, g3⟩ := h
  refine ⟨by simpa using g1, ?_, fun i hi => by rw [getD_set_ne (by omega)]; exact g3 i (by omega)⟩
  have hs := val_set' B hL x
  rw [val_take_getD, Nat.mul_add, ← Nat.mul_assoc, ← Nat.pow_add, ← Nat.add_assoc f j 1, Nat.pow_succ, Nat.mul_assoc]
  have e2 : B ^ (f + j) * (x + B * c') = B ^ (f + j) * (dg L (f + j) + dg y j + c) := by rw [h1]
  simp only [Nat.mul_add] at e2 ⊢
  generalize B ^ (f + j) * (B * c') = p1 at *
  generalize B ^ (f + j) * dg y j = p4 at *
  generalize B ^ (f + j) * c = p5 at *
  generalize B ^ (f + j) * x = p7 at *
  generalize B ^ (f + j) * dg L (f + j) = p8 at *
  generalize B ^ f * val B (y.take j) = p9 at *
  generalize val B (L.set (f + j) x) = p10 at *
  generalize val B L = p11 at *
  generalize val B L0 = p12 at *
  omega
theorem GivesAt.fin {B : Nat} {L0 y L : List Nat} {f n c x c' : Nat} (h : GivesAt B L0 y f L n c) (hn : y.length = n) (hL : f + n < L.length) (h1 : x + B * c' = dg L (f + n) + c) :
    (L.set (f + n) x).length = L0.length ∧ val B (L.set (f + n) x) + B ^ (f + n + 1) * c' = val B L0 + B ^ f * val B y ∧ ∀ i, f + n + 1 ≤ i → dg (L.set (f + n) x) i = dg L0 i := by
  obtain ⟨g1, g2, g3⟩ := h
  refine ⟨by simpa using g1, ?_, fun i hi => by rw [getD_set_ne (by omega)]; exact g3 i (by omega)⟩
  rw [List.take_of_length_le (by omega)] at g2
  have hs := val_set' B hL x
  have e3 : B ^ (f + n) * (x + B * c') = B ^ (f + n) * (dg L (f + n) + c) := by rw [h1]
  rw [Nat.pow_succ, Nat.mul_assoc]
  simp only [Nat.mul_add] at e3
  generalize B ^ (f + n) * (B * c') = p2 at *
  generalize B ^ (f + n) * c = p5 at *
  generalize B ^ (f + n) * x = p7 at *
  generalize B ^ (f + n) * dg L (f + n) = p8 at *
  generalize B ^ f * val B y = p9 at *
  generalize val B (L.set (f + n) x) = p10 at *
  generalize val B L = p11 at *
  generalize val B L0 = p12 at *
  omega
/-- Digits beyond a place are nought just if the number is small. -/
theorem val_lt_of_zero {B : Nat} (hB : 0 < B) {L : List Nat} (h : ∀ x ∈ L, x < B) {m : Nat} (hz : ∀ i, m ≤ i → dg L i = 0) : val B L < B ^ m := by
  rcases Nat.lt_or_ge L.length m with h1 | h1
  · exact Nat.lt_of_lt_of_le (val_lt h) (Nat.pow_le_pow_right hB (by omega))
  · have e := val_take_drop B L h1
    have hd : val B (L.drop m) = 0 := by
      apply val_zeros
      intro x hx
      obtain ⟨i, hi, rfl⟩ := List.getElem_of_mem hx
      rw [List.getElem_drop]
      have := hz (m + i) (by omega)
      rwa [dg, getD_eq' (by simp at hi; omega)] at this
    rw [hd, Nat.mul_zero, Nat.add_zero] at e
    rw [e]
    have := val_lt (B := B) (l := L.take m) fun x hx => h x (List.mem_of_mem_take hx)
    rwa [List.length_take, Nat.min_eq_left h1] at this
theorem dg_of_val {B : Nat} {L : List Nat} (h : ∀ x ∈ L, x < B) (i : Nat) (hi : i < L.length) : dg L i = val B L / B ^ i % B := by
  have hB : 0 < B := Nat.lt_of_le_of_lt (Nat.zero_le _) (h _ (List.getElem_mem hi))
  have e := val_take_drop B L (Nat.le_of_lt hi)
  have h2 := val_lt (B := B) (l := L.take i) fun x hx => h x (List.mem_of_mem_take hx)
  rw [List.length_take, Nat.min_eq_left (by omega)] at h2
  rw [List.drop_eq_getElem_cons hi, val_cons] at e
  rw [e, Nat.add_mul_div_left _ _ (Nat.pow_pos hB), Nat.div_eq_of_lt h2, Nat.zero_add, Nat.add_mul_mod_self_left, dg, getD_eq' hi, Nat.mod_eq_of_lt (h _ (List.getElem_mem hi))]
theorem zero_of_val_lt {B : Nat} {L : List Nat} (h : ∀ x ∈ L, x < B) {m : Nat} (hm : val B L < B ^ m) {i : Nat} (hi : m ≤ i) : dg L i = 0 := by
  rcases Nat.lt_or_ge i L.length with h1 | h1
  · have hB : 0 < B := Nat.lt_of_le_of_lt (Nat.zero_le _) (h _ (List.getElem_mem h1))
    rw [dg_of_val h i h1, Nat.div_eq_of_lt (Nat.lt_of_lt_of_le hm (Nat.pow_le_pow_right hB hi)), Nat.zero_mod]
  · rw [dg, List.getD_eq_getElem?_getD, List.getElem?_eq_none h1]; rfl
end Go.Proofs.Ytldhmjfjbalakaa

namespace Go.Proofs.Ytldhmjfjbalakaa
open Go.RowKit

/-- A guess of a limb of a quotient: not too small. -/
def Guessed (u u1 y1 y0 G : Nat) : Prop := G < 18446744073709551616 ∧ ∀ q, q < 18446744073709551616 → q * (y1 * 18446744073709551616 + y0) ≤ u * 18446744073709551616 + u1 → q ≤ G
theorem Guessed.top (u u1 y1 y0 : Nat) : Guessed u u1 y1 y0 18446744073709551615 := ⟨by omega, fun q hq _ => by omega⟩
theorem Guessed.of_eq {u u1 y1 y0 G : Nat} (h : GuessOk 18446744073709551616 u u1 y1 y0) (he : G = (u * 18446744073709551616 + u1) / (y1 * 18446744073709551616 + y0)) : Guessed u u1 y1 y0 G := by
  refine ⟨by rw [he]; exact h.quo_lt, fun q _ hle => ?_⟩
  rw [he]
  refine (Nat.le_div_iff_mul_le ?_).2 hle
  have := h.hy
  omega
/-- The loop's question in two limbs. -/
theorem two_le {hi lo r x p : Nat} (h : lo + 18446744073709551616 * hi = p) (hlo : lo < 18446744073709551616) (hx : x < 18446744073709551616) : (hi < r ∨ hi = r ∧ lo ≤ x) ↔ p ≤ 18446744073709551616 * r + x := by
  subst h
  rcases Nat.lt_trichotomy hi r with h1 | h1 | h1
  · refine ⟨fun _ => ?_, fun _ => .inl h1⟩
    omega
  · subst h1
    exact ⟨fun h => by omega, fun h => by omega⟩
  · exact ⟨fun h => by omega, fun h => by omega⟩

theorem top_quo {B x2 x1 y1 : Nat} (h1 : x1 < B) (h : x2 < y1) : (x2 * B + x1) / y1 < B := by
  apply Nat.div_lt_of_lt_mul
  have : (x2 + 1) * B ≤ y1 * B := Nat.mul_le_mul_right _ h
  rw [Nat.add_mul, Nat.one_mul] at this
  omega

theorem ret_u {a b : Int} (h : a = b) : Ending.returned (.int .u64 a) = .returned (.int .u64 b) := by rw [h]
/-- What limb.guess answers. -/
def guessF (x2 x1 x0 y1 y0 : Nat) : Nat := if y1 ≤ x2 then 18446744073709551615 else ((x2 * 18446744073709551616 + x1) * 18446744073709551616 + x0) / (y1 * 18446744073709551616 + y0)
theorem guessF_ok {x2 x1 x0 y1 y0 : Nat} (h1 : x1 < 18446744073709551616) (h0 : x0 < 18446744073709551616) (g1 : y1 < 18446744073709551616) (g0 : y0 < 18446744073709551616) (gt : 18446744073709551616 ≤ 2 * y1) :
    Guessed (x2 * 18446744073709551616 + x1) x0 y1 y0 (guessF x2 x1 x0 y1 y0) := by
  unfold guessF
  split
  · exact Guessed.top _ _ _ _
  · have hu : x2 * 18446744073709551616 + x1 < y1 * 18446744073709551616 + y0 := by omega
    exact Guessed.of_eq ⟨by omega, gt, g1, g0, h0, hu⟩ rfl

set_option maxRecDepth 100000 in
set_option maxHeartbeats 2000000 in
theorem guess_any (x2 x1 x0 y1 y0 : Nat) (w : World) (h1 : x1 < 18446744073709551616) (h0 : x0 < 18446744073709551616) (g1 : y1 < 18446744073709551616) (g0 : y0 < 18446744073709551616) (gt : 18446744073709551616 ≤ 2 * y1) :
    Calls Try.prog 92 #[.int .u64 (x2 : Int), .int .u64 (x1 : Int), .int .u64 (x0 : Int), .int .u64 (y1 : Int), .int .u64 (y0 : Int)] w fun e w' => e = .returned (.int .u64 (guessF x2 x1 x0 y1 y0 : Int)) ∧ ∃ n, w' = w.drewN n := by
  by_cases hge : y1 ≤ x2
  · have k1 : y1 ≤ x2 := hge
    have ht : guessF x2 x1 x0 y1 y0 = 18446744073709551615 := if_pos hge
    have Ht := Lib.hid ht
    clear h1 h0 g1 g0 gt hge ht
    go_enter Try.func92, Try.ntmps92
    go_wp2
    go_step3
    go_wp2
    try rw [Exit.noGoto_ret]
    go_ret
    exact ⟨by rw [Ht.out]; rfl, 0, rfl⟩
  · have k1 : ¬ y1 ≤ x2 := hge
    have hlt : x2 < y1 := by omega
    have hu : x2 * 18446744073709551616 + x1 < y1 * 18446744073709551616 + y0 := by omega
    have hq := top_quo h1 hlt
    have hdv := fun q r (hr : r < y1) (he : _ = y1 * q + r) => div64_any x2 x1 y1 w h1 hlt g1 q r hr he
    have hF : guessF x2 x1 x0 y1 y0 = ((x2 * 18446744073709551616 + x1) * 18446744073709551616 + x0) / (y1 * 18446744073709551616 + y0) := if_neg hge
    obtain ⟨u, hu'⟩ : ∃ u, x2 * 18446744073709551616 + x1 = u := ⟨_, rfl⟩
    rw [hu'] at hu hq hdv hF
    have G := (⟨by omega, gt, g1, g0, h0, hu⟩ : GuessOk 18446744073709551616 u x0 y1 y0)
    obtain ⟨hg, hr, hp⟩ := G.start
    have hrr : u - u / y1 * y1 < y1 := (rest_of (by omega)).2
    have HG : Hid (∀ g, g = (u * 18446744073709551616 + x0) / (y1 * 18446744073709551616 + y0) → g = guessF x2 x1 x0 y1 y0) := Lib.hid fun g he => he.trans hF.symm
    clear hF
    clear hu hu'
    obtain ⟨q, hq'⟩ : ∃ q, u / y1 = q := ⟨_, rfl⟩
    rw [hq'] at hg hr hp hrr hq
    obtain ⟨p, hp'⟩ : ∃ p, q * y1 = p := ⟨_, rfl⟩
    rw [hp'] at hg hr hp hrr
    obtain ⟨r, hr'⟩ : ∃ r, u - p = r := ⟨_, rfl⟩
    rw [hr'] at hg hr hrr
    have Hdv := Lib.hid (hdv q r hrr (by rw [Nat.mul_comm, hp']; omega))
    have HGk := Lib.hid G
    clear hdv hq' hp' hr' hp hrr hge hlt h1 G gt
    go_enter Try.func92, Try.ntmps92
    go_wp2
    go_step3
    go_wp2_with fail
    refine Hdv.out.mono ?_
    rintro e w1 ⟨rfl, n, rfl⟩
    go_wp2
    go_step3
    go_wp2
    go_loop [11, 12] (fun qv rv => ∃ q r : Nat, qv = .int .u64 (q : Int) ∧ rv = .int .u64 (r : Int) ∧ GuessAt 18446744073709551616 u x0 y1 y0 q r ∧ r < 18446744073709551616 ∧ q < 18446744073709551616) (fun qv _ => (intOf qv).toNat)
    case atStart => exact ⟨q, r, rfl, rfl, hg, hr, hq⟩
    case round =>
      clear hg hr hq
      obtain ⟨q, r, rfl, rfl, hg, hr, hq⟩ := hrel
      obtain ⟨hi', lo, b1, b2⟩ : ∃ hi' lo : Nat, lo < 18446744073709551616 ∧ lo + 18446744073709551616 * hi' = q * y0 := ⟨q * y0 / 18446744073709551616, q * y0 % 18446744073709551616, by omega, by omega⟩
      have hmul := Lib.hid (fun w => mul64_at q y0 hi' lo hq g0 b1 b2 w)
      have hle := two_le (r := r) b2 b1 h0
      by_cases hc : q * y0 ≤ 18446744073709551616 * r + x0
      · have hQ := Lib.hid (HG.out _ (hg.le HGk.out hc))
        have hc' := hle.2 hc
        clear hle hc hg hr hq b1 b2 g0 g1 h0
        rcases hc' with hc' | ⟨rfl, hc'⟩
        · have i1 : hi' < r := by omega
          clear hc'
          go_wp2_with fail
          refine (hmul.out _).mono ?_
          rintro e w1 ⟨rfl, rfl⟩
          go_wp2
          try rw [Exit.noGoto_ret]
          go_ret
          exact ⟨by rw [← hQ.out]; rfl, _, rfl⟩
        · have i1 : ¬ hi' < hi' := by omega
          have i2 : lo ≤ x0 := by omega
          clear hc'
          go_wp2_with fail
          refine (hmul.out _).mono ?_
          rintro e w1 ⟨rfl, rfl⟩
          go_wp2
          try rw [Exit.noGoto_ret]
          go_ret
          exact ⟨by rw [← hQ.out]; rfl, _, rfl⟩
      · obtain ⟨hg', hq1⟩ := hg.step HGk.out (.inr (by omega))
        obtain ⟨m, rfl⟩ : ∃ m, q = m + 1 := ⟨q - 1, by omega⟩
        rw [Nat.add_sub_cancel] at hg'
        have hmB : m < 18446744073709551616 := by omega
        obtain ⟨s, cc, s1, s2, s3⟩ : ∃ s cc : Nat, s < 18446744073709551616 ∧ cc ≤ 1 ∧ s + 18446744073709551616 * cc = r + y1 + 0 := ⟨(r + y1) % 18446744073709551616, (r + y1) / 18446744073709551616, by omega, by omega, by omega⟩
        have hadd := fun w => add64_at r y1 0 s cc (by omega) s1 s3 w
        simp only [Int.cast_ofNat_Int] at hadd
        have hn : ¬ (hi' < r ∨ hi' = r ∧ lo ≤ x0) := fun h => hc (hle.1 h)
        have hmi : (m : Int) < 18446744073709551616 := by omega
        rcases Nat.eq_zero_or_pos cc with rfl | hcc
        · have hs : s = r + y1 := by omega
          rw [← hs] at hg'
          have Hs1 := Lib.hid s1
          have Hmb := Lib.hid hmB
          clear s1 s2 s3 hs hg hle hc b1 b2 hq hr hq1 hmB
          by_cases hi : hi' = r
          · subst hi
            have i1 : ¬ hi' < hi' := by omega
            have i2 : ¬ lo ≤ x0 := by omega
            clear hn
            go_wp2_with fail
            refine (hmul.out _).mono ?_
            rintro e w1 ⟨rfl, rfl⟩
            go_wp2
            go_round
            case rel => exact ⟨m, s, by go_num, rfl, hg', Hs1.out, Hmb.out⟩
            case measure => simp [intOf]
          · have i1 : ¬ hi' < r := by omega
            have i2 : ((hi' : Int) == (r : Int)) = false := eqB (by omega)
            clear hn hi
            go_wp2_with fail
            refine (hmul.out _).mono ?_
            rintro e w1 ⟨rfl, rfl⟩
            go_wp2
            go_round
            case rel => exact ⟨m, s, by go_num, rfl, hg', Hs1.out, Hmb.out⟩
            case measure => simp [intOf]
        · obtain rfl : cc = 1 := by omega
          have hQ := Lib.hid (HG.out _ (hg'.out HGk.out (by omega) (by omega)))
          clear s1 s2 s3 hg hg' hle hc b1 b2 hq hr hq1 hmB
          simp only [Int.cast_ofNat_Int] at hadd
          by_cases hi : hi' = r
          · subst hi
            have i1 : ¬ hi' < hi' := by omega
            have i2 : ¬ lo ≤ x0 := by omega
            clear hn
            go_wp2_with fail
            refine (hmul.out _).mono ?_
            rintro e w1 ⟨rfl, rfl⟩
            go_wp2
            try rw [Exit.noGoto_ret]
            go_ret
            exact ⟨by rw [← hQ.out]; exact ret_u (by simp), _, rfl⟩
          · have i1 : ¬ hi' < r := by omega
            have i2 : ((hi' : Int) == (r : Int)) = false := eqB (by omega)
            clear hn hi
            go_wp2_with fail
            refine (hmul.out _).mono ?_
            rintro e w1 ⟨rfl, rfl⟩
            go_wp2
            try rw [Exit.noGoto_ret]
            go_ret
            exact ⟨by rw [← hQ.out]; exact ret_u (by simp), _, rfl⟩
end Go.Proofs.Ytldhmjfjbalakaa

namespace Go.Proofs.Ytldhmjfjbalakaa
open Go.RowKit

/-- The block g begins with these limbs. -/
def Row (w : World) (g : Nat) (l : List Nat) : Prop := ∃ cur, w.heap[g]? = some (.cells cur 72 (0, 0)) ∧ ∀ (j : Nat) u, (nts l)[j]? = some u → cur[j]? = some u
section
variable {w w' w'' : World} {g f : Nat} {l : List Nat} {p : Addr}
theorem add_off (g f j : Nat) : (⟨g, f, none⟩ : Addr).add j = ⟨g, f + j, none⟩ := by
  rcases Nat.eq_zero_or_pos j with h | h
  · subst h; rfl
  · simp [Addr.add, Nat.pos_iff_ne_zero.1 h]
theorem Row.cell (h : Row w g l) (hp : p = ⟨g, f, none⟩) {j : Nat} (hj : f + j < l.length) : w.cell? (p.add j) = some (.int .u64 (dg l (f + j) : Int)) := by
  obtain ⟨cur, h1, h2⟩ := h
  rw [hp, add_off, blk_cell h1, h2 _ _ (nts_get hj)]
theorem Row.free (h : Row w g l) (hp : p = ⟨g, f, none⟩) (j : Nat) : w.frozen? (p.add j) = false := by
  obtain ⟨cur, h1, h2⟩ := h
  rw [hp, add_off, blk_free h1]
theorem Row.set (h : Row w g l) (hp : p = ⟨g, f, none⟩) (j x : Nat) : Row (w.setCell (p.add j) (.int .u64 (x : Int))) g (l.set (f + j) x) := by
  obtain ⟨cur, h1, h2⟩ := h
  rw [hp, add_off]
  refine ⟨cur.setIfInBounds (f + j) (.int .u64 (x : Int)), by simp [World.setCell, Array.getElem?_modify, h1], fun i u hu => ?_⟩
  rw [nts, List.map_set, List.getElem?_set] at hu
  rw [Array.getElem?_setIfInBounds]
  by_cases e : f + j = i
  · rw [if_pos e] at hu ⊢
    split at hu
    · rename_i hl
      have := h2 i _ (nts_get (by rw [← e]; simpa using hl))
      have hi := (Array.getElem?_eq_some_iff.1 this).1
      rw [if_pos (by omega)]
      exact hu
    · cases hu
  · rw [if_neg e] at hu ⊢
    exact h2 i u hu
theorem Row.lt (h : Row w g l) : g < w.heap.size := by obtain ⟨cur, h1, h2⟩ := h; exact blk_lt h1
theorem Row.drewN (h : Row w g l) (n : Nat) : Row (w.drewN n) g l := h
theorem Row.of_heap (h : Row w g l) (he : w'.heap[g]? = w.heap[g]?) : Row w' g l := by
  obtain ⟨cur, h1, h2⟩ := h
  exact ⟨cur, he.trans h1, h2⟩
theorem Row.below {B : Nat} (h : Row w g l) (hb : Below B w w') (hg : g < B) : Row w' g l := h.of_heap (hb.block g hg)
theorem Row.ob (h : Row w g l) {base c : Nat} (hg : base ≤ g) (hl : Lim l) (hc : l.length ≤ c) (hc' : c ≤ maxLen) : OB w base (some ⟨g, 0, none⟩) c l := by
  obtain ⟨cur, h1, h2⟩ := h
  exact ⟨hl, hc, hc', fun _ => ⟨g, cur, rfl, hg, h1, h2⟩⟩
theorem OB.row {base c : Nat} {A : Option Addr} (h : OB w base A c l) (h0 : 0 < l.length) : ∃ g, A = some ⟨g, 0, none⟩ ∧ base ≤ g ∧ Row w g l := by
  obtain ⟨h1, h2, h3, h4⟩ := h
  obtain ⟨g, cur, e, hg, h5, h6⟩ := h4 h0
  exact ⟨g, e, hg, cur, h5, h6⟩
theorem Row.blk (h : Blk w g l) : Row w g l := ⟨_, h, fun j u hu => by rw [List.getElem?_toArray]; exact hu⟩
/-- Nothing but the block g is touched. -/
structure Only (g : Nat) (w w' : World) : Prop where
  os : w'.os = w.os
  tape : w'.tape = w.tape
  output : w'.output = w.output
  size : w'.heap.size = w.heap.size
  block : ∀ k, k ≠ g → w'.heap[k]? = w.heap[k]?
theorem Only.refl (g : Nat) (w : World) : Only g w w := ⟨rfl, rfl, rfl, rfl, fun _ _ => rfl⟩
theorem Only.trans (h : Only g w w') (k : Only g w' w'') : Only g w w'' := ⟨k.os.trans h.os, k.tape.trans h.tape, k.output.trans h.output, k.size.trans h.size, fun i hi => (k.block i hi).trans (h.block i hi)⟩
theorem Only.setCell (h : Only g w w') (hp : p = ⟨g, f, none⟩) (j : Nat) (v : Value) : Only g w (w'.setCell (p.add j) v) := by
  have e : (p.add j).block = g := by rw [hp, add_off]
  refine ⟨h.os, h.tape, h.output, ?_, fun k hk => (Below.heap_setCell _ _ _ _ (by rw [e]; exact hk)).trans (h.block k hk)⟩
  have : (w'.setCell (p.add j) v).heap.size = w'.heap.size := by unfold World.setCell; split <;> simp
  exact this.trans h.size
theorem Only.drewN (h : Only g w w') (n : Nat) : Only g w (w'.drewN n) := ⟨h.os, h.tape, h.output, h.size, h.block⟩
theorem Only.below {B : Nat} (h : Only g w w') (hB : B ≤ g) : Below B w w' := ⟨h.os, h.tape, h.output, Nat.le_of_eq h.size.symm, fun k hk => h.block k (by omega)⟩
theorem RN.only {P : Nat → Prop} {A : Option Addr} {c : Nat} (h : RN w P A c l) (ho : Only g w w') (hP : ∀ b, P b → b ≠ g) : RN w' P A c l := h.keep fun q hq => World.cell?_of_block (w := w) (ho.block q.block (hP _ hq))
theorem Row.only {g' : Nat} (h : Row w g' l) (ho : Only g w w') (hg : g' ≠ g) : Row w' g' l := h.of_heap (ho.block g' hg)
end
theorem set_len {l : List Nat} {i x n : Nat} (h : l.length = n) : (l.set i x).length = n := by simpa using h
/-- What one round of 'takes' works out. -/
theorem takes_round (q v c x b : Nat) (hq : q < 18446744073709551616) (hv : v < 18446744073709551616) (hc : c < 18446744073709551616) (hx : x < 18446744073709551616) (hb : b ≤ 1) :
    ∃ hi lo s c1 t b' : Nat, lo < 18446744073709551616 ∧ lo + 18446744073709551616 * hi = q * v ∧ s < 18446744073709551616 ∧ s + 18446744073709551616 * c1 = lo + c + 0 ∧ hi + c1 < 18446744073709551616 ∧ s + 18446744073709551616 * (hi + c1) = q * v + c ∧
      t < 18446744073709551616 ∧ b' ≤ 1 ∧ t + s + b = x + 18446744073709551616 * b' := by
  have hm := mul_bound hq hv hc (show 0 < 18446744073709551616 by omega)
  refine ⟨q * v / 18446744073709551616, q * v % 18446744073709551616, (q * v % 18446744073709551616 + c) % 18446744073709551616, (q * v % 18446744073709551616 + c) / 18446744073709551616, ?_⟩
  obtain ⟨t, b', h1, h2, h3⟩ := borrow_of x ((q * v % 18446744073709551616 + c) % 18446744073709551616) b hx (Nat.mod_lt _ (by omega)) hb
  refine ⟨t, b', ?_⟩
  generalize q * v = p at *
  omega

set_option maxRecDepth 100000 in
set_option maxHeartbeats 2000000 in
theorem takes_any (g f : Nat) (p : Addr) (hp : p = ⟨g, f, none⟩) (P : Nat → Prop) (A : Option Addr) (c cx n q : Nat) (L y : List Nat) (w : World) (hr : Row w g L) (hL : Lim L) (h : RN w P A c y) (hP : ∀ b, P b → b ≠ g) (hn : y.length = n) (hf : f + n < L.length) (hq : q < 18446744073709551616) :
    Calls Try.prog 93 #[.slice (some p) (n + 1) cx, .slice A n c, .int .u64 (q : Int)] w fun e w' => ∃ (L' : List Nat) (b : Nat), e = .returned (.bool (decide (0 < b))) ∧ Row w' g L' ∧ Lim L' ∧ Only g w w' ∧
      L'.length = L.length ∧ val 18446744073709551616 L' + 18446744073709551616 ^ f * (q * val 18446744073709551616 y) = val 18446744073709551616 L + 18446744073709551616 ^ (f + n + 1) * b ∧ ∀ i, f + n + 1 ≤ i → dg L' i = dg L i := by
  obtain ⟨h1, h2, h3⟩ := h.cap
  have hn1 : n ≤ 1000000 := by omega
  have hnc : n ≤ c := by omega
  have Hp := Lib.hid hp
  clear hp h1 h2 h3
  go_enter Try.func93, Try.ntmps93
  go_wp2
  go_loopw [7, 8, 16] (fun cv bv iv wr => ∃ (j cr b : Nat) (l : List Nat), iv = .int .i64 (j : Int) ∧ cv = .int .u64 (cr : Int) ∧ bv = .int .u64 (b : Int) ∧ j ≤ n ∧ cr < 18446744073709551616 ∧ b ≤ 1 ∧ TakesAt 18446744073709551616 L y q f l j cr b ∧ Lim l ∧ Row wr g l ∧ Only g w wr) (fun _ _ iv _ => n - (intOf iv).toNat)
  case atStart => exact ⟨0, 0, 0, L, rfl, rfl, rfl, by omega, by omega, by omega, TakesAt.zero _ _ _ _ _, hL, hr, Only.refl _ _⟩
  case round =>
    obtain ⟨j, cr, b, l, rfl, rfl, rfl, hj, hcr, hb, hT, hl, hw, ho⟩ := hrel
    have hll := hT.1
    by_cases hlt : j < n
    · obtain ⟨ad, rfl, _, q1⟩ := (h.only ho hP).at_ (i := j) (by omega)
      obtain ⟨hi', lo, s, c1, t, b', b1, b2, b3, b4, b5, b6, b7, b8, b9⟩ := takes_round q (dg y j) cr (dg l (f + j)) b hq (h.2.dgLt j) hcr (hl.dgLt _) hb
      have hmul := Lib.hid (fun w => mul64_at q (dg y j) hi' lo hq (h.2.dgLt j) b1 b2 w)
      have hadd := fun w => add64_at lo cr 0 s c1 (by omega) b3 b4 w
      simp only [Int.cast_ofNat_Int] at hadd
      have hsub := fun w => sub64_at (dg l (f + j)) s b t b' hb (hl.dgLt _) b3 b7 b9 b8 w
      have q3 := hw.cell Hp.out (j := j) (by omega)
      have q4 := hw.free Hp.out j
      have hT' := hT.step (by omega) b6 b9
      have hw' := hw.set Hp.out j t
      have hl' := hl.set (f + j) t b7
      have ho' := ho.setCell Hp.out j (.int .u64 (t : Int))
      have k1 : (j : Int) < (n : Int) + 1 := by omega
      clear hT hl hw ho b1 b2 b3 b4 b6 b7 b9 hll hq hcr
      go_wp2_with fail
      refine (hmul.out _).mono ?_
      rintro e w1 ⟨rfl, rfl⟩
      go_wp2
      go_roundw
      case rel => exact ⟨j + 1, hi' + c1, b', l.set (f + j) t, by go_num, by go_num, rfl, by omega, b5, b8, hT', hl', hw', ho'⟩
      case measure => simp [intOf]; omega
    · obtain rfl : j = n := by omega
      obtain ⟨t, b', b7, b8, b9⟩ := borrow_of (dg l (f + j)) cr b (hl.dgLt _) hcr hb
      have hsub := fun w => sub64_at (dg l (f + j)) cr b t b' hb (hl.dgLt _) hcr b7 b9 b8 w
      have q3 := hw.cell Hp.out (j := j) (by omega)
      have q4 := hw.free Hp.out j
      have hT' := Lib.hid (hT.fin hn (by omega) b9)
      have hw' := hw.set Hp.out j t
      have hl' := hl.set (f + j) t b7
      have ho' := ho.setCell Hp.out j (.int .u64 (t : Int))
      have k1 : (j : Int) < (j : Int) + 1 := by omega
      clear hT hl hw ho b7 b9 hll hq hcr
      go_wp2
      go_ret
      exact ⟨l.set (f + j) t, b', by simp, hw', hl', ho', hT'.out⟩

set_option maxRecDepth 100000 in
set_option maxHeartbeats 2000000 in
theorem gives_any (g f : Nat) (p : Addr) (hp : p = ⟨g, f, none⟩) (P : Nat → Prop) (A : Option Addr) (c cx n : Nat) (L y : List Nat) (w : World) (hr : Row w g L) (hL : Lim L) (h : RN w P A c y) (hP : ∀ b, P b → b ≠ g) (hn : y.length = n) (hf : f + n < L.length) :
    Calls Try.prog 94 #[.slice (some p) (n + 1) cx, .slice A n c] w fun e w' => ∃ (L' : List Nat) (b : Nat), e = .returned (.tuple #[]) ∧ Row w' g L' ∧ Lim L' ∧ Only g w w' ∧
      L'.length = L.length ∧ val 18446744073709551616 L' + 18446744073709551616 ^ (f + n + 1) * b = val 18446744073709551616 L + 18446744073709551616 ^ f * val 18446744073709551616 y ∧ ∀ i, f + n + 1 ≤ i → dg L' i = dg L i := by
  obtain ⟨h1, h2, h3⟩ := h.cap
  have hn1 : n ≤ 1000000 := by omega
  have hnc : n ≤ c := by omega
  have Hp := Lib.hid hp
  clear hp h1 h2 h3
  go_enter Try.func94, Try.ntmps94
  go_wp2
  go_loopw [4, 9] (fun cv iv wr => ∃ (j cr : Nat) (l : List Nat), iv = .int .i64 (j : Int) ∧ cv = .int .u64 (cr : Int) ∧ j ≤ n ∧ cr ≤ 1 ∧ GivesAt 18446744073709551616 L y f l j cr ∧ Lim l ∧ Row wr g l ∧ Only g w wr) (fun _ iv _ => n - (intOf iv).toNat)
  case atStart => exact ⟨0, 0, L, rfl, rfl, by omega, by omega, GivesAt.zero _ _ _ _, hL, hr, Only.refl _ _⟩
  case round =>
    obtain ⟨j, cr, l, rfl, rfl, hj, hcr, hT, hl, hw, ho⟩ := hrel
    have hll := hT.1
    by_cases hlt : j < n
    · obtain ⟨ad, rfl, _, q1⟩ := (h.only ho hP).at_ (i := j) (by omega)
      obtain ⟨s, c', b7, b8, b9⟩ := carry_of (dg l (f + j)) (dg y j) cr (hl.dgLt _) (h.2.dgLt j) hcr
      have hadd := fun w => add64_at (dg l (f + j)) (dg y j) cr s c' hcr b7 b9 w
      have q3 := hw.cell Hp.out (j := j) (by omega)
      have q4 := hw.free Hp.out j
      have hT' := hT.step (by omega) b9
      have hw' := hw.set Hp.out j s
      have hl' := hl.set (f + j) s b7
      have ho' := ho.setCell Hp.out j (.int .u64 (s : Int))
      have k1 : (j : Int) < (n : Int) + 1 := by omega
      clear hT hl hw ho b7 b9 hll hcr
      go_wp2
      go_roundw
      case rel => exact ⟨j + 1, c', l.set (f + j) s, by go_num, rfl, by omega, b8, hT', hl', hw', ho'⟩
      case measure => simp [intOf]; omega
    · obtain rfl : j = n := by omega
      obtain ⟨t, b', b7, b8, b9⟩ := carry_of (dg l (f + j)) 0 cr (hl.dgLt _) (by omega) hcr
      have he : IntKind.u64.wrap ((dg l (f + j) : Int) + (cr : Int)) = (t : Int) := by
        have : (dg l (f + j) : Int) + (cr : Int) = (t : Int) + 18446744073709551616 * (b' : Int) := by omega
        rw [this]
        simp [IntKind.wrap, IntKind.bits, IntKind.signed]
        omega
      have q3 := hw.cell Hp.out (j := j) (by omega)
      have q4 := hw.free Hp.out j
      have hT' := Lib.hid (hT.fin hn (by omega) (x := t) (c' := b') (by omega))
      have hw' := hw.set Hp.out j t
      have hl' := hl.set (f + j) t b7
      have ho' := ho.setCell Hp.out j (.int .u64 (t : Int))
      have k1 : (j : Int) < (j : Int) + 1 := by omega
      clear hT hl hw ho b7 b9 hll hcr
      go_wp2
      go_end0
      exact ⟨l.set (f + j) t, b', rfl, hw', hl', ho', hT'.out⟩
end Go.Proofs.Ytldhmjfjbalakaa

namespace Go.Proofs.Ytldhmjfjbalakaa

/-- A number by its lowest limbs and three more. -/
theorem val_three {B : Nat} {L : List Nat} {t : Nat} (h : ∀ x ∈ L, x < B) (ht : t + 3 ≤ L.length) (hz : ∀ j, t + 3 ≤ j → dg L j = 0) :
    ∃ r, r < B ^ t ∧ val B L = r + B ^ t * ((dg L (t + 2) * B + dg L (t + 1)) * B + dg L t) := by
  refine ⟨val B (L.take t), ?_, ?_⟩
  · have := val_lt (B := B) (l := L.take t) fun x hx => h x (List.mem_of_mem_take hx)
    rwa [List.length_take, Nat.min_eq_left (by omega)] at this
  · have e := val_take_drop B L ht
    have hd : val B (L.drop (t + 3)) = 0 := by
      apply val_zeros
      intro x hx
      obtain ⟨i, hi, rfl⟩ := List.getElem_of_mem hx
      rw [List.getElem_drop]
      have := hz (t + 3 + i) (by omega)
      rwa [dg, getD_eq' (by simp at hi; omega)] at this
    rw [hd, Nat.mul_zero, Nat.add_zero] at e
    rw [e, val_take_getD, val_take_getD, val_take_getD, show B ^ (t + 2) = B ^ t * B * B from by simp only [Nat.pow_succ], Nat.pow_succ]
    have e1 : B ^ t * B * B * dg L (t + 2) = B ^ t * (dg L (t + 2) * B * B) := by simp only [Nat.mul_assoc]; rw [Nat.mul_comm B (dg L (t + 2)), ← Nat.mul_assoc B, Nat.mul_comm B (dg L (t + 2)), Nat.mul_assoc]
    have e2 : B ^ t * B * dg L (t + 1) = B ^ t * (dg L (t + 1) * B) := by rw [Nat.mul_assoc, Nat.mul_comm B]
    rw [e1, e2, Nat.add_mul, Nat.mul_add, Nat.mul_add]
    omega
theorem val_two {B : Nat} {L : List Nat} {t : Nat} (ht : t + 2 = L.length) :
    ∃ r, val B L = r + B ^ t * (dg L (t + 1) * B + dg L t) := by
  refine ⟨val B (L.take t), ?_⟩
  have e : val B L = val B (L.take (t + 2)) := by rw [ht, List.take_length]
  rw [e, val_take_getD, val_take_getD, Nat.pow_succ]
  have e2 : B ^ t * B * dg L (t + 1) = B ^ t * (dg L (t + 1) * B) := by rw [Nat.mul_assoc, Nat.mul_comm B]
  rw [e2, Nat.mul_add]
  omega
/-- A limb of the quotient is among what a guess must not fall short of. -/
theorem quo_three {B q DB V t D2 T rd rv : Nat} (hq : q * DB ≤ V) (hD : DB = rd + B ^ t * D2) (hV : V = rv + B ^ t * T) (hr : rv < B ^ t) : q * D2 ≤ T := by
  have h1 : q * (B ^ t * D2) ≤ q * DB := Nat.mul_le_mul_left _ (by omega)
  have h2 : q * (B ^ t * D2) = B ^ t * (q * D2) := by rw [Nat.mul_left_comm]
  have h3 : B ^ t * (q * D2) < B ^ t * (T + 1) := by rw [Nat.mul_add, Nat.mul_one]; omega
  exact Nat.le_of_lt_succ (Nat.lt_of_mul_lt_mul_left h3)

/-- A limb g is taken off, or once too much of it. -/
def FixAt (B V i n D : Nat) (L : List Nat) (g : Nat) (too : Bool) : Prop :=
  V / (B ^ i * D) ≤ g ∧ g < B ∧ (∀ j, i + n + 1 ≤ j → dg L j = 0) ∧ val B L + B ^ i * (g * D) = V + if too then B ^ (i + n + 1) else 0
section
variable {B V i n D g : Nat} {L L' : List Nat}
theorem FixAt.start {b : Nat} (hq : V / (B ^ i * D) ≤ g) (hg : g < B) (hz : ∀ j, i + n + 1 ≤ j → dg L' j = dg L j) (hz0 : ∀ j, i + n + 1 ≤ j → dg L j = 0) (he : val B L' + B ^ i * (g * D) = V + B ^ (i + n + 1) * b) (hL' : ∀ x ∈ L', x < B) (hB : 2 ≤ B) (hD : D < B ^ n) :
    FixAt B V i n D L' g (decide (0 < b)) := by
  have hz' : ∀ j, i + n + 1 ≤ j → dg L' j = 0 := fun j hj => (hz j hj).trans (hz0 j hj)
  refine ⟨hq, hg, hz', ?_⟩
  have h1 := val_lt_of_zero (by omega) hL' hz'
  rw [he]
  have h2 : B ^ i * (g * D) < B ^ (i + n + 1) := by
    rw [Nat.add_assoc, Nat.pow_add, Nat.pow_succ, Nat.mul_comm (B ^ n)]
    refine Nat.mul_lt_mul_of_pos_left ?_ (Nat.pow_pos (by omega))
    exact Nat.lt_of_le_of_lt (Nat.mul_le_mul_left g (Nat.le_of_lt hD)) (Nat.mul_lt_mul_of_pos_right hg (Nat.pow_pos (by omega)))
  rcases Nat.lt_or_ge b 2 with hb | hb
  · have : b = 0 ∨ b = 1 := by omega
    rcases this with rfl | rfl <;> simp
  · exfalso
    have h3 : B ^ (i + n + 1) * 2 ≤ B ^ (i + n + 1) * b := Nat.mul_le_mul_left _ hb
    omega
theorem FixAt.pos (h : FixAt B V i n D L g true) (hL : ∀ x ∈ L, x < B) (hB : 2 ≤ B) : V / (B ^ i * D) < g := by
  obtain ⟨h1, h2, h3, h4⟩ := h
  have h5 := val_lt_of_zero (by omega) hL h3
  apply Nat.div_lt_of_lt_mul
  simp only [if_true] at h4
  rw [Nat.mul_assoc, Nat.mul_comm D]
  omega
theorem FixAt.step {c : Nat} (h : FixAt B V i n D L (g + 1) true) (hL : ∀ x ∈ L, x < B) (hL' : ∀ x ∈ L', x < B) (hB : 2 ≤ B) (hD : 0 < D) (hDn : D < B ^ n)
    (he : val B L' + B ^ (i + n + 1) * c = val B L + B ^ i * D) (hz : ∀ j, i + n + 1 ≤ j → dg L' j = dg L j) : FixAt B V i n D L' g (decide (dg L' (i + n) ≠ 0)) := by
  have hp := h.pos hL hB
  obtain ⟨h1, h2, h3, h4⟩ := h
  have hz' : ∀ j, i + n + 1 ≤ j → dg L' j = 0 := fun j hj => (hz j hj).trans (h3 j hj)
  have h5 := val_lt_of_zero (by omega) hL h3
  have h6 := val_lt_of_zero (by omega) hL' hz'
  have hDi : B ^ i * D < B ^ (i + n) := by rw [Nat.pow_add]; exact Nat.mul_lt_mul_of_pos_left hDn (Nat.pow_pos (by omega))
  have hBB : B ^ (i + n + 1) = B ^ (i + n) * B := Nat.pow_succ _ _
  have hBB2 : B ^ (i + n) * 2 ≤ B ^ (i + n) * B := Nat.mul_le_mul_left _ hB
  have hV : V < B ^ i * D * (g + 1) := by
    have := Nat.lt_mul_div_succ V (show 0 < B ^ i * D from Nat.mul_pos (Nat.pow_pos (by omega)) hD)
    exact Nat.lt_of_lt_of_le this (Nat.mul_le_mul_left _ (by omega))
  simp only [if_true] at h4
  have e1 : B ^ i * ((g + 1) * D) = B ^ i * (g * D) + B ^ i * D := by rw [Nat.add_mul, Nat.one_mul, Nat.mul_add]
  have e2 : B ^ i * D * (g + 1) = B ^ i * (g * D) + B ^ i * D := by rw [← e1, Nat.mul_assoc, Nat.mul_comm D]
  have hgD : B ^ i * (g * D) + B ^ (i + n) * 2 ≤ B ^ (i + n + 1) + B ^ (i + n) := by
    obtain ⟨m, hm⟩ : ∃ m, B = m + 2 := ⟨B - 2, by omega⟩
    have k1 : g * D ≤ m * B ^ n := Nat.mul_le_mul (by omega) (Nat.le_of_lt hDn)
    have k2 : B ^ i * (g * D) ≤ B ^ i * (m * B ^ n) := Nat.mul_le_mul_left _ k1
    have k3 : B ^ i * (m * B ^ n) = B ^ (i + n) * m := by rw [Nat.mul_comm m, ← Nat.mul_assoc, ← Nat.pow_add]
    have k4 : B ^ (i + n) * B = B ^ (i + n) * m + B ^ (i + n) * 2 := by rw [← Nat.mul_add, ← hm]
    omega
  rw [e1] at h4
  rw [e2] at hV
  refine ⟨by omega, by omega, hz', ?_⟩
  rcases Nat.eq_zero_or_pos c with rfl | hc
  · rw [Nat.mul_zero, Nat.add_zero] at he
    have hbig : B ^ (i + n) ≤ val B L' := by omega
    have hne : dg L' (i + n) ≠ 0 := fun h0 => by
      have := val_lt_of_zero (B := B) (m := i + n) (by omega) hL' fun j hj => by
        rcases Nat.lt_or_ge (i + n) j with h | h
        · exact hz' j (by omega)
        · obtain rfl : j = i + n := by omega
          exact h0
      omega
    rw [decide_eq_true hne, if_pos rfl]
    omega
  · have hc1 : c = 1 := by
      rcases Nat.lt_or_ge c 2 with h | h
      · omega
      · have : B ^ (i + n + 1) * 2 ≤ B ^ (i + n + 1) * c := Nat.mul_le_mul_left _ h
        omega
    subst hc1
    rw [Nat.mul_one] at he
    have hsmall : val B L' < B ^ (i + n) := by omega
    have h0 := zero_of_val_lt hL' hsmall (Nat.le_refl _)
    rw [decide_eq_false (by simp [h0]), if_neg (by simp)]
    omega
theorem FixAt.fin (h : FixAt B V i n D L g false) (hB : 2 ≤ B) (hD : 0 < D) : val B L + B ^ i * (g * D) = V ∧ val B L < B ^ i * D := by
  obtain ⟨h1, h2, h3, h4⟩ := h
  simp only [Bool.false_eq_true, if_false, Nat.add_zero] at h4
  refine ⟨h4, ?_⟩
  have h5 := Nat.lt_mul_div_succ V (show 0 < B ^ i * D from Nat.mul_pos (Nat.pow_pos (by omega)) hD)
  have h6 : B ^ i * D * (V / (B ^ i * D) + 1) ≤ B ^ i * D * (g + 1) := Nat.mul_le_mul_left _ (by omega)
  have e : B ^ i * D * (g + 1) = B ^ i * (g * D) + B ^ i * D := by rw [Nat.mul_add, Nat.mul_one, Nat.mul_assoc, Nat.mul_comm D]
  omega
end
/-- k limbs of the quotient are still to come. -/
def QuoAt (B X D : Nat) (L qs : List Nat) (k : Nat) : Prop := val B L + D * (B ^ k * val B (qs.drop k)) = X ∧ val B L < B ^ k * D
theorem QuoAt.start {B D m : Nat} {L qs : List Nat} (hq : qs.length = m) (h : val B L < B ^ m * D) : QuoAt B (val B L) D L qs m := by
  refine ⟨?_, h⟩
  rw [← hq, List.drop_length]
  simp
theorem QuoAt.step {B X D k g : Nat} {L L' qs : List Nat} (h : QuoAt B X D L qs (k + 1)) (hk : k < qs.length) (h1 : val B L' + B ^ k * (g * D) = val B L) (h2 : val B L' < B ^ k * D) : QuoAt B X D L' (qs.set k g) k := by
  obtain ⟨g1, g2⟩ := h
  refine ⟨?_, h2⟩
  have e : (qs.set k g).drop k = g :: qs.drop (k + 1) := by
    rw [List.drop_set, if_neg (Nat.lt_irrefl _), List.drop_eq_getElem_cons hk, Nat.sub_self, List.set_cons_zero]
  rw [e, val_cons, Nat.mul_add, Nat.mul_add, ← g1, ← h1, Nat.pow_succ]
  have e1 : D * (B ^ k * g) = B ^ k * (g * D) := by rw [Nat.mul_left_comm, Nat.mul_comm D]
  rw [e1, Nat.mul_assoc (B ^ k)]
  omega
theorem QuoAt.fin {B X D : Nat} {L qs : List Nat} (h : QuoAt B X D L qs 0) : val B qs = X / D ∧ val B L = X % D := by
  obtain ⟨g1, g2⟩ := h
  simp only [Nat.pow_zero, Nat.one_mul, List.drop_zero] at g1 g2
  rw [← g1]
  refine ⟨?_, ?_⟩
  · rw [Nat.add_comm, Nat.mul_add_div (by omega), Nat.div_eq_of_lt g2, Nat.add_zero]
  · rw [Nat.add_comm, Nat.mul_add_mod, Nat.mod_eq_of_lt g2]
/-- The divisor moved up: as long as it was, its highest limb half of a limb's range or more. -/
theorem norm_d {B p u y top n : Nat} (hB : 2 ≤ B) (he : B % 2 = 0) (hp : B = u * p) (hn : (digs B y).length = n + 1) (ht : dg (digs B y) n = top) (h1 : B ≤ 2 * (top * p)) (h2 : top * p < B) :
    (digs B (y * p)).length = n + 1 ∧ B ≤ 2 * dg (digs B (y * p)) n ∧ B ^ (n + 1) ≤ 2 * (y * p) := by
  have hBn : 0 < B ^ n := Nat.pow_pos (by omega)
  have hy : y = val B ((digs B y).take n) + B ^ n * top := by
    rw [← ht, ← val_take_getD, ← hn, List.take_length, val_digs hB]
  have hr : val B ((digs B y).take n) < B ^ n := by
    have := val_lt (B := B) (l := (digs B y).take n) fun x hx => digs_lt hB y x (List.mem_of_mem_take hx)
    rwa [List.length_take, Nat.min_eq_left (by omega)] at this
  generalize val B ((digs B y).take n) = r at *
  have hu : (top + 1) * p ≤ B := by
    have : top < u := by
      rw [hp] at h2
      exact Nat.lt_of_mul_lt_mul_right h2
    rw [hp]
    exact Nat.mul_le_mul_right _ this
  have hup : y * p < B ^ (n + 1) := by
    have k1 : y + 1 ≤ B ^ n * (top + 1) := by rw [Nat.mul_add, Nat.mul_one]; omega
    have hp0 : 0 < p := by
      rcases Nat.eq_zero_or_pos p with h | h
      · subst h; omega
      · exact h
    have k2 : y * p < (y + 1) * p := Nat.mul_lt_mul_of_pos_right (by omega) hp0
    have k3 : (y + 1) * p ≤ B ^ n * (top + 1) * p := Nat.mul_le_mul_right _ k1
    have k4 : B ^ n * (top + 1) * p ≤ B ^ n * B := by rw [Nat.mul_assoc]; exact Nat.mul_le_mul_left _ hu
    rw [Nat.pow_succ]
    omega
  have hlo : B ^ (n + 1) ≤ 2 * (y * p) := by
    have k1 : B ^ n * top * p ≤ y * p := Nat.mul_le_mul_right _ (by omega)
    have k2 : B ^ n * B ≤ B ^ n * (2 * (top * p)) := Nat.mul_le_mul_left _ h1
    have k3 : B ^ n * (2 * (top * p)) = 2 * (B ^ n * top * p) := by rw [Nat.mul_left_comm, Nat.mul_assoc]
    rw [Nat.pow_succ]
    omega
  have hBB : B ^ n * 2 ≤ B ^ n * B := Nat.mul_le_mul_left _ hB
  have hlen : (digs B (y * p)).length = n + 1 := by
    refine Nat.le_antisymm (digs_length_of_lt hB hup) ?_
    rcases Nat.lt_or_ge n (digs B (y * p)).length with h | h
    · exact h
    · have k1 := lt_pow_digs hB (y * p)
      have k2 : B ^ (digs B (y * p)).length ≤ B ^ n := Nat.pow_le_pow_right (by omega) h
      rw [Nat.pow_succ] at hlo
      omega
  refine ⟨hlen, ?_, hlo⟩
  have hD : y * p = val B ((digs B (y * p)).take n) + B ^ n * dg (digs B (y * p)) n := by
    rw [← val_take_getD, ← hlen, List.take_length, val_digs hB]
  have hr2 : val B ((digs B (y * p)).take n) < B ^ n := by
    have := val_lt (B := B) (l := (digs B (y * p)).take n) fun x hx => digs_lt hB (y * p) x (List.mem_of_mem_take hx)
    rwa [List.length_take, Nat.min_eq_left (by omega)] at this
  generalize dg (digs B (y * p)) n = z at *
  have k1 : B ^ n * B < B ^ n * (2 * (z + 1)) := by
    rw [Nat.pow_succ] at hlo
    have : B ^ n * (2 * (z + 1)) = 2 * (B ^ n * z + B ^ n) := by rw [Nat.mul_left_comm, Nat.mul_add, Nat.mul_one]
    omega
  have k2 := Nat.lt_of_mul_lt_mul_left k1
  omega
theorem norm_x {B x D n : Nat} (hB : 2 ≤ B) (hn : n ≤ (digs B x).length + 1) (hD : B ^ n ≤ 2 * D) : x < B ^ ((digs B x).length + 1 - n) * D := by
  have h1 := lt_pow_digs hB x
  generalize (digs B x).length = k at *
  have h2 : B ^ (k + 1 - n) * B ^ n ≤ B ^ (k + 1 - n) * (2 * D) := Nat.mul_le_mul_left _ hD
  rw [← Nat.pow_add, show k + 1 - n + n = k + 1 by omega, Nat.pow_succ, Nat.mul_left_comm] at h2
  have h3 : B ^ k * 2 ≤ B ^ k * B := Nat.mul_le_mul_left _ hB
  omega
end Go.Proofs.Ytldhmjfjbalakaa
