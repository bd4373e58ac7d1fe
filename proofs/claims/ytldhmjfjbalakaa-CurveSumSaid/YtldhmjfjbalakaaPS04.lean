/- Plain arithmetic of the rounds of a long division: nothing of the program. What limb.guess computes. What limb.takes and limb.gives compute. Plain arithmetic of one limb of a long division: nothing of the program. Plain arithmetic of the reference's division: nothing of the program. What the reference's less computes. What Montgomery's product needs: worlds in which one block alone may turn, plain laws. zfield: an element; Zero. Montgomery's product on a row of fixed length: plain law. zfield: a field's record; below takes the prime off, if there is too much. zfield: Add. -/
import Derived.Test.YtldhmjfjbalakaaPS03
import Derived.WalkMore
import Derived.Laws.CopyRow
import Derived.Laws.IdiomCopy
import Derived.ChangeKeysEq
import Derived.Laws.StructEq
import Derived.StillTailTactics
import Derived.Deep.RegionHeld3
import Derived.RegionTactic
namespace Go.Proofs.Ytldhmjfjbalakaa

/-- Within 'takes': j limbs of q y are off, from place f on. -/
def TakesAt (B : Nat) (L0 y : List Nat) (q f : Nat) (L : List Nat) (j c b : Nat) : Prop :=
  L.length = L0.length ∧ val B L + B ^ f * (q * val B (y.take j)) = val B L0 + B ^ (f + j) * (c + b) ∧ ∀ i, f + j ≤ i → dg L i = dg L0 i
theorem TakesAt.zero (B : Nat) (L y : List Nat) (q f : Nat) : TakesAt B L y q f L 0 0 0 := by simp [TakesAt]
theorem TakesAt.step {B : Nat} {L0 y L : List Nat} {q f j c b lo c' x b' : Nat} (h : TakesAt B L0 y q f L j c b) (hL : f + j < L.length) (h1 : lo + B * c' = q * dg y j + c) (h2 : x + lo + b = dg L (f + j) + B * b') :
    TakesAt B L0 y q f (L.set (f + j) x) (j + 1) c' b' := by
  obtain ⟨g1, g2, g3⟩ := h
  refine ⟨by simpa using g1, ?_, fun i hi => by rw [getD_set_ne (by omega)]; exact g3 i (by omega)⟩
  have hs := val_set' B hL x
  rw [val_take_getD, Nat.mul_add, Nat.mul_add, ← Nat.add_assoc f j 1, Nat.pow_succ]
  have e1 : B ^ f * (q * (B ^ j * dg y j)) = B ^ (f + j) * (q * dg y j) := by
    rw [Nat.pow_add, Nat.mul_left_comm q, ← Nat.mul_assoc]
  have e2 : B ^ (f + j) * (lo + B * c') = B ^ (f + j) * (q * dg y j + c) := by rw [h1]
  have e3 : B ^ (f + j) * (x + lo + b) = B ^ (f + j) * (dg L (f + j) + B * b') := by rw [h2]
  rw [e1, Nat.mul_assoc, Nat.mul_add]
  rw [Nat.mul_add] at g2
  simp only [Nat.mul_add] at e2 e3 ⊢
  generalize B ^ (f + j) * (B * c') = p1 at *
  generalize B ^ (f + j) * (B * b') = p2 at *
  generalize B ^ (f + j) * lo = p3 at *
  generalize B ^ (f + j) * (q * dg y j) = p4 at *
  generalize B ^ (f + j) * c = p5 at *
  generalize B ^ (f + j) * b = p6 at *
  generalize B ^ (f + j) * x = p7 at *
  generalize B ^ (f + j) * dg L (f + j) = p8 at *
  generalize B ^ f * (q * val B (y.take j)) = p9 at *
  generalize val B (L.set (f + j) x) = p10 at *
  generalize val B L = p11 at *
  generalize val B L0 = p12 at *
  omega
theorem TakesAt.fin {B : Nat} {L0 y L : List Nat} {q f n c b x b' : Nat} (h : TakesAt B L0 y q f L n c b) (hn : y.length = n) (hL : f + n < L.length) (h2 : x + c + b = dg L (f + n) + B * b') :
    (L.set (f + n) x).length = L0.length ∧ val B (L.set (f + n) x) + B ^ f * (q * val B y) = val B L0 + B ^ (f + n + 1) * b' ∧ ∀ i, f + n + 1 ≤ i → dg (L.set (f + n) x) i = dg L0 i := by
  obtain ⟨g1, g2, g3⟩ := h
  refine ⟨by simpa using g1, ?_, fun i hi => by rw [getD_set_ne (by omega)]; exact g3 i (by omega)⟩
  rw [List.take_of_length_le (by omega)] at g2
  have hs := val_set' B hL x
  have e3 : B ^ (f + n) * (x + c + b) = B ^ (f + n) * (dg L (f + n) + B * b') := by rw [h2]
  rw [Nat.pow_succ, Nat.mul_assoc]
  simp only [Nat.mul_add] at e3 g2
  generalize B ^ (f + n) * (B * b') = p2 at *
  generalize B ^ (f + n) * c = p5 at *
  generalize B ^ (f + n) * b = p6 at *
  generalize B ^ (f + n) * x = p7 at *
  generalize B ^ (f + n) * dg L (f + n) = p8 at *
  generalize B ^ f * (q * val B y) = p9 at *
  generalize val B (L.set (f + n) x) = p10 at *
  generalize val B L = p11 at *
  generalize val B L0 = p12 at *
  omega
/-- Within 'gives': j limbs of y are added, from place f on. -/
def GivesAt (B : Nat) (L0 y : List Nat) (f : Nat) (L : List Nat) (j c : Nat) : Prop :=
  L.length = L0.length ∧ val B L + B ^ (f + j) * c = val B L0 + B ^ f * val B (y.take j) ∧ ∀ i, f + j ≤ i → dg L i = dg L0 i
theorem GivesAt.zero (B : Nat) (L y : List Nat) (f : Nat) : GivesAt B L y f L 0 0 := by simp [GivesAt]
theorem GivesAt.step {B : Nat} {L0 y L : List Nat} {f j c x c' : Nat} (h : GivesAt B L0 y f L j c) (hL : f + j < L.length) (h1 : x + B * c' = dg L (f + j) + dg y j + c) : GivesAt B L0 y f (L.set (f + j) x) (j + 1) c' := by
  obtain ⟨g1, g2, g3⟩ := h
  refine ⟨by simpa using g1, ?_, fun i hi => by rw [getD_set_ne (by omega)]; exact g3 i (by omega)⟩
  have hs := val_set' B hL x
  rw [val_take_getD, Nat.mul_add, ← Nat.mul_assoc, ← Nat.pow_add, ← Nat.add_assoc f j 1, Nat.pow_succ, Nat.mul_assoc]
  have e2 : B ^ (f + j) * (x + B * c') = B ^ (f + j) * (dg L (f + j) + dg y j + c) := by rw [h1]
  simp only [Nat.mul_add] at e2 ⊢
  generalize B ^ (f + j) * (B * c') = p1 at *
  generalize B ^ (f + j) * dg y j = p4 at *
  generalize B ^ (f + j) * c = p5 at *
  generalize B ^ (f + j) * x = p7 at *
  generalize B ^ (f + j) * dg L (f + j) = p8 at *
  generalize B ^ f * val B (y.take j) = p9 at *
  generalize val B (L.set (f + j) x) = p10 at *
  generalize val B L = p11 at *
  generalize val B L0 = p12 at *
  omega
theorem GivesAt.fin {B : Nat} {L0 y L : List Nat} {f n c x c' : Nat} (h : GivesAt B L0 y f L n c) (hn : y.length = n) (hL : f + n < L.length) (h1 : x + B * c' = dg L (f + n) + c) :
    (L.set (f + n) x).length = L0.length ∧ val B (L.set (f + n) x) + B ^ (f + n + 1) * c' = val B L0 + B ^ f * val B y ∧ ∀ i, f + n + 1 ≤ i → dg (L.set (f + n) x) i = dg L0 i := by
  obtain ⟨g1, g2, g3⟩ := h
  refine ⟨by simpa using g1, ?_, fun i hi => by rw [getD_set_ne (by omega)]; exact g3 i (by omega)⟩
  rw [List.take_of_length_le (by omega)] at g2
  have hs := val_set' B hL x
  have e3 : B ^ (f + n) * (x + B * c') = B ^ (f + n) * (dg L (f + n) + c) := by rw [h1]
  rw [Nat.pow_succ, Nat.mul_assoc]
  simp only [Nat.mul_add] at e3
  generalize B ^ (f + n) * (B * c') = p2 at *
  generalize B ^ (f + n) * c = p5 at *
  generalize B ^ (f + n) * x = p7 at *
  generalize B ^ (f + n) * dg L (f + n) = p8 at *
  generalize B ^ f * val B y = p9 at *
  generalize val B (L.set (f + n) x) = p10 at *
  generalize val B L = p11 at *
  generalize val B L0 = p12 at *
  omega
/-- Digits beyond a place are nought just if the number is small. -/
theorem val_lt_of_zero {B : Nat} (hB : 0 < B) {L : List Nat} (h : ∀ x ∈ L, x < B) {m : Nat} (hz : ∀ i, m ≤ i → dg L i = 0) : val B L < B ^ m := by
  rcases Nat.lt_or_ge L.length m with h1 | h1
  · exact Nat.lt_of_lt_of_le (val_lt h) (Nat.pow_le_pow_right hB (by omega))
  · have e := val_take_drop B L h1
    have hd : val B (L.drop m) = 0 := by
      apply val_zeros
      intro x hx
      obtain ⟨i, hi, rfl⟩ := List.getElem_of_mem hx
      rw [List.getElem_drop]
      have := hz (m + i) (by omega)
      rwa [dg, getD_eq' (by simp at hi; omega)] at this
    rw [hd, Nat.mul_zero, Nat.add_zero] at e
    rw [e]
    have := val_lt (B := B) (l := L.take m) fun x hx => h x (List.mem_of_mem_take hx)
    rwa [List.length_take, Nat.min_eq_left h1] at this
theorem dg_of_val {B : Nat} {L : List Nat} (h : ∀ x ∈ L, x < B) (i : Nat) (hi : i < L.length) : dg L i = val B L / B ^ i % B := by
  have hB : 0 < B := Nat.lt_of_le_of_lt (Nat.zero_le _) (h _ (List.getElem_mem hi))
  have e := val_take_drop B L (Nat.le_of_lt hi)
  have h2 := val_lt (B := B) (l := L.take i) fun x hx => h x (List.mem_of_mem_take hx)
  rw [List.length_take, Nat.min_eq_left (by omega)] at h2
  rw [List.drop_eq_getElem_cons hi, val_cons] at e
  rw [e, Nat.add_mul_div_left _ _ (Nat.pow_pos hB), Nat.div_eq_of_lt h2, Nat.zero_add, Nat.add_mul_mod_self_left, dg, getD_eq' hi, Nat.mod_eq_of_lt (h _ (List.getElem_mem hi))]
theorem zero_of_val_lt {B : Nat} {L : List Nat} (h : ∀ x ∈ L, x < B) {m : Nat} (hm : val B L < B ^ m) {i : Nat} (hi : m ≤ i) : dg L i = 0 := by
  rcases Nat.lt_or_ge i L.length with h1 | h1
  · have hB : 0 < B := Nat.lt_of_le_of_lt (Nat.zero_le _) (h _ (List.getElem_mem h1))
    rw [dg_of_val h i h1, Nat.div_eq_of_lt (Nat.lt_of_lt_of_le hm (Nat.pow_le_pow_right hB hi)), Nat.zero_mod]
  · rw [dg, List.getD_eq_getElem?_getD, List.getElem?_eq_none h1]; rfl
end Go.Proofs.Ytldhmjfjbalakaa

namespace Go.Proofs.Ytldhmjfjbalakaa
open Go.RowKit

/-- A guess of a limb of a quotient: not too small. -/
def Guessed (u u1 y1 y0 G : Nat) : Prop := G < 18446744073709551616 ∧ ∀ q, q < 18446744073709551616 → q * (y1 * 18446744073709551616 + y0) ≤ u * 18446744073709551616 + u1 → q ≤ G
theorem Guessed.top (u u1 y1 y0 : Nat) : Guessed u u1 y1 y0 18446744073709551615 := ⟨by omega, fun q hq _ => by omega⟩
theorem Guessed.of_eq {u u1 y1 y0 G : Nat} (h : GuessOk 18446744073709551616 u u1 y1 y0) (he : G = (u * 18446744073709551616 + u1) / (y1 * 18446744073709551616 + y0)) : Guessed u u1 y1 y0 G := by
  refine ⟨by rw [he]; exact h.quo_lt, fun q _ hle => ?_⟩
  rw [he]
  refine (Nat.le_div_iff_mul_le ?_).2 hle
  have := h.hy
  omega
/-- The loop's question in two limbs. -/
theorem two_le {hi lo r x p : Nat} (h : lo + 18446744073709551616 * hi = p) (hlo : lo < 18446744073709551616) (hx : x < 18446744073709551616) : (hi < r ∨ hi = r ∧ lo ≤ x) ↔ p ≤ 18446744073709551616 * r + x := by
  subst h
  rcases Nat.lt_trichotomy hi r with h1 | h1 | h1
  · refine ⟨fun _ => ?_, fun _ => .inl h1⟩
    omega
  · subst h1
    exact ⟨fun h => by omega, fun h => by omega⟩
  · exact ⟨fun h => by omega, fun h => by omega⟩

theorem top_quo {B x2 x1 y1 : Nat} (h1 : x1 < B) (h : x2 < y1) : (x2 * B + x1) / y1 < B := by
  apply Nat.div_lt_of_lt_mul
  have : (x2 + 1) * B ≤ y1 * B := Nat.mul_le_mul_right _ h
  rw [Nat.add_mul, Nat.one_mul] at this
  omega

theorem ret_u {a b : Int} (h : a = b) : Ending.returned (.int .u64 a) = .returned (.int .u64 b) := by rw [h]
/-- What limb.guess answers. -/
def guessF (x2 x1 x0 y1 y0 : Nat) : Nat := if y1 ≤ x2 then 18446744073709551615 else ((x2 * 18446744073709551616 + x1) * 18446744073709551616 + x0) / (y1 * 18446744073709551616 + y0)
theorem guessF_ok {x2 x1 x0 y1 y0 : Nat} (h1 : x1 < 18446744073709551616) (h0 : x0 < 18446744073709551616) (g1 : y1 < 18446744073709551616) (g0 : y0 < 18446744073709551616) (gt : 18446744073709551616 ≤ 2 * y1) :
    Guessed (x2 * 18446744073709551616 + x1) x0 y1 y0 (guessF x2 x1 x0 y1 y0) := by
  unfold guessF
  split
  · exact Guessed.top _ _ _ _
  · have hu : x2 * 18446744073709551616 + x1 < y1 * 18446744073709551616 + y0 := by omega
    exact Guessed.of_eq ⟨by omega, gt, g1, g0, h0, hu⟩ rfl

set_option maxRecDepth 100000 in
set_option maxHeartbeats 2000000 in
theorem guess_any (x2 x1 x0 y1 y0 : Nat) (w : World) (h1 : x1 < 18446744073709551616) (h0 : x0 < 18446744073709551616) (g1 : y1 < 18446744073709551616) (g0 : y0 < 18446744073709551616) (gt : 18446744073709551616 ≤ 2 * y1) :
    Calls Try.prog 92 #[.int .u64 (x2 : Int), .int .u64 (x1 : Int), .int .u64 (x0 : Int), .int .u64 (y1 : Int), .int .u64 (y0 : Int)] w fun e w' => e = .returned (.int .u64 (guessF x2 x1 x0 y1 y0 : Int)) ∧ ∃ n, w' = w.drewN n := by
  by_cases hge : y1 ≤ x2
  · have k1 : y1 ≤ x2 := hge
    have ht : guessF x2 x1 x0 y1 y0 = 18446744073709551615 := if_pos hge
    have Ht := Lib.hid ht
    clear h1 h0 g1 g0 gt hge ht
    go_enter Try.func92, Try.ntmps92
    go_wp2
    go_step3
    go_wp2
    try rw [Exit.noGoto_ret]
    go_ret
    exact ⟨by rw [Ht.out]; rfl, 0, rfl⟩
  · have k1 : ¬ y1 ≤ x2 := hge
    have hlt : x2 < y1 := by omega
    have hu : x2 * 18446744073709551616 + x1 < y1 * 18446744073709551616 + y0 := by omega
    have hq := top_quo h1 hlt
    have hdv := fun q r (hr : r < y1) (he : _ = y1 * q + r) => div64_any x2 x1 y1 w h1 hlt g1 q r hr he
    have hF : guessF x2 x1 x0 y1 y0 = ((x2 * 18446744073709551616 + x1) * 18446744073709551616 + x0) / (y1 * 18446744073709551616 + y0) := if_neg hge
    obtain ⟨u, hu'⟩ : ∃ u, x2 * 18446744073709551616 + x1 = u := ⟨_, rfl⟩
    rw [hu'] at hu hq hdv hF
    have G := (⟨by omega, gt, g1, g0, h0, hu⟩ : GuessOk 18446744073709551616 u x0 y1 y0)
    obtain ⟨hg, hr, hp⟩ := G.start
    have hrr : u - u / y1 * y1 < y1 := (rest_of (by omega)).2
    have HG : Hid (∀ g, g = (u * 18446744073709551616 + x0) / (y1 * 18446744073709551616 + y0) → g = guessF x2 x1 x0 y1 y0) := Lib.hid fun g he => he.trans hF.symm
    clear hF
    clear hu hu'
    obtain ⟨q, hq'⟩ : ∃ q, u / y1 = q := ⟨_, rfl⟩
    rw [hq'] at hg hr hp hrr hq
    obtain ⟨p, hp'⟩ : ∃ p, q * y1 = p := ⟨_, rfl⟩
    rw [hp'] at hg hr hp hrr
    obtain ⟨r, hr'⟩ : ∃ r, u - p = r := ⟨_, rfl⟩
    rw [hr'] at hg hr hrr
    have Hdv := Lib.hid (hdv q r hrr (by rw [Nat.mul_comm, hp']; omega))
    have HGk := Lib.hid G
    clear hdv hq' hp' hr' hp hrr hge hlt h1 G gt
    go_enter Try.func92, Try.ntmps92
    go_wp2
    go_step3
    go_wp2_with fail
    refine Hdv.out.mono ?_
    rintro e w1 ⟨rfl, n, rfl⟩
    go_wp2
    go_step3
    go_wp2
    go_loop [11, 12] (fun qv rv => ∃ q r : Nat, qv = .int .u64 (q : Int) ∧ rv = .int .u64 (r : Int) ∧ GuessAt 18446744073709551616 u x0 y1 y0 q r ∧ r < 18446744073709551616 ∧ q < 18446744073709551616) (fun qv _ => (intOf qv).toNat)
    case atStart => exact ⟨q, r, rfl, rfl, hg, hr, hq⟩
    case round =>
      clear hg hr hq
      obtain ⟨q, r, rfl, rfl, hg, hr, hq⟩ := hrel
      obtain ⟨hi', lo, b1, b2⟩ : ∃ hi' lo : Nat, lo < 18446744073709551616 ∧ lo + 18446744073709551616 * hi' = q * y0 := ⟨q * y0 / 18446744073709551616, q * y0 % 18446744073709551616, by omega, by omega⟩
      have hmul := Lib.hid (fun w => mul64_at q y0 hi' lo hq g0 b1 b2 w)
      have hle := two_le (r := r) b2 b1 h0
      by_cases hc : q * y0 ≤ 18446744073709551616 * r + x0
      · have hQ := Lib.hid (HG.out _ (hg.le HGk.out hc))
        have hc' := hle.2 hc
        clear hle hc hg hr hq b1 b2 g0 g1 h0
        rcases hc' with hc' | ⟨rfl, hc'⟩
        · have i1 : hi' < r := by omega
          clear hc'
          go_wp2_with fail
          refine (hmul.out _).mono ?_
          rintro e w1 ⟨rfl, rfl⟩
          go_wp2
          try rw [Exit.noGoto_ret]
          go_ret
          exact ⟨by rw [← hQ.out]; rfl, _, rfl⟩
        · have i1 : ¬ hi' < hi' := by omega
          have i2 : lo ≤ x0 := by omega
          clear hc'
          go_wp2_with fail
          refine (hmul.out _).mono ?_
          rintro e w1 ⟨rfl, rfl⟩
          go_wp2
          try rw [Exit.noGoto_ret]
          go_ret
          exact ⟨by rw [← hQ.out]; rfl, _, rfl⟩
      · obtain ⟨hg', hq1⟩ := hg.step HGk.out (.inr (by omega))
        obtain ⟨m, rfl⟩ : ∃ m, q = m + 1 := ⟨q - 1, by omega⟩
        rw [Nat.add_sub_cancel] at hg'
        have hmB : m < 18446744073709551616 := by omega
        obtain ⟨s, cc, s1, s2, s3⟩ : ∃ s cc : Nat, s < 18446744073709551616 ∧ cc ≤ 1 ∧ s + 18446744073709551616 * cc = r + y1 + 0 := ⟨(r + y1) % 18446744073709551616, (r + y1) / 18446744073709551616, by omega, by omega, by omega⟩
        have hadd := fun w => add64_at r y1 0 s cc (by omega) s1 s3 w
        simp only [Int.cast_ofNat_Int] at hadd
        have hn : ¬ (hi' < r ∨ hi' = r ∧ lo ≤ x0) := fun h => hc (hle.1 h)
        have hmi : (m : Int) < 18446744073709551616 := by omega
        rcases Nat.eq_zero_or_pos cc with rfl | hcc
        · have hs : s = r + y1 := by omega
          rw [← hs] at hg'
          have Hs1 := Lib.hid s1
          have Hmb := Lib.hid hmB
          clear s1 s2 s3 hs hg hle hc b1 b2 hq hr hq1 hmB
          by_cases hi : hi' = r
          · subst hi
            have i1 : ¬ hi' < hi' := by omega
            have i2 : ¬ lo ≤ x0 := by omega
            clear hn
            go_wp2_with fail
            refine (hmul.out _).mono ?_
            rintro e w1 ⟨rfl, rfl⟩
            go_wp2
            go_round
            case rel => exact ⟨m, s, by go_num, rfl, hg', Hs1.out, Hmb.out⟩
            case measure => simp [intOf]
          · have i1 : ¬ hi' < r := by omega
            have i2 : ((hi' : Int) == (r : Int)) = false := eqB (by omega)
            clear hn hi
            go_wp2_with fail
            refine (hmul.out _).mono ?_
            rintro e w1 ⟨rfl, rfl⟩
            go_wp2
            go_round
            case rel => exact ⟨m, s, by go_num, rfl, hg', Hs1.out, Hmb.out⟩
            case measure => simp [intOf]
        · obtain rfl : cc = 1 := by omega
          have hQ := Lib.hid (HG.out _ (hg'.out HGk.out (by omega) (by omega)))
          clear s1 s2 s3 hg hg' hle hc b1 b2 hq hr hq1 hmB
          simp only [Int.cast_ofNat_Int] at hadd
          by_cases hi : hi' = r
          · subst hi
            have i1 : ¬ hi' < hi' := by omega
            have i2 : ¬ lo ≤ x0 := by omega
            clear hn
            go_wp2_with fail
            refine (hmul.out _).mono ?_
            rintro e w1 ⟨rfl, rfl⟩
            go_wp2
            try rw [Exit.noGoto_ret]
            go_ret
            exact ⟨by rw [← hQ.out]; exact ret_u (by simp), _, rfl⟩
          · have i1 : ¬ hi' < r := by omega
            have i2 : ((hi' : Int) == (r : Int)) = false := eqB (by omega)
            clear hn hi
            go_wp2_with fail
            refine (hmul.out _).mono ?_
            rintro e w1 ⟨rfl, rfl⟩
            go_wp2
            try rw [Exit.noGoto_ret]
            go_ret
            exact ⟨by rw [← hQ.out]; exact ret_u (by simp), _, rfl⟩
end Go.Proofs.Ytldhmjfjbalakaa

namespace Go.Proofs.Ytldhmjfjbalakaa
open Go.RowKit

/-- The block g begins with these limbs. -/
def Row (w : World) (g : Nat) (l : List Nat) : Prop := ∃ cur, w.heap[g]? = some (.cells cur 72 (0, 0)) ∧ ∀ (j : Nat) u, (nts l)[j]? = some u → cur[j]? = some u
section
variable {w w' w'' : World} {g f : Nat} {l : List Nat} {p : Addr}
theorem add_off (g f j : Nat) : (⟨g, f, none⟩ : Addr).add j = ⟨g, f + j, none⟩ := by
  rcases Nat.eq_zero_or_pos j with h | h
  · subst h; rfl
  · simp [Addr.add, Nat.pos_iff_ne_zero.1 h]
theorem Row.cell (h : Row w g l) (hp : p = ⟨g, f, none⟩) {j : Nat} (hj : f + j < l.length) : w.cell? (p.add j) = some (.int .u64 (dg l (f + j) : Int)) := by
  obtain ⟨cur, h1, h2⟩ := h
  rw [hp, add_off, blk_cell h1, h2 _ _ (nts_get hj)]
theorem Row.free (h : Row w g l) (hp : p = ⟨g, f, none⟩) (j : Nat) : w.frozen? (p.add j) = false := by
  obtain ⟨cur, h1, h2⟩ := h
  rw [hp, add_off, blk_free h1]
theorem Row.set (h : Row w g l) (hp : p = ⟨g, f, none⟩) (j x : Nat) : Row (w.setCell (p.add j) (.int .u64 (x : Int))) g (l.set (f + j) x) := by
  obtain ⟨cur, h1, h2⟩ := h
  rw [hp, add_off]
  refine ⟨cur.setIfInBounds (f + j) (.int .u64 (x : Int)), by simp [World.setCell, Array.getElem?_modify, h1], fun i u hu => ?_⟩
  rw [nts, List.map_set, List.getElem?_set] at hu
  rw [Array.getElem?_setIfInBounds]
  by_cases e : f + j = i
  · rw [if_pos e] at hu ⊢
    split at hu
    · rename_i hl
      have := h2 i _ (nts_get (by rw [← e]; simpa using hl))
      have hi := (Array.getElem?_eq_some_iff.1 this).1
      rw [if_pos (by omega)]
      exact hu
    · cases hu
  · rw [if_neg e] at hu ⊢
    exact h2 i u hu
theorem Row.lt (h : Row w g l) : g < w.heap.size := by obtain ⟨cur, h1, h2⟩ := h; exact blk_lt h1
theorem Row.drewN (h : Row w g l) (n : Nat) : Row (w.drewN n) g l := h
theorem Row.of_heap (h : Row w g l) (he : w'.heap[g]? = w.heap[g]?) : Row w' g l := by
  obtain ⟨cur, h1, h2⟩ := h
  exact ⟨cur, he.trans h1, h2⟩
theorem Row.below {B : Nat} (h : Row w g l) (hb : Below B w w') (hg : g < B) : Row w' g l := h.of_heap (hb.block g hg)
theorem Row.ob (h : Row w g l) {base c : Nat} (hg : base ≤ g) (hl : Lim l) (hc : l.length ≤ c) (hc' : c ≤ maxLen) : OB w base (some ⟨g, 0, none⟩) c l := by
  obtain ⟨cur, h1, h2⟩ := h
  exact ⟨hl, hc, hc', fun _ => ⟨g, cur, rfl, hg, h1, h2⟩⟩
theorem OB.row {base c : Nat} {A : Option Addr} (h : OB w base A c l) (h0 : 0 < l.length) : ∃ g, A = some ⟨g, 0, none⟩ ∧ base ≤ g ∧ Row w g l := by
  obtain ⟨h1, h2, h3, h4⟩ := h
  obtain ⟨g, cur, e, hg, h5, h6⟩ := h4 h0
  exact ⟨g, e, hg, cur, h5, h6⟩
theorem Row.blk (h : Blk w g l) : Row w g l := ⟨_, h, fun j u hu => by rw [List.getElem?_toArray]; exact hu⟩
/-- Nothing but the block g is touched. -/
structure Only (g : Nat) (w w' : World) : Prop where
  os : w'.os = w.os
  tape : w'.tape = w.tape
  output : w'.output = w.output
  size : w'.heap.size = w.heap.size
  block : ∀ k, k ≠ g → w'.heap[k]? = w.heap[k]?
theorem Only.refl (g : Nat) (w : World) : Only g w w := ⟨rfl, rfl, rfl, rfl, fun _ _ => rfl⟩
theorem Only.trans (h : Only g w w') (k : Only g w' w'') : Only g w w'' := ⟨k.os.trans h.os, k.tape.trans h.tape, k.output.trans h.output, k.size.trans h.size, fun i hi => (k.block i hi).trans (h.block i hi)⟩
theorem Only.setCell (h : Only g w w') (hp : p = ⟨g, f, none⟩) (j : Nat) (v : Value) : Only g w (w'.setCell (p.add j) v) := by
  have e : (p.add j).block = g := by rw [hp, add_off]
  refine ⟨h.os, h.tape, h.output, ?_, fun k hk => (Below.heap_setCell _ _ _ _ (by rw [e]; exact hk)).trans (h.block k hk)⟩
  have : (w'.setCell (p.add j) v).heap.size = w'.heap.size := by unfold World.setCell; split <;> simp
  exact this.trans h.size
theorem Only.drewN (h : Only g w w') (n : Nat) : Only g w (w'.drewN n) := ⟨h.os, h.tape, h.output, h.size, h.block⟩
theorem Only.below {B : Nat} (h : Only g w w') (hB : B ≤ g) : Below B w w' := ⟨h.os, h.tape, h.output, Nat.le_of_eq h.size.symm, fun k hk => h.block k (by omega)⟩
theorem RN.only {P : Nat → Prop} {A : Option Addr} {c : Nat} (h : RN w P A c l) (ho : Only g w w') (hP : ∀ b, P b → b ≠ g) : RN w' P A c l := h.keep fun q hq => World.cell?_of_block (w := w) (ho.block q.block (hP _ hq))
theorem Row.only {g' : Nat} (h : Row w g' l) (ho : Only g w w') (hg : g' ≠ g) : Row w' g' l := h.of_heap (ho.block g' hg)
end
/-- What one round of 'takes' works out. -/
theorem takes_round (q v c x b : Nat) (hq : q < 18446744073709551616) (hv : v < 18446744073709551616) (hc : c < 18446744073709551616) (hx : x < 18446744073709551616) (hb : b ≤ 1) :
    ∃ hi lo s c1 t b' : Nat, lo < 18446744073709551616 ∧ lo + 18446744073709551616 * hi = q * v ∧ s < 18446744073709551616 ∧ s + 18446744073709551616 * c1 = lo + c + 0 ∧ hi + c1 < 18446744073709551616 ∧ s + 18446744073709551616 * (hi + c1) = q * v + c ∧
      t < 18446744073709551616 ∧ b' ≤ 1 ∧ t + s + b = x + 18446744073709551616 * b' := by
  have hm := mul_bound hq hv hc (show 0 < 18446744073709551616 by omega)
  refine ⟨q * v / 18446744073709551616, q * v % 18446744073709551616, (q * v % 18446744073709551616 + c) % 18446744073709551616, (q * v % 18446744073709551616 + c) / 18446744073709551616, ?_⟩
  obtain ⟨t, b', h1, h2, h3⟩ := borrow_of x ((q * v % 18446744073709551616 + c) % 18446744073709551616) b hx (Nat.mod_lt _ (by omega)) hb
  refine ⟨t, b', ?_⟩
  generalize q * v = p at *
  omega

set_option maxRecDepth 100000 in
set_option maxHeartbeats 2000000 in
theorem takes_any (g f : Nat) (p : Addr) (hp : p = ⟨g, f, none⟩) (P : Nat → Prop) (A : Option Addr) (c cx n q : Nat) (L y : List Nat) (w : World) (hr : Row w g L) (hL : Lim L) (h : RN w P A c y) (hP : ∀ b, P b → b ≠ g) (hn : y.length = n) (hf : f + n < L.length) (hq : q < 18446744073709551616) :
    Calls Try.prog 93 #[.slice (some p) (n + 1) cx, .slice A n c, .int .u64 (q : Int)] w fun e w' => ∃ (L' : List Nat) (b : Nat), e = .returned (.bool (decide (0 < b))) ∧ Row w' g L' ∧ Lim L' ∧ Only g w w' ∧
      L'.length = L.length ∧ val 18446744073709551616 L' + 18446744073709551616 ^ f * (q * val 18446744073709551616 y) = val 18446744073709551616 L + 18446744073709551616 ^ (f + n + 1) * b ∧ ∀ i, f + n + 1 ≤ i → dg L' i = dg L i := by
  obtain ⟨h1, h2, h3⟩ := h.cap
  have hn1 : n ≤ 1000000 := by omega
  have hnc : n ≤ c := by omega
  have Hp := Lib.hid hp
  clear hp h1 h2 h3
  go_enter Try.func93, Try.ntmps93
  go_wp2
  go_loopw [7, 8, 16] (fun cv bv iv wr => ∃ (j cr b : Nat) (l : List Nat), iv = .int .i64 (j : Int) ∧ cv = .int .u64 (cr : Int) ∧ bv = .int .u64 (b : Int) ∧ j ≤ n ∧ cr < 18446744073709551616 ∧ b ≤ 1 ∧ TakesAt 18446744073709551616 L y q f l j cr b ∧ Lim l ∧ Row wr g l ∧ Only g w wr) (fun _ _ iv _ => n - (intOf iv).toNat)
  case atStart => exact ⟨0, 0, 0, L, rfl, rfl, rfl, by omega, by omega, by omega, TakesAt.zero _ _ _ _ _, hL, hr, Only.refl _ _⟩
  case round =>
    obtain ⟨j, cr, b, l, rfl, rfl, rfl, hj, hcr, hb, hT, hl, hw, ho⟩ := hrel
    have hll := hT.1
    by_cases hlt : j < n
    · obtain ⟨ad, rfl, _, q1⟩ := (h.only ho hP).at_ (i := j) (by omega)
      obtain ⟨hi', lo, s, c1, t, b', b1, b2, b3, b4, b5, b6, b7, b8, b9⟩ := takes_round q (dg y j) cr (dg l (f + j)) b hq (h.2.dgLt j) hcr (hl.dgLt _) hb
      have hmul := Lib.hid (fun w => mul64_at q (dg y j) hi' lo hq (h.2.dgLt j) b1 b2 w)
      have hadd := fun w => add64_at lo cr 0 s c1 (by omega) b3 b4 w
      simp only [Int.cast_ofNat_Int] at hadd
      have hsub := fun w => sub64_at (dg l (f + j)) s b t b' hb (hl.dgLt _) b3 b7 b9 b8 w
      have q3 := hw.cell Hp.out (j := j) (by omega)
      have q4 := hw.free Hp.out j
      have hT' := hT.step (by omega) b6 b9
      have hw' := hw.set Hp.out j t
      have hl' := hl.set (f + j) t b7
      have ho' := ho.setCell Hp.out j (.int .u64 (t : Int))
      have k1 : (j : Int) < (n : Int) + 1 := by omega
      clear hT hl hw ho b1 b2 b3 b4 b6 b7 b9 hll hq hcr
      go_wp2_with fail
      refine (hmul.out _).mono ?_
      rintro e w1 ⟨rfl, rfl⟩
      go_wp2
      go_roundw
      case rel => exact ⟨j + 1, hi' + c1, b', l.set (f + j) t, by go_num, by go_num, rfl, by omega, b5, b8, hT', hl', hw', ho'⟩
      case measure => simp [intOf]; omega
    · obtain rfl : j = n := by omega
      obtain ⟨t, b', b7, b8, b9⟩ := borrow_of (dg l (f + j)) cr b (hl.dgLt _) hcr hb
      have hsub := fun w => sub64_at (dg l (f + j)) cr b t b' hb (hl.dgLt _) hcr b7 b9 b8 w
      have q3 := hw.cell Hp.out (j := j) (by omega)
      have q4 := hw.free Hp.out j
      have hT' := Lib.hid (hT.fin hn (by omega) b9)
      have hw' := hw.set Hp.out j t
      have hl' := hl.set (f + j) t b7
      have ho' := ho.setCell Hp.out j (.int .u64 (t : Int))
      have k1 : (j : Int) < (j : Int) + 1 := by omega
      clear hT hl hw ho b7 b9 hll hq hcr
      go_wp2
      go_ret
      exact ⟨l.set (f + j) t, b', by simp, hw', hl', ho', hT'.out⟩

set_option maxRecDepth 100000 in
set_option maxHeartbeats 2000000 in
theorem gives_any (g f : Nat) (p : Addr) (hp : p = ⟨g, f, none⟩) (P : Nat → Prop) (A : Option Addr) (c cx n : Nat) (L y : List Nat) (w : World) (hr : Row w g L) (hL : Lim L) (h : RN w P A c y) (hP : ∀ b, P b → b ≠ g) (hn : y.length = n) (hf : f + n < L.length) :
    Calls Try.prog 94 #[.slice (some p) (n + 1) cx, .slice A n c] w fun e w' => ∃ (L' : List Nat) (b : Nat), e = .returned (.tuple #[]) ∧ Row w' g L' ∧ Lim L' ∧ Only g w w' ∧
      L'.length = L.length ∧ val 18446744073709551616 L' + 18446744073709551616 ^ (f + n + 1) * b = val 18446744073709551616 L + 18446744073709551616 ^ f * val 18446744073709551616 y ∧ ∀ i, f + n + 1 ≤ i → dg L' i = dg L i := by
  obtain ⟨h1, h2, h3⟩ := h.cap
  have hn1 : n ≤ 1000000 := by omega
  have hnc : n ≤ c := by omega
  have Hp := Lib.hid hp
  clear hp h1 h2 h3
  go_enter Try.func94, Try.ntmps94
  go_wp2
  go_loopw [4, 9] (fun cv iv wr => ∃ (j cr : Nat) (l : List Nat), iv = .int .i64 (j : Int) ∧ cv = .int .u64 (cr : Int) ∧ j ≤ n ∧ cr ≤ 1 ∧ GivesAt 18446744073709551616 L y f l j cr ∧ Lim l ∧ Row wr g l ∧ Only g w wr) (fun _ iv _ => n - (intOf iv).toNat)
  case atStart => exact ⟨0, 0, L, rfl, rfl, by omega, by omega, GivesAt.zero _ _ _ _, hL, hr, Only.refl _ _⟩
  case round =>
    obtain ⟨j, cr, l, rfl, rfl, hj, hcr, hT, hl, hw, ho⟩ := hrel
    have hll := hT.1
    by_cases hlt : j < n
    · obtain ⟨ad, rfl, _, q1⟩ := (h.only ho hP).at_ (i := j) (by omega)
      obtain ⟨s, c', b7, b8, b9⟩ := carry_of (dg l (f + j)) (dg y j) cr (hl.dgLt _) (h.2.dgLt j) hcr
      have hadd := fun w => add64_at (dg l (f + j)) (dg y j) cr s c' hcr b7 b9 w
      have q3 := hw.cell Hp.out (j := j) (by omega)
      have q4 := hw.free Hp.out j
      have hT' := hT.step (by omega) b9
      have hw' := hw.set Hp.out j s
      have hl' := hl.set (f + j) s b7
      have ho' := ho.setCell Hp.out j (.int .u64 (s : Int))
      have k1 : (j : Int) < (n : Int) + 1 := by omega
      clear hT hl hw ho b7 b9 hll hcr
      go_wp2
      go_roundw
      case rel => exact ⟨j + 1, c', l.set (f + j) s, by go_num, rfl, by omega, b8, hT', hl', hw', ho'⟩
      case measure => simp [intOf]; omega
    · obtain rfl : j = n := by omega
      obtain ⟨t, b', b7, b8, b9⟩ := carry_of (dg l (f + j)) 0 cr (hl.dgLt _) (by omega) hcr
      have he : IntKind.u64.wrap ((dg l (f + j) : Int) + (cr : Int)) = (t : Int) := by
        have : (dg l (f + j) : Int) + (cr : Int) = (t : Int) + 18446744073709551616 * (b' : Int) := by omega
        rw [this]
        simp [IntKind.wrap, IntKind.bits, IntKind.signed]
        omega
      have q3 := hw.cell Hp.out (j := j) (by omega)
      have q4 := hw.free Hp.out j
      have hT' := Lib.hid (hT.fin hn (by omega) (x := t) (c' := b') (by omega))
      have hw' := hw.set Hp.out j t
      have hl' := hl.set (f + j) t b7
      have ho' := ho.setCell Hp.out j (.int .u64 (t : Int))
      have k1 : (j : Int) < (j : Int) + 1 := by omega
      clear hT hl hw ho b7 b9 hll hcr
      go_wp2
      go_end0
      exact ⟨l.set (f + j) t, b', rfl, hw', hl', ho', hT'.out⟩
end Go.Proofs.Ytldhmjfjbalakaa

namespace Go.Proofs.Ytldhmjfjbalakaa

/-- A number by its lowest limbs and three more. -/
theorem val_three {B : Nat} {L : List Nat} {t : Nat} (h : ∀ x ∈ L, x < B) (ht : t + 3 ≤ L.length) (hz : ∀ j, t + 3 ≤ j → dg L j = 0) :
    ∃ r, r < B ^ t ∧ val B L = r + B ^ t * ((dg L (t + 2) * B + dg L (t + 1)) * B + dg L t) := by
  refine ⟨val B (L.take t), ?_, ?_⟩
  · have := val_lt (B := B) (l := L.take t) fun x hx => h x (List.mem_of_mem_take hx)
    rwa [List.length_take, Nat.min_eq_left (by omega)] at this
  · have e := val_take_drop B L ht
    have hd : val B (L.drop (t + 3)) = 0 := by
      apply val_zeros
      intro x hx
      obtain ⟨i, hi, rfl⟩ := List.getElem_of_mem hx
      rw [List.getElem_drop]
      have := hz (t + 3 + i) (by omega)
      rwa [dg, getD_eq' (by simp at hi; omega)] at this
    rw [hd, Nat.mul_zero, Nat.add_zero] at e
    rw [e, val_take_getD, val_take_getD, val_take_getD, show B ^ (t + 2) = B ^ t * B * B from by simp only [Nat.pow_succ], Nat.pow_succ]
    have e1 : B ^ t * B * B * dg L (t + 2) = B ^ t * (dg L (t + 2) * B * B) := by simp only [Nat.mul_assoc]; rw [Nat.mul_comm B (dg L (t + 2)), ← Nat.mul_assoc B, Nat.mul_comm B (dg L (t + 2)), Nat.mul_assoc]
    have e2 : B ^ t * B * dg L (t + 1) = B ^ t * (dg L (t + 1) * B) := by rw [Nat.mul_assoc, Nat.mul_comm B]
    rw [e1, e2, Nat.add_mul, Nat.mul_add, Nat.mul_add]
    omega
theorem val_two {B : Nat} {L : List Nat} {t : Nat} (ht : t + 2 = L.length) :
    ∃ r, val B L = r + B ^ t * (dg L (t + 1) * B + dg L t) := by
  refine ⟨val B (L.take t), ?_⟩
  have e : val B L = val B (L.take (t + 2)) := by rw [ht, List.take_length]
  rw [e, val_take_getD, val_take_getD, Nat.pow_succ]
  have e2 : B ^ t * B * dg L (t + 1) = B ^ t * (dg L (t + 1) * B) := by rw [Nat.mul_assoc, Nat.mul_comm B]
  rw [e2, Nat.mul_add]
  omega
/-- A limb of the quotient is among what a guess must not fall short of. -/
theorem quo_three {B q DB V t D2 T rd rv : Nat} (hq : q * DB ≤ V) (hD : DB = rd + B ^ t * D2) (hV : V = rv + B ^ t * T) (hr : rv < B ^ t) : q * D2 ≤ T := by
  have h1 : q * (B ^ t * D2) ≤ q * DB := Nat.mul_le_mul_left _ (by omega)
  have h2 : q * (B ^ t * D2) = B ^ t * (q * D2) := by rw [Nat.mul_left_comm]
  have h3 : B ^ t * (q * D2) < B ^ t * (T + 1) := by rw [Nat.mul_add, Nat.mul_one]; omega
  exact Nat.le_of_lt_succ (Nat.lt_of_mul_lt_mul_left h3)

/-- A limb g is taken off, or once too much of it. -/
def FixAt (B V i n D : Nat) (L : List Nat) (g : Nat) (too : Bool) : Prop :=
  V / (B ^ i * D) ≤ g ∧ g < B ∧ (∀ j, i + n + 1 ≤ j → dg L j = 0) ∧ val B L + B ^ i * (g * D) = V + if too then B ^ (i + n + 1) else 0
section
variable {B V i n D g : Nat} {L L' : List Nat}
theorem FixAt.start {b : Nat} (hq : V / (B ^ i * D) ≤ g) (hg : g < B) (hz : ∀ j, i + n + 1 ≤ j → dg L' j = dg L j) (hz0 : ∀ j, i + n + 1 ≤ j → dg L j = 0) (he : val B L' + B ^ i * (g * D) = V + B ^ (i + n + 1) * b) (hL' : ∀ x ∈ L', x < B) (hB : 2 ≤ B) (hD : D < B ^ n) :
    FixAt B V i n D L' g (decide (0 < b)) := by
  have hz' : ∀ j, i + n + 1 ≤ j → dg L' j = 0 := fun j hj => (hz j hj).trans (hz0 j hj)
  refine ⟨hq, hg, hz', ?_⟩
  have h1 := val_lt_of_zero (by omega) hL' hz'
  rw [he]
  have h2 : B ^ i * (g * D) < B ^ (i + n + 1) := by
    rw [Nat.add_assoc, Nat.pow_add, Nat.pow_succ, Nat.mul_comm (B ^ n)]
    refine Nat.mul_lt_mul_of_pos_left ?_ (Nat.pow_pos (by omega))
    exact Nat.lt_of_le_of_lt (Nat.mul_le_mul_left g (Nat.le_of_lt hD)) (Nat.mul_lt_mul_of_pos_right hg (Nat.pow_pos (by omega)))
  rcases Nat.lt_or_ge b 2 with hb | hb
  · have : b = 0 ∨ b = 1 := by omega
    rcases this with rfl | rfl <;> simp
  · exfalso
    have h3 : B ^ (i + n + 1) * 2 ≤ B ^ (i + n + 1) * b := Nat.mul_le_mul_left _ hb
    omega
theorem FixAt.pos (h : FixAt B V i n D L g true) (hL : ∀ x ∈ L, x < B) (hB : 2 ≤ B) : V / (B ^ i * D) < g := by
  obtain ⟨h1, h2, h3, h4⟩ := h
  have h5 := val_lt_of_zero (by omega) hL h3
  apply Nat.div_lt_of_lt_mul
  simp only [if_true] at h4
  rw [Nat.mul_assoc, Nat.mul_comm D]
  omega
theorem FixAt.step {c : Nat} (h : FixAt B V i n D L (g + 1) true) (hL : ∀ x ∈ L, x < B) (hL' : ∀ x ∈ L', x < B) (hB : 2 ≤ B) (hD : 0 < D) (hDn : D < B ^ n)
    (he : val B L' + B ^ (i + n + 1) * c = val B L + B ^ i * D) (hz : ∀ j, i + n + 1 ≤ j → dg L' j = dg L j) : FixAt B V i n D L' g (decide (dg L' (i + n) ≠ 0)) := by
  have hp := h.pos hL hB
  obtain ⟨h1, h2, h3, h4⟩ := h
  have hz' : ∀ j, i + n + 1 ≤ j → dg L' j = 0 := fun j hj => (hz j hj).trans (h3 j hj)
  have h5 := val_lt_of_zero (by omega) hL h3
  have h6 := val_lt_of_zero (by omega) hL' hz'
  have hDi : B ^ i * D < B ^ (i + n) := by rw [Nat.pow_add]; exact Nat.mul_lt_mul_of_pos_left hDn (Nat.pow_pos (by omega))
  have hBB : B ^ (i + n + 1) = B ^ (i + n) * B := Nat.pow_succ _ _
  have hBB2 : B ^ (i + n) * 2 ≤ B ^ (i + n) * B := Nat.mul_le_mul_left _ hB
  have hV : V < B ^ i * D * (g + 1) := by
    have := Nat.lt_mul_div_succ V (show 0 < B ^ i * D from Nat.mul_pos (Nat.pow_pos (by omega)) hD)
    exact Nat.lt_of_lt_of_le this (Nat.mul_le_mul_left _ (by omega))
  simp only [if_true] at h4
  have e1 : B ^ i * ((g + 1) * D) = B ^ i * (g * D) + B ^ i * D := by rw [Nat.add_mul, Nat.one_mul, Nat.mul_add]
  have e2 : B ^ i * D * (g + 1) = B ^ i * (g * D) + B ^ i * D := by rw [← e1, Nat.mul_assoc, Nat.mul_comm D]
  have hgD : B ^ i * (g * D) + B ^ (i + n) * 2 ≤ B ^ (i + n + 1) + B ^ (i + n) := by
    obtain ⟨m, hm⟩ : ∃ m, B = m + 2 := ⟨B - 2, by omega⟩
    have k1 : g * D ≤ m * B ^ n := Nat.mul_le_mul (by omega) (Nat.le_of_lt hDn)
    have k2 : B ^ i * (g * D) ≤ B ^ i * (m * B ^ n) := Nat.mul_le_mul_left _ k1
    have k3 : B ^ i * (m * B ^ n) = B ^ (i + n) * m := by rw [Nat.mul_comm m, ← Nat.mul_assoc, ← Nat.pow_add]
    have k4 : B ^ (i + n) * B = B ^ (i + n) * m + B ^ (i + n) * 2 := by rw [← Nat.mul_add, ← hm]
    omega
  rw [e1] at h4
  rw [e2] at hV
  refine ⟨by omega, by omega, hz', ?_⟩
  rcases Nat.eq_zero_or_pos c with rfl | hc
  · rw [Nat.mul_zero, Nat.add_zero] at he
    have hbig : B ^ (i + n) ≤ val B L' := by omega
    have hne : dg L' (i + n) ≠ 0 := fun h0 => by
      have := val_lt_of_zero (B := B) (m := i + n) (by omega) hL' fun j hj => by
        rcases Nat.lt_or_ge (i + n) j with h | h
        · exact hz' j (by omega)
        · obtain rfl : j = i + n := by omega
          exact h0
      omega
    rw [decide_eq_true hne, if_pos rfl]
    omega
  · have hc1 : c = 1 := by
      rcases Nat.lt_or_ge c 2 with h | h
      · omega
      · have : B ^ (i + n + 1) * 2 ≤ B ^ (i + n + 1) * c := Nat.mul_le_mul_left _ h
        omega
    subst hc1
    rw [Nat.mul_one] at he
    have hsmall : val B L' < B ^ (i + n) := by omega
    have h0 := zero_of_val_lt hL' hsmall (Nat.le_refl _)
    rw [decide_eq_false (by simp [h0]), if_neg (by simp)]
    omega
theorem FixAt.fin (h : FixAt B V i n D L g false) (hB : 2 ≤ B) (hD : 0 < D) : val B L + B ^ i * (g * D) = V ∧ val B L < B ^ i * D := by
  obtain ⟨h1, h2, h3, h4⟩ := h
  simp only [Bool.false_eq_true, if_false, Nat.add_zero] at h4
  refine ⟨h4, ?_⟩
  have h5 := Nat.lt_mul_div_succ V (show 0 < B ^ i * D from Nat.mul_pos (Nat.pow_pos (by omega)) hD)
  have h6 : B ^ i * D * (V / (B ^ i * D) + 1) ≤ B ^ i * D * (g + 1) := Nat.mul_le_mul_left _ (by omega)
  have e : B ^ i * D * (g + 1) = B ^ i * (g * D) + B ^ i * D := by rw [Nat.mul_add, Nat.mul_one, Nat.mul_assoc, Nat.mul_comm D]
  omega
end
/-- k limbs of the quotient are still to come. -/
def QuoAt (B X D : Nat) (L qs : List Nat) (k : Nat) : Prop := val B L + D * (B ^ k * val B (qs.drop k)) = X ∧ val B L < B ^ k * D
theorem QuoAt.start {B D m : Nat} {L qs : List Nat} (hq : qs.length = m) (h : val B L < B ^ m * D) : QuoAt B (val B L) D L qs m := by
  refine ⟨?_, h⟩
  rw [← hq, List.drop_length]
  simp
theorem QuoAt.step {B X D k g : Nat} {L L' qs : List Nat} (h : QuoAt B X D L qs (k + 1)) (hk : k < qs.length) (h1 : val B L' + B ^ k * (g * D) = val B L) (h2 : val B L' < B ^ k * D) : QuoAt B X D L' (qs.set k g) k := by
  obtain ⟨g1, g2⟩ := h
  refine ⟨?_, h2⟩
  have e : (qs.set k g).drop k = g :: qs.drop (k + 1) := by
    rw [List.drop_set, if_neg (Nat.lt_irrefl _), List.drop_eq_getElem_cons hk, Nat.sub_self, List.set_cons_zero]
  rw [e, val_cons, Nat.mul_add, Nat.mul_add, ← g1, ← h1, Nat.pow_succ]
  have e1 : D * (B ^ k * g) = B ^ k * (g * D) := by rw [Nat.mul_left_comm, Nat.mul_comm D]
  rw [e1, Nat.mul_assoc (B ^ k)]
  omega
theorem QuoAt.fin {B X D : Nat} {L qs : List Nat} (h : QuoAt B X D L qs 0) : val B qs = X / D ∧ val B L = X % D := by
  obtain ⟨g1, g2⟩ := h
  simp only [Nat.pow_zero, Nat.one_mul, List.drop_zero] at g1 g2
  rw [← g1]
  refine ⟨?_, ?_⟩
  · rw [Nat.add_comm, Nat.mul_add_div (by omega), Nat.div_eq_of_lt g2, Nat.add_zero]
  · rw [Nat.add_comm, Nat.mul_add_mod, Nat.mod_eq_of_lt g2]
/-- The divisor moved up: as long as it was, its highest limb half of a limb's range or more. -/
theorem norm_d {B p u y top n : Nat} (hB : 2 ≤ B) (he : B % 2 = 0) (hp : B = u * p) (hn : (digs B y).length = n + 1) (ht : dg (digs B y) n = top) (h1 : B ≤ 2 * (top * p)) (h2 : top * p < B) :
    (digs B (y * p)).length = n + 1 ∧ B ≤ 2 * dg (digs B (y * p)) n ∧ B ^ (n + 1) ≤ 2 * (y * p) := by
  have hBn : 0 < B ^ n := Nat.pow_pos (by omega)
  have hy : y = val B ((digs B y).take n) + B ^ n * top := by
    rw [← ht, ← val_take_getD, ← hn, List.take_length, val_digs hB]
  have hr : val B ((digs B y).take n) < B ^ n := by
    have := val_lt (B := B) (l := (digs B y).take n) fun x hx => digs_lt hB y x (List.mem_of_mem_take hx)
    rwa [List.length_take, Nat.min_eq_left (by omega)] at this
  generalize val B ((digs B y).take n) = r at *
  have hu : (top + 1) * p ≤ B := by
    have : top < u := by
      rw [hp] at h2
      exact Nat.lt_of_mul_lt_mul_right h2
    rw [hp]
    exact Nat.mul_le_mul_right _ this
  have hup : y * p < B ^ (n + 1) := by
    have k1 : y + 1 ≤ B ^ n * (top + 1) := by rw [Nat.mul_add, Nat.mul_one]; omega
    have hp0 : 0 < p := by
      rcases Nat.eq_zero_or_pos p with h | h
      · subst h; omega
      · exact h
    have k2 : y * p < (y + 1) * p := Nat.mul_lt_mul_of_pos_right (by omega) hp0
    have k3 : (y + 1) * p ≤ B ^ n * (top + 1) * p := Nat.mul_le_mul_right _ k1
    have k4 : B ^ n * (top + 1) * p ≤ B ^ n * B := by rw [Nat.mul_assoc]; exact Nat.mul_le_mul_left _ hu
    rw [Nat.pow_succ]
    omega
  have hlo : B ^ (n + 1) ≤ 2 * (y * p) := by
    have k1 : B ^ n * top * p ≤ y * p := Nat.mul_le_mul_right _ (by omega)
    have k2 : B ^ n * B ≤ B ^ n * (2 * (top * p)) := Nat.mul_le_mul_left _ h1
    have k3 : B ^ n * (2 * (top * p)) = 2 * (B ^ n * top * p) := by rw [Nat.mul_left_comm, Nat.mul_assoc]
    rw [Nat.pow_succ]
    omega
  have hBB : B ^ n * 2 ≤ B ^ n * B := Nat.mul_le_mul_left _ hB
  have hlen : (digs B (y * p)).length = n + 1 := by
    refine Nat.le_antisymm (digs_length_of_lt hB hup) ?_
    rcases Nat.lt_or_ge n (digs B (y * p)).length with h | h
    · exact h
    · have k1 := lt_pow_digs hB (y * p)
      have k2 : B ^ (digs B (y * p)).length ≤ B ^ n := Nat.pow_le_pow_right (by omega) h
      rw [Nat.pow_succ] at hlo
      omega
  refine ⟨hlen, ?_, hlo⟩
  have hD : y * p = val B ((digs B (y * p)).take n) + B ^ n * dg (digs B (y * p)) n := by
    rw [← val_take_getD, ← hlen, List.take_length, val_digs hB]
  have hr2 : val B ((digs B (y * p)).take n) < B ^ n := by
    have := val_lt (B := B) (l := (digs B (y * p)).take n) fun x hx => digs_lt hB (y * p) x (List.mem_of_mem_take hx)
    rwa [List.length_take, Nat.min_eq_left (by omega)] at this
  generalize dg (digs B (y * p)) n = z at *
  have k1 : B ^ n * B < B ^ n * (2 * (z + 1)) := by
    rw [Nat.pow_succ] at hlo
    have : B ^ n * (2 * (z + 1)) = 2 * (B ^ n * z + B ^ n) := by rw [Nat.mul_left_comm, Nat.mul_add, Nat.mul_one]
    omega
  have k2 := Nat.lt_of_mul_lt_mul_left k1
  omega
theorem norm_x {B x D n : Nat} (hB : 2 ≤ B) (hn : n ≤ (digs B x).length + 1) (hD : B ^ n ≤ 2 * D) : x < B ^ ((digs B x).length + 1 - n) * D := by
  have h1 := lt_pow_digs hB x
  generalize (digs B x).length = k at *
  have h2 : B ^ (k + 1 - n) * B ^ n ≤ B ^ (k + 1 - n) * (2 * D) := Nat.mul_le_mul_left _ hD
  rw [← Nat.pow_add, show k + 1 - n + n = k + 1 by omega, Nat.pow_succ, Nat.mul_left_comm] at h2
  have h3 : B ^ k * 2 ≤ B ^ k * B := Nat.mul_le_mul_left _ hB
  omega
end Go.Proofs.Ytldhmjfjbalakaa

namespace Go.Proofs.Ytldhmjfjbalakaa

theorem dg_drop (u : List Nat) (k i : Nat) : dg (u.drop k) i = dg u (k + i) := by
  simp [dg, List.getD_eq_getElem?_getD, List.getElem?_drop]
/-- Within 'less': i digits of u from k on, less g v, are worked out. -/
def LessAt (B : Nat) (u v W : List Nat) (k g i c b : Nat) : Prop := W.length = v.length + 1 ∧ val B (W.take i) + g * val B (v.take i) = val B ((u.drop k).take i) + B ^ i * (c + b)
section
variable {B k g i c b : Nat} {u v W : List Nat}
theorem LessAt.zero (h : W.length = v.length + 1) : LessAt B u v W k g 0 0 0 := ⟨h, by simp⟩
theorem LessAt.step {lo c' x b' : Nat} (h : LessAt B u v W k g i c b) (hi : i < W.length) (h1 : lo + B * c' = c + g * dg v i) (h2 : x + (lo + b) = dg u (k + i) + B * b') : LessAt B u v (W.set i x) k g (i + 1) c' b' := by
  obtain ⟨g1, g2⟩ := h
  refine ⟨by simpa using g1, ?_⟩
  rw [val_take_set B hi, val_take_getD, val_take_getD, dg_drop, Nat.pow_succ]
  have e1 : g * (B ^ i * dg v i) = B ^ i * (g * dg v i) := Nat.mul_left_comm _ _ _
  have e2 : B ^ i * (lo + B * c') = B ^ i * (c + g * dg v i) := by rw [h1]
  have e3 : B ^ i * (x + (lo + b)) = B ^ i * (dg u (k + i) + B * b') := by rw [h2]
  rw [Nat.mul_add g, e1, Nat.mul_assoc, Nat.mul_add B, Nat.mul_add (B ^ i) (B * c')]
  simp only [Nat.mul_add] at e2 e3 g2 ⊢
  generalize B ^ i * (B * c') = p1 at *
  generalize B ^ i * (B * b') = p2 at *
  generalize B ^ i * lo = p3 at *
  generalize B ^ i * (g * dg v i) = p4 at *
  generalize B ^ i * c = p5 at *
  generalize B ^ i * b = p6 at *
  generalize B ^ i * x = p7 at *
  generalize B ^ i * dg u (k + i) = p8 at *
  omega
/-- Within 'times'. -/
def TimesAt (B : Nat) (a o : List Nat) (m i c : Nat) : Prop := o.length = a.length + 1 ∧ val B (o.take i) + B ^ i * c = m * val B (a.take i)
theorem TimesAt.step {a o : List Nat} {m x c' : Nat} (h : TimesAt B a o m i c) (hi : i < o.length) (h1 : x + B * c' = c + dg a i * m) : TimesAt B a (o.set i x) m (i + 1) c' := by
  obtain ⟨g1, g2⟩ := h
  refine ⟨by simpa using g1, ?_⟩
  rw [val_take_set B hi, val_take_getD, Nat.mul_add, ← g2, Nat.pow_succ, Nat.mul_assoc]
  have e1 : m * (B ^ i * dg a i) = B ^ i * (dg a i * m) := by rw [Nat.mul_left_comm, Nat.mul_comm m]
  have e2 : B ^ i * (x + B * c') = B ^ i * (c + dg a i * m) := by rw [h1]
  rw [e1]
  simp only [Nat.mul_add] at e2
  omega
theorem TimesAt.fin {a o : List Nat} {m : Nat} (h : TimesAt B a o m a.length c) : val B (o.set a.length c) = m * val B a := by
  obtain ⟨g1, g2⟩ := h
  have e : (o.set a.length c).length = a.length + 1 := by simpa using g1
  have e2 : val B (o.set a.length c) = val B ((o.set a.length c).take (a.length + 1)) := by rw [← e, List.take_length]
  rw [e2, val_take_set B (by omega), g2, List.take_length]
end
end Go.Proofs.Ytldhmjfjbalakaa

namespace Go.Proofs.Ytldhmjfjbalakaa
open Go.RowKit

theorem info64size : (Try.prog.info? 72).map (·.size) = some 1 := by kernel_rfl
theorem Blk.put {w : World} {g : Nat} {u : List Nat} (h : Blk w g u) (v : List Nat) : Blk (w.setRow g (nts v).toArray) g v := setRow_heap w g _ _ _ _ h
theorem Only.put {w w' : World} {g : Nat} (h : Only g w w') (v : Array Value) : Only g w (w'.setRow g v) :=
  ⟨h.os, h.tape, h.output, by have : (w'.setRow g v).heap.size = w'.heap.size := by simp [World.setRow]
                              exact this.trans h.size, fun k hk => by
    have : (w'.setRow g v).heap[k]? = w'.heap[k]? := by simp [World.setRow, Array.getElem?_modify, Ne.symm hk]
    exact this.trans (h.block k hk)⟩
/-- Nothing but the blocks g and g' is touched. -/
structure Two (g g' : Nat) (w w' : World) : Prop where
  os : w'.os = w.os
  tape : w'.tape = w.tape
  output : w'.output = w.output
  size : w'.heap.size = w.heap.size
  block : ∀ k, k ≠ g → k ≠ g' → w'.heap[k]? = w.heap[k]?
theorem Two.below {g g' B : Nat} {w w' : World} (h : Two g g' w w') (hg : B ≤ g) (hg' : B ≤ g') : Below B w w' := ⟨h.os, h.tape, h.output, Nat.le_of_eq h.size.symm, fun k hk => h.block k (by omega) (by omega)⟩
theorem Only.two {g g' : Nat} {w w' w'' : World} (h : Only g' w w') (k : Only g w' w'') : Two g g' w w'' := ⟨k.os.trans h.os, k.tape.trans h.tape, k.output.trans h.output, k.size.trans h.size, fun i hi hi' => (k.block i hi).trans (h.block i hi')⟩
theorem RN.two {g g' : Nat} {w w' : World} {P : Nat → Prop} {A : Option Addr} {c : Nat} {l : List Nat} (h : RN w P A c l) (ho : Two g g' w w') (hP : ∀ b, P b → b ≠ g ∧ b ≠ g') : RN w' P A c l := h.keep fun q hq => World.cell?_of_block (w := w) (ho.block q.block (hP _ hq).1 (hP _ hq).2)

end Go.Proofs.Ytldhmjfjbalakaa

namespace Go.Proofs.Ytldhmjfjbalakaa
open Go.RowKit

/-- Of what lay, all but block g lies as it lay. -/
structure Just (g : Nat) (w w' : World) : Prop where
  os : w'.os = w.os
  tape : w'.tape = w.tape
  output : w'.output = w.output
  size : w.heap.size ≤ w'.heap.size
  block : ∀ b, b < w.heap.size → b ≠ g → w'.heap[b]? = w.heap[b]?
theorem Just.refl (g : Nat) (w : World) : Just g w w := ⟨rfl, rfl, rfl, Nat.le_refl _, fun _ _ _ => rfl⟩
theorem Just.trans {g : Nat} {a b c : World} (h : Just g a b) (k : Just g b c) : Just g a c :=
  ⟨k.os.trans h.os, k.tape.trans h.tape, k.output.trans h.output, Nat.le_trans h.size k.size, fun i hi hn => (k.block i (Nat.lt_of_lt_of_le hi h.size) hn).trans (h.block i hi hn)⟩
theorem Just.set {g : Nat} {a b : World} (h : Just g a b) (i : Nat) (v : Value) : Just g a (b.setCell ⟨g, i, none⟩ v) :=
  ⟨h.os, h.tape, h.output, by simpa [World.setCell] using h.size, fun j hj hn => (Below.heap_setCell _ _ _ _ (by exact hn)).trans (h.block j hj hn)⟩
theorem Just.drewN {g : Nat} {a b : World} (h : Just g a b) (n : Nat) : Just g a (b.drewN n) := ⟨h.os, h.tape, h.output, h.size, h.block⟩
theorem Just.cell {g : Nat} {w w' : World} (h : Just g w w') {p : Addr} (hp : p.block < w.heap.size) (hn : p.block ≠ g) : w'.cell? p = w.cell? p := World.cell?_of_block (h.block _ hp hn)
theorem Just.below {g B : Nat} {w w' : World} (h : Just g w w') (hB : B ≤ g) (hw : B ≤ w.heap.size) : Below B w w' := ⟨h.os, h.tape, h.output, h.size, fun b hb => h.block b (Nat.lt_of_lt_of_le hb hw) (by omega)⟩
theorem RN.just {w w' : World} {g : Nat} {P : Nat → Prop} {A : Option Addr} {c : Nat} {l : List Nat} (h : RN w P A c l) (hj : Just g w w') (hP : ∀ b, P b → b < w.heap.size ∧ b ≠ g) : RN w' P A c l :=
  h.keep fun _ hp => hj.cell (hP _ hp).1 (hP _ hp).2

theorem setRow_below {B g : Nat} {w w' : World} (h : Below B w w') (hg : B ≤ g) (v : Array Value) : Below B w (w'.setRow g v) :=
  ⟨h.os, h.tape, h.output, by have : (w'.setRow g v).heap.size = w'.heap.size := by simp [World.setRow]
                              rw [this]; exact h.size, fun k hk => by
    have : (w'.setRow g v).heap[k]? = w'.heap[k]? := by simp [World.setRow, Array.getElem?_modify, show ¬ g = k by omega]
    exact this.trans (h.block k hk)⟩
/-- What is given. -/
def offM (v M : Nat) : Nat := if v < M then v else v - M

/-- Behind i rounds of Montgomery's product. -/
structure MontAt (B M : Nat) (a b t : List Nat) (i n : Nat) : Prop where
  len : t.length = n + 2
  top : dg t (n + 1) = 0
  bound : val B t < M + val B b
  cong : ∃ k, val B t * B ^ i = val B (a.take i) * val B b + k * M
theorem MontAt.zero {B M : Nat} (a b : List Nat) (n : Nat) (hM : 0 < M) : MontAt B M a b (List.replicate (n + 2) 0) 0 n :=
  ⟨by simp, by rw [dg, List.getD_eq_getElem?_getD, List.getElem?_replicate]; split <;> rfl, by rw [val_replicate]; omega, 0, by simp [val_replicate]⟩
theorem dg_zero_mod {B : Nat} {t : List Nat} (ht : ∀ x ∈ t, x < B) (_hB : 0 < B) : val B t % B = dg t 0 := by
  cases t with
  | nil => simp [dg]
  | cons x l => rw [val_cons, Nat.add_mul_mod_self_left, Nat.mod_eq_of_lt (ht x (by simp))]; rfl
/-! What a round does to the numbers. -/
theorem mont_low {B M inv d q v : Nat} (hi : (inv * M + 1) % B = 0) (hv : v % B = d) (hq : q = d * inv % B) : (v + q * M) % B = 0 := by
  have h1 : (v + q * M) % B = (d * (inv * M + 1)) % B := by
    subst hq hv
    rw [Nat.mul_add, Nat.mul_one, Nat.add_mod, Nat.mod_mul_mod, ← Nat.mul_assoc, Nat.add_comm (v % B * inv * M), Nat.add_mod_mod]
  rw [h1, Nat.mul_mod, hi]
  simp
theorem mont_eq {M t0 ai b q t2 Bi A A' k : Nat} (h2 : t2 = t0 + ai * b + q * M) (hk : t0 * Bi = A * b + k * M) (hA : A' = A + Bi * ai) : t2 * Bi = A' * b + (k + q * Bi) * M := by
  subst h2 hA
  rw [Nat.add_mul, Nat.add_mul, hk, Nat.add_mul, Nat.add_mul]
  have e1 : ai * b * Bi = Bi * ai * b := by rw [Nat.mul_comm Bi ai, Nat.mul_assoc, Nat.mul_assoc, Nat.mul_comm b Bi]
  have e2 : q * M * Bi = q * Bi * M := by rw [Nat.mul_assoc, Nat.mul_assoc, Nat.mul_comm M Bi]
  omega
theorem mont_bound {B M t0 ai b q t2 t4 : Nat} (hB : 0 < B) (h2 : t2 = t0 + ai * b + q * M) (hb : t0 < M + b) (ha : ai < B) (hq : q < B) (h4 : t2 = B * t4) : t4 < M + b := by
  have e1 : ai * b ≤ (B - 1) * b := Nat.mul_le_mul_right _ (by omega)
  have e2 : q * M ≤ (B - 1) * M := Nat.mul_le_mul_right _ (by omega)
  have e3 : (B - 1) * b + b = B * b := by rw [← Nat.succ_mul, Nat.succ_eq_add_one, Nat.sub_add_cancel hB]
  have e4 : (B - 1) * M + M = B * M := by rw [← Nat.succ_mul, Nat.succ_eq_add_one, Nat.sub_add_cancel hB]
  have e5 : B * t4 < B * (M + b) := by rw [Nat.mul_add, ← h4]; omega
  exact Nat.lt_of_mul_lt_mul_left e5
theorem MontAt.step {B M inv n i q : Nat} {a b t t2 : List Nat} (hB : 2 ≤ B) (h : MontAt B M a b t i n) (ha : dg a i < B) (hi : (inv * M + 1) % B = 0) (hl2 : t2.length = n + 2) (hlim : ∀ x ∈ t2, x < B)
    (hq : q = (val B t + dg a i * val B b) % B * inv % B) (hv2 : val B t2 = val B t + dg a i * val B b + q * M) : MontAt B M a b (t2.drop 1 ++ [0]) (i + 1) n := by
  have h0 : val B t2 % B = 0 := by rw [hv2]; exact mont_low hi rfl hq
  have hq' : q < B := by rw [hq]; exact Nat.mod_lt _ (by omega)
  obtain ⟨x, l, rfl⟩ : ∃ x l, t2 = x :: l := by
    cases t2 with
    | nil => simp at hl2
    | cons x l => exact ⟨x, l, rfl⟩
  rw [dg_zero_mod hlim (by omega)] at h0
  have hx : x = 0 := h0
  subst hx
  have hlen : l.length = n + 1 := by simpa using hl2
  have e4 : val B (0 :: l) = B * val B l := by rw [val_cons]; omega
  have e5 : val B ((0 :: l).drop 1 ++ [0]) = val B l := by simp [val_append]
  obtain ⟨k, hk⟩ := h.cong
  refine ⟨by simp [hlen], ?_, ?_, k + q * B ^ i, ?_⟩
  · simp [dg, List.getD_eq_getElem?_getD, hlen]
  · rw [e5]
    exact mont_bound (by omega) hv2 h.bound ha hq' e4
  · rw [e5, Nat.pow_succ, show val B l * (B ^ i * B) = (B * val B l) * B ^ i by rw [Nat.mul_comm (B ^ i), ← Nat.mul_assoc, Nat.mul_comm (val B l)], ← e4]
    exact mont_eq hv2 hk (val_take_getD B a i)
/-- Montgomery's congruence, behind the last taking off. -/
theorem offM_lt {v M : Nat} (h : v < 2 * M) : offM v M < M := by rw [offM]; split <;> omega
theorem offM_mod {v M R x k : Nat} (h : v * R = x + k * M) : offM v M * R % M = x % M := by
  have h1 : v * R % M = x % M := by rw [h, Nat.add_mul_mod_self_right]
  rw [offM]
  split
  · exact h1
  · rename_i hge
    rw [← h1]
    have : v * R = (v - M) * R + R * M := by rw [Nat.mul_comm R M, ← Nat.add_mul, Nat.sub_add_cancel (by omega)]
    rw [this, Nat.add_mul_mod_self_right]
theorem wrap_mul (x y : Nat) : IntKind.u64.wrap ((x : Int) * (y : Int)) = ((x * y % 18446744073709551616 : Nat) : Int) := by
  rw [IntKind.wrap_u64, ← Int.natCast_mul]
  omega
theorem cancelR {B M inv n a b : Nat} (hi : (inv * M + 1) % B = 0) (h : a * B ^ n % M = b * B ^ n % M) : a % M = b % M := by
  obtain ⟨u, hu⟩ : ∃ u, inv * M + 1 = B * u := ⟨(inv * M + 1) / B, by have := Nat.div_add_mod (inv * M + 1) B; omega⟩
  have h1 : ∀ x, x * (B * u) % M = x % M := fun x => by rw [← hu, Nat.mul_add, Nat.mul_one, ← Nat.mul_assoc, Nat.add_comm, Nat.add_mul_mod_self_right]
  have h2 : ∀ k x, x * B ^ k * u ^ k % M = x % M := by
    intro k
    induction k with
    | zero => intro x; simp
    | succ k ih =>
      intro x
      have e : x * B ^ (k + 1) * u ^ (k + 1) = (x * (B * u)) * B ^ k * u ^ k := by
        rw [Nat.pow_succ, Nat.pow_succ]
        simp only [Nat.mul_assoc, Nat.mul_comm, Nat.mul_left_comm]
      rw [e, ih, h1]
  rw [← h2 n a, ← h2 n b, Nat.mul_mod, h, ← Nat.mul_mod]

/-- One round of Newton's: the places that are right double. -/
theorem newton {m y y' t z : Int} {k j : Nat} (hy : m * y = 1 + 2 ^ k * t) (h' : y' = y * (2 - m * y) + 18446744073709551616 * z) (hj : k + k + j = 64) : ∃ s, m * y' = 1 + 2 ^ (k + k) * s := by
  refine ⟨-(t * t) + m * 2 ^ j * z, ?_⟩
  have e1 : m * y' = m * y * (2 - m * y) + m * 18446744073709551616 * z := by rw [h', Int.mul_add, ← Int.mul_assoc, ← Int.mul_assoc]
  have e2 : (18446744073709551616 : Int) = 2 ^ (k + k) * 2 ^ j := by rw [← Int.pow_add, hj]; rfl
  rw [e1, hy, e2, Int.pow_add]
  generalize (2 : Int) ^ k = p
  generalize (2 : Int) ^ j = r
  grind
theorem newton_wrap {m y : Int} : ∃ z, (y * ((2 - m * y % 18446744073709551616) % 18446744073709551616)) % 18446744073709551616 = y * (2 - m * y) + 18446744073709551616 * z := by
  have e1 := Int.mul_ediv_add_emod (m * y) 18446744073709551616
  have e2 := Int.mul_ediv_add_emod (2 - m * y % 18446744073709551616) 18446744073709551616
  have e3 := Int.mul_ediv_add_emod (y * ((2 - m * y % 18446744073709551616) % 18446744073709551616)) 18446744073709551616
  generalize (2 - m * y % 18446744073709551616) / 18446744073709551616 = d2 at *
  generalize (y * ((2 - m * y % 18446744073709551616) % 18446744073709551616)) / 18446744073709551616 = d3 at *
  generalize (y * ((2 - m * y % 18446744073709551616) % 18446744073709551616)) % 18446744073709551616 = r3 at *
  generalize (2 - m * y % 18446744073709551616) % 18446744073709551616 = r2 at *
  generalize (m * y) / 18446744073709551616 = d1 at *
  generalize (m * y) % 18446744073709551616 = r1 at *
  refine ⟨y * d1 - y * d2 - d3, ?_⟩
  grind
theorem neg_inv {m0 M : Nat} {y : Int} {t : Int} (hm : M % 18446744073709551616 = m0) (h : (m0 : Int) * y = 1 + 18446744073709551616 * t) : ((((-y) % 18446744073709551616).toNat) * M + 1) % 18446744073709551616 = 0 := by
  have e1 := Int.mul_ediv_add_emod (-y) 18446744073709551616
  have h0 : 0 ≤ (-y) % 18446744073709551616 := Int.emod_nonneg _ (by decide)
  obtain ⟨v, hv⟩ : ∃ v : Nat, (-y) % 18446744073709551616 = (v : Int) := ⟨_, (Int.toNat_of_nonneg h0).symm⟩
  rw [hv] at e1 ⊢
  rw [Int.toNat_natCast]
  obtain ⟨q, hq⟩ : ∃ q, M = m0 + 18446744073709551616 * q := ⟨M / 18446744073709551616, by omega⟩
  have e2 : ((v * M + 1 : Nat) : Int) = 18446744073709551616 * ((v : Int) * q - t - (m0 : Int) * ((-y) / 18446744073709551616)) := by
    rw [hq]
    simp only [Int.natCast_add, Int.natCast_mul, Int.cast_ofNat_Int]
    generalize (-y) / 18446744073709551616 = d at *
    grind
  omega
/-- How many limbs a number has; R for a modulus. -/
def nl (M : Nat) : Nat := (digs 18446744073709551616 M).length
theorem val_pad (B : Nat) (a : List Nat) (k : Nat) : val B (a ++ List.replicate k 0) = val B a := by rw [val_append, val_replicate, Nat.mul_zero, Nat.add_zero]
theorem blk_set {w : World} {g : Nat} {t : TypeId} {cs : Array Value} (h : w.heap[g]? = some (.cells cs t (0, 0))) (i : Nat) (u : Value) : (w.setCell ⟨g, i, none⟩ u).heap[g]? = some (.cells (cs.setIfInBounds i u) t (0, 0)) := by
  simp [World.setCell, Array.getElem?_modify, h]
end Go.Proofs.Ytldhmjfjbalakaa

namespace Go.Proofs.Ytldhmjfjbalakaa
open Go.RowKit

/-- An element's value: six limbs. -/
def EV (l : List Nat) : Value := .agg (nts l).toArray
theorem six {l : List Nat} (h : l.length = 6) : ∃ a b c d e f, l = [a, b, c, d, e, f] := by
  match l, h with
  | [a, b, c, d, e, f], _ => exact ⟨a, b, c, d, e, f, rfl⟩
set_option maxRecDepth 100000 in
theorem eql_zero (a b c d e f : Nat) (w : World) : (Op.equalIn 10000 81 (.agg #[.int .u64 (a : Int), .int .u64 (b : Int), .int .u64 (c : Int), .int .u64 (d : Int), .int .u64 (e : Int), .int .u64 (f : Int)]) (.agg #[.int .u64 0, .int .u64 0, .int .u64 0, .int .u64 0, .int .u64 0, .int .u64 0])).run Try.prog w =
    .ok (decide ([a, b, c, d, e, f] = [0, 0, 0, 0, 0, 0])) w := by
  obtain ⟨i0, hi, hz0, hz1, hz2⟩ := info_parts info64
  have hc : Try.prog.cellsOf 72 = 1 := by kernel_rfl
  rw [show (10000 : Nat) = 9999 + 1 by rfl, run_equalIn_array _ _ _ _ Try.underlying81 hi, hc]
  rw [show List.range 6 = [0, 1, 2, 3, 4, 5] by rfl]
  have he : ∀ x y : Int, (Op.equalIn 9999 72 (.int .u64 x) (.int .u64 y)).run Try.prog w = .ok (x == y) w := fun x y => run_equalIn_int w 9998 _ .u64 .u64 x y Try.underlying72
  have hp : ∀ (xs : Array Value) (j : Nat) (x : Value), xs[j]? = some x → (part 72 xs j).run Try.prog w = .ok x w := fun xs j x h => by
    simp [part, h, go_sem]
  have hs : ∀ (xs ys : Array Value) (j : Nat) (x y : Int) (is : List Nat), xs[j]? = some (.int .u64 x) → ys[j]? = some (.int .u64 y) →
      (Op.eqItems 9999 72 1 xs ys (j :: is)).run Try.prog w = if x = y then (Op.eqItems 9999 72 1 xs ys is).run Try.prog w else .ok false w := by
    intro xs ys j x y is h1 h2
    have p1 := hp xs j _ h1
    have p2 := hp ys j _ h2
    simp only [Op.eqItems, Sem.run_bind, Nat.mul_one, p1, p2, he, Result.andThen_ok]
    by_cases hxy : x = y
    · simp [hxy]
    · simp [hxy]
  rw [hs _ _ 0 a 0 _ rfl rfl, hs _ _ 1 b 0 _ rfl rfl, hs _ _ 2 c 0 _ rfl rfl, hs _ _ 3 d 0 _ rfl rfl, hs _ _ 4 e 0 _ rfl rfl, hs _ _ 5 f 0 _ rfl rfl]
  have hn : (Op.eqItems 9999 72 1 #[.int .u64 (a : Int), .int .u64 (b : Int), .int .u64 (c : Int), .int .u64 (d : Int), .int .u64 (e : Int), .int .u64 (f : Int)] #[.int .u64 0, .int .u64 0, .int .u64 0, .int .u64 0, .int .u64 0, .int .u64 0] []).run Try.prog w = .ok true w := by simp [Op.eqItems]
  rw [hn]
  have hd : decide ([a, b, c, d, e, f] = [0, 0, 0, 0, 0, 0]) = decide ((a : Int) = 0 ∧ (b : Int) = 0 ∧ (c : Int) = 0 ∧ (d : Int) = 0 ∧ (e : Int) = 0 ∧ (f : Int) = 0) := by
    rw [decide_eq_decide]; simp
  rw [hd]
  by_cases h1 : (a : Int) = 0 <;> by_cases h2 : (b : Int) = 0 <;> by_cases h3 : (c : Int) = 0 <;> by_cases h4 : (d : Int) = 0 <;> by_cases h5 : (e : Int) = 0 <;> by_cases h6 : (f : Int) = 0 <;> simp only [h1, h2, h3, h4, h5, h6, if_true, if_false, and_self, and_true, and_false, decide_true, decide_false]

set_option maxRecDepth 100000 in
set_option maxHeartbeats 1000000 in
theorem zero_any (l : List Nat) (w : World) (hl : l.length = 6) : Calls Try.prog 76 #[EV l] w fun e w' => e = .returned (.bool (decide (l = [0, 0, 0, 0, 0, 0]))) ∧ Below w.heap.size w w' := by
  obtain ⟨a, b, c, d, e, f, rfl⟩ := six hl
  simp only [EV, nts, List.map_cons, List.map_nil]
  have heq := eql_zero a b c d e f
  generalize decide ([a, b, c, d, e, f] = [0, 0, 0, 0, 0, 0]) = r at *
  go_enter Try.func76, Try.ntmps76
  go_wp2
  go_ret
  exact ⟨rfl, (Below.refl _ w).alloc (Nat.le_refl _) _⟩
end Go.Proofs.Ytldhmjfjbalakaa

namespace Go.Proofs.Ytldhmjfjbalakaa

/-- Behind i rounds: what the row's number is. -/
def MontT (B M : Nat) (a b : List Nat) (T i : Nat) : Prop := T < M + val B b ∧ ∃ k, T * B ^ i = val B (a.take i) * val B b + k * M
theorem MontT.zero {B M : Nat} (a b : List Nat) (hM : 0 < M) : MontT B M a b 0 0 := ⟨by omega, 0, by simp⟩
theorem MontT.step {B M inv i q T T2 T4 : Nat} {a b : List Nat} (hB : 2 ≤ B) (h : MontT B M a b T i) (ha : dg a i < B) (hq : q = (T + dg a i * val B b) % B * inv % B) (h2 : T2 = T + dg a i * val B b + q * M) (h4 : T2 = B * T4) : MontT B M a b T4 (i + 1) := by
  have hq' : q < B := by rw [hq]; exact Nat.mod_lt _ (by omega)
  obtain ⟨hb, k, hk⟩ := h
  refine ⟨mont_bound (by omega) h2 hb ha hq' h4, k + q * B ^ i, ?_⟩
  rw [Nat.pow_succ, show T4 * (B ^ i * B) = (B * T4) * B ^ i by rw [Nat.mul_comm (B ^ i), ← Nat.mul_assoc, Nat.mul_comm T4], ← h4]
  exact mont_eq h2 hk (val_take_getD B a i)

/-- f times the first j limbs of b are added to those of t; o is the row, c the carry. -/
def FirstAt (B : Nat) (t b o : List Nat) (f j c : Nat) : Prop := o.length = t.length ∧ (∀ p, j ≤ p → dg o p = dg t p) ∧ val B (o.take j) + B ^ j * c = val B (t.take j) + f * val B (b.take j)
theorem FirstAt.zero (B : Nat) (t b : List Nat) (f : Nat) : FirstAt B t b t f 0 0 := ⟨rfl, fun _ _ => rfl, by simp⟩
theorem FirstAt.step {B f j c s c' : Nat} {t b o : List Nat} (h : FirstAt B t b o f j c) (hj : j < t.length) (he : s + B * c' = dg o j + f * dg b j + c) : FirstAt B t b (o.set j s) f (j + 1) c' := by
  obtain ⟨h1, h2, h3⟩ := h
  refine ⟨by simpa using h1, fun p hp => by rw [getD_set_ne (by omega)]; exact h2 p (by omega), ?_⟩
  rw [val_take_set B (by omega), val_take_getD, val_take_getD, Nat.pow_succ, Nat.mul_assoc]
  have e := congrArg (fun z => B ^ j * z) he
  simp only [Nat.mul_add] at e
  rw [h2 j (Nat.le_refl _)] at e
  have e2 : B ^ j * (f * dg b j) = f * (B ^ j * dg b j) := Nat.mul_left_comm _ _ _
  rw [Nat.mul_add f]
  omega
theorem FirstAt.fin {B f n c s c' : Nat} {t b o : List Nat} (h : FirstAt B t b o f n c) (hn : n + 2 ≤ t.length) (hb : b.take n = b ∨ val B (b.take n) = val B b) (he : s + B * c' = dg o n + c) :
    ((o.set n s).set (n + 1) c').length = t.length ∧ val B (((o.set n s).set (n + 1) c').take (n + 2)) = val B (t.take (n + 1)) + f * val B b := by
  obtain ⟨h1, h2, h3⟩ := h
  have hb' : val B (b.take n) = val B b := by rcases hb with h | h; · rw [h]
                                              · exact h
  refine ⟨by simpa using h1, ?_⟩
  rw [val_take_set B (by simp; omega), val_take_set B (by omega), val_take_getD B t n, Nat.pow_succ]
  have e := congrArg (fun z => B ^ n * z) he
  simp only [Nat.mul_add] at e
  rw [h2 n (Nat.le_refl _), ← Nat.mul_assoc] at e
  rw [hb'] at h3
  omega

/-- u times the modulus is added, one limb is let go: k limbs of the row have come. -/
def ShiftAt (B : Nat) (t m o : List Nat) (u k c : Nat) : Prop := o.length = t.length ∧ (∀ p, k ≤ p → dg o p = dg t p) ∧ B * val B (o.take k) + B ^ (k + 1) * c = val B (t.take (k + 1)) + u * val B (m.take (k + 1))
theorem ShiftAt.zero {B u c : Nat} {t m : List Nat} (he : B * c = dg t 0 + u * dg m 0) : ShiftAt B t m t u 0 c := by
  refine ⟨rfl, fun _ _ => rfl, ?_⟩
  rw [val_take_getD, val_take_getD]
  simp
  exact he
theorem ShiftAt.step {B u k c s c' : Nat} {t m o : List Nat} (h : ShiftAt B t m o u k c) (hk : k < t.length) (he : s + B * c' = dg o (k + 1) + u * dg m (k + 1) + c) : ShiftAt B t m (o.set k s) u (k + 1) c' := by
  obtain ⟨h1, h2, h3⟩ := h
  refine ⟨by simpa using h1, fun p hp => by rw [getD_set_ne (by omega)]; exact h2 p (by omega), ?_⟩
  rw [val_take_set B (by omega), val_take_getD B t (k + 1), val_take_getD B m (k + 1)]
  have e := congrArg (fun z => B ^ (k + 1) * z) he
  simp only [Nat.mul_add] at e
  rw [h2 (k + 1) (by omega)] at e
  have e2 : B ^ (k + 1) * (u * dg m (k + 1)) = u * (B ^ (k + 1) * dg m (k + 1)) := Nat.mul_left_comm _ _ _
  have e3 : B ^ (k + 1) * (B * c') = B ^ (k + 1 + 1) * c' := by rw [← Nat.mul_assoc, ← Nat.pow_succ]
  have e4 : B * (B ^ k * s) = B ^ (k + 1) * s := by rw [← Nat.mul_assoc, Nat.mul_comm B, ← Nat.pow_succ]
  rw [Nat.mul_add B, Nat.mul_add u, e4]
  omega
theorem ShiftAt.fin {B u k c s c' : Nat} {t m o : List Nat} (h : ShiftAt B t m o u k c) (hn : k + 3 ≤ t.length) (hm : val B (m.take (k + 1)) = val B m) (he : s + B * c' = dg o (k + 1) + c) :
    ((o.set k s).set (k + 1) (dg o (k + 2) + c')).length = t.length ∧ B * val B (((o.set k s).set (k + 1) (dg o (k + 2) + c')).take (k + 2)) = val B (t.take (k + 3)) + u * val B m := by
  obtain ⟨h1, h2, h3⟩ := h
  refine ⟨by simpa using h1, ?_⟩
  rw [val_take_set B (by simp; omega), val_take_set B (by omega), val_take_getD B t (k + 2), val_take_getD B t (k + 1), h2 (k + 2) (by omega)]
  have e := congrArg (fun z => B ^ (k + 1) * z) he
  simp only [Nat.mul_add] at e
  rw [h2 (k + 1) (by omega)] at e
  rw [hm] at h3
  have e3 : B ^ (k + 1) * (B * c') = B ^ (k + 2) * c' := by rw [← Nat.mul_assoc, ← Nat.pow_succ]
  have e4 : B * (B ^ k * s) = B ^ (k + 1) * s := by rw [← Nat.mul_assoc, Nat.mul_comm B, ← Nat.pow_succ]
  have e5 : B * (B ^ (k + 1) * (dg t (k + 2) + c')) = B ^ (k + 2) * dg t (k + 2) + B ^ (k + 2) * c' := by rw [← Nat.mul_assoc, Nat.mul_comm B, ← Nat.pow_succ, Nat.mul_add]
  rw [Nat.mul_add B, Nat.mul_add B, e4, e5]
  omega
end Go.Proofs.Ytldhmjfjbalakaa

namespace Go.Proofs.Ytldhmjfjbalakaa
open Go.RowKit

/-- A field's record: its cells. -/
def fcells (n inv : Nat) (ml ol rl : List Nat) : List Value := .int .i64 (n : Int) :: (nts ml ++ .int .u64 (inv : Int) :: (nts ol ++ nts rl))
structure Fld (w : World) (g n inv : Nat) (ml ol rl : List Nat) : Prop where
  blk : w.heap[g]? = some (.cells (fcells n inv ml ol rl).toArray 137 (0, 0))
  m6 : ml.length = 6
  o6 : ol.length = 6
  r6 : rl.length = 6
variable {w w' : World} {g n inv : Nat} {ml ol rl : List Nat}
theorem Fld.below {B : Nat} (h : Fld w g n inv ml ol rl) (hb : Below B w w') (hg : g < B) : Fld w' g n inv ml ol rl := ⟨(hb.block g hg).trans h.blk, h.m6, h.o6, h.r6⟩
theorem Fld.lt (h : Fld w g n inv ml ol rl) : g < w.heap.size := blk_lt h.blk
theorem Fld.n0 (h : Fld w g n inv ml ol rl) : w.cell? ⟨g, 0, none⟩ = some (.int .i64 (n : Int)) := by
  rw [blk_cell h.blk 0]; rfl
theorem Fld.inv_ (h : Fld w g n inv ml ol rl) : w.cell? ⟨g, 7, none⟩ = some (.int .u64 (inv : Int)) := by
  rw [blk_cell h.blk 7]
  obtain ⟨a, b, c, d, e, f, rfl⟩ := six h.m6
  rfl
theorem Fld.m_ (h : Fld w g n inv ml ol rl) {j : Nat} (hj : j < 6) : w.cell? ⟨g, 1 + j, none⟩ = some (.int .u64 (dg ml j : Int)) := by
  rw [blk_cell h.blk (1 + j)]
  obtain ⟨a, b, c, d, e, f, rfl⟩ := six h.m6
  match j, hj with
  | 0, _ | 1, _ | 2, _ | 3, _ | 4, _ | 5, _ => rfl
/-- A row of limbs in a block of whatever type. -/
def ARow (w : World) (g : Nat) (ty : TypeId) (l : List Nat) : Prop := w.heap[g]? = some (.cells (nts l).toArray ty (0, 0))
theorem ARow.cell {ty : TypeId} {l : List Nat} (h : ARow w g ty l) {i : Nat} (hi : i < l.length) : w.cell? ⟨g, i, none⟩ = some (.int .u64 (dg l i : Int)) := by
  rw [blk_cell h i, List.getElem?_toArray, nts_get hi]
theorem ARow.free {ty : TypeId} {l : List Nat} (h : ARow w g ty l) (i : Nat) : w.frozen? ⟨g, i, none⟩ = false := blk_free h i
theorem ARow.set {ty : TypeId} {l : List Nat} (h : ARow w g ty l) (i x : Nat) : ARow (w.setCell ⟨g, i, none⟩ (.int .u64 (x : Int))) g ty (l.set i x) := by
  have := blk_set h i (.int .u64 (x : Int))
  rw [ARow, this]
  simp [nts, List.map_set]
theorem ARow.below {ty : TypeId} {l : List Nat} {B : Nat} (h : ARow w g ty l) (hb : Below B w w') (hg : g < B) : ARow w' g ty l := (hb.block g hg).trans h
theorem ARow.lt {ty : TypeId} {l : List Nat} (h : ARow w g ty l) : g < w.heap.size := blk_lt h

theorem cells6 {w : World} {g : Nat} {ty : TypeId} {a b c d e f : Value} (h : w.heap[g]? = some (.cells #[a, b, c, d, e, f] ty (0, 0))) :
    w.cell? ⟨g, 0, none⟩ = some a ∧ w.cell? ⟨g, 1, none⟩ = some b ∧ w.cell? ⟨g, 2, none⟩ = some c ∧ w.cell? ⟨g, 3, none⟩ = some d ∧ w.cell? ⟨g, 4, none⟩ = some e ∧ w.cell? ⟨g, 5, none⟩ = some f :=
  ⟨blk_cell h 0, blk_cell h 1, blk_cell h 2, blk_cell h 3, blk_cell h 4, blk_cell h 5⟩
theorem six_set {w : World} {g : Nat} {ty : TypeId} {x0 x1 x2 x3 x4 x5 : Value} (h : w.heap[g]? = some (.cells #[x0, x1, x2, x3, x4, x5] ty (0, 0))) (a b c d e f : Value) :
    ((((((w.setCell ⟨g, 0, none⟩ a).setCell ⟨g, 1, none⟩ b).setCell ⟨g, 2, none⟩ c).setCell ⟨g, 3, none⟩ d).setCell ⟨g, 4, none⟩ e).setCell ⟨g, 5, none⟩ f).heap[g]? = some (.cells #[a, b, c, d, e, f] ty (0, 0)) := by
  have h1 := blk_set (blk_set (blk_set (blk_set (blk_set (blk_set h 0 a) 1 b) 2 c) 3 d) 4 e) 5 f
  rw [h1]
  rfl
theorem six_below {B g : Nat} {w0 w : World} (h : Below B w0 w) (hg : B ≤ g) (a b c d e f : Value) : Below B w0 ((((((w.setCell ⟨g, 0, none⟩ a).setCell ⟨g, 1, none⟩ b).setCell ⟨g, 2, none⟩ c).setCell ⟨g, 3, none⟩ d).setCell ⟨g, 4, none⟩ e).setCell ⟨g, 5, none⟩ f) :=
  (((((h.setCell (p := ⟨g, 0, none⟩) hg a).setCell (p := ⟨g, 1, none⟩) hg b).setCell (p := ⟨g, 2, none⟩) hg c).setCell (p := ⟨g, 3, none⟩) hg d).setCell (p := ⟨g, 4, none⟩) hg e).setCell (p := ⟨g, 5, none⟩) hg f
theorem end6 {fn : Func} {R : Ending → World → Prop} {a : Act} {W : World} {p : Tmp} {g : Nat} {ty : TypeId} {fr : Nat × Nat} {x0 x1 x2 x3 x4 x5 : Value} (hr : fn.results = #[.cell p 81]) (hp : a.tmps.getD p undef = .pointer (some ⟨g, 0, none⟩)) (hd : a.defers = [])
    (hg : W.heap[g]? = some (.cells #[x0, x1, x2, x3, x4, x5] ty fr)) (hR : R (.returned (.agg #[x0, x1, x2, x3, x4, x5])) W) : bodyPost Try.prog fn R .ret a W :=
  bodyPost_ret (results_cell_row hr a.tmps W g _ _ _ (.array 6 72) hp hg Try.underlying81 rfl (by kernel_rfl)) hd hR
/-- Limbs are copied from one array to another one's beginning. -/
theorem copy_arow (w : World) (g gt n c c' : Nat) (ty ty' : TypeId) (u src : List Nat) (hu : ARow w g ty u) (hs : ARow w gt ty' src) (hn : n ≤ src.length) (hn' : n ≤ u.length) (_hpos : 0 < n) :
    (Builtin.copy_ #[22, 22] 3 #[.slice (some ⟨g, 0, none⟩) n c, .slice (some ⟨gt, 0, none⟩) n c']).run Try.prog w = .ok (goInt n) (w.setRow g (nts (src.take n ++ u.drop n)).toArray) := by
  have hl : (nts (src.take n)).length = n := by rw [nts_length, List.length_take]; omega
  have h := run_copy_row (P := Try.prog) w 22 22 3 72 g 0 n c ⟨gt, 0, none⟩ n c' (nts u).toArray ty (nts (src.take n)) Try.underlying22 info64size hu
    (by rw [hl]; simp) (fun j v hj => by
      have hj' : j < n := by have := (List.getElem?_eq_some_iff.1 hj).1; omega
      rw [add_blk, blk_cell hs j, List.getElem?_toArray]
      rw [nts, List.getElem?_map, List.getElem?_take, if_pos hj'] at hj
      rw [nts, List.getElem?_map]
      exact hj) (by rw [hl]; simp [nts]; omega) (oneCell_nts _)
  rw [hl] at h
  rw [h]
  simp [nts, List.map_drop]
theorem val_take_lt {B : Nat} {l : List Nat} (h : ∀ x ∈ l, x < B) (k : Nat) (hB : 0 < B := by omega) : val B (l.take k) < B ^ k := by
  have h1 := val_lt (B := B) (l := l.take k) fun x hx => h x (List.mem_of_mem_take hx)
  exact Nat.lt_of_lt_of_le h1 (Nat.pow_le_pow_right hB (by rw [List.length_take]; omega))
theorem val_take_zeros {B k : Nat} {l : List Nat} (h : ∀ p, k ≤ p → dg l p = 0) : val B (l.take k) = val B l := by
  rcases Nat.lt_or_ge k l.length with h1 | h1
  · rw [val_take_drop B l (n := k) (by omega), val_zeros (l := l.drop k) ?_, Nat.mul_zero, Nat.add_zero]
    intro x hx
    obtain ⟨j, hj, rfl⟩ := List.mem_iff_getElem.1 hx
    have h2 := h (k + j) (by omega)
    rw [List.length_drop] at hj
    rw [List.getElem_drop]
    rwa [dg, getD_eq' (by omega)] at h2
  · rw [List.take_of_length_le h1]

set_option maxRecDepth 100000 in
set_option maxHeartbeats 2000000 in
theorem zbelow_any (gt over : Nat) (t : List Nat) (w : World) (hF : Fld w g n inv ml ol rl) (hml : ∀ x ∈ ml, x < 18446744073709551616) (hT : ARow w gt 139 t) (_hgt : gt ≠ g) (ht8 : t.length = 8) (ht : ∀ x ∈ t, x < 18446744073709551616) (hn : n ≤ 6) (hn1 : 0 < n)
    (hmv : val 18446744073709551616 (ml.take n) = val 18446744073709551616 ml) (ho : over < 18446744073709551616) (hv : val 18446744073709551616 (t.take n) + 18446744073709551616 ^ n * over < 2 * val 18446744073709551616 ml) :
    Calls Try.prog 98 #[.pointer (some ⟨g, 0, none⟩), .pointer (some ⟨gt, 0, none⟩), .int .u64 (over : Int)] w fun e w' => ∃ o, e = .returned (EV o) ∧ o.length = 6 ∧ (∀ x ∈ o, x < 18446744073709551616) ∧
      val 18446744073709551616 o = offM (val 18446744073709551616 (t.take n) + 18446744073709551616 ^ n * over) (val 18446744073709551616 ml) ∧ Below w.heap.size w w' := by
  have h0 := hF.n0
  have hg := hF.lt
  have hgtl := hT.lt
  have hB0 : Below w.heap.size w ((w.alloc (.cells #[.int .u64 0, .int .u64 0, .int .u64 0, .int .u64 0, .int .u64 0, .int .u64 0] 81)).alloc (.cells #[.int .u64 0, .int .u64 0, .int .u64 0, .int .u64 0, .int .u64 0, .int .u64 0] 81)) := ((Below.refl _ w).alloc (Nat.le_refl _) _).alloc (by simp) _
  have hr0 : ARow ((w.alloc (.cells #[.int .u64 0, .int .u64 0, .int .u64 0, .int .u64 0, .int .u64 0, .int .u64 0] 81)).alloc (.cells #[.int .u64 0, .int .u64 0, .int .u64 0, .int .u64 0, .int .u64 0, .int .u64 0] 81)) (w.heap.size + 1) 81 [0, 0, 0, 0, 0, 0] := by
    have := heap_alloc_new (w.alloc (.cells #[.int .u64 0, .int .u64 0, .int .u64 0, .int .u64 0, .int .u64 0, .int .u64 0] 81)) (.cells #[.int .u64 0, .int .u64 0, .int .u64 0, .int .u64 0, .int .u64 0, .int .u64 0] 81)
    rw [World.size_alloc] at this
    exact this
  have hres : ((w.alloc (.cells #[.int .u64 0, .int .u64 0, .int .u64 0, .int .u64 0, .int .u64 0, .int .u64 0] 81)).alloc (.cells #[.int .u64 0, .int .u64 0, .int .u64 0, .int .u64 0, .int .u64 0, .int .u64 0] 81)).heap[w.heap.size]? = some (.cells #[.int .u64 0, .int .u64 0, .int .u64 0, .int .u64 0, .int .u64 0, .int .u64 0] 81 (0, 0)) := (Below.heap_alloc _ _ _ (by simp)).trans (heap_alloc_new w _)
  go_enter Try.func98, Try.ntmps98
  go_wp2_with fail
  generalize (w.alloc (.cells #[.int .u64 0, .int .u64 0, .int .u64 0, .int .u64 0, .int .u64 0, .int .u64 0] 81)).alloc (.cells #[.int .u64 0, .int .u64 0, .int .u64 0, .int .u64 0, .int .u64 0, .int .u64 0] 81) = W0 at *
  have hW0 : w.heap.size + 2 ≤ W0.heap.size := by have := hr0.lt; omega
  have Hv := Lib.hid hv
  have Hmv := Lib.hid hmv
  have Hml := Lib.hid hml
  have Ht := Lib.hid ht
  have Ht8 := Lib.hid ht8
  have hm6 := Lib.hid hF.m6
  clear hv hmv hml ht ht8
  go_loopw [8, 14] (fun cv iv wr => ∃ (k cr : Nat) (o : List Nat), iv = .int .i64 (k : Int) ∧ cv = .int .u64 (cr : Int) ∧ k ≤ n ∧ cr ≤ 1 ∧ SubAt 18446744073709551616 t ml o k cr ∧ Hid (o.length = 6) ∧ Hid (∀ x ∈ o, x < 18446744073709551616) ∧ Hid (∀ p, k ≤ p → dg o p = 0) ∧ ARow wr (w.heap.size + 1) 81 o ∧ Below (w.heap.size + 1) W0 wr) (fun _ iv _ => n - (intOf iv).toNat)
  case atStart => exact ⟨0, 0, _, rfl, rfl, by omega, by omega, SubAt.zero _ _ _ _, Lib.hid rfl, Lib.hid (by simp), Lib.hid (fun p _ => by match p with | 0 | 1 | 2 | 3 | 4 | 5 => rfl | p + 6 => rfl), hr0, Below.refl _ _⟩
  case round =>
    obtain ⟨k, cr, o, rfl, rfl, hk, hcr, hA, Ho, Hlo, Hz, hblk, hB⟩ := hrel
    have hBw : Below w.heap.size w wr := hB0.trans (hB.mono (by omega))
    have hFr := hF.below hBw hg
    have hTr := hT.below hBw hgtl
    have c0 := hFr.n0
    by_cases hlt : k < n
    · have q1 := hTr.cell (i := k) (by have := Ht8.out; omega)
      have q2 := hFr.m_ (j := k) (by omega)
      have dt : dg t k < 18446744073709551616 := getD_lt (by omega) Ht.out k
      have dm : dg ml k < 18446744073709551616 := getD_lt (by omega) Hml.out k
      obtain ⟨s, cr', hs, hcr', he⟩ := borrow_of (dg t k) (dg ml k) cr dt dm hcr
      have hok : k < o.length := by have := Ho.out; omega
      have q3 := hblk.cell hok
      have q4 := hblk.free k
      have hA' := hA.step hok he
      have hblk' := hblk.set k s
      have hB' := hB.setCell (p := ⟨w.heap.size + 1, k, none⟩) (Nat.le_refl _) (.int .u64 (s : Int))
      have Ho' : Hid ((o.set k s).length = 6) := Lib.hid (by rw [List.length_set]; exact Ho.out)
      have Hlo' : Hid (∀ x ∈ o.set k s, x < 18446744073709551616) := Lib.hid (set_lt Hlo.out hs)
      have Hz' : Hid (∀ p, k + 1 ≤ p → dg (o.set k s) p = 0) := Lib.hid fun p hp => by rw [getD_set_ne (by omega)]; exact Hz.out p (by omega)
      have hsub := fun w => sub64_at (dg t k) (dg ml k) cr s cr' hcr dt dm hs he hcr' w
      have ki : (k : Int) < 8 := by omega
      have ki6 : (k : Int) < 6 := by omega
      clear he hA hblk hB hok hBw hFr hTr
      go_wp2_with fail
      have hfar : ∀ q : Addr, q.block < w.heap.size → (wr.setCell ⟨w.heap.size + 1, k, none⟩ (.int .u64 (s : Int))).drew.cell? q = wr.cell? q := fun q hq => World.cell?_of_block (Below.heap_setCell _ _ _ _ (by show q.block ≠ w.heap.size + 1; omega))
      have f1 := (hfar ⟨gt, k, none⟩ hgtl).trans q1
      have f2 := (hfar ⟨g, 1 + k, none⟩ hg).trans q2
      clear hfar
      go_region_held3 (fun w' => w'.cell? ⟨gt, k, none⟩ = some (.int .u64 (dg t k : Int)) ∧ w'.cell? ⟨g, 1 + k, none⟩ = some (.int .u64 (dg ml k : Int))) (first | exact ⟨q1, q2⟩ | exact ⟨f1, f2⟩ | go_keep) (fail)
      go_wp2
      go_roundw
      case rel => exact ⟨k + 1, cr', o.set k s, by go_num, rfl, by omega, hcr', hA', Ho', Hlo', Hz', hblk', hB'.drew⟩
      case measure => simp [intOf]; omega
    · obtain rfl : k = n := by omega
      have hfin : val 18446744073709551616 o + val 18446744073709551616 ml = val 18446744073709551616 (t.take k) + 18446744073709551616 ^ k * cr := by
        have h1 : val 18446744073709551616 (o.take k) + val 18446744073709551616 (ml.take k) = val 18446744073709551616 (t.take k) + 18446744073709551616 ^ k * cr := hA
        rw [Hmv.out] at h1
        have h2 : val 18446744073709551616 (o.take k) = val 18446744073709551616 o := val_take_zeros Hz.out
        omega
      have hvo : val 18446744073709551616 o < 18446744073709551616 ^ k := by
        rw [← val_take_zeros Hz.out]
        exact val_take_lt Hlo.out k
      have hvm : val 18446744073709551616 ml < 18446744073709551616 ^ k := by rw [← Hmv.out]; exact val_take_lt Hml.out k
      have hvt := val_take_lt Ht.out k
      have hv := Hv.out
      by_cases hcase : over < cr
      · obtain rfl : cr = 1 := by omega
        obtain rfl : over = 0 := by omega
        rw [Nat.mul_zero, Nat.add_zero] at hv
        have hoff : offM (val 18446744073709551616 (t.take k) + 18446744073709551616 ^ k * 0) (val 18446744073709551616 ml) = val 18446744073709551616 (t.take k) := by rw [Nat.mul_zero, Nat.add_zero, offM, if_pos (by omega)]
        have hcp := copy_arow wr.drew (w.heap.size + 1) gt k 6 8 81 139 o t hblk hTr (by have := Ht8.out; omega) (by have := Ho.out; omega) hn1
        have hvv : val 18446744073709551616 (t.take k ++ o.drop k) = val 18446744073709551616 (t.take k) := by
          rw [val_append, val_zeros (l := o.drop k) ?_, Nat.mul_zero, Nat.add_zero]
          intro x hx
          obtain ⟨j, hj, rfl⟩ := List.mem_iff_getElem.1 hx
          have h2 := Hz.out (k + j) (by omega)
          rw [List.length_drop] at hj
          rw [List.getElem_drop]
          rwa [dg, getD_eq' (by omega)] at h2
        have hlen : (t.take k ++ o.drop k).length = 6 := by rw [List.length_append, List.length_take, List.length_drop, Ho.out, Ht8.out]; omega
        have hlim : ∀ x ∈ t.take k ++ o.drop k, x < 18446744073709551616 := fun x hx => by
          rcases List.mem_append.1 hx with h | h
          · exact Ht.out x (List.mem_of_mem_take h)
          · exact Hlo.out x (List.mem_of_mem_drop h)
        generalize t.take k ++ o.drop k = o2 at *
        have hb2 : ARow (wr.drew.setRow (w.heap.size + 1) (nts o2).toArray) (w.heap.size + 1) 81 o2 := setRow_heap wr.drew _ _ _ _ _ hblk
        have hB2 := setRow_below hB.drew (Nat.le_refl (w.heap.size + 1)) (nts o2).toArray
        obtain ⟨a, b, c, d, e, f, hoe⟩ := six hlen
        have hcb : ((wr.drew.setRow (w.heap.size + 1) (nts o2).toArray).heap[w.heap.size + 1]? = some (.cells #[.int .u64 (a : Int), .int .u64 (b : Int), .int .u64 (c : Int), .int .u64 (d : Int), .int .u64 (e : Int), .int .u64 (f : Int)] 81 (0, 0))) := by
          have h := hb2
          rw [ARow] at h
          rw [h, hoe]
          rfl
        have hrb : (wr.drew.setRow (w.heap.size + 1) (nts o2).toArray).heap[w.heap.size]? = some (.cells #[.int .u64 0, .int .u64 0, .int .u64 0, .int .u64 0, .int .u64 0, .int .u64 0] 81 (0, 0)) := (hB2.block w.heap.size (by omega)).trans hres
        obtain ⟨e0, e1, e2, e3, e4, e5⟩ := cells6 hcb
        obtain ⟨r0, r1, r2, r3, r4, r5⟩ := cells6 hrb
        have z := fun i => blk_free hrb i
        have z0 := z 0
        have z1 := z 1
        have z2 := z 2
        have z3 := z 3
        have z4 := z 4
        have z5 := z 5
        have hrb' := hrb
        have hBf : Below w.heap.size w (wr.drew.setRow (w.heap.size + 1) (nts o2).toArray) := hB0.trans (hB2.mono (by omega))
        have Hoff := Lib.hid (hvv.trans hoff.symm)
        have Hoe := Lib.hid hoe
        have Hlen := Lib.hid hlen
        have Hlim := Lib.hid hlim
        have k6 : (k : Int) ≤ 6 := by omega
        have k8 : (k : Int) ≤ 8 := by omega
        clear hvo hv hfin hvm hvt hoff hA hblk hFr hTr z hcb hrb hvv hoe hlen hlim hb2 hB2
        go_wp2_with fail
        go_region
        generalize wr.drew.setRow (w.heap.size + 1) (nts o2).toArray = W9 at *
        go_wp2_with fail
        refine end6 rfl rfl rfl (six_set hrb' _ _ _ _ _ _) ?_
        exact ⟨o2, by rw [Hoe.out]; rfl, Hlen.out, Hlim.out, Hoff.out, six_below hBf (Nat.le_refl _) _ _ _ _ _ _⟩
      · have hoff : val 18446744073709551616 o = offM (val 18446744073709551616 (t.take k) + 18446744073709551616 ^ k * over) (val 18446744073709551616 ml) := by
          have hcr' : cr = 0 ∨ cr = 1 := by omega
          generalize 18446744073709551616 ^ k = R at *
          rcases Nat.eq_zero_or_pos over with rfl | hpo
          · obtain rfl : cr = 0 := by omega
            rw [Nat.mul_zero, Nat.add_zero] at hfin hv ⊢
            rw [offM, if_neg (by omega)]
            omega
          · have h1 : R * 1 ≤ R * over := Nat.mul_le_mul_left _ hpo
            have h2 : over = 1 := by
              rcases Nat.lt_or_ge over 2 with h | h
              · omega
              · have : R * 2 ≤ R * over := Nat.mul_le_mul_left _ h
                omega
            subst h2
            rw [offM, if_neg (by omega)]
            rcases hcr' with rfl | rfl
            · rw [Nat.mul_zero, Nat.add_zero] at hfin
              omega
            · omega
        have Hoff := Lib.hid hoff
        obtain ⟨a, b, c, d, e, f, hoe⟩ := six Ho.out
        have hcb : (wr.heap[w.heap.size + 1]? = some (.cells #[.int .u64 (a : Int), .int .u64 (b : Int), .int .u64 (c : Int), .int .u64 (d : Int), .int .u64 (e : Int), .int .u64 (f : Int)] 81 (0, 0))) := by
          rw [hoe] at hblk; exact hblk
        have hrb : wr.heap[w.heap.size]? = some (.cells #[.int .u64 0, .int .u64 0, .int .u64 0, .int .u64 0, .int .u64 0, .int .u64 0] 81 (0, 0)) := (hB.block w.heap.size (by omega)).trans hres
        obtain ⟨e0, e1, e2, e3, e4, e5⟩ := cells6 hcb
        obtain ⟨r0, r1, r2, r3, r4, r5⟩ := cells6 hrb
        have z := fun i => blk_free hrb i
        have z0 := z 0
        have z1 := z 1
        have z2 := z 2
        have z3 := z 3
        have z4 := z 4
        have z5 := z 5
        have hrb' := hrb
        clear hvo hv hfin hvm hvt hoff hA hblk hFr hTr z hcb hrb
        go_wp2_with fail
        refine end6 rfl rfl rfl (six_set hrb' _ _ _ _ _ _) ?_
        exact ⟨o, by rw [hoe]; rfl, Ho.out, Hlo.out, Hoff.out, six_below hBw (Nat.le_refl _) _ _ _ _ _ _⟩
end Go.Proofs.Ytldhmjfjbalakaa

namespace Go.Proofs.Ytldhmjfjbalakaa
open Go.RowKit

/-- A field made ready: its prime is M; elements have n limbs at most. -/
structure FF (w : World) (g n inv M : Nat) (ml ol rl : List Nat) : Prop where
  fld : Fld w g n inv ml ol rl
  mlt : ∀ x ∈ ml, x < 18446744073709551616
  mval : val 18446744073709551616 ml = M
  mtake : val 18446744073709551616 (ml.take n) = M
  npos : 0 < n
  nle : n ≤ 6
  big : 1 < M
  invLt : inv < 18446744073709551616
  invV : (inv * M + 1) % 18446744073709551616 = 0
theorem FF.below {w w' : World} {g n inv M B : Nat} {ml ol rl : List Nat} (h : FF w g n inv M ml ol rl) (hb : Below B w w') (hg : g < B) : FF w' g n inv M ml ol rl :=
  ⟨h.fld.below hb hg, h.mlt, h.mval, h.mtake, h.npos, h.nle, h.big, h.invLt, h.invV⟩
theorem FF.room {w : World} {g n inv M : Nat} {ml ol rl : List Nat} (h : FF w g n inv M ml ol rl) : M < 18446744073709551616 ^ n := by rw [← h.mtake]; exact val_take_lt h.mlt n
/-- An element: six limbs, its number below the prime. -/
structure Elt (M : Nat) (l : List Nat) : Prop where
  six : l.length = 6
  lim : ∀ x ∈ l, x < 18446744073709551616
  lt : val 18446744073709551616 l < M
theorem Elt.take {w : World} {g n inv M : Nat} {ml ol rl l : List Nat} (h : FF w g n inv M ml ol rl) (he : Elt M l) : val 18446744073709551616 (l.take n) = val 18446744073709551616 l := by
  have h1 := val_take_drop 18446744073709551616 l (n := n) (by rw [he.six]; exact h.nle)
  have h2 := h.room
  rcases Nat.eq_zero_or_pos (val 18446744073709551616 (l.drop n)) with h3 | h3
  · rw [h3] at h1; omega
  · have h4 : 18446744073709551616 ^ n * 1 ≤ 18446744073709551616 ^ n * val 18446744073709551616 (l.drop n) := Nat.mul_le_mul_left _ h3
    have h5 := he.lt
    omega
/-- The blocks that a function over two elements lays: both, its result, and a row. -/
theorem lay4 (w : World) (o1 o2 o3 o4 : Obj) : ((((w.alloc o1).alloc o2).alloc o3).alloc o4).heap[w.heap.size]? = some o1 ∧ ((((w.alloc o1).alloc o2).alloc o3).alloc o4).heap[w.heap.size + 1]? = some o2 ∧ ((((w.alloc o1).alloc o2).alloc o3).alloc o4).heap[w.heap.size + 1 + 1]? = some o3 ∧ ((((w.alloc o1).alloc o2).alloc o3).alloc o4).heap[w.heap.size + 1 + 1 + 1]? = some o4 ∧
    ((((w.alloc o1).alloc o2).alloc o3).alloc o4).heap.size = w.heap.size + 4 ∧ Below w.heap.size w ((((w.alloc o1).alloc o2).alloc o3).alloc o4) := by
  have e1 := heap_alloc_new w o1
  have e2 := heap_alloc_new (w.alloc o1) o2
  have e3 := heap_alloc_new ((w.alloc o1).alloc o2) o3
  have e4 := heap_alloc_new (((w.alloc o1).alloc o2).alloc o3) o4
  simp only [World.size_alloc] at e2 e3 e4
  refine ⟨?_, ?_, ?_, e4, by simp, (((((Below.refl _ w).alloc (Nat.le_refl _) _).alloc (by simp) _).alloc (by simp; omega) _).alloc (by simp; omega) _)⟩
  · exact (Below.heap_alloc _ _ _ (by simp <;> omega)).trans ((Below.heap_alloc _ _ _ (by simp <;> omega)).trans ((Below.heap_alloc _ _ _ (by simp)).trans e1))
  · exact (Below.heap_alloc _ _ _ (by simp <;> omega)).trans ((Below.heap_alloc _ _ _ (by simp)).trans e2)
  · exact (Below.heap_alloc _ _ _ (by simp)).trans e3

set_option maxRecDepth 100000 in
set_option maxHeartbeats 2000000 in
theorem zadd_any {g n inv M : Nat} {ml ol rl : List Nat} (a b : List Nat) (w : World) (hF : FF w g n inv M ml ol rl) (ha : Elt M a) (hb : Elt M b) :
    Calls Try.prog 73 #[.pointer (some ⟨g, 0, none⟩), EV a, EV b] w fun e w' => ∃ o, e = .returned (EV o) ∧ Elt M o ∧ val 18446744073709551616 o = offM (val 18446744073709551616 a + val 18446744073709551616 b) M ∧ Below w.heap.size w w' := by
  have hg := hF.fld.lt
  have h0 := hF.fld.n0
  have hn := hF.nle
  have hn1 := hF.npos
  have ta := ha.take hF
  have tb := hb.take hF
  obtain ⟨a0, a1, a2, a3, a4, a5, hae⟩ := six ha.six
  obtain ⟨b0, b1, b2, b3, b4, b5, hbe⟩ := six hb.six
  obtain ⟨l1, l2, l3, l4, hz, hB0⟩ := lay4 w (.cells #[.int .u64 (a0 : Int), .int .u64 (a1 : Int), .int .u64 (a2 : Int), .int .u64 (a3 : Int), .int .u64 (a4 : Int), .int .u64 (a5 : Int)] 81)
    (.cells #[.int .u64 (b0 : Int), .int .u64 (b1 : Int), .int .u64 (b2 : Int), .int .u64 (b3 : Int), .int .u64 (b4 : Int), .int .u64 (b5 : Int)] 81) (.cells #[.int .u64 0, .int .u64 0, .int .u64 0, .int .u64 0, .int .u64 0, .int .u64 0] 81)
    (.cells #[.int .u64 0, .int .u64 0, .int .u64 0, .int .u64 0, .int .u64 0, .int .u64 0, .int .u64 0, .int .u64 0] 139)
  have hva : EV a = .agg #[.int .u64 (a0 : Int), .int .u64 (a1 : Int), .int .u64 (a2 : Int), .int .u64 (a3 : Int), .int .u64 (a4 : Int), .int .u64 (a5 : Int)] := by rw [hae]; rfl
  have hvb : EV b = .agg #[.int .u64 (b0 : Int), .int .u64 (b1 : Int), .int .u64 (b2 : Int), .int .u64 (b3 : Int), .int .u64 (b4 : Int), .int .u64 (b5 : Int)] := by rw [hbe]; rfl
  rw [hva, hvb]
  have h00 := (hB0.cell (p := ⟨g, 0, none⟩) hg).trans h0
  go_enter Try.func73, Try.ntmps73
  go_wp2_with fail
  generalize (((w.alloc (.cells #[.int .u64 (a0 : Int), .int .u64 (a1 : Int), .int .u64 (a2 : Int), .int .u64 (a3 : Int), .int .u64 (a4 : Int), .int .u64 (a5 : Int)] 81)).alloc
    (.cells #[.int .u64 (b0 : Int), .int .u64 (b1 : Int), .int .u64 (b2 : Int), .int .u64 (b3 : Int), .int .u64 (b4 : Int), .int .u64 (b5 : Int)] 81)).alloc (.cells #[.int .u64 0, .int .u64 0, .int .u64 0, .int .u64 0, .int .u64 0, .int .u64 0] 81)).alloc
    (.cells #[.int .u64 0, .int .u64 0, .int .u64 0, .int .u64 0, .int .u64 0, .int .u64 0, .int .u64 0, .int .u64 0] 139) = W0 at *
  have A0 : ARow W0 w.heap.size 81 a := by rw [hae]; exact l1
  have B0 : ARow W0 (w.heap.size + 1) 81 b := by rw [hbe]; exact l2
  have T0 : ARow W0 (w.heap.size + 1 + 1 + 1) 139 [0, 0, 0, 0, 0, 0, 0, 0] := l4
  have hW0 : w.heap.size + 4 ≤ W0.heap.size := by omega
  have Ha := Lib.hid ha
  have Hb := Lib.hid hb
  have Hae := Lib.hid hae
  have Hbe := Lib.hid hbe
  have HF := Lib.hid hF
  clear l1 l2 l4 hz ha hb hae hbe hva hvb hF
  go_loopw [8, 14] (fun cv iv wr => ∃ (k cr : Nat) (o : List Nat), iv = .int .i64 (k : Int) ∧ cv = .int .u64 (cr : Int) ∧ k ≤ n ∧ cr ≤ 1 ∧ AddAt 18446744073709551616 a b o k cr ∧ Hid (o.length = 8) ∧ Hid (∀ x ∈ o, x < 18446744073709551616) ∧ ARow wr (w.heap.size + 1 + 1 + 1) 139 o ∧ Below (w.heap.size + 1 + 1 + 1) W0 wr) (fun _ iv _ => n - (intOf iv).toNat)
  case atStart => exact ⟨0, 0, _, rfl, rfl, by omega, by omega, AddAt.zero _ _ _ _, Lib.hid rfl, Lib.hid (by simp), T0, Below.refl _ _⟩
  case round =>
    obtain ⟨k, cr, o, rfl, rfl, hk, hcr, hA, Ho, Hlo, hblk, hB⟩ := hrel
    have hBw : Below w.heap.size w wr := hB0.trans (hB.mono (by omega))
    have hFr := HF.out.below hBw hg
    have c0 := hFr.fld.n0
    have hAr := A0.below hB (by omega)
    have hBr := B0.below hB (by omega)
    by_cases hlt : k < n
    · have q1 := hAr.cell (i := k) (by rw [Ha.out.six]; omega)
      have q2 := hBr.cell (i := k) (by rw [Hb.out.six]; omega)
      have dt : dg a k < 18446744073709551616 := getD_lt (by omega) Ha.out.lim k
      have dm : dg b k < 18446744073709551616 := getD_lt (by omega) Hb.out.lim k
      obtain ⟨s, cr', hs, hcr', he⟩ := carry_of (dg a k) (dg b k) cr dt dm hcr
      have hok : k < o.length := by have := Ho.out; omega
      have q3 := hblk.cell hok
      have q4 := hblk.free k
      have hA' := hA.step hok (by omega)
      have hblk' := hblk.set k s
      have hB' := hB.setCell (p := ⟨w.heap.size + 1 + 1 + 1, k, none⟩) (Nat.le_refl _) (.int .u64 (s : Int))
      have Ho' : Hid ((o.set k s).length = 8) := Lib.hid (by rw [List.length_set]; exact Ho.out)
      have Hlo' : Hid (∀ x ∈ o.set k s, x < 18446744073709551616) := Lib.hid (set_lt Hlo.out hs)
      have hadd := fun w => add64_at (dg a k) (dg b k) cr s cr' hcr hs (by omega) w
      have ki : (k : Int) < 8 := by omega
      have ki6 : (k : Int) < 6 := by omega
      clear he hA hblk hB hok hBw hFr hAr hBr
      go_wp2_with fail
      have hfar : ∀ q : Addr, q.block < w.heap.size + 1 + 1 + 1 → (wr.setCell ⟨w.heap.size + 1 + 1 + 1, k, none⟩ (.int .u64 (s : Int))).drew.cell? q = wr.cell? q := fun q hq => World.cell?_of_block (Below.heap_setCell _ _ _ _ (by show q.block ≠ w.heap.size + 1 + 1 + 1; omega))
      have f1 := (hfar ⟨w.heap.size, k, none⟩ (by show w.heap.size < _; omega)).trans q1
      have f2 := (hfar ⟨w.heap.size + 1, k, none⟩ (by show w.heap.size + 1 < _; omega)).trans q2
      clear hfar
      go_region_held3 (fun w' => w'.cell? ⟨w.heap.size, k, none⟩ = some (.int .u64 (dg a k : Int)) ∧ w'.cell? ⟨w.heap.size + 1, k, none⟩ = some (.int .u64 (dg b k : Int))) (first | exact ⟨q1, q2⟩ | exact ⟨f1, f2⟩ | go_keep) (fail)
      go_wp2
      go_roundw
      case rel => exact ⟨k + 1, cr', o.set k s, by go_num, rfl, by omega, hcr', hA', Ho', Hlo', hblk', hB'.drew⟩
      case measure => simp [intOf]; omega
    · obtain rfl : k = n := by omega
      have hsum : val 18446744073709551616 (o.take k) + 18446744073709551616 ^ k * cr = val 18446744073709551616 a + val 18446744073709551616 b := by
        have h1 : val 18446744073709551616 (o.take k) + 18446744073709551616 ^ k * cr = val 18446744073709551616 (a.take k) + val 18446744073709551616 (b.take k) := by have := hA; unfold AddAt at this; omega
        rw [ta, tb] at h1
        exact h1
      have hbel := zbelow_any (w.heap.size + 1 + 1 + 1) cr o wr hFr.fld hFr.mlt hblk (by omega) Ho.out Hlo.out hn hn1 (by rw [hFr.mtake, hFr.mval]) (by omega) (by rw [hsum, hFr.mval]; have := Ha.out.lt; have := Hb.out.lt; omega)
      rw [hsum, hFr.mval] at hbel
      have Hbel := Lib.hid hbel
      clear hbel hA hblk hFr hAr hBr hsum
      go_wp2_with fail
      refine Hbel.out.mono ?_
      rintro e w2 ⟨o2, rfl, ho6, hlim, hv2, hB2⟩
      obtain ⟨x0, x1, x2, x3, x4, x5, hoe⟩ := six ho6
      have hrb := (hB2.block (w.heap.size + 1 + 1) (by have := hB.size; omega)).trans ((hB.block (w.heap.size + 1 + 1) (by omega)).trans l3)
      obtain ⟨r0, r1, r2, r3, r4, r5⟩ := cells6 hrb
      have z := fun i => blk_free hrb i
      have z0 := z 0
      have z1 := z 1
      have z2 := z 2
      have z3 := z 3
      have z4 := z 4
      have z5 := z 5
      have hrb' := hrb
      have hBf : Below w.heap.size w w2 := hBw.trans (hB2.mono hBw.size)
      have Hv2 := Lib.hid hv2
      have Ho6 := Lib.hid ho6
      have Hlim := Lib.hid hlim
      have Hoe := Lib.hid hoe
      have hve : EV o2 = .agg #[.int .u64 (x0 : Int), .int .u64 (x1 : Int), .int .u64 (x2 : Int), .int .u64 (x3 : Int), .int .u64 (x4 : Int), .int .u64 (x5 : Int)] := by rw [hoe]; rfl
      rw [hve]
      clear hve hoe hv2 ho6 hlim z hrb hB2 hB Hbel
      go_wp2_with fail
      refine end6 rfl rfl rfl (six_set hrb' _ _ _ _ _ _) ?_
      exact ⟨o2, by rw [Hoe.out]; rfl, ⟨Ho6.out, Hlim.out, by rw [Hv2.out]; exact offM_lt (by have := Ha.out.lt; have := Hb.out.lt; omega)⟩, Hv2.out, six_below hBf (by omega) _ _ _ _ _ _⟩
end Go.Proofs.Ytldhmjfjbalakaa
