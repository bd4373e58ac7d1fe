/- Montgomery's product: plain law. zmont's Mul: Montgomery's product. -/
import Derived.Test.YtnniellajmjmnaaMAdd
namespace Go.Proofs.Ytnniellajmjmnaa
open Go.RowKit

/-- Behind i rounds of Montgomery's product. -/
structure MontAt (B M : Nat) (a b t : List Nat) (i n : Nat) : Prop where
  len : t.length = n + 2
  top : dg t (n + 1) = 0
  bound : val B t < M + val B b
  cong : ∃ k, val B t * B ^ i = val B (a.take i) * val B b + k * M
theorem MontAt.zero {B M : Nat} (a b : List Nat) (n : Nat) (hM : 0 < M) : MontAt B M a b (List.replicate (n + 2) 0) 0 n :=
  ⟨by simp, by rw [dg, List.getD_eq_getElem?_getD, List.getElem?_replicate]; split <;> rfl, by rw [val_replicate]; omega, 0, by simp [val_replicate]⟩
theorem dg_zero_mod {B : Nat} {t : List Nat} (ht : ∀ x ∈ t, x < B) (_hB : 0 < B) : val B t % B = dg t 0 := by
  cases t with
  | nil => simp [dg]
  | cons x l => rw [val_cons, Nat.add_mul_mod_self_left, Nat.mod_eq_of_lt (ht x (by simp))]; rfl
/-! What a round does to the numbers. -/
theorem mont_low {B M inv d q v : Nat} (hi : (inv * M + 1) % B = 0) (hv : v % B = d) (hq : q = d * inv % B) : (v + q * M) % B = 0 := by
  have h1 : (v + q * M) % B = (d * (inv * M + 1)) % B := by
    subst hq hv
    rw [Nat.mul_add, Nat.mul_one, Nat.add_mod, Nat.mod_mul_mod, ← Nat.mul_assoc, Nat.add_comm (v % B * inv * M), Nat.add_mod_mod]
  rw [h1, Nat.mul_mod, hi]
  simp
theorem mont_eq {M t0 ai b q t2 Bi A A' k : Nat} (h2 : t2 = t0 + ai * b + q * M) (hk : t0 * Bi = A * b + k * M) (hA : A' = A + Bi * ai) : t2 * Bi = A' * b + (k + q * Bi) * M := by
  subst h2 hA
  rw [Nat.add_mul, Nat.add_mul, hk, Nat.add_mul, Nat.add_mul]
  have e1 : ai * b * Bi = Bi * ai * b := by rw [Nat.mul_comm Bi ai, Nat.mul_assoc, Nat.mul_assoc, Nat.mul_comm b Bi]
  have e2 : q * M * Bi = q * Bi * M := by rw [Nat.mul_assoc, Nat.mul_assoc, Nat.mul_comm M Bi]
  omega
theorem mont_bound {B M t0 ai b q t2 t4 : Nat} (hB : 0 < B) (h2 : t2 = t0 + ai * b + q * M) (hb : t0 < M + b) (ha : ai < B) (hq : q < B) (h4 : t2 = B * t4) : t4 < M + b := by
  have e1 : ai * b ≤ (B - 1) * b := Nat.mul_le_mul_right _ (by omega)
  have e2 : q * M ≤ (B - 1) * M := Nat.mul_le_mul_right _ (by omega)
  have e3 : (B - 1) * b + b = B * b := by rw [← Nat.succ_mul, Nat.succ_eq_add_one, Nat.sub_add_cancel hB]
  have e4 : (B - 1) * M + M = B * M := by rw [← Nat.succ_mul, Nat.succ_eq_add_one, Nat.sub_add_cancel hB]
  have e5 : B * t4 < B * (M + b) := by rw [Nat.mul_add, ← h4]; omega
  exact Nat.lt_of_mul_lt_mul_left e5
theorem mont_room1 {B M R t0 ai b : Nat} (hB : 2 ≤ B) (hb : t0 < M + b) (ha : ai < B) (hM : M ≤ R) (hbR : b < R) : t0 + ai * b < R * B * B := by
  have e1 : ai * b ≤ (B - 1) * b := Nat.mul_le_mul_right _ (by omega)
  have e3 : (B - 1) * b + b = B * b := by rw [← Nat.succ_mul, Nat.succ_eq_add_one, Nat.sub_add_cancel (by omega)]
  have e4 : B * b ≤ B * R := Nat.mul_le_mul_left _ (by omega)
  have e5 : R * B * 2 ≤ R * B * B := Nat.mul_le_mul_left _ hB
  have e6 : R * 2 ≤ R * B := Nat.mul_le_mul_left _ hB
  rw [Nat.mul_comm B R] at e4
  omega
theorem mont_room2 {B M R t0 ai b q : Nat} (hB : 2 ≤ B) (hb : t0 < M + b) (ha : ai < B) (hq : q < B) (hM : M ≤ R) (hbR : b < R) : t0 + ai * b + q * M < R * B * B := by
  have e1 : ai * b ≤ (B - 1) * b := Nat.mul_le_mul_right _ (by omega)
  have e2 : q * M ≤ (B - 1) * M := Nat.mul_le_mul_right _ (by omega)
  have e3 : (B - 1) * b + b = B * b := by rw [← Nat.succ_mul, Nat.succ_eq_add_one, Nat.sub_add_cancel (by omega)]
  have e7 : (B - 1) * M + M = B * M := by rw [← Nat.succ_mul, Nat.succ_eq_add_one, Nat.sub_add_cancel (by omega)]
  have e4 : B * b ≤ B * R := Nat.mul_le_mul_left _ (by omega)
  have e8 : B * M ≤ B * R := Nat.mul_le_mul_left _ hM
  have e5 : R * B * 2 ≤ R * B * B := Nat.mul_le_mul_left _ hB
  rw [Nat.mul_comm B R] at e4 e8
  omega
theorem MontAt.step {B M inv n i q : Nat} {a b t t2 : List Nat} (hB : 2 ≤ B) (h : MontAt B M a b t i n) (ha : dg a i < B) (hi : (inv * M + 1) % B = 0) (hl2 : t2.length = n + 2) (hlim : ∀ x ∈ t2, x < B)
    (hq : q = (val B t + dg a i * val B b) % B * inv % B) (hv2 : val B t2 = val B t + dg a i * val B b + q * M) : MontAt B M a b (t2.drop 1 ++ [0]) (i + 1) n := by
  have h0 : val B t2 % B = 0 := by rw [hv2]; exact mont_low hi rfl hq
  have hq' : q < B := by rw [hq]; exact Nat.mod_lt _ (by omega)
  obtain ⟨x, l, rfl⟩ : ∃ x l, t2 = x :: l := by
    cases t2 with
    | nil => simp at hl2
    | cons x l => exact ⟨x, l, rfl⟩
  rw [dg_zero_mod hlim (by omega)] at h0
  have hx : x = 0 := h0
  subst hx
  have hlen : l.length = n + 1 := by simpa using hl2
  have e4 : val B (0 :: l) = B * val B l := by rw [val_cons]; omega
  have e5 : val B ((0 :: l).drop 1 ++ [0]) = val B l := by simp [val_append]
  obtain ⟨k, hk⟩ := h.cong
  refine ⟨by simp [hlen], ?_, ?_, k + q * B ^ i, ?_⟩
  · simp [dg, List.getD_eq_getElem?_getD, hlen]
  · rw [e5]
    exact mont_bound (by omega) hv2 h.bound ha hq' e4
  · rw [e5, Nat.pow_succ, show val B l * (B ^ i * B) = (B * val B l) * B ^ i by rw [Nat.mul_comm (B ^ i), ← Nat.mul_assoc, Nat.mul_comm (val B l)], ← e4]
    exact mont_eq hv2 hk (val_take_getD B a i)
/-- Montgomery's congruence, behind the last taking off. -/
theorem offM_lt {v M : Nat} (h : v < 2 * M) : offM v M < M := by rw [offM]; split <;> omega
theorem offM_mod {v M R x k : Nat} (h : v * R = x + k * M) : offM v M * R % M = x % M := by
  have h1 : v * R % M = x % M := by rw [h, Nat.add_mul_mod_self_right]
  rw [offM]
  split
  · exact h1
  · rename_i hge
    rw [← h1]
    have : v * R = (v - M) * R + R * M := by rw [Nat.mul_comm R M, ← Nat.add_mul, Nat.sub_add_cancel (by omega)]
    rw [this, Nat.add_mul_mod_self_right]
end Go.Proofs.Ytnniellajmjmnaa

namespace Go.Proofs.Ytnniellajmjmnaa
open Go.RowKit

theorem OB.of_blk_rn {w : World} {g c : Nat} {l : List Nat} (h : Blk w g l) (hl : Lim l) (hc : l.length ≤ c) (hc' : c ≤ maxLen) : RN w (fun b => b = g) (some ⟨g, 0, none⟩) c l :=
  ⟨⟨hc, hc', by simp [nts], fun _ => ⟨_, rfl, rfl, fun j u hu => by rw [add_blk, blk_cell h j, List.getElem?_toArray]; exact hu⟩⟩, hl⟩

/-- A row's tail, read as a slice. -/
theorem tail_rn {w : World} {g n : Nat} {l : List Nat} (h : Blk w g l) (hl : Lim l) (hn : l.length = n + 2) : RN w (fun b => b = g) (some ⟨g, 1, none⟩) (n + 1) (l.drop 1) :=
  ⟨⟨by rw [List.length_drop]; omega, by have := hl.2; unfold maxLen; omega, by simp [nts], fun _ => ⟨_, rfl, rfl, fun j u hu => by
    have e : (⟨g, 1, none⟩ : Addr).add j = ⟨g, j + 1, none⟩ := by
      unfold Addr.add
      split
      · rename_i h0; rw [h0]
      · rw [Nat.add_comm]
    rw [e, blk_cell h (j + 1), List.getElem?_toArray]
    rw [nts, List.getElem?_map, List.getElem?_drop, Nat.add_comm] at hu
    rw [nts, List.getElem?_map]
    exact hu⟩⟩, fun x hx => hl.1 x (List.mem_of_mem_drop hx), by rw [List.length_drop]; have := hl.2; omega⟩
theorem wrap_mul (x y : Nat) : IntKind.u64.wrap ((x : Int) * (y : Int)) = ((x * y % 18446744073709551616 : Nat) : Int) := by
  rw [IntKind.wrap_u64, ← Int.natCast_mul]
  omega
theorem pow_two_more (n : Nat) : 18446744073709551616 ^ (n + 2) = 18446744073709551616 ^ n * 18446744073709551616 * 18446744073709551616 := by rw [Nat.pow_succ, Nat.pow_succ]
theorem shift_list {o : List Nat} {n : Nat} (h : o.length = n + 2) : (o.drop 1 ++ o.drop (n + 1)).set (n + 1) 0 = o.drop 1 ++ [0] := by
  have h1 : (o.drop 1).length = n + 1 := by rw [List.length_drop]; omega
  have h2 : (o.drop (n + 1)).length = 1 := by rw [List.length_drop]; omega
  obtain ⟨x, hx⟩ : ∃ x, o.drop (n + 1) = [x] := by
    match ho : o.drop (n + 1), h2 with
    | [x], _ => exact ⟨x, rfl⟩
  rw [hx, List.set_append_right _ _ (by omega), h1, Nat.sub_self]
  rfl

set_option maxRecDepth 100000 in
set_option maxHeartbeats 4000000 in
theorem mmul_any (P Pa Pb : Nat → Prop) (Am Aa Ab : Option Addr) (cm ca cb g inv : Nat) (ml a b : List Nat) (w : World) (h0 : w.cell? ⟨g, 0, none⟩ = some (.slice Am ml.length cm)) (h1 : w.cell? ⟨g, 1, none⟩ = some (.int .u64 (inv : Int))) (hg : g < w.heap.size) (hm : RN w P Am cm ml) (hP : ∀ b, P b → b < w.heap.size)
    (ha : RN w Pa Aa ca a) (hPa : ∀ b, Pa b → b < w.heap.size) (hb : RN w Pb Ab cb b) (hPb : ∀ b, Pb b → b < w.heap.size) (hla : a.length = ml.length) (hlb : b.length = ml.length) (hM : 0 < val 18446744073709551616 ml) (hbM : val 18446744073709551616 b < val 18446744073709551616 ml)
    (_hinv : inv < 18446744073709551616) (hi : (inv * val 18446744073709551616 ml + 1) % 18446744073709551616 = 0) (hsm : ml.length ≤ 100000) :
    Calls Try.prog 85 #[.pointer (some ⟨g, 0, none⟩), .slice Aa a.length ca, .slice Ab b.length cb] w fun e w' => ∃ A' c' o, e = .returned (.slice A' ml.length c') ∧ o.length = ml.length ∧ OB w' w.heap.size A' c' o ∧ val 18446744073709551616 o < val 18446744073709551616 ml ∧
      val 18446744073709551616 o * 18446744073709551616 ^ ml.length % val 18446744073709551616 ml = val 18446744073709551616 a * val 18446744073709551616 b % val 18446744073709551616 ml ∧ Below w.heap.size w w' := by
  obtain ⟨m1, m2, m3⟩ := hm.cap
  obtain ⟨a1, a2, a3⟩ := ha.cap
  obtain ⟨b1, b2, b3⟩ := hb.cap
  obtain ⟨n, hn⟩ : ∃ n, ml.length = n := ⟨_, rfl⟩
  have hvm := val_lt (B := 18446744073709551616) hm.2.1
  have hvb := val_lt (B := 18446744073709551616) hb.2.1
  rw [hlb] at hvb
  rw [hn] at hvm hvb
  have hmk := run_make_row' (P := Try.prog) 22 54 (.int .u64 0) 8 Try.underlying22 info64 rfl .i64 .i64 (n + 2) (by omega) (by omega)
  simp only [Int.natCast_add, Int.cast_ofNat_Int] at hmk
  have Hla := Lib.hid (hla.trans hn)
  have Hlb := Lib.hid (hlb.trans hn)
  have Hn := Lib.hid hn
  have Hlm := Lib.hid (show ml.length ≤ 100000 from hsm)
  have hn0 : 0 < n := by
    rcases Nat.eq_zero_or_pos n with h | h
    · subst h
      have : ml = [] := List.eq_nil_of_length_eq_zero hn
      rw [this] at hM
      simp at hM
    · exact h
  have hns : n ≤ 100000 := by omega
  rw [hn] at h0
  have Hvm := Lib.hid hvm
  have Hvb := Lib.hid hvb
  have HbM := Lib.hid hbM
  have Hi := Lib.hid hi
  have HM := Lib.hid hM
  clear hla hlb hn hsm hvm hvb hbM hi hM
  go_enter Try.func85, Try.ntmps85
  go_wp2_with fail
  go_loopw [19] (fun iv wr => ∃ (i : Nat) (t : List Nat), iv = .int .i64 (i : Int) ∧ i ≤ n ∧ Hid (MontAt 18446744073709551616 (val 18446744073709551616 ml) a b t i n) ∧ Lim t ∧ Blk wr w.heap.size t ∧ Below w.heap.size w wr) (fun iv _ => n - (intOf iv).toNat)
  case atStart => exact ⟨0, List.replicate (n + 2) 0, rfl, by omega, Lib.hid (MontAt.zero _ _ _ HM.out), ⟨by simp, by simp; omega⟩, Blk.made w _, (Below.refl _ w).alloc (Nat.le_refl _) _⟩
  case round =>
    obtain ⟨i, t, rfl, hil, hMt, hLt, hblk, hB⟩ := hrel
    by_cases hlt : i < n
    · have hlt2 : i < a.length := by have := Hla.out; omega
      obtain ⟨ad, rfl, hba, q1⟩ := (ha.below hB hPa).at_ hlt2
      have hMlen := hMt.out.len
      have zw := hB.size
      have hrt : (t.length : Nat) = b.length + 2 := by have := Hlb.out; omega
      have hail := ha.2.dgLt i
      have hrm : val 18446744073709551616 t + dg a i * val 18446744073709551616 b < 18446744073709551616 ^ (b.length + 2) := by
        rw [Hlb.out, pow_two_more]
        exact mont_room1 (by omega) hMt.out.bound hail (Nat.le_of_lt Hvm.out) Hvb.out
      have c1 := madd_any Pb Ab cb (n + 2) w.heap.size (dg a i) t b wr hblk hLt (hb.below hB hPb) (fun x hx => by have := hPb x hx; omega) hrt hail hrm
      rw [hMlen] at c1
      have C1 := Lib.hid c1
      have hai : (i : Int) < (a.length : Int) := by omega
      clear c1 hrm hblk
      generalize hdi : dg a i = di at *
      have Hdi := Lib.hid hdi
      clear hdi hMlen hrt
      go_wp2_with fail
      refine C1.out.mono ?_
      rintro e w1 ⟨rfl, o1, hl1, hL1, hv1, hb1, hJ1⟩
      have zw1 := hJ1.size
      have hB1 : Below w.heap.size w w1 := hB.trans (hJ1.below (Nat.le_refl _) (by omega))
      have c0 := (hB1.cell (p := ⟨g, 0, none⟩) hg).trans h0
      have c1 := (hB1.cell (p := ⟨g, 1, none⟩) hg).trans h1
      have c2 := hb1.cell (i := 0) (by omega)
      have hrm2 : val 18446744073709551616 o1 + dg o1 0 * inv % 18446744073709551616 * val 18446744073709551616 ml < 18446744073709551616 ^ (ml.length + 2) := by
        rw [hv1, Hn.out, pow_two_more]
        exact mont_room2 (by omega) hMt.out.bound hail (Nat.mod_lt _ (by omega)) (Nat.le_of_lt Hvm.out) Hvb.out
      have d1 := madd_any P Am cm (n + 2) w.heap.size (dg o1 0 * inv % 18446744073709551616) o1 ml w1.drew (hb1.drewN 1) hL1 ((hm.below hB1 hP).drewN 1) (fun x hx => by have := hP x hx; show x < w1.heap.size ∧ _; omega) (by have := Hn.out; omega) (Nat.mod_lt _ (by omega)) hrm2
      rw [hl1, Hn.out] at d1
      have D1 := Lib.hid d1
      have hwq := wrap_mul (dg o1 0) inv
      have Hl1 := Lib.hid hl1
      have Hv1 := Lib.hid hv1
      clear d1 hrm2 hb1 hl1 hv1
      obtain ⟨q, hq⟩ : ∃ q, dg o1 0 * inv % 18446744073709551616 = q := ⟨_, rfl⟩
      rw [hq] at D1 hwq
      have Hq := Lib.hid hq
      have k5 : (0 : Int) < (n : Int) + 2 := by omega
      have k6 : (n : Int) + 1 < (n : Int) + 2 := by omega
      clear hq
      go_wp2_with fail
      go_still_tail 13, (by kernel_rfl)
      change wpList _ _ _ _ _ w1.drew
      go_wp2_with fail
      refine D1.out.mono ?_
      rintro e w2 ⟨rfl, o2, hl2, hL2, hv2, hb2, hJ2⟩
      have hJ2' : Just w.heap.size w1 w2 := ⟨hJ2.os, hJ2.tape, hJ2.output, hJ2.size, hJ2.block⟩
      have hB2 : Below w.heap.size w w2 := hB1.trans (hJ2'.below (Nat.le_refl _) (by omega))
      have hcp := copy_limbs (dT := 22) (sT := 22) Try.underlying22 w2 w.heap.size (n + 2) (n + 2) (n + 1) (n + 1) _ (some ⟨w.heap.size, 1, none⟩) o2 (o2.drop 1) 3 hb2 (tail_rn hb2 hL2 hl2) (by rw [List.length_drop]; omega) (by rw [List.length_drop]; omega) (by omega) (by omega)
      have hb3 := hb2.put (o2.drop 1 ++ o2.drop (n + 1))
      have hB3 := setRow_below hB2 (Nat.le_refl _) (nts (o2.drop 1 ++ o2.drop (n + 1))).toArray
      have q3 := hb3.cell (i := n + 1) (by rw [List.length_append, List.length_drop, List.length_drop]; omega)
      have q4 := hb3.free (n + 1)
      have hb4 := hb3.set (n + 1) 0
      rw [shift_list hl2] at hb4
      have hB4 := hB3.setCell (p := ⟨w.heap.size, n + 1, none⟩) (Nat.le_refl _) (.int .u64 ((0 : Nat) : Int))
      have hL4 : Lim (o2.drop 1 ++ [0]) := ⟨fun x hx => by
        rcases List.mem_append.1 hx with h | h
        · exact hL2.1 x (List.mem_of_mem_drop h)
        · simp at h; omega, by simp; have := hL2.2; omega⟩
      have hM4 := hMt.out.step (by omega) (by rw [Hdi.out]; exact hail) Hi.out hl2 hL2.1 (q := q) (by rw [← Hq.out, Hdi.out, ← Hv1.out, dg_zero_mod hL1.1 (by omega)]) (by rw [hv2, Hv1.out, Hdi.out])
      have HM4 := Lib.hid hM4
      simp only [Int.cast_ofNat_Int] at hb4 hB4
      clear hb2 hb3 hB2 hB3 hv2 hJ2 hJ2' hM4 hMt
      generalize o2.drop 1 = D at *
      generalize o2.drop (n + 1) = E at *
      go_wp2_with fail
      go_roundw
      case rel => exact ⟨i + 1, D ++ [0], by go_num, by omega, HM4, hL4, hb4, hB4⟩
      case measure => simp [intOf]; omega
    · obtain rfl : i = n := by omega
      have hMe := hMt.out
      have hMlen := hMe.len
      have q3 := hblk.cell (i := i) (by omega)
      have hvt : val 18446744073709551616 (t.take i) + 18446744073709551616 ^ i * dg t i = val 18446744073709551616 t := by
        have e1 := val_take_getD 18446744073709551616 t i
        have e2 := val_take_getD 18446744073709551616 t (i + 1)
        rw [hMe.top, Nat.mul_zero, Nat.add_zero, List.take_of_length_le (by omega)] at e2
        omega
      have htl : (t.take i).length = i := by rw [List.length_take]; omega
      have hb := mbelow_any P (fun b => b = w.heap.size) Am (some ⟨w.heap.size, 0, none⟩) cm (i + 2) g (dg t i) ml (t.take i) wr.drew (by rw [Hn.out]; exact (hB.cell (p := ⟨g, 0, none⟩) hg).trans h0) (by have := hB.size; show g < wr.heap.size; omega) ((hm.below hB hP).drewN 1) (fun b hb => by have := hP b hb; have := hB.size; show b < wr.heap.size; omega)
        (((OB.of_blk_rn hblk hLt (c := i + 2) (by omega) (by unfold maxLen; omega)).take i).drewN 1) (fun b hb => by have := hblk.lt; show b < wr.heap.size; omega) (by rw [htl]; exact Hn.out.symm) (hLt.dgLt i) (by rw [Hn.out, hvt]; have := hMe.bound; have := HbM.out; omega)
      rw [htl, Hn.out, hvt] at hb
      have Hb := Lib.hid hb
      have hlt3 := offM_lt (v := val 18446744073709551616 t) (M := val 18446744073709551616 ml) (by have := hMe.bound; have := HbM.out; omega)
      obtain ⟨kk, hkk⟩ := hMe.cong
      rw [List.take_of_length_le (by have := Hla.out; omega)] at hkk
      have Hmod := Lib.hid (offM_mod hkk)
      have Hlt3 := Lib.hid hlt3
      have k5 : (i : Int) < (i : Int) + 2 := by omega
      have k6 : (i : Int) ≤ (i : Int) + 2 := by omega
      clear hb hMe hvt htl hkk hMt hblk hlt3 hMlen
      go_wp2_with fail
      go_still_tail 8, (by kernel_rfl)
      change wpList _ _ _ _ _ wr.drew
      go_wp2_with fail
      refine Hb.out.mono ?_
      rintro e w3 ⟨A3, c3, o, rfl, hlo, hO3, hvo, hB3⟩
      go_wp2
      go_ret
      exact ⟨A3, c3, o, by rw [Hn.out]; rfl, by rw [Hn.out]; exact hlo, hO3.mono hB.size, by rw [hvo]; exact Hlt3.out, by rw [hvo, Hn.out]; exact Hmod.out, hB.trans (Below.mono (B' := w.heap.size) ⟨hB3.os, hB3.tape, hB3.output, hB3.size, hB3.block⟩ hB.size)⟩
end Go.Proofs.Ytnniellajmjmnaa
