/- Plain arithmetic of one limb of a long division: nothing of the program. -/
import Derived.Test.YtnniellajmjmnaaQuoN
namespace Go.Proofs.Ytnniellajmjmnaa

/-- A number by its lowest limbs and three more. -/
theorem val_three {B : Nat} {L : List Nat} {t : Nat} (h : ∀ x ∈ L, x < B) (ht : t + 3 ≤ L.length) (hz : ∀ j, t + 3 ≤ j → dg L j = 0) :
    ∃ r, r < B ^ t ∧ val B L = r + B ^ t * ((dg L (t + 2) * B + dg L (t + 1)) * B + dg L t) := by
  refine ⟨val B (L.take t), ?_, ?_⟩
  · have := val_lt (B := B) (l := L.take t) fun x hx => h x (List.mem_of_mem_take hx)
    rwa [List.length_take, Nat.min_eq_left (by omega)] at this
  · have e := val_take_drop B L ht
    have hd : val B (L.drop (t + 3)) = 0 := by
      apply val_zeros
      intro x hx
      obtain ⟨i, hi, rfl⟩ := List.getElem_of_mem hx
      rw [List.getElem_drop]
      have := hz (t + 3 + i) (by omega)
      rwa [dg, getD_eq' (by simp at hi; omega)] at this
    rw [hd, Nat.mul_zero, Nat.add_zero] at e
    rw [e, val_take_getD, val_take_getD, val_take_getD, show B ^ (t + 2) = B ^ t * B * B from by simp only [Nat.pow_succ], Nat.pow_succ]
    have e1 : B ^ t * B * B * dg L (t + 2) = B ^ t * (dg L (t + 2) * B * B) := by simp only [Nat.mul_assoc]; rw [Nat.mul_comm B (dg L (t + 2)), ← Nat.mul_assoc B, Nat.mul_comm B (dg L (t + 2)), Nat.mul_assoc]
    have e2 : B ^ t * B * dg L (t + 1) = B ^ t * (dg L (t + 1) * B) := by rw [Nat.mul_assoc, Nat.mul_comm B]
    rw [e1, e2, Nat.add_mul, Nat.mul_add, Nat.mul_add]
    omega
theorem val_two {B : Nat} {L : List Nat} {t : Nat} (ht : t + 2 = L.length) :
    ∃ r, val B L = r + B ^ t * (dg L (t + 1) * B + dg L t) := by
  refine ⟨val B (L.take t), ?_⟩
  have e : val B L = val B (L.take (t + 2)) := by rw [ht, List.take_length]
  rw [e, val_take_getD, val_take_getD, Nat.pow_succ]
  have e2 : B ^ t * B * dg L (t + 1) = B ^ t * (dg L (t + 1) * B) := by rw [Nat.mul_assoc, Nat.mul_comm B]
  rw [e2, Nat.mul_add]
  omega
/-- A limb of the quotient is among what a guess must not fall short of. -/
theorem quo_three {B q DB V t D2 T rd rv : Nat} (hq : q * DB ≤ V) (hD : DB = rd + B ^ t * D2) (hV : V = rv + B ^ t * T) (hr : rv < B ^ t) : q * D2 ≤ T := by
  have h1 : q * (B ^ t * D2) ≤ q * DB := Nat.mul_le_mul_left _ (by omega)
  have h2 : q * (B ^ t * D2) = B ^ t * (q * D2) := by rw [Nat.mul_left_comm]
  have h3 : B ^ t * (q * D2) < B ^ t * (T + 1) := by rw [Nat.mul_add, Nat.mul_one]; omega
  exact Nat.le_of_lt_succ (Nat.lt_of_mul_lt_mul_left h3)

/-- A limb g is taken off, or once too much of it. -/
def FixAt (B V i n D : Nat) (L : List Nat) (g : Nat) (too : Bool) : Prop :=
  V / (B ^ i * D) ≤ g ∧ g < B ∧ (∀ j, i + n + 1 ≤ j → dg L j = 0) ∧ val B L + B ^ i * (g * D) = V + if too then B ^ (i + n + 1) else 0
section
variable {B V i n D g : Nat} {L L' : List Nat}
theorem FixAt.start {b : Nat} (hq : V / (B ^ i * D) ≤ g) (hg : g < B) (hz : ∀ j, i + n + 1 ≤ j → dg L' j = dg L j) (hz0 : ∀ j, i + n + 1 ≤ j → dg L j = 0) (he : val B L' + B ^ i * (g * D) = V + B ^ (i + n + 1) * b) (hL' : ∀ x ∈ L', x < B) (hB : 2 ≤ B) (hD : D < B ^ n) :
    FixAt B V i n D L' g (decide (0 < b)) := by
  have hz' : ∀ j, i + n + 1 ≤ j → dg L' j = 0 := fun j hj => (hz j hj).trans (hz0 j hj)
  refine ⟨hq, hg, hz', ?_⟩
  have h1 := val_lt_of_zero (by omega) hL' hz'
  rw [he]
  have h2 : B ^ i * (g * D) < B ^ (i + n + 1) := by
    rw [Nat.add_assoc, Nat.pow_add, Nat.pow_succ, Nat.mul_comm (B ^ n)]
    refine Nat.mul_lt_mul_of_pos_left ?_ (Nat.pow_pos (by omega))
    exact Nat.lt_of_le_of_lt (Nat.mul_le_mul_left g (Nat.le_of_lt hD)) (Nat.mul_lt_mul_of_pos_right hg (Nat.pow_pos (by omega)))
  rcases Nat.lt_or_ge b 2 with hb | hb
  · have : b = 0 ∨ b = 1 := by omega
    rcases this with rfl | rfl <;> simp
  · exfalso
    have h3 : B ^ (i + n + 1) * 2 ≤ B ^ (i + n + 1) * b := Nat.mul_le_mul_left _ hb
    omega
theorem FixAt.pos (h : FixAt B V i n D L g true) (hL : ∀ x ∈ L, x < B) (hB : 2 ≤ B) : V / (B ^ i * D) < g := by
  obtain ⟨h1, h2, h3, h4⟩ := h
  have h5 := val_lt_of_zero (by omega) hL h3
  apply Nat.div_lt_of_lt_mul
  simp only [if_true] at h4
  rw [Nat.mul_assoc, Nat.mul_comm D]
  omega
theorem FixAt.step {c : Nat} (h : FixAt B V i n D L (g + 1) true) (hL : ∀ x ∈ L, x < B) (hL' : ∀ x ∈ L', x < B) (hB : 2 ≤ B) (hD : 0 < D) (hDn : D < B ^ n)
    (he : val B L' + B ^ (i + n + 1) * c = val B L + B ^ i * D) (hz : ∀ j, i + n + 1 ≤ j → dg L' j = dg L j) : FixAt B V i n D L' g (decide (dg L' (i + n) ≠ 0)) := by
  have hp := h.pos hL hB
  obtain ⟨h1, h2, h3, h4⟩ := h
  have hz' : ∀ j, i + n + 1 ≤ j → dg L' j = 0 := fun j hj => (hz j hj).trans (h3 j hj)
  have h5 := val_lt_of_zero (by omega) hL h3
  have h6 := val_lt_of_zero (by omega) hL' hz'
  have hDi : B ^ i * D < B ^ (i + n) := by rw [Nat.pow_add]; exact Nat.mul_lt_mul_of_pos_left hDn (Nat.pow_pos (by omega))
  have hBB : B ^ (i + n + 1) = B ^ (i + n) * B := Nat.pow_succ _ _
  have hBB2 : B ^ (i + n) * 2 ≤ B ^ (i + n) * B := Nat.mul_le_mul_left _ hB
  have hV : V < B ^ i * D * (g + 1) := by
    have := Nat.lt_mul_div_succ V (show 0 < B ^ i * D from Nat.mul_pos (Nat.pow_pos (by omega)) hD)
    exact Nat.lt_of_lt_of_le this (Nat.mul_le_mul_left _ (by omega))
  simp only [if_true] at h4
  have e1 : B ^ i * ((g + 1) * D) = B ^ i * (g * D) + B ^ i * D := by rw [Nat.add_mul, Nat.one_mul, Nat.mul_add]
  have e2 : B ^ i * D * (g + 1) = B ^ i * (g * D) + B ^ i * D := by rw [← e1, Nat.mul_assoc, Nat.mul_comm D]
  have hgD : B ^ i * (g * D) + B ^ (i + n) * 2 ≤ B ^ (i + n + 1) + B ^ (i + n) := by
    obtain ⟨m, hm⟩ : ∃ m, B = m + 2 := ⟨B - 2, by omega⟩
    have k1 : g * D ≤ m * B ^ n := Nat.mul_le_mul (by omega) (Nat.le_of_lt hDn)
    have k2 : B ^ i * (g * D) ≤ B ^ i * (m * B ^ n) := Nat.mul_le_mul_left _ k1
    have k3 : B ^ i * (m * B ^ n) = B ^ (i + n) * m := by rw [Nat.mul_comm m, ← Nat.mul_assoc, ← Nat.pow_add]
    have k4 : B ^ (i + n) * B = B ^ (i + n) * m + B ^ (i + n) * 2 := by rw [← Nat.mul_add, ← hm]
    omega
  rw [e1] at h4
  rw [e2] at hV
  refine ⟨by omega, by omega, hz', ?_⟩
  rcases Nat.eq_zero_or_pos c with rfl | hc
  · rw [Nat.mul_zero, Nat.add_zero] at he
    have hbig : B ^ (i + n) ≤ val B L' := by omega
    have hne : dg L' (i + n) ≠ 0 := fun h0 => by
      have := val_lt_of_zero (B := B) (m := i + n) (by omega) hL' fun j hj => by
        rcases Nat.lt_or_ge (i + n) j with h | h
        · exact hz' j (by omega)
        · obtain rfl : j = i + n := by omega
          exact h0
      omega
    rw [decide_eq_true hne, if_pos rfl]
    omega
  · have hc1 : c = 1 := by
      rcases Nat.lt_or_ge c 2 with h | h
      · omega
      · have : B ^ (i + n + 1) * 2 ≤ B ^ (i + n + 1) * c := Nat.mul_le_mul_left _ h
        omega
    subst hc1
    rw [Nat.mul_one] at he
    have hsmall : val B L' < B ^ (i + n) := by omega
    have h0 := zero_of_val_lt hL' hsmall (Nat.le_refl _)
    rw [decide_eq_false (by simp [h0]), if_neg (by simp)]
    omega
theorem FixAt.fin (h : FixAt B V i n D L g false) (hB : 2 ≤ B) (hD : 0 < D) : val B L + B ^ i * (g * D) = V ∧ val B L < B ^ i * D := by
  obtain ⟨h1, h2, h3, h4⟩ := h
  simp only [Bool.false_eq_true, if_false, Nat.add_zero] at h4
  refine ⟨h4, ?_⟩
  have h5 := Nat.lt_mul_div_succ V (show 0 < B ^ i * D from Nat.mul_pos (Nat.pow_pos (by omega)) hD)
  have h6 : B ^ i * D * (V / (B ^ i * D) + 1) ≤ B ^ i * D * (g + 1) := Nat.mul_le_mul_left _ (by omega)
  have e : B ^ i * D * (g + 1) = B ^ i * (g * D) + B ^ i * D := by rw [Nat.mul_add, Nat.mul_one, Nat.mul_assoc, Nat.mul_comm D]
  omega
end
/-- k limbs of the quotient are still to come. -/
def QuoAt (B X D : Nat) (L qs : List Nat) (k : Nat) : Prop := val B L + D * (B ^ k * val B (qs.drop k)) = X ∧ val B L < B ^ k * D
theorem QuoAt.start {B D m : Nat} {L qs : List Nat} (hq : qs.length = m) (h : val B L < B ^ m * D) : QuoAt B (val B L) D L qs m := by
  refine ⟨?_, h⟩
  rw [← hq, List.drop_length]
  simp
theorem QuoAt.step {B X D k g : Nat} {L L' qs : List Nat} (h : QuoAt B X D L qs (k + 1)) (hk : k < qs.length) (h1 : val B L' + B ^ k * (g * D) = val B L) (h2 : val B L' < B ^ k * D) : QuoAt B X D L' (qs.set k g) k := by
  obtain ⟨g1, g2⟩ := h
  refine ⟨?_, h2⟩
  have e : (qs.set k g).drop k = g :: qs.drop (k + 1) := by
    rw [List.drop_set, if_neg (Nat.lt_irrefl _), List.drop_eq_getElem_cons hk, Nat.sub_self, List.set_cons_zero]
  rw [e, val_cons, Nat.mul_add, Nat.mul_add, ← g1, ← h1, Nat.pow_succ]
  have e1 : D * (B ^ k * g) = B ^ k * (g * D) := by rw [Nat.mul_left_comm, Nat.mul_comm D]
  rw [e1, Nat.mul_assoc (B ^ k)]
  omega
theorem QuoAt.fin {B X D : Nat} {L qs : List Nat} (h : QuoAt B X D L qs 0) : val B qs = X / D ∧ val B L = X % D := by
  obtain ⟨g1, g2⟩ := h
  simp only [Nat.pow_zero, Nat.one_mul, List.drop_zero] at g1 g2
  rw [← g1]
  refine ⟨?_, ?_⟩
  · rw [Nat.add_comm, Nat.mul_add_div (by omega), Nat.div_eq_of_lt g2, Nat.add_zero]
  · rw [Nat.add_comm, Nat.mul_add_mod, Nat.mod_eq_of_lt g2]
/-- The divisor moved up: as long as it was, its highest limb half of a limb's range or more. -/
theorem norm_d {B p u y top n : Nat} (hB : 2 ≤ B) (he : B % 2 = 0) (hp : B = u * p) (hn : (digs B y).length = n + 1) (ht : dg (digs B y) n = top) (h1 : B ≤ 2 * (top * p)) (h2 : top * p < B) :
    (digs B (y * p)).length = n + 1 ∧ B ≤ 2 * dg (digs B (y * p)) n ∧ B ^ (n + 1) ≤ 2 * (y * p) := by
  have hBn : 0 < B ^ n := Nat.pow_pos (by omega)
  have hy : y = val B ((digs B y).take n) + B ^ n * top := by
    rw [← ht, ← val_take_getD, ← hn, List.take_length, val_digs hB]
  have hr : val B ((digs B y).take n) < B ^ n := by
    have := val_lt (B := B) (l := (digs B y).take n) fun x hx => digs_lt hB y x (List.mem_of_mem_take hx)
    rwa [List.length_take, Nat.min_eq_left (by omega)] at this
  generalize val B ((digs B y).take n) = r at *
  have hu : (top + 1) * p ≤ B := by
    have : top < u := by
      rw [hp] at h2
      exact Nat.lt_of_mul_lt_mul_right h2
    rw [hp]
    exact Nat.mul_le_mul_right _ this
  have hup : y * p < B ^ (n + 1) := by
    have k1 : y + 1 ≤ B ^ n * (top + 1) := by rw [Nat.mul_add, Nat.mul_one]; omega
    have hp0 : 0 < p := by
      rcases Nat.eq_zero_or_pos p with h | h
      · subst h; omega
      · exact h
    have k2 : y * p < (y + 1) * p := Nat.mul_lt_mul_of_pos_right (by omega) hp0
    have k3 : (y + 1) * p ≤ B ^ n * (top + 1) * p := Nat.mul_le_mul_right _ k1
    have k4 : B ^ n * (top + 1) * p ≤ B ^ n * B := by rw [Nat.mul_assoc]; exact Nat.mul_le_mul_left _ hu
    rw [Nat.pow_succ]
    omega
  have hlo : B ^ (n + 1) ≤ 2 * (y * p) := by
    have k1 : B ^ n * top * p ≤ y * p := Nat.mul_le_mul_right _ (by omega)
    have k2 : B ^ n * B ≤ B ^ n * (2 * (top * p)) := Nat.mul_le_mul_left _ h1
    have k3 : B ^ n * (2 * (top * p)) = 2 * (B ^ n * top * p) := by rw [Nat.mul_left_comm, Nat.mul_assoc]
    rw [Nat.pow_succ]
    omega
  have hBB : B ^ n * 2 ≤ B ^ n * B := Nat.mul_le_mul_left _ hB
  have hlen : (digs B (y * p)).length = n + 1 := by
    refine Nat.le_antisymm (digs_length_of_lt hB hup) ?_
    rcases Nat.lt_or_ge n (digs B (y * p)).length with h | h
    · exact h
    · have k1 := lt_pow_digs hB (y * p)
      have k2 : B ^ (digs B (y * p)).length ≤ B ^ n := Nat.pow_le_pow_right (by omega) h
      rw [Nat.pow_succ] at hlo
      omega
  refine ⟨hlen, ?_, hlo⟩
  have hD : y * p = val B ((digs B (y * p)).take n) + B ^ n * dg (digs B (y * p)) n := by
    rw [← val_take_getD, ← hlen, List.take_length, val_digs hB]
  have hr2 : val B ((digs B (y * p)).take n) < B ^ n := by
    have := val_lt (B := B) (l := (digs B (y * p)).take n) fun x hx => digs_lt hB (y * p) x (List.mem_of_mem_take hx)
    rwa [List.length_take, Nat.min_eq_left (by omega)] at this
  generalize dg (digs B (y * p)) n = z at *
  have k1 : B ^ n * B < B ^ n * (2 * (z + 1)) := by
    rw [Nat.pow_succ] at hlo
    have : B ^ n * (2 * (z + 1)) = 2 * (B ^ n * z + B ^ n) := by rw [Nat.mul_left_comm, Nat.mul_add, Nat.mul_one]
    omega
  have k2 := Nat.lt_of_mul_lt_mul_left k1
  omega
theorem norm_x {B x D n : Nat} (hB : 2 ≤ B) (hn : n ≤ (digs B x).length + 1) (hD : B ^ n ≤ 2 * D) : x < B ^ ((digs B x).length + 1 - n) * D := by
  have h1 := lt_pow_digs hB x
  generalize (digs B x).length = k at *
  have h2 : B ^ (k + 1 - n) * B ^ n ≤ B ^ (k + 1 - n) * (2 * D) := Nat.mul_le_mul_left _ hD
  rw [← Nat.pow_add, show k + 1 - n + n = k + 1 by omega, Nat.pow_succ, Nat.mul_left_comm] at h2
  have h3 : B ^ k * 2 ≤ B ^ k * B := Nat.mul_le_mul_left _ hB
  omega
end Go.Proofs.Ytnniellajmjmnaa
