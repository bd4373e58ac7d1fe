/- Plain arithmetic of the reference's division: nothing of the program. -/
import Derived.Test.YtldhmjfjbalakaaGreatQuoP
import Derived.Test.YtldhmjfjbalakaaGreatSub
namespace Go.Proofs.YtldhmjfjbalakaaGreat

theorem dg_drop (u : List Nat) (k i : Nat) : dg (u.drop k) i = dg u (k + i) := by
  simp [dg, List.getD_eq_getElem?_getD, List.getElem?_drop]
/-- Within 'less': i digits of u from k on, less g v, are worked out. -/
def LessAt (B : Nat) (u v W : List Nat) (k g i c b : Nat) : Prop := W.length = v.length + 1 ∧ val B (W.take i) + g * val B (v.take i) = val B ((u.drop k).take i) + B ^ i * (c + b)
section
variable {B k g i c b : Nat} {u v W : List Nat}
theorem LessAt.zero (h : W.length = v.length + 1) : LessAt B u v W k g 0 0 0 := ⟨h, by simp⟩
theorem LessAt.step {lo c' x b' : Nat} (h : LessAt B u v W k g i c b) (hi : i < W.length) (h1 : lo + B * c' = c + g * dg v i) (h2 : x + (lo + b) = dg u (k + i) + B * b') : LessAt B u v (W.set i x) k g (i + 1) c' b' := by
  obtain ⟨g1, g2⟩ := h
  refine ⟨by simpa using g1, ?_⟩
  rw [val_take_set B hi, val_take_getD, val_take_getD, dg_drop, Nat.pow_succ]
  have e1 : g * (B ^ i * dg v i) = B ^ i * (g * dg v i) := Nat.mul_left_comm _ _ _
  have e2 : B ^ i * (lo + B * c') = B ^ i * (c + g * dg v i) := by rw [h1]
  have e3 : B ^ i * (x + (lo + b)) = B ^ i * (dg u (k + i) + B * b') := by rw [h2]
  rw [Nat.mul_add g, e1, Nat.mul_assoc, Nat.mul_add B, Nat.mul_add (B ^ i) (B * c')]
  simp only [Nat.mul_add] at e2 e3 g2 ⊢
  generalize B ^ i * (B * c') = p1 at *
  generalize B ^ i * (B * b') = p2 at *
  generalize B ^ i * lo = p3 at *
  generalize B ^ i * (g * dg v i) = p4 at *
  generalize B ^ i * c = p5 at *
  generalize B ^ i * b = p6 at *
  generalize B ^ i * x = p7 at *
  generalize B ^ i * dg u (k + i) = p8 at *
  omega
/-- u, its digits from k on put in the place of W. -/
def putAt (u W : List Nat) (k : Nat) : List Nat := u.take k ++ W ++ u.drop (k + W.length)
theorem putAt_length (h : k + W.length ≤ u.length) : (putAt u W k).length = u.length := by simp [putAt]; omega
theorem val_parts (B : Nat) (h : k + W.length ≤ u.length) : ∃ r t : Nat, val B u = r + B ^ k * (val B ((u.drop k).take W.length) + B ^ W.length * t) ∧ val B (putAt u W k) = r + B ^ k * (val B W + B ^ W.length * t) := by
  refine ⟨val B (u.take k), val B (u.drop (k + W.length)), ?_, ?_⟩
  · rw [val_take_drop B u (n := k) (by omega), val_take_drop B (u.drop k) (n := W.length) (by simp; omega), List.drop_drop]
  · unfold putAt
    rw [val_append, val_append, List.length_append, List.length_take, Nat.min_eq_left (by omega), Nat.pow_add, Nat.mul_assoc, Nat.add_assoc, ← Nat.mul_add]
theorem LessAt.yes (h : LessAt B u v W k g W.length 0 0) (hk : k + W.length ≤ u.length) : val B (putAt u W k) + B ^ k * (g * val B v) = val B u := by
  obtain ⟨g1, g2⟩ := h
  obtain ⟨r, t, e1, e2⟩ := val_parts B (u := u) (W := W) hk
  rw [List.take_length, List.take_of_length_le (by omega : v.length ≤ W.length)] at g2
  simp only [Nat.add_zero, Nat.mul_zero] at g2
  rw [e1, e2, ← g2, Nat.mul_add, Nat.mul_add, Nat.mul_add]
  omega
/-- It was too much. -/
theorem LessAt.no (h : LessAt B u v W k g W.length 0 1) (hW : ∀ x ∈ W, x < B) (hu : ∀ x ∈ u, x < B) (hz : ∀ j, k + W.length ≤ j → dg u j = 0) (hk : k + W.length ≤ u.length) : val B u / (B ^ k * val B v) < g := by
  obtain ⟨g1, g2⟩ := h
  rw [List.take_length, List.take_of_length_le (by omega : v.length ≤ W.length)] at g2
  simp only [Nat.zero_add, Nat.mul_one] at g2
  have h1 := val_lt hW
  have e1 := val_take_drop B u (n := k) (by omega)
  have e2 := val_take_drop B (u.drop k) (n := W.length) (by simp; omega)
  have h0 : val B ((u.drop k).drop W.length) = 0 := by
    apply val_zeros
    intro x hx
    rw [List.drop_drop] at hx
    obtain ⟨i, hi, rfl⟩ := List.getElem_of_mem hx
    rw [List.getElem_drop]
    have := hz (k + W.length + i) (by omega)
    rwa [dg, getD_eq' (by simp at hi; omega)] at this
  rw [h0, Nat.mul_zero, Nat.add_zero] at e2
  have h2 : val B (u.take k) < B ^ k := by
    have := val_lt (B := B) (l := u.take k) fun x hx => hu x (List.mem_of_mem_take hx)
    rwa [List.length_take, Nat.min_eq_left (by omega)] at this
  apply Nat.div_lt_of_lt_mul
  rw [e1, e2]
  have h3 : val B ((u.drop k).take W.length) + 1 ≤ g * val B v := by omega
  have h4 : B ^ k * (val B ((u.drop k).take W.length) + 1) ≤ B ^ k * (g * val B v) := Nat.mul_le_mul_left _ h3
  rw [Nat.mul_add, Nat.mul_one] at h4
  rw [Nat.mul_assoc, Nat.mul_comm (val B v)]
  omega
/-- The first guess: of two digits by one; not too small. -/
theorem guess2_ge {n n1 : Nat} (hn : n1 + 1 = n) (hu : ∀ x ∈ u, x < B) (hv : ∀ x ∈ v, x < B) (hvn : v.length = n) (hlen : k + n < u.length) (htop : 0 < dg v n1) (hV : val B u < B ^ (k + 1) * val B v) :
    (∀ i, k + n + 1 ≤ i → dg u i = 0) ∧ val B u / (B ^ k * val B v) < B ∧ val B u / (B ^ k * val B v) ≤ (dg u (k + n) * B + dg u (k + n1)) / dg v n1 := by
  subst hn
  have hB : 0 < B := Nat.lt_of_le_of_lt (Nat.zero_le _) (hu _ (List.getElem_mem (by omega : k < u.length)))
  have hdl := val_lt hv
  rw [hvn] at hdl
  have hz : ∀ i, k + (n1 + 1) + 1 ≤ i → dg u i = 0 := fun i hi => zero_of_val_lt hu (m := k + (n1 + 1) + 1) (Nat.lt_trans hV (by
    rw [show k + (n1 + 1) + 1 = (k + 1) + (n1 + 1) by omega, Nat.pow_add _ (k + 1)]
    exact Nat.mul_lt_mul_of_pos_left hdl (Nat.pow_pos hB))) hi
  refine ⟨hz, ?_, ?_⟩
  · apply Nat.div_lt_of_lt_mul
    rw [Nat.pow_succ, Nat.mul_right_comm] at hV
    exact hV
  · rw [Nat.le_div_iff_mul_le htop]
    have e := val_take_drop B u (n := k + n1 + 2) (by omega)
    have hd : val B (u.drop (k + n1 + 2)) = 0 := by
      apply val_zeros
      intro x hx
      obtain ⟨i, hi, rfl⟩ := List.getElem_of_mem hx
      rw [List.getElem_drop]
      have := hz (k + n1 + 2 + i) (by omega)
      rwa [dg, getD_eq' (by simp at hi; omega)] at this
    rw [hd, Nat.mul_zero, Nat.add_zero, val_take_getD, val_take_getD, Nat.pow_succ] at e
    have hr := val_lt (B := B) (l := u.take (k + n1)) fun x hx => hu x (List.mem_of_mem_take hx)
    rw [List.length_take, Nat.min_eq_left (by omega)] at hr
    have ev : val B v = val B (v.take n1) + B ^ n1 * dg v n1 := by rw [← val_take_getD, ← hvn, List.take_length]
    refine quo_three (B := B) (t := k + n1) (DB := B ^ k * val B v) (rd := B ^ k * val B (v.take n1)) (V := val B u) (rv := val B (u.take (k + n1))) (Nat.div_mul_le_self _ _) ?_ ?_ hr
    · rw [ev, Nat.mul_add, ← Nat.mul_assoc, ← Nat.pow_add]
    · rw [e, Nat.mul_assoc, Nat.mul_comm B, Nat.mul_add, show k + (n1 + 1) = k + n1 + 1 by omega]
      omega
/-- Within 'times'. -/
def TimesAt (B : Nat) (a o : List Nat) (m i c : Nat) : Prop := o.length = a.length + 1 ∧ val B (o.take i) + B ^ i * c = m * val B (a.take i)
theorem TimesAt.step {a o : List Nat} {m x c' : Nat} (h : TimesAt B a o m i c) (hi : i < o.length) (h1 : x + B * c' = c + dg a i * m) : TimesAt B a (o.set i x) m (i + 1) c' := by
  obtain ⟨g1, g2⟩ := h
  refine ⟨by simpa using g1, ?_⟩
  rw [val_take_set B hi, val_take_getD, Nat.mul_add, ← g2, Nat.pow_succ, Nat.mul_assoc]
  have e1 : m * (B ^ i * dg a i) = B ^ i * (dg a i * m) := by rw [Nat.mul_left_comm, Nat.mul_comm m]
  have e2 : B ^ i * (x + B * c') = B ^ i * (c + dg a i * m) := by rw [h1]
  rw [e1]
  simp only [Nat.mul_add] at e2
  omega
theorem TimesAt.fin {a o : List Nat} {m : Nat} (h : TimesAt B a o m a.length c) : val B (o.set a.length c) = m * val B a := by
  obtain ⟨g1, g2⟩ := h
  have e : (o.set a.length c).length = a.length + 1 := by simpa using g1
  have e2 : val B (o.set a.length c) = val B ((o.set a.length c).take (a.length + 1)) := by rw [← e, List.take_length]
  rw [e2, val_take_set B (by omega), g2, List.take_length]
end
end Go.Proofs.YtldhmjfjbalakaaGreat
