/- Plain arithmetic of the rounds of a long division: nothing of the program. -/
import Derived.Test.YtnniellajmjmnaaStep
import Derived.Test.YtnniellajmjmnaaDivN
namespace Go.Proofs.Ytnniellajmjmnaa

/-- Within 'takes': j limbs of q y are off, from place f on. -/
def TakesAt (B : Nat) (L0 y : List Nat) (q f : Nat) (L : List Nat) (j c b : Nat) : Prop :=
  L.length = L0.length ∧ val B L + B ^ f * (q * val B (y.take j)) = val B L0 + B ^ (f + j) * (c + b) ∧ ∀ i, f + j ≤ i → dg L i = dg L0 i
theorem TakesAt.zero (B : Nat) (L y : List Nat) (q f : Nat) : TakesAt B L y q f L 0 0 0 := by simp [TakesAt]
theorem TakesAt.step {B : Nat} {L0 y L : List Nat} {q f j c b lo c' x b' : Nat} (h : TakesAt B L0 y q f L j c b) (hL : f + j < L.length) (h1 : lo + B * c' = q * dg y j + c) (h2 : x + lo + b = dg L (f + j) + B * b') :
    TakesAt B L0 y q f (L.set (f + j) x) (j + 1) c' b' := by
  obtain ⟨g1, g2, g3⟩ := h
  refine ⟨by simpa using g1, ?_, fun i hi => by rw [getD_set_ne (by omega)]; exact g3 i (by omega)⟩
  have hs := val_set' B hL x
  rw [val_take_getD, Nat.mul_add, Nat.mul_add, ← Nat.add_assoc f j 1, Nat.pow_succ]
  have e1 : B ^ f * (q * (B ^ j * dg y j)) = B ^ (f + j) * (q * dg y j) := by
    rw [Nat.pow_add, Nat.mul_left_comm q, ← Nat.mul_assoc]
  have e2 : B ^ (f + j) * (lo + B * c') = B ^ (f + j) * (q * dg y j + c) := by rw [h1]
  have e3 : B ^ (f + j) * (x + lo + b) = B ^ (f + j) * (dg L (f + j) + B * b') := by rw [h2]
  rw [e1, Nat.mul_assoc, Nat.mul_add]
  rw [Nat.mul_add] at g2
  simp only [Nat.mul_add] at e2 e3 ⊢
  generalize B ^ (f + j) * (B * c') = p1 at *
  generalize B ^ (f + j) * (B * b') = p2 at *
  generalize B ^ (f + j) * lo = p3 at *
  generalize B ^ (f + j) * (q * dg y j) = p4 at *
  generalize B ^ (f + j) * c = p5 at *
  generalize B ^ (f + j) * b = p6 at *
  generalize B ^ (f + j) * x = p7 at *
  generalize B ^ (f + j) * dg L (f + j) = p8 at *
  generalize B ^ f * (q * val B (y.take j)) = p9 at *
  generalize val B (L.set (f + j) x) = p10 at *
  generalize val B L = p11 at *
  generalize val B L0 = p12 at *
  omega
theorem TakesAt.fin {B : Nat} {L0 y L : List Nat} {q f n c b x b' : Nat} (h : TakesAt B L0 y q f L n c b) (hn : y.length = n) (hL : f + n < L.length) (h2 : x + c + b = dg L (f + n) + B * b') :
    (L.set (f + n) x).length = L0.length ∧ val B (L.set (f + n) x) + B ^ f * (q * val B y) = val B L0 + B ^ (f + n + 1) * b' ∧ ∀ i, f + n + 1 ≤ i → dg (L.set (f + n) x) i = dg L0 i := by
  obtain ⟨g1, g2, g3⟩ := h
  refine ⟨by simpa using g1, ?_, fun i hi => by rw [getD_set_ne (by omega)]; exact g3 i (by omega)⟩
  rw [List.take_of_length_le (by omega)] at g2
  have hs := val_set' B hL x
  have e3 : B ^ (f + n) * (x + c + b) = B ^ (f + n) * (dg L (f + n) + B * b') := by rw [h2]
  rw [Nat.pow_succ, Nat.mul_assoc]
  simp only [Nat.mul_add] at e3 g2
  generalize B ^ (f + n) * (B * b') = p2 at *
  generalize B ^ (f + n) * c = p5 at *
  generalize B ^ (f + n) * b = p6 at *
  generalize B ^ (f + n) * x = p7 at *
  generalize B ^ (f + n) * dg L (f + n) = p8 at *
  generalize B ^ f * (q * val B y) = p9 at *
  generalize val B (L.set (f + n) x) = p10 at *
  generalize val B L = p11 at *
  generalize val B L0 = p12 at *
  omega
/-- Within 'gives': j limbs of y are added, from place f on. -/
def GivesAt (B : Nat) (L0 y : List Nat) (f : Nat) (L : List Nat) (j c : Nat) : Prop :=
  L.length = L0.length ∧ val B L + B ^ (f + j) * c = val B L0 + B ^ f * val B (y.take j) ∧ ∀ i, f + j ≤ i → dg L i = dg L0 i
theorem GivesAt.zero (B : Nat) (L y : List Nat) (f : Nat) : GivesAt B L y f L 0 0 := by simp [GivesAt]
theorem GivesAt.step {B : Nat} {L0 y L : List Nat} {f j c x c' : Nat} (h : GivesAt B L0 y f L j c) (hL : f + j < L.length) (h1 : x + B * c' = dg L (f + j) + dg y j + c) : GivesAt B L0 y f (L.set (f + j) x) (j + 1) c' := by
  obtain ⟨g1, g2, g3⟩ := h
  refine ⟨by simpa using g1, ?_, fun i hi => by rw [getD_set_ne (by omega)]; exact g3 i (by omega)⟩
  have hs := val_set' B hL x
  rw [val_take_getD, Nat.mul_add, ← Nat.mul_assoc, ← Nat.pow_add, ← Nat.add_assoc f j 1, Nat.pow_succ, Nat.mul_assoc]
  have e2 : B ^ (f + j) * (x + B * c') = B ^ (f + j) * (dg L (f + j) + dg y j + c) := by rw [h1]
  simp only [Nat.mul_add] at e2 ⊢
  generalize B ^ (f + j) * (B * c') = p1 at *
  generalize B ^ (f + j) * dg y j = p4 at *
  generalize B ^ (f + j) * c = p5 at *
  generalize B ^ (f + j) * x = p7 at *
  generalize B ^ (f + j) * dg L (f + j) = p8 at *
  generalize B ^ f * val B (y.take j) = p9 at *
  generalize val B (L.set (f + j) x) = p10 at *
  generalize val B L = p11 at *
  generalize val B L0 = p12 at *
  omega
theorem GivesAt.fin {B : Nat} {L0 y L : List Nat} {f n c x c' : Nat} (h : GivesAt B L0 y f L n c) (hn : y.length = n) (hL : f + n < L.length) (h1 : x + B * c' = dg L (f + n) + c) :
    (L.set (f + n) x).length = L0.length ∧ val B (L.set (f + n) x) + B ^ (f + n + 1) * c' = val B L0 + B ^ f * val B y ∧ ∀ i, f + n + 1 ≤ i → dg (L.set (f + n) x) i = dg L0 i := by
  obtain ⟨g1, g2, g3⟩ := h
  refine ⟨by simpa using g1, ?_, fun i hi => by rw [getD_set_ne (by omega)]; exact g3 i (by omega)⟩
  rw [List.take_of_length_le (by omega)] at g2
  have hs := val_set' B hL x
  have e3 : B ^ (f + n) * (x + B * c') = B ^ (f + n) * (dg L (f + n) + c) := by rw [h1]
  rw [Nat.pow_succ, Nat.mul_assoc]
  simp only [Nat.mul_add] at e3
  generalize B ^ (f + n) * (B * c') = p2 at *
  generalize B ^ (f + n) * c = p5 at *
  generalize B ^ (f + n) * x = p7 at *
  generalize B ^ (f + n) * dg L (f + n) = p8 at *
  generalize B ^ f * val B y = p9 at *
  generalize val B (L.set (f + n) x) = p10 at *
  generalize val B L = p11 at *
  generalize val B L0 = p12 at *
  omega
/-- Digits beyond a place are nought just if the number is small. -/
theorem val_lt_of_zero {B : Nat} (hB : 0 < B) {L : List Nat} (h : ∀ x ∈ L, x < B) {m : Nat} (hz : ∀ i, m ≤ i → dg L i = 0) : val B L < B ^ m := by
  rcases Nat.lt_or_ge L.length m with h1 | h1
  · exact Nat.lt_of_lt_of_le (val_lt h) (Nat.pow_le_pow_right hB (by omega))
  · have e := val_take_drop B L h1
    have hd : val B (L.drop m) = 0 := by
      apply val_zeros
      intro x hx
      obtain ⟨i, hi, rfl⟩ := List.getElem_of_mem hx
      rw [List.getElem_drop]
      have := hz (m + i) (by omega)
      rwa [dg, getD_eq' (by simp at hi; omega)] at this
    rw [hd, Nat.mul_zero, Nat.add_zero] at e
    rw [e]
    have := val_lt (B := B) (l := L.take m) fun x hx => h x (List.mem_of_mem_take hx)
    rwa [List.length_take, Nat.min_eq_left h1] at this
theorem dg_of_val {B : Nat} {L : List Nat} (h : ∀ x ∈ L, x < B) (i : Nat) (hi : i < L.length) : dg L i = val B L / B ^ i % B := by
  have hB : 0 < B := Nat.lt_of_le_of_lt (Nat.zero_le _) (h _ (List.getElem_mem hi))
  have e := val_take_drop B L (Nat.le_of_lt hi)
  have h2 := val_lt (B := B) (l := L.take i) fun x hx => h x (List.mem_of_mem_take hx)
  rw [List.length_take, Nat.min_eq_left (by omega)] at h2
  rw [List.drop_eq_getElem_cons hi, val_cons] at e
  rw [e, Nat.add_mul_div_left _ _ (Nat.pow_pos hB), Nat.div_eq_of_lt h2, Nat.zero_add, Nat.add_mul_mod_self_left, dg, getD_eq' hi, Nat.mod_eq_of_lt (h _ (List.getElem_mem hi))]
theorem zero_of_val_lt {B : Nat} {L : List Nat} (h : ∀ x ∈ L, x < B) {m : Nat} (hm : val B L < B ^ m) {i : Nat} (hi : m ≤ i) : dg L i = 0 := by
  rcases Nat.lt_or_ge i L.length with h1 | h1
  · have hB : 0 < B := Nat.lt_of_le_of_lt (Nat.zero_le _) (h _ (List.getElem_mem h1))
    rw [dg_of_val h i h1, Nat.div_eq_of_lt (Nat.lt_of_lt_of_le hm (Nat.pow_le_pow_right hB hi)), Nat.zero_mod]
  · rw [dg, List.getD_eq_getElem?_getD, List.getElem?_eq_none h1]; rfl
end Go.Proofs.Ytnniellajmjmnaa
