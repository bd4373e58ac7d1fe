/- Plain arithmetic of shifts of numbers: nothing of the program. -/
import Derived.Test.YtnniellajmjmnaaBitN
namespace Go.Proofs.Ytnniellajmjmnaa

/-- A limb moved up by k bits: its two parts. -/
theorem up_parts {x k : Nat} (hx : x < 18446744073709551616) (hk : k < 64) : ∃ hi lo t, x / 2 ^ (64 - k) = hi ∧ x * 2 ^ k % 18446744073709551616 = lo ∧ lo + 18446744073709551616 * hi = x * 2 ^ k ∧ lo = t * 2 ^ k ∧ lo + 2 ^ k ≤ 18446744073709551616 ∧ hi < 2 ^ k := by
  have e64 : (18446744073709551616 : Nat) = 2 ^ k * 2 ^ (64 - k) := by rw [← Nat.pow_add, show k + (64 - k) = 64 by omega]
  have hpos : 0 < 2 ^ k := Nat.pow_pos (by omega)
  have h1 : x * 2 ^ k / 18446744073709551616 = x / 2 ^ (64 - k) := by rw [e64, Nat.mul_comm x, Nat.mul_div_mul_left _ _ hpos]
  have h2 : x * 2 ^ k % 18446744073709551616 = (x % 2 ^ (64 - k)) * 2 ^ k := by
    rw [e64, Nat.mul_comm x, Nat.mul_mod_mul_left, Nat.mul_comm]
  have h3 := Nat.div_add_mod (x * 2 ^ k) 18446744073709551616
  refine ⟨_, _, _, rfl, rfl, by rw [← h1]; omega, h2, ?_, ?_⟩
  · have h4 : x % 2 ^ (64 - k) + 1 ≤ 2 ^ (64 - k) := Nat.mod_lt _ (Nat.pow_pos (by omega))
    have h5 : (x % 2 ^ (64 - k) + 1) * 2 ^ k ≤ 2 ^ (64 - k) * 2 ^ k := Nat.mul_le_mul_right _ h4
    rw [Nat.add_mul, Nat.one_mul, Nat.mul_comm (2 ^ (64 - k)), ← e64, ← h2] at h5
    exact h5
  · apply Nat.div_lt_of_lt_mul
    rw [Nat.mul_comm, ← e64]; exact hx
/-- Behind i rounds of Shl. -/
def ShlAt (l o : List Nat) (w k i : Nat) : Prop := val 18446744073709551616 o = 2 ^ (64 * w + k) * val 18446744073709551616 (l.take i) ∧ (∀ j, i + w < j → dg o j = 0) ∧ dg o (i + w) < 2 ^ k
theorem dg_replicate (n j : Nat) : dg (List.replicate n 0) j = 0 := by
  rw [dg, List.getD_eq_getElem?_getD, List.getElem?_replicate]
  split <;> rfl
theorem ShlAt.zero (l : List Nat) (w k n : Nat) : ShlAt l (List.replicate n 0) w k 0 := by
  refine ⟨by rw [val_replicate]; simp, fun j _ => dg_replicate n j, by rw [dg_replicate]; exact Nat.pow_pos (by omega)⟩
theorem ShlAt.step {l o : List Nat} {w k i hi lo : Nat} (h : ShlAt l o w k i) (ho : i + w + 1 < o.length) (he : lo + 18446744073709551616 * hi = dg l i * 2 ^ k) (hh : hi < 2 ^ k) : ShlAt l ((o.set (i + w) (dg o (i + w) + lo)).set (i + w + 1) hi) w k (i + 1) := by
  obtain ⟨h1, h2, h3⟩ := h
  refine ⟨?_, fun j hj => by rw [getD_set_ne (by omega), getD_set_ne (by omega)]; exact h2 j (by omega), by rw [show i + 1 + w = i + w + 1 by omega, getD_set_eq (by simp; omega)]; exact hh⟩
  have s1 := val_set' 18446744073709551616 (show i + w < o.length by omega) (dg o (i + w) + lo)
  have s2 := val_set' 18446744073709551616 (l := o.set (i + w) (dg o (i + w) + lo)) (n := i + w + 1) (by simp; omega) hi
  rw [getD_set_ne (by omega : i + w ≠ i + w + 1), h2 (i + w + 1) (by omega)] at s2
  rw [val_take_getD, Nat.mul_add, ← h1]
  have e : 2 ^ (64 * w + k) * (18446744073709551616 ^ i * dg l i) = 18446744073709551616 ^ (i + w) * (dg l i * 2 ^ k) := by
    rw [Nat.pow_add, Nat.pow_mul, show (2 : Nat) ^ 64 = 18446744073709551616 by decide, Nat.pow_add]
    generalize 18446744073709551616 ^ w = a
    generalize 18446744073709551616 ^ i = b
    generalize 2 ^ k = c
    generalize dg l i = d
    rw [Nat.mul_comm b d, ← Nat.mul_assoc, Nat.mul_comm _ b, Nat.mul_assoc a, Nat.mul_comm c d, ← Nat.mul_assoc b a]
  rw [e, ← he, Nat.mul_add, ← Nat.mul_assoc, ← Nat.pow_succ]
  rw [Nat.mul_add] at s1
  generalize 18446744073709551616 ^ (i + w + 1) * hi = q1 at *
  generalize 18446744073709551616 ^ (i + w) * lo = q2 at *
  generalize 18446744073709551616 ^ (i + w) * dg o (i + w) = q3 at *
  generalize val 18446744073709551616 (o.set (i + w) (dg o (i + w) + lo)) = q4 at *
  generalize val 18446744073709551616 ((o.set (i + w) (dg o (i + w) + lo)).set (i + w + 1) hi) = q5 at *
  generalize val 18446744073709551616 o = q6 at *
  omega
theorem ShlAt.fin {l o : List Nat} {w k : Nat} (h : ShlAt l o w k l.length) : val 18446744073709551616 o = val 18446744073709551616 l * 2 ^ (64 * w + k) := by
  have := h.1
  rwa [List.take_length, Nat.mul_comm] at this
/-- A limb of a number moved down by 64 w + k bits. -/
theorem shr_digit {x k : Nat} {l : List Nat} (hk : k < 64) (i w : Nat) (hx : dg l (i + w + 1) = x) (hl : ∀ y ∈ l, y < 18446744073709551616) :
    ∃ t, x * 2 ^ (64 - k) % 18446744073709551616 = t * 2 ^ (64 - k) ∧ dg l (i + w) / 2 ^ k < 2 ^ (64 - k) ∧ dg l (i + w) / 2 ^ k + t * 2 ^ (64 - k) < 18446744073709551616 ∧
      val 18446744073709551616 l / 2 ^ (64 * (i + w) + k) % 18446744073709551616 = dg l (i + w) / 2 ^ k + t * 2 ^ (64 - k) := by
  have e64 : (18446744073709551616 : Nat) = 2 ^ k * 2 ^ (64 - k) := by rw [← Nat.pow_add, show k + (64 - k) = 64 by omega]
  have hpos : 0 < 2 ^ (64 - k) := Nat.pow_pos (by omega)
  have hd : dg l (i + w) < 18446744073709551616 := getD_lt (by omega) hl _
  have h1 : dg l (i + w) / 2 ^ k < 2 ^ (64 - k) := Nat.div_lt_of_lt_mul (by rw [← e64]; exact hd)
  have h2 : x * 2 ^ (64 - k) % 18446744073709551616 = (x % 2 ^ k) * 2 ^ (64 - k) := by
    rw [e64, Nat.mul_mod_mul_right]
  have h4 : (x % 2 ^ k + 1) * 2 ^ (64 - k) ≤ 2 ^ k * 2 ^ (64 - k) := Nat.mul_le_mul_right _ (Nat.mod_lt _ (Nat.pow_pos (by omega)))
  rw [← e64, Nat.add_mul, Nat.one_mul] at h4
  refine ⟨x % 2 ^ k, h2, h1, by omega, ?_⟩
  have hv : val 18446744073709551616 l / 2 ^ (64 * (i + w) + k) = dg l (i + w) / 2 ^ k + 2 ^ (64 - k) * (x + 18446744073709551616 * val 18446744073709551616 (l.drop (i + w + 2))) := by
    have hs := val_shift (m := 64) l hl (i + w) k (by omega)
    have h6 : val 18446744073709551616 l = val 18446744073709551616 (l.take (i + w)) + 18446744073709551616 ^ (i + w) * (dg l (i + w) + 18446744073709551616 * (x + 18446744073709551616 * val 18446744073709551616 (l.drop (i + w + 2)))) := by
      have dgdrop : ∀ j, val 18446744073709551616 (l.drop j) = dg l j + 18446744073709551616 * val 18446744073709551616 (l.drop (j + 1)) := fun j => by
        rcases Nat.lt_or_ge j l.length with h | h
        · rw [List.drop_eq_getElem_cons h, val_cons, dg, getD_eq' h]
        · rw [List.drop_eq_nil_of_le h, List.drop_eq_nil_of_le (by omega), dg, List.getD_eq_getElem?_getD, List.getElem?_eq_none h]
          simp
      rw [← hx, ← dgdrop (i + w + 1), ← dgdrop (i + w)]
      rcases Nat.lt_or_ge l.length (i + w) with h | h
      · rw [List.take_of_length_le (by omega), List.drop_eq_nil_of_le (by omega)]; simp
      · exact val_take_drop _ _ h
    have h7 : val 18446744073709551616 (l.take (i + w)) < 18446744073709551616 ^ (i + w) := by
      refine Nat.lt_of_lt_of_le (val_lt fun y hy => hl y (List.mem_of_mem_take hy)) (Nat.pow_le_pow_right (by omega) ?_)
      rw [List.length_take]; omega
    rw [Nat.pow_add, Nat.pow_mul, show (2 : Nat) ^ 64 = 18446744073709551616 by decide, ← Nat.div_div_eq_div_mul, h6, Nat.add_mul_div_left _ _ (Nat.pow_pos (by omega)), Nat.div_eq_of_lt h7, Nat.zero_add]
    generalize x + 18446744073709551616 * val 18446744073709551616 (l.drop (i + w + 2)) = v
    have : dg l (i + w) + 18446744073709551616 * v = dg l (i + w) + 2 ^ k * (2 ^ (64 - k) * v) := by rw [← Nat.mul_assoc, ← e64]
    rw [this, Nat.add_mul_div_left _ _ (Nat.pow_pos (by omega))]
  rw [hv, Nat.mul_add, ← Nat.add_assoc]
  have h8 : 2 ^ (64 - k) * (18446744073709551616 * val 18446744073709551616 (l.drop (i + w + 2))) = 18446744073709551616 * (2 ^ (64 - k) * val 18446744073709551616 (l.drop (i + w + 2))) := Nat.mul_left_comm _ _ _
  rw [h8, Nat.add_mul_mod_self_left]
  have h9 : x * 2 ^ (64 - k) = 18446744073709551616 * (x * 2 ^ (64 - k) / 18446744073709551616) + (x % 2 ^ k) * 2 ^ (64 - k) := by
    have := Nat.div_add_mod (x * 2 ^ (64 - k)) 18446744073709551616
    rw [h2] at this; omega
  rw [Nat.mul_comm (2 ^ (64 - k)) x, h9, Nat.add_comm (18446744073709551616 * _), ← Nat.add_assoc, Nat.add_mul_mod_self_left]
  exact Nat.mod_eq_of_lt (by omega)
/-- Behind i rounds of Shr: the digits that are laid are those of the number moved down. -/
def ShrAt (l o : List Nat) (w k i : Nat) : Prop := ∀ j, j < i → dg o j = val 18446744073709551616 l / 2 ^ (64 * (j + w) + k) % 18446744073709551616
theorem digit_of_val {B : Nat} {o : List Nat} (x : Nat) (hd : ∀ j, j < o.length → dg o j = x / B ^ j % B) (hx : x < B ^ o.length) : val B o = x := by
  have : ∀ i, i ≤ o.length → val B (o.take i) = x % B ^ i := by
    intro i
    induction i with
    | zero => intro _; simp [Nat.mod_one]
    | succ i ih =>
      intro hi
      rw [val_take_getD, ih (by omega), hd i (by omega), Nat.pow_succ, Nat.mod_mul]
  have h := this o.length (Nat.le_refl _)
  rw [List.take_length, Nat.mod_eq_of_lt hx] at h
  exact h
theorem ShrAt.fin {l o : List Nat} {w k : Nat} (h : ShrAt l o w k o.length) (hl : ∀ x ∈ l, x < 18446744073709551616) (hn : l.length = o.length + w) : val 18446744073709551616 o = val 18446744073709551616 l / 2 ^ (64 * w + k) := by
  apply digit_of_val
  · intro j hj
    rw [h j hj, Nat.div_div_eq_div_mul]
    congr 2
    rw [show (18446744073709551616 : Nat) = 2 ^ 64 by decide, ← Nat.pow_mul, ← Nat.pow_add]
    congr 1
    omega
  · apply Nat.div_lt_of_lt_mul
    have h1 := val_lt hl
    rw [hn, Nat.pow_add] at h1
    rw [Nat.pow_add, Nat.pow_mul, show (2 : Nat) ^ 64 = 18446744073709551616 by decide]
    have h2 : 18446744073709551616 ^ o.length * 18446744073709551616 ^ w * 1 ≤ 18446744073709551616 ^ o.length * 18446744073709551616 ^ w * 2 ^ k := Nat.mul_le_mul_left _ (Nat.pow_pos (by omega))
    have h3 : 18446744073709551616 ^ w * 2 ^ k * 18446744073709551616 ^ o.length = 18446744073709551616 ^ o.length * 18446744073709551616 ^ w * 2 ^ k := by
      rw [Nat.mul_comm, Nat.mul_assoc]
    rw [h3]
    omega
end Go.Proofs.Ytnniellajmjmnaa
