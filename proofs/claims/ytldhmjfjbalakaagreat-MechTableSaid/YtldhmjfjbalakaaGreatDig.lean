/- Plain arithmetic of digits, the lowest first, to a base: nothing of the program. -/
import Derived.Lib.Hide
namespace Go.Proofs.YtldhmjfjbalakaaGreat

/-- The number of digits to the base B, the lowest first. -/
def val (B : Nat) : List Nat → Nat
  | [] => 0
  | x :: l => x + B * val B l
/-- A number's digits to the base B, none at the end that is 0. -/
def digs (B : Nat) (n : Nat) : List Nat := if _h : 2 ≤ B ∧ 0 < n then n % B :: digs B (n / B) else []
termination_by n
decreasing_by exact Nat.div_lt_self _h.2 _h.1

@[simp] theorem val_nil (B : Nat) : val B [] = 0 := rfl
@[simp] theorem val_cons (B x : Nat) (l : List Nat) : val B (x :: l) = x + B * val B l := rfl
theorem digs_zero (B : Nat) : digs B 0 = [] := by rw [digs]; simp
theorem digs_pos {B n : Nat} (hB : 2 ≤ B) (hn : 0 < n) : digs B n = n % B :: digs B (n / B) := by rw [digs]; simp [hB, hn]
theorem val_digs {B : Nat} (hB : 2 ≤ B) (n : Nat) : val B (digs B n) = n := by
  induction n using Nat.strongRecOn with
  | ind n ih =>
    rcases Nat.eq_zero_or_pos n with h | h
    · subst h; rw [digs_zero]; rfl
    · rw [digs_pos hB h, val_cons, ih _ (Nat.div_lt_self h hB)]
      exact Nat.mod_add_div n B
theorem digs_lt {B : Nat} (hB : 2 ≤ B) (n : Nat) : ∀ x ∈ digs B n, x < B := by
  induction n using Nat.strongRecOn with
  | ind n ih =>
    rcases Nat.eq_zero_or_pos n with h | h
    · subst h; rw [digs_zero]; simp
    · rw [digs_pos hB h]
      intro x hx
      rcases List.mem_cons.1 hx with rfl | hx
      · exact Nat.mod_lt _ (by omega)
      · exact ih _ (Nat.div_lt_self h hB) x hx
theorem val_append (B : Nat) (l m : List Nat) : val B (l ++ m) = val B l + B ^ l.length * val B m := by
  induction l with
  | nil => simp
  | cons x l ih => simp [ih, Nat.pow_succ, Nat.mul_add, Nat.mul_assoc, Nat.mul_comm, Nat.add_assoc]
theorem val_lt {B : Nat} {l : List Nat} (h : ∀ x ∈ l, x < B) : val B l < B ^ l.length := by
  induction l with
  | nil => simp
  | cons x l ih =>
    have h1 := h x (by simp)
    have h2 := ih fun y hy => h y (by simp [hy])
    simp only [val_cons, List.length_cons, Nat.pow_succ]
    have : B * (val B l + 1) ≤ B * B ^ l.length := Nat.mul_le_mul_left _ h2
    rw [Nat.mul_add] at this
    rw [Nat.mul_comm (B ^ l.length)]
    omega
theorem val_zeros {B : Nat} {l : List Nat} (h : ∀ x ∈ l, x = 0) : val B l = 0 := by
  induction l with
  | nil => rfl
  | cons x l ih => rw [val_cons, h x (by simp), ih fun y hy => h y (by simp [hy])]; simp
theorem val_replicate (B n : Nat) : val B (List.replicate n 0) = 0 := val_zeros (by simp)
theorem val_take_drop (B : Nat) (l : List Nat) {n : Nat} (hn : n ≤ l.length) : val B l = val B (l.take n) + B ^ n * val B (l.drop n) := by
  have := val_append B (l.take n) (l.drop n)
  rwa [List.take_append_drop, List.length_take, Nat.min_eq_left hn] at this
theorem val_take_succ (B : Nat) {l : List Nat} {n : Nat} (hn : n < l.length) : val B (l.take (n + 1)) = val B (l.take n) + B ^ n * l[n] := by
  rw [List.take_succ_eq_append_getElem hn, val_append, List.length_take, Nat.min_eq_left (by omega)]
  simp
theorem val_set (B : Nat) {l : List Nat} {n : Nat} (hn : n < l.length) (x : Nat) : val B (l.set n x) + B ^ n * l[n] = val B l + B ^ n * x := by
  have h1 := val_take_drop B l (Nat.le_of_lt hn)
  have h2 := val_take_drop B (l.set n x) (n := n) (by simp; omega)
  have h3 : l.drop n = l[n] :: l.drop (n + 1) := List.drop_eq_getElem_cons hn
  have h4 : (l.set n x).drop n = x :: l.drop (n + 1) := by
    rw [List.drop_set, if_neg (Nat.lt_irrefl _), h3, Nat.sub_self, List.set_cons_zero]
  have h5 : (l.set n x).take n = l.take n := by rw [List.take_set]; apply List.set_eq_of_length_le; simp; omega
  rw [h4, h5, val_cons] at h2
  rw [h3, val_cons] at h1
  rw [h1, h2]
  simp only [Nat.mul_add]
  omega
/-- Digits, none at the end that is 0, are those of their number. -/
theorem digs_val {B : Nat} (hB : 2 ≤ B) : ∀ {l : List Nat}, (∀ x ∈ l, x < B) → (∀ h : l ≠ [], l.getLast h ≠ 0) → digs B (val B l) = l
  | [], _, _ => digs_zero B
  | x :: l, h, hl => by
    have hx := h x (by simp)
    have hpos : 0 < val B (x :: l) := by
      rcases Nat.eq_zero_or_pos (val B (x :: l)) with h0 | h0
      · exfalso
        have hz : ∀ (m : List Nat) (hm : m ≠ []), val B m = 0 → m.getLast hm = 0 := by
          intro m
          induction m with
          | nil => intro hm; exact absurd rfl hm
          | cons y m ih =>
            intro hm hv
            rw [val_cons] at hv
            have hy : y = 0 := by omega
            have hB0 : B * val B m = 0 := by omega
            rcases Nat.mul_eq_zero.1 hB0 with h' | h'
            · omega
            · rcases m with _ | ⟨z, m⟩
              · simpa using hy
              · rw [List.getLast_cons (by simp)]; exact ih (by simp) h'
        exact hl (by simp) (hz _ _ h0)
      · exact h0
    rw [digs_pos hB hpos]
    have e1 : val B (x :: l) % B = x := by rw [val_cons, Nat.add_mul_mod_self_left, Nat.mod_eq_of_lt hx]
    have e2 : val B (x :: l) / B = val B l := by rw [val_cons, Nat.add_mul_div_left _ _ (by omega), Nat.div_eq_of_lt hx]; omega
    rw [e1, e2, digs_val hB (fun y hy => h y (by simp [hy])) fun hne => by
      have := hl (by simp)
      rwa [List.getLast_cons hne] at this]
theorem digs_last {B : Nat} (hB : 2 ≤ B) (n : Nat) (h : digs B n ≠ []) : (digs B n).getLast h ≠ 0 := by
  induction n using Nat.strongRecOn with
  | ind n ih =>
    rcases Nat.eq_zero_or_pos n with h0 | h0
    · subst h0; exact absurd (digs_zero B) h
    · rcases Nat.eq_zero_or_pos (n / B) with h1 | h1
      · have e : digs B n = [n % B] := by rw [digs_pos hB h0, h1, digs_zero]
        have hlt : n < B := by rcases Nat.lt_or_ge n B with h | h; exact h; have := Nat.div_pos h (by omega); omega
        simp only [e, List.getLast_singleton]
        rw [Nat.mod_eq_of_lt hlt]; omega
      · have e := digs_pos hB h0
        have hne : digs B (n / B) ≠ [] := by rw [digs_pos hB h1]; simp
        simp only [e, List.getLast_cons hne]
        exact ih _ (Nat.div_lt_self h0 hB) hne
theorem digs_inj {B : Nat} (hB : 2 ≤ B) {m n : Nat} (h : digs B m = digs B n) : m = n := by rw [← val_digs hB m, h, val_digs hB]
theorem digs_nil {B : Nat} (hB : 2 ≤ B) {n : Nat} : digs B n = [] ↔ n = 0 :=
  ⟨fun h => by have := val_digs hB n; rw [h] at this; simpa using this.symm, fun h => by rw [h, digs_zero]⟩
/-- What is left when the noughts at the end are cut. -/
theorem take_digs {B : Nat} (hB : 2 ≤ B) {l : List Nat} (hl : ∀ x ∈ l, x < B) {n : Nat} (hn : n ≤ l.length) (hz : ∀ x ∈ l.drop n, x = 0) (h0 : 0 < n → l.getD (n - 1) 0 ≠ 0) : l.take n = digs B (val B l) := by
  have e : val B l = val B (l.take n) := by rw [val_take_drop B l hn, val_zeros hz]; simp
  rw [e]
  refine (digs_val hB (fun x hx => hl x (List.mem_of_mem_take hx)) fun hne => ?_).symm
  have hn0 : 0 < n := by
    rcases Nat.eq_zero_or_pos n with h | h
    · subst h; simp at hne
    · exact h
  have := h0 hn0
  rw [List.getLast_eq_getElem, List.getElem_take]
  simp only [List.length_take, Nat.min_eq_left hn]
  rwa [List.getD_eq_getElem?_getD, List.getElem?_eq_getElem (by omega), Option.getD_some] at this
theorem digs_length_le {B : Nat} (hB : 2 ≤ B) {l : List Nat} (hl : ∀ x ∈ l, x < B) : (digs B (val B l)).length ≤ l.length := by
  rcases Nat.lt_or_ge l.length (digs B (val B l)).length with h | h
  · exfalso
    have h1 := val_lt hl
    have hne : digs B (val B l) ≠ [] := by intro e; rw [e] at h; simp at h
    have h2 : B ^ ((digs B (val B l)).length - 1) ≤ val B l := by
      generalize val B l = v at hne ⊢
      have := digs_last hB v hne
      have h3 := val_digs hB v
      obtain ⟨m, x, hm⟩ : ∃ m x, digs B v = m ++ [x] := ⟨_, _, (List.dropLast_concat_getLast hne).symm⟩
      have hx : x ≠ 0 := by have h4 : (digs B v).getLast hne = x := by simp [hm]
                            rw [h4] at this; exact this
      rw [hm, val_append] at h3
      rw [hm]
      simp at h3 ⊢
      rw [← h3]
      have : B ^ m.length * 1 ≤ B ^ m.length * x := Nat.mul_le_mul_left _ (by omega)
      omega
    have h3 : B ^ l.length ≤ B ^ ((digs B (val B l)).length - 1) := Nat.pow_le_pow_right (by omega) (by omega)
    omega
  · exact h
theorem pow_digs_le {B : Nat} (hB : 2 ≤ B) {v : Nat} (hv : 0 < v) : B ^ ((digs B v).length - 1) ≤ v := by
  have hne : digs B v ≠ [] := by rw [digs_pos hB hv]; simp
  have := digs_last hB v hne
  have h3 := val_digs hB v
  obtain ⟨m, x, hm⟩ : ∃ m x, digs B v = m ++ [x] := ⟨_, _, (List.dropLast_concat_getLast hne).symm⟩
  have hx : x ≠ 0 := by
    have h4 : (digs B v).getLast hne = x := by simp [hm]
    rw [h4] at this; exact this
  rw [hm, val_append] at h3
  rw [hm]
  simp at h3 ⊢
  rw [← h3]
  have : B ^ m.length * 1 ≤ B ^ m.length * x := Nat.mul_le_mul_left _ (by omega)
  omega
theorem lt_pow_digs {B : Nat} (hB : 2 ≤ B) (v : Nat) : v < B ^ (digs B v).length := by
  have := val_lt (digs_lt hB v)
  rwa [val_digs hB] at this
theorem digs_length_of_lt {B : Nat} (hB : 2 ≤ B) {v n : Nat} (h : v < B ^ n) : (digs B v).length ≤ n := by
  rcases Nat.eq_zero_or_pos v with h0 | h0
  · subst h0; rw [digs_zero]; simp
  · have h1 := pow_digs_le hB h0
    rcases Nat.lt_or_ge n (digs B v).length with h2 | h2
    · have : B ^ n ≤ B ^ ((digs B v).length - 1) := Nat.pow_le_pow_right (by omega) (by omega)
      omega
    · exact h2
theorem digs_length_mono {B : Nat} (hB : 2 ≤ B) {m n : Nat} (h : m ≤ n) : (digs B m).length ≤ (digs B n).length :=
  digs_length_of_lt hB (Nat.lt_of_le_of_lt h (lt_pow_digs hB n))
/-- Orders: fewer digits. -/
theorem lt_of_digs_length {B : Nat} (hB : 2 ≤ B) {m n : Nat} (h : (digs B m).length < (digs B n).length) : m < n := by
  rcases Nat.lt_or_ge m n with h1 | h1
  · exact h1
  · have := digs_length_mono hB h1; omega
/-- Orders: the highest digit that is another one decides. -/
theorem val_lt_of {B : Nat} {l m : List Nat} (hl : ∀ x ∈ l, x < B) (hlen : l.length = m.length) {i : Nat} (hi : i < l.length) (hd : l.drop (i + 1) = m.drop (i + 1)) (h : l[i] < m[i]'(by omega)) : val B l < val B m := by
  have h1 := val_take_drop B l (n := i + 1) (by omega)
  have h2 := val_take_drop B m (n := i + 1) (by omega)
  rw [val_take_succ B hi] at h1
  rw [val_take_succ B (by omega)] at h2
  have h3 : val B (l.take i) < B ^ i := by
    have := val_lt (B := B) (l := l.take i) fun x hx => hl x (List.mem_of_mem_take hx)
    rwa [List.length_take, Nat.min_eq_left (by omega)] at this
  have h4 : B ^ i * (l[i] + 1) ≤ B ^ i * m[i]'(by omega) := Nat.mul_le_mul_left _ h
  rw [Nat.mul_add] at h4
  rw [hd] at h1
  omega
end Go.Proofs.YtldhmjfjbalakaaGreat
