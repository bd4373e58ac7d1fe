/- Montgomery's product on a row of fixed length: plain law. -/
import Derived.Test.YtldhmjfjbalakaaGreatMPlain
namespace Go.Proofs.YtldhmjfjbalakaaGreat

/-- Behind i rounds: what the row's number is. -/
def MontT (B M : Nat) (a b : List Nat) (T i : Nat) : Prop := T < M + val B b ∧ ∃ k, T * B ^ i = val B (a.take i) * val B b + k * M
theorem MontT.zero {B M : Nat} (a b : List Nat) (hM : 0 < M) : MontT B M a b 0 0 := ⟨by omega, 0, by simp⟩
theorem MontT.step {B M inv i q T T2 T4 : Nat} {a b : List Nat} (hB : 2 ≤ B) (h : MontT B M a b T i) (ha : dg a i < B) (hq : q = (T + dg a i * val B b) % B * inv % B) (h2 : T2 = T + dg a i * val B b + q * M) (h4 : T2 = B * T4) : MontT B M a b T4 (i + 1) := by
  have hq' : q < B := by rw [hq]; exact Nat.mod_lt _ (by omega)
  obtain ⟨hb, k, hk⟩ := h
  refine ⟨mont_bound (by omega) h2 hb ha hq' h4, k + q * B ^ i, ?_⟩
  rw [Nat.pow_succ, show T4 * (B ^ i * B) = (B * T4) * B ^ i by rw [Nat.mul_comm (B ^ i), ← Nat.mul_assoc, Nat.mul_comm T4], ← h4]
  exact mont_eq h2 hk (val_take_getD B a i)

/-- f times the first j limbs of b are added to those of t; o is the row, c the carry. -/
def FirstAt (B : Nat) (t b o : List Nat) (f j c : Nat) : Prop := o.length = t.length ∧ (∀ p, j ≤ p → dg o p = dg t p) ∧ val B (o.take j) + B ^ j * c = val B (t.take j) + f * val B (b.take j)
theorem FirstAt.zero (B : Nat) (t b : List Nat) (f : Nat) : FirstAt B t b t f 0 0 := ⟨rfl, fun _ _ => rfl, by simp⟩
theorem FirstAt.step {B f j c s c' : Nat} {t b o : List Nat} (h : FirstAt B t b o f j c) (hj : j < t.length) (he : s + B * c' = dg o j + f * dg b j + c) : FirstAt B t b (o.set j s) f (j + 1) c' := by
  obtain ⟨h1, h2, h3⟩ := h
  refine ⟨by simpa using h1, fun p hp => by rw [getD_set_ne (by omega)]; exact h2 p (by omega), ?_⟩
  rw [val_take_set B (by omega), val_take_getD, val_take_getD, Nat.pow_succ, Nat.mul_assoc]
  have e := congrArg (fun z => B ^ j * z) he
  simp only [Nat.mul_add] at e
  rw [h2 j (Nat.le_refl _)] at e
  have e2 : B ^ j * (f * dg b j) = f * (B ^ j * dg b j) := Nat.mul_left_comm _ _ _
  rw [Nat.mul_add f]
  omega
theorem FirstAt.fin {B f n c s c' : Nat} {t b o : List Nat} (h : FirstAt B t b o f n c) (hn : n + 2 ≤ t.length) (hb : b.take n = b ∨ val B (b.take n) = val B b) (he : s + B * c' = dg o n + c) :
    ((o.set n s).set (n + 1) c').length = t.length ∧ val B (((o.set n s).set (n + 1) c').take (n + 2)) = val B (t.take (n + 1)) + f * val B b := by
  obtain ⟨h1, h2, h3⟩ := h
  have hb' : val B (b.take n) = val B b := by rcases hb with h | h; · rw [h]
                                              · exact h
  refine ⟨by simpa using h1, ?_⟩
  rw [val_take_set B (by simp; omega), val_take_set B (by omega), val_take_getD B t n, Nat.pow_succ]
  have e := congrArg (fun z => B ^ n * z) he
  simp only [Nat.mul_add] at e
  rw [h2 n (Nat.le_refl _), ← Nat.mul_assoc] at e
  rw [hb'] at h3
  omega

/-- u times the modulus is added, one limb is let go: k limbs of the row have come. -/
def ShiftAt (B : Nat) (t m o : List Nat) (u k c : Nat) : Prop := o.length = t.length ∧ (∀ p, k ≤ p → dg o p = dg t p) ∧ B * val B (o.take k) + B ^ (k + 1) * c = val B (t.take (k + 1)) + u * val B (m.take (k + 1))
theorem ShiftAt.zero {B u c : Nat} {t m : List Nat} (he : B * c = dg t 0 + u * dg m 0) : ShiftAt B t m t u 0 c := by
  refine ⟨rfl, fun _ _ => rfl, ?_⟩
  rw [val_take_getD, val_take_getD]
  simp
  exact he
theorem ShiftAt.step {B u k c s c' : Nat} {t m o : List Nat} (h : ShiftAt B t m o u k c) (hk : k < t.length) (he : s + B * c' = dg o (k + 1) + u * dg m (k + 1) + c) : ShiftAt B t m (o.set k s) u (k + 1) c' := by
  obtain ⟨h1, h2, h3⟩ := h
  refine ⟨by simpa using h1, fun p hp => by rw [getD_set_ne (by omega)]; exact h2 p (by omega), ?_⟩
  rw [val_take_set B (by omega), val_take_getD B t (k + 1), val_take_getD B m (k + 1)]
  have e := congrArg (fun z => B ^ (k + 1) * z) he
  simp only [Nat.mul_add] at e
  rw [h2 (k + 1) (by omega)] at e
  have e2 : B ^ (k + 1) * (u * dg m (k + 1)) = u * (B ^ (k + 1) * dg m (k + 1)) := Nat.mul_left_comm _ _ _
  have e3 : B ^ (k + 1) * (B * c') = B ^ (k + 1 + 1) * c' := by rw [← Nat.mul_assoc, ← Nat.pow_succ]
  have e4 : B * (B ^ k * s) = B ^ (k + 1) * s := by rw [← Nat.mul_assoc, Nat.mul_comm B, ← Nat.pow_succ]
  rw [Nat.mul_add B, Nat.mul_add u, e4]
  omega
theorem ShiftAt.fin {B u k c s c' : Nat} {t m o : List Nat} (h : ShiftAt B t m o u k c) (hn : k + 3 ≤ t.length) (hm : val B (m.take (k + 1)) = val B m) (he : s + B * c' = dg o (k + 1) + c) :
    ((o.set k s).set (k + 1) (dg o (k + 2) + c')).length = t.length ∧ B * val B (((o.set k s).set (k + 1) (dg o (k + 2) + c')).take (k + 2)) = val B (t.take (k + 3)) + u * val B m := by
  obtain ⟨h1, h2, h3⟩ := h
  refine ⟨by simpa using h1, ?_⟩
  rw [val_take_set B (by simp; omega), val_take_set B (by omega), val_take_getD B t (k + 2), val_take_getD B t (k + 1), h2 (k + 2) (by omega)]
  have e := congrArg (fun z => B ^ (k + 1) * z) he
  simp only [Nat.mul_add] at e
  rw [h2 (k + 1) (by omega)] at e
  rw [hm] at h3
  have e3 : B ^ (k + 1) * (B * c') = B ^ (k + 2) * c' := by rw [← Nat.mul_assoc, ← Nat.pow_succ]
  have e4 : B * (B ^ k * s) = B ^ (k + 1) * s := by rw [← Nat.mul_assoc, Nat.mul_comm B, ← Nat.pow_succ]
  have e5 : B * (B ^ (k + 1) * (dg t (k + 2) + c')) = B ^ (k + 2) * dg t (k + 2) + B ^ (k + 2) * c' := by rw [← Nat.mul_assoc, Nat.mul_comm B, ← Nat.pow_succ, Nat.mul_add]
  rw [Nat.mul_add B, Nat.mul_add B, e4, e5]
  omega
end Go.Proofs.YtldhmjfjbalakaaGreat
