/- Primes: Fermat's little theorem, and that a number is prime by a prime part of its predecessor (Pocklington). Nothing here speaks of the program. curve: twice the base of P-256, reckoned. -/
import Derived.Test.YtldhmjfjbalakaaCMul
import Derived.Test.YtldhmjfjbalakaaKBa
namespace Go.Proofs.Ytldhmjfjbalakaa
namespace Pm

def Prime (p : Nat) : Prop := 2 ≤ p ∧ ∀ d, d ∣ p → d = 1 ∨ d = p

theorem Prime.two {p : Nat} (h : Prime p) : 2 ≤ p := h.1
theorem Prime.coprime {p a : Nat} (h : Prime p) (ha : ¬ p ∣ a) : Nat.gcd p a = 1 := by
  rcases h.2 _ (Nat.gcd_dvd_left p a) with h1 | h1
  · exact h1
  · exact absurd (h1 ▸ Nat.gcd_dvd_right p a) ha
theorem Prime.dvd_mul {p a b : Nat} (h : Prime p) (hd : p ∣ a * b) : p ∣ a ∨ p ∣ b := by
  rcases Nat.decEq (a % p) 0 with h0 | h0
  · exact Or.inr (Nat.Coprime.dvd_of_dvd_mul_left (h.coprime (fun hh => h0 (Nat.mod_eq_zero_of_dvd hh))) hd)
  · exact Or.inl (Nat.dvd_of_mod_eq_zero h0)

/-- Binomial coefficients. -/
def ch : Nat → Nat → Nat
  | _, 0 => 1
  | 0, _ + 1 => 0
  | n + 1, k + 1 => ch n k + ch n (k + 1)
theorem ch_zero (n : Nat) : ch n 0 = 1 := by cases n <;> rfl
theorem ch_gt : ∀ {n k : Nat}, n < k → ch n k = 0
  | 0, k + 1, _ => rfl
  | n + 1, k + 1, h => by
    show ch n k + ch n (k + 1) = 0
    rw [ch_gt (by omega), ch_gt (by omega)]
theorem ch_self : ∀ n, ch n n = 1
  | 0 => rfl
  | n + 1 => by
    show ch n n + ch n (n + 1) = 1
    rw [ch_self n, ch_gt (by omega)]
theorem ch_mul : ∀ n k, (k + 1) * ch (n + 1) (k + 1) = (n + 1) * ch n k
  | 0, 0 => rfl
  | 0, k + 1 => by
    show (k + 1 + 1) * (ch 0 (k + 1) + ch 0 (k + 1 + 1)) = _
    rw [ch_gt (by omega), ch_gt (by omega)]
    simp
  | n + 1, 0 => by
    have := ch_mul n 0
    show 1 * (ch (n + 1) 0 + ch (n + 1) 1) = _
    rw [ch_zero] at *
    simp only [Nat.one_mul, Nat.mul_one] at *
    simp only [Nat.zero_add, Nat.one_mul] at this
    omega
  | n + 1, k + 1 => by
    have h1 := ch_mul n k
    have h2 := ch_mul n (k + 1)
    show (k + 1 + 1) * (ch (n + 1) (k + 1) + ch (n + 1) (k + 1 + 1)) = (n + 1 + 1) * ch (n + 1) (k + 1)
    have e : ch (n + 1) (k + 1) = ch n k + ch n (k + 1) := rfl
    rw [Nat.mul_add, h2, Nat.succ_mul (k + 1), h1, Nat.succ_mul (n + 1), e, Nat.mul_add]
    omega
/-- Sums. -/
def sm (f : Nat → Nat) : Nat → Nat
  | 0 => 0
  | n + 1 => sm f n + f n
theorem sm_add (f g : Nat → Nat) : ∀ n, sm (fun i => f i + g i) n = sm f n + sm g n
  | 0 => rfl
  | n + 1 => by simp only [sm]; rw [sm_add f g n]; omega
theorem sm_mul (f : Nat → Nat) (c : Nat) : ∀ n, sm (fun i => f i * c) n = sm f n * c
  | 0 => by simp [sm]
  | n + 1 => by simp only [sm]; rw [sm_mul f c n, Nat.add_mul]
theorem sm_head (f : Nat → Nat) : ∀ n, sm f (n + 1) = f 0 + sm (fun i => f (i + 1)) n
  | 0 => by simp [sm]
  | n + 1 => by
    have := sm_head f n
    simp only [sm] at *
    omega
theorem sm_congr {f g : Nat → Nat} : ∀ {n : Nat}, (∀ i, i < n → f i = g i) → sm f n = sm g n
  | 0, _ => rfl
  | n + 1, h => by simp only [sm]; rw [sm_congr (fun i hi => h i (by omega)), h n (by omega)]
theorem sm_dvd {f : Nat → Nat} {p : Nat} : ∀ {n : Nat}, (∀ i, i < n → p ∣ f i) → p ∣ sm f n
  | 0, _ => ⟨0, rfl⟩
  | n + 1, h => by simp only [sm]; exact Nat.dvd_add (sm_dvd (fun i hi => h i (by omega))) (h n (by omega))
theorem binom (a : Nat) : ∀ n, (a + 1) ^ n = sm (fun k => ch n k * a ^ k) (n + 1)
  | 0 => by simp [sm, ch]
  | n + 1 => by
    rw [Nat.pow_succ, binom a n, sm_head (fun k => ch (n + 1) k * a ^ k) (n + 1)]
    have e : sm (fun i => ch (n + 1) (i + 1) * a ^ (i + 1)) (n + 1) = sm (fun i => ch n i * a ^ i * a + ch n (i + 1) * a ^ (i + 1)) (n + 1) := by
      refine sm_congr (fun i _ => ?_)
      show (ch n i + ch n (i + 1)) * a ^ (i + 1) = _
      rw [Nat.add_mul, Nat.pow_succ a i, Nat.mul_assoc]
    rw [e, sm_add, sm_mul, Nat.mul_add, Nat.mul_one]
    have h2 := sm_head (fun k => ch n k * a ^ k) (n + 1)
    simp only [sm] at h2 ⊢
    rw [ch_gt (show n < n + 1 by omega)] at *
    rw [ch_zero] at *
    simp only [Nat.zero_mul, Nat.add_zero, Nat.pow_zero] at *
    omega
theorem ch_dvd {p k : Nat} (hp : Prime p) (h0 : 0 < k) (hk : k < p) : p ∣ ch p k := by
  obtain ⟨q, rfl⟩ : ∃ q, p = q + 1 := ⟨p - 1, by have := hp.two; omega⟩
  obtain ⟨j, rfl⟩ : ∃ j, k = j + 1 := ⟨k - 1, by omega⟩
  have h := ch_mul q j
  rcases hp.dvd_mul (a := j + 1) (b := ch (q + 1) (j + 1)) ⟨_, h⟩ with h1 | h1
  · exact absurd (Nat.le_of_dvd (by omega) h1) (by omega)
  · exact h1
/-- (a + 1)^p is a^p + 1 modulo p. -/
theorem frob {p : Nat} (hp : Prime p) (a : Nat) : (a + 1) ^ p % p = (a ^ p + 1) % p := by
  obtain ⟨q, rfl⟩ : ∃ q, p = q + 1 := ⟨p - 1, by have := hp.two; omega⟩
  rw [binom a (q + 1), sm_head]
  show (ch (q + 1) 0 * a ^ 0 + (sm (fun i => ch (q + 1) (i + 1) * a ^ (i + 1)) q + ch (q + 1) (q + 1) * a ^ (q + 1))) % (q + 1) = _
  obtain ⟨m, hm⟩ := sm_dvd (f := fun i => ch (q + 1) (i + 1) * a ^ (i + 1)) (p := q + 1) (n := q) (fun i hi => Nat.dvd_trans (ch_dvd hp (by omega) (by omega)) (Nat.dvd_mul_right _ _))
  rw [hm, ch_zero, ch_self, Nat.pow_zero, Nat.one_mul, Nat.one_mul]
  have : 1 + ((q + 1) * m + a ^ (q + 1)) = a ^ (q + 1) + 1 + (q + 1) * m := by omega
  rw [this, Nat.add_mul_mod_self_left]
theorem fermat0 {p : Nat} (hp : Prime p) : ∀ a, a ^ p % p = a % p
  | 0 => by rw [Nat.zero_pow (by have := hp.two; omega)]
  | a + 1 => by rw [frob hp a, Nat.add_mod, fermat0 hp a, ← Nat.add_mod]
theorem mod_eq_dvd {p a b : Nat} (hle : b ≤ a) (h : a % p = b % p) : p ∣ a - b := by
  have h1 := Nat.div_add_mod a p
  have h2 := Nat.div_add_mod b p
  refine ⟨a / p - b / p, ?_⟩
  rw [Nat.mul_sub]
  omega
theorem dvd_mod_eq {p a b : Nat} (hle : b ≤ a) (h : p ∣ a - b) : a % p = b % p := by
  obtain ⟨k, hk⟩ := h
  have : a = b + p * k := by omega
  rw [this, Nat.add_mul_mod_self_left]
/-- Fermat. -/
theorem fermat {p a : Nat} (hp : Prime p) (ha : ¬ p ∣ a) : a ^ (p - 1) % p = 1 := by
  have h2 := hp.two
  have hpos : 1 ≤ a ^ (p - 1) := Nat.pow_pos (by
    rcases Nat.eq_zero_or_pos a with h | h
    · exact absurd ⟨0, by omega⟩ ha
    · exact h)
  have h := fermat0 hp a
  have e : a ^ p = a * a ^ (p - 1) := by
    conv => lhs; rw [show p = p - 1 + 1 by omega]
    rw [Nat.pow_succ, Nat.mul_comm]
  have hd : p ∣ a * (a ^ (p - 1) - 1) := by
    rw [Nat.mul_sub, Nat.mul_one, ← e]
    refine mod_eq_dvd ?_ h
    rw [e]
    exact Nat.le_mul_of_pos_right _ hpos
  rcases hp.dvd_mul hd with h1 | h1
  · exact absurd h1 ha
  · have := dvd_mod_eq hpos h1
    rw [this, Nat.mod_eq_of_lt (by omega)]
/-- z^(p-2) is the inverse. -/
theorem inv_mul {p a : Nat} (hp : Prime p) (ha : ¬ p ∣ a) : a * (a ^ (p - 2) % p) % p = 1 := by
  have h2 := hp.two
  rw [Nat.mul_mod, Nat.mod_mod, ← Nat.mul_mod, Nat.mul_comm, ← Nat.pow_succ, show (p - 2).succ = p - 1 by omega]
  exact fermat hp ha

theorem exists_prime : ∀ n, 2 ≤ n → ∃ r, Prime r ∧ r ∣ n := by
  intro n
  induction n using Nat.strongRecOn with
  | ind n ih =>
    intro hn
    rcases Classical.em (Prime n) with h | h
    · exact ⟨n, h, Nat.dvd_refl n⟩
    · have : ∃ d, d ∣ n ∧ d ≠ 1 ∧ d ≠ n := Classical.byContradiction fun hc => h ⟨hn, fun d hd => Classical.byContradiction fun h2 => hc ⟨d, hd, fun e => h2 (Or.inl e), fun e => h2 (Or.inr e)⟩⟩
      obtain ⟨d, hd, h1, h2⟩ := this
      have hle := Nat.le_of_dvd (by omega) hd
      have h0 : d ≠ 0 := by rintro rfl; obtain ⟨k, hk⟩ := hd; omega
      obtain ⟨r, hr, hrd⟩ := ih d (by omega) (by omega)
      exact ⟨r, hr, Nat.dvd_trans hrd hd⟩
/-- No prime up to the square root divides: prime. -/
theorem prime_of {n : Nat} (hn : 2 ≤ n) (h : ∀ r, Prime r → r ∣ n → r * r ≤ n → False) : Prime n := by
  refine ⟨hn, fun d hd => Classical.byContradiction fun hc => ?_⟩
  have h1 : d ≠ 1 := fun e => hc (Or.inl e)
  have h2 : d ≠ n := fun e => hc (Or.inr e)
  obtain ⟨e, he⟩ := hd
  have hd0 : d ≠ 0 := by rintro rfl; omega
  have he0 : e ≠ 0 := by rintro rfl; omega
  have he1 : e ≠ 1 := by rintro rfl; omega
  have key : ∀ a b : Nat, n = a * b → a ≤ b → 2 ≤ a → False := by
    intro a b hab hle h2a
    obtain ⟨r, hr, hra⟩ := exists_prime a h2a
    have := Nat.le_of_dvd (by omega) hra
    exact h r hr (hab ▸ Nat.dvd_trans hra (Nat.dvd_mul_right _ _)) (by rw [hab]; exact Nat.mul_le_mul this (by omega))
  rcases Nat.le_total d e with hle | hle
  · exact key d e he hle (by omega)
  · exact key e d (by rw [he, Nat.mul_comm]) hle (by omega)
/-- Powers modulo a number, by squares. -/
def pw (m a : Nat) : Nat → Nat → Nat
  | 0, _ => 1 % m
  | k + 1, e => if e % 2 = 1 then pw m a k (e / 2) * pw m a k (e / 2) % m * a % m else pw m a k (e / 2) * pw m a k (e / 2) % m
theorem pw_eq {m a : Nat} : ∀ k e, e < 2 ^ k → pw m a k e = a ^ e % m
  | 0, e, h => by
    have : e = 0 := by omega
    subst this
    rfl
  | k + 1, e, h => by
    have hd : e / 2 < 2 ^ k := by rw [Nat.pow_succ] at h; omega
    have h1 := Nat.div_add_mod e 2
    simp only [pw]
    rw [pw_eq k (e / 2) hd]
    have sq : a ^ (e / 2) % m * (a ^ (e / 2) % m) % m = a ^ (2 * (e / 2)) % m := by
      rw [← Nat.mul_mod, ← Nat.pow_add]
      congr 2
      omega
    split
    · rename_i ho
      rw [sq, Nat.mod_mul_mod, ← Nat.pow_succ]
      congr 2
      omega
    · rw [sq]
      congr 2
      omega
theorem pow_dvd {r a k l : Nat} (h : a ^ k % r = 1 % r) : a ^ (k * l) % r = 1 % r := by
  rw [Nat.pow_mul, Nat.pow_mod, h, ← Nat.pow_mod, Nat.one_pow]
/-- If b^q = 1 and b^s = 1 modulo r, q and s without a common divisor, then b = 1. -/
theorem pow_gcd {r b : Nat} : ∀ (n q s : Nat), q + s ≤ n → b ^ q % r = 1 % r → b ^ s % r = 1 % r → b ^ Nat.gcd q s % r = 1 % r := by
  intro n
  induction n with
  | zero =>
    intro q s h _ hs
    have : q = 0 := by omega
    have : s = 0 := by omega
    subst q s
    rfl
  | succ n ih =>
    intro q s hn hq hs
    rcases Nat.eq_zero_or_pos q with rfl | h0
    · rw [Nat.gcd_zero_left]; exact hs
    rcases Nat.eq_zero_or_pos s with rfl | h1
    · rw [Nat.gcd_zero_right]; exact hq
    have sub : ∀ x y, x ≤ y → b ^ x % r = 1 % r → b ^ y % r = 1 % r → b ^ (y - x) % r = 1 % r := by
      intro x y hxy hx hy
      have : b ^ y = b ^ x * b ^ (y - x) := by rw [← Nat.pow_add]; congr 1; omega
      rw [this, Nat.mul_mod, hx, ← Nat.mul_mod, Nat.one_mul] at hy
      exact hy
    rcases Nat.le_total q s with hle | hle
    · have := ih q (s - q) (by omega) hq (sub q s hle hq hs)
      rwa [Nat.gcd_sub_self_right hle] at this
    · have := ih (q - s) s (by omega) (sub s q hle hs hq) hs
      rwa [Nat.gcd_sub_self_left hle] at this
/-- One prime part of the predecessor: a prime divisor goes round by it. -/
theorem part {n q a r : Nat} (hn : 2 ≤ n) (hq : Prime q) (hr : Prime r) (hrn : r ∣ n) (hqn : q ∣ n - 1) (h1 : a ^ (n - 1) % n = 1) (h2 : Nat.gcd (a ^ ((n - 1) / q) % n + (n - 1)) n = 1) : q ∣ r - 1 := by
  have hr2 := hr.two
  refine Classical.byContradiction fun hno => ?_
  have hg := hq.coprime hno
  obtain ⟨m, hm⟩ := hqn
  have hm' : (n - 1) / q = m := by rw [hm]; exact Nat.mul_div_cancel_left _ (by have := hq.two; omega)
  rw [hm'] at h2
  obtain ⟨c, hc⟩ := hrn
  have h1r : a ^ (n - 1) % r = 1 % r := by
    have h : a ^ (n - 1) % n % r = 1 % r := by rw [h1]
    rwa [show a ^ (n - 1) % n % r = a ^ (n - 1) % r by rw [hc, Nat.mod_mul_right_mod]] at h
  have hbq : (a ^ m) ^ q % r = 1 % r := by rw [← Nat.pow_mul, Nat.mul_comm, ← hm]; exact h1r
  have hra : ¬ r ∣ a ^ m := by
    intro hd
    have : r ∣ (a ^ m) ^ q := by
      obtain ⟨t, rfl⟩ : ∃ t, q = t + 1 := ⟨q - 1, by have := hq.two; omega⟩
      exact Nat.dvd_trans hd (Nat.dvd_mul_left _ _)
    rw [Nat.mod_eq_zero_of_dvd this, Nat.mod_eq_of_lt (by omega)] at hbq
    omega
  have hf := fermat hr hra
  have hb := pow_gcd _ q (r - 1) (Nat.le_refl _) hbq (by rw [hf]; exact (Nat.mod_eq_of_lt (by omega)).symm)
  rw [hg, Nat.pow_one] at hb
  have hd : r ∣ a ^ m % n + (n - 1) := by
    refine Nat.dvd_of_mod_eq_zero ?_
    rw [Nat.add_mod, show a ^ m % n % r = 1 % r by rw [hc, Nat.mod_mul_right_mod]; exact hb, ← Nat.add_mod, show 1 + (n - 1) = n by omega, hc]
    exact Nat.mul_mod_right r c
  have := Nat.dvd_gcd hd ⟨c, hc⟩
  rw [h2] at this
  have := Nat.le_of_dvd (by omega) this
  omega
/-- Pocklington: distinct primes, together above the square root. -/
theorem pock1 {n q a : Nat} (hn : 2 ≤ n) (hq : Prime q) (hqn : q ∣ n - 1) (h1 : a ^ (n - 1) % n = 1) (h2 : Nat.gcd (a ^ ((n - 1) / q) % n + (n - 1)) n = 1) (hs : n < (q + 1) * (q + 1)) : Prime n := by
  refine prime_of hn fun r hr hrn hle => ?_
  have hd := part hn hq hr hrn hqn h1 h2
  have := hr.two
  have := Nat.le_of_dvd (by omega) hd
  have := Nat.mul_le_mul (show q + 1 ≤ r by omega) (show q + 1 ≤ r by omega)
  omega
theorem pock2 {n q s a : Nat} (hn : 2 ≤ n) (hq : Prime q) (hs : Prime s) (hne : q ≠ s) (hqn : q ∣ n - 1) (hsn : s ∣ n - 1) (h1 : a ^ (n - 1) % n = 1) (h2 : Nat.gcd (a ^ ((n - 1) / q) % n + (n - 1)) n = 1) (h3 : Nat.gcd (a ^ ((n - 1) / s) % n + (n - 1)) n = 1)
    (hb : n < (q * s + 1) * (q * s + 1)) : Prime n := by
  refine prime_of hn fun r hr hrn hle => ?_
  have hd := part hn hq hr hrn hqn h1 h2
  have hd' := part hn hs hr hrn hsn h1 h3
  have := hr.two
  have hg : Nat.gcd q s = 1 := hq.coprime fun h => by
    rcases hs.2 q h with h | h
    · have := hq.two; omega
    · exact hne h
  have := Nat.le_of_dvd (by omega) (Nat.Coprime.mul_dvd_of_dvd_of_dvd hg hd hd')
  have := Nat.mul_le_mul (show q * s + 1 ≤ r by omega) (show q * s + 1 ≤ r by omega)
  omega
/-- Trial. -/
def trial (n : Nat) : Nat → Nat → Bool
  | 0, _ => true
  | k + 1, d => n % d != 0 && trial n k (d + 1)
theorem trial_ok {n : Nat} : ∀ {k d : Nat}, trial n k d = true → ∀ e, d ≤ e → e < d + k → ¬ e ∣ n
  | 0, _, _, _, _, _ => by omega
  | k + 1, d, h, e, h1, h2 => by
    simp only [trial, Bool.and_eq_true, bne_iff_ne] at h
    rcases Nat.lt_or_ge d e with hlt | hge
    · exact trial_ok h.2 e hlt (by omega)
    · have : e = d := by omega
      subst this
      exact fun hd => h.1 (Nat.mod_eq_zero_of_dvd hd)
theorem prime_trial {n k : Nat} (hn : 2 ≤ n) (h : trial n k 2 = true) (hk : n < (k + 2) * (k + 2)) : Prime n :=
  prime_of hn fun r hr hrn hle => trial_ok h r hr.two (by
    rcases Nat.lt_or_ge r (2 + k) with h | h
    · exact h
    · have := Nat.mul_le_mul (show k + 2 ≤ r by omega) (show k + 2 ≤ r by omega)
      omega) hrn
end Pm
end Go.Proofs.Ytldhmjfjbalakaa

namespace Go.Proofs.Ytldhmjfjbalakaa
open Go.RowKit

/-- down, by powers modulo the prime. -/
def downE (M k x y z : Nat) : Option (Nat × Nat) := if z % M = 0 then none else some (mm M x (mm M (Pm.pw M z k (M - 2)) (Pm.pw M z k (M - 2))) % M, mm M y (mm M (mm M (Pm.pw M z k (M - 2)) (Pm.pw M z k (M - 2))) (Pm.pw M z k (M - 2))) % M)
theorem down_eval {M k x y z : Nat} (hk : M - 2 < 2 ^ k) : downP M x y z = downE M k x y z := by
  unfold downP downE
  split
  · rfl
  · rw [Pm.pw_eq k _ hk]
    have h1 : mm M (z ^ (M - 2)) (z ^ (M - 2)) = mm M (z ^ (M - 2) % M) (z ^ (M - 2) % M) := by simp only [mm]; rw [← Nat.mul_mod]
    have h2 : ∀ a, mm M a (z ^ (M - 2)) = mm M a (z ^ (M - 2) % M) := fun a => by simp only [mm]; rw [Nat.mul_mod, Nat.mul_mod a (z ^ (M - 2) % M), Nat.mod_mod]
    simp only [h1, h2]
def bx : Nat := 48439561293906451759052585252797914202762949526041747995844080717082404635286
def by_ : Nat := 36134250956749795798585127919587881956611106672985015071877198253568414405109
def x2 : Nat := 56515219790691171413109057904011688695424810155802929973526481321309856242040
def y2 : Nat := 3377031843712258259223711451491452598088675519751548567112458094635497583569
def p256 : Nat := 115792089210356248762697446949407573530086143415290314195533631308867097853951
theorem c256_M : c256.M = p256 := by kernel_rfl
theorem c256_x : val 18446744073709551616 c256.xl = bx := by kernel_rfl
theorem c256_y : val 18446744073709551616 c256.yl = by_ := by kernel_rfl
theorem on_base : onQ c256 false bx by_ = true := by kernel_rfl
theorem on_two : onQ c256 false x2 y2 = true := by kernel_rfl
theorem mul_two : mulC c256 false bx by_ 2 = some (some (x2, y2)) := by
  rw [mulC, if_pos on_base, if_pos (by decide +kernel)]
  rw [downT, down_eval (k := 256) (by rw [c256_M]; decide +kernel)]
  kernel_rfl
theorem add_two : addC c256 false bx by_ false bx by_ = some (some (x2, y2)) := by
  rw [addC, if_pos on_base, if_pos on_base]
  rw [downT, down_eval (k := 256) (by rw [c256_M]; decide +kernel)]
  kernel_rfl
def eb : List Nat := 4 :: (bytesOf x2 32 ++ bytesOf y2 32)
theorem eb_len : eb.length = 65 := by kernel_rfl
theorem enc_two : encC c256 false x2 y2 = some eb := by
  rw [encC, if_pos on_two]
  rfl
theorem dec_two : decC c256 eb = some (some (x2, y2)) := by kernel_rfl
theorem digs_x2 : digs 18446744073709551616 x2 = [11964737083406719352, 13873736548487404341, 9967090510939364035, 9003393950442278782] := by
  rw [show x2 = val 18446744073709551616 [11964737083406719352, 13873736548487404341, 9967090510939364035, 9003393950442278782] by kernel_rfl]
  exact digs_val (by omega) (by decide) (by decide)
theorem nl_len : c256.nl.length = 4 := rfl
end Go.Proofs.Ytldhmjfjbalakaa
