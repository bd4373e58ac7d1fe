/- Plain arithmetic of bits and bytes of numbers: nothing of the program. What limb.Bits, Bit and Bytes compute. Slices of one limb; slices in whatever block. Plain arithmetic of shifts of numbers: nothing of the program. What limb.Shl and Shr compute. -/
import Derived.Test.YtldhmjfjbalakaaKAb
import Derived.Lib.BitFns
import Derived.Lib.ItoaNum
import Derived.Test.YtldhmjfjbalakaaQuo
import Derived.Test.YtldhmjfjbalakaaKAd
import Derived.RegionTactic
import Derived.ChangeAlike
namespace Go.Proofs.Ytldhmjfjbalakaa

/-- How many bits a number has. -/
def nbits (x : Nat) : Nat := if x = 0 then 0 else x.log2 + 1
theorem nbits_zero : nbits 0 = 0 := rfl
theorem nbits_eq {x k : Nat} (h1 : 2 ^ k ≤ x) (h2 : x < 2 ^ (k + 1)) : nbits x = k + 1 := by
  have hx : x ≠ 0 := by have := Nat.pow_pos (n := k) (show 0 < 2 by omega); omega
  have h3 : k ≤ x.log2 := (Nat.le_log2 hx).2 h1
  have h4 : x.log2 < k + 1 := (Nat.log2_lt hx).2 h2
  simp [nbits, hx]
  omega
theorem nbits_bounds {x : Nat} (hx : x ≠ 0) : 2 ^ (nbits x - 1) ≤ x ∧ x < 2 ^ nbits x ∧ 1 ≤ nbits x := by
  simp only [nbits, hx, if_false, Nat.add_sub_cancel]
  exact ⟨Nat.log2_self_le hx, Nat.lt_log2_self, by omega⟩
theorem nbits_le {x k : Nat} (h : x < 2 ^ k) : nbits x ≤ k := by
  rcases Nat.eq_zero_or_pos x with rfl | h0
  · simp [nbits]
  · obtain ⟨h1, h2, h3⟩ := nbits_bounds (Nat.pos_iff_ne_zero.1 h0)
    rcases Nat.lt_or_ge k (nbits x) with h4 | h4
    · have : 2 ^ k ≤ 2 ^ (nbits x - 1) := Nat.pow_le_pow_right (by omega) (by omega)
      omega
    · exact h4
theorem lt_of_nbits {x k : Nat} (h : nbits x ≤ k) : x < 2 ^ k := by
  rcases Nat.eq_zero_or_pos x with rfl | h0
  · exact Nat.pow_pos (by omega)
  · obtain ⟨_, h2, _⟩ := nbits_bounds (Nat.pos_iff_ne_zero.1 h0)
    exact Nat.lt_of_lt_of_le h2 (Nat.pow_le_pow_right (by omega) h)
/-- Bits, by the highest digit to the base 2^m. -/
theorem nbits_top {m : Nat} (hm : 0 < m) {x : Nat} (hx : 0 < x) {k : Nat} (hk : 0 < k) (h1 : 2 ^ (k - 1) ≤ dg (digs (2 ^ m) x) ((digs (2 ^ m) x).length - 1)) (h2 : dg (digs (2 ^ m) x) ((digs (2 ^ m) x).length - 1) < 2 ^ k) :
    nbits x = m * ((digs (2 ^ m) x).length - 1) + k := by
  have hB : 2 ≤ 2 ^ m := by
    have : 2 ^ 1 ≤ 2 ^ m := Nat.pow_le_pow_right (by omega) hm
    simpa using this
  have hv := val_digs hB x
  have hlt := digs_lt hB x
  have hne : 0 < (digs (2 ^ m) x).length := by rw [digs_pos hB hx]; simp
  generalize digs (2 ^ m) x = l at *
  have h3 := val_take_getD (2 ^ m) l (l.length - 1)
  rw [show l.length - 1 + 1 = l.length by omega, List.take_length, hv] at h3
  have h4 := val_lt (B := 2 ^ m) (l := l.take (l.length - 1)) fun y hy => hlt y (List.mem_of_mem_take hy)
  rw [List.length_take, Nat.min_eq_left (by omega)] at h4
  have h5 : (2 ^ m) ^ (l.length - 1) = 2 ^ (m * (l.length - 1)) := by rw [Nat.pow_mul]
  rw [h5] at h3 h4
  generalize m * (l.length - 1) = e at *
  generalize dg l (l.length - 1) = t at *
  obtain ⟨j, rfl⟩ : ∃ j, k = j + 1 := ⟨k - 1, by omega⟩
  rw [Nat.add_sub_cancel] at h1
  have h6 : 2 ^ e * 2 ^ j ≤ 2 ^ e * t := Nat.mul_le_mul_left _ h1
  have h7 : 2 ^ e * (t + 1) ≤ 2 ^ e * 2 ^ (j + 1) := Nat.mul_le_mul_left _ h2
  rw [← Nat.pow_add] at h6 h7
  rw [Nat.mul_add] at h7
  exact nbits_eq (k := e + j) (by omega) (by rw [show e + j + 1 = e + (j + 1) by omega]; omega)
theorem nbits_small {x : Nat} (hx : 0 < x) (h : x < 18446744073709551616) : nbits x = Lib.bitLen x := by
  have h1 := Lib.bitLenAux_bounds 64 x h (by omega)
  obtain ⟨j, hj⟩ : ∃ j, Lib.bitLen x = j + 1 := ⟨Lib.bitLen x - 1, by have := h1.1; unfold Lib.bitLen; omega⟩
  rw [hj]
  unfold Lib.bitLen at hj
  rw [hj] at h1
  exact nbits_eq h1.2.1 h1.2.2
/-- What is left of a number when its lowest k digits and j bits of the next are cut: seen from the digit. -/
theorem val_shift {m : Nat} (l : List Nat) (hl : ∀ x ∈ l, x < 2 ^ m) (k j : Nat) (hj : j ≤ m) : ∃ r, val (2 ^ m) l / 2 ^ (m * k + j) = dg l k / 2 ^ j + 2 ^ (m - j) * r := by
  refine ⟨val (2 ^ m) (l.drop (k + 1)), ?_⟩
  have h1 : val (2 ^ m) l = val (2 ^ m) (l.take k) + (2 ^ m) ^ k * (dg l k + 2 ^ m * val (2 ^ m) (l.drop (k + 1))) := by
    rcases Nat.lt_or_ge k l.length with h | h
    · have := val_take_drop (2 ^ m) l (Nat.le_of_lt h)
      rw [this, List.drop_eq_getElem_cons h, val_cons, dg, getD_eq' h]
    · rw [List.take_of_length_le h, List.drop_eq_nil_of_le (by omega), dg, List.getD_eq_getElem?_getD, List.getElem?_eq_none h]
      simp
  have h2 : val (2 ^ m) (l.take k) < (2 ^ m) ^ k := by
    have h3 := val_lt (B := 2 ^ m) (l := l.take k) fun y hy => hl y (List.mem_of_mem_take hy)
    refine Nat.lt_of_lt_of_le h3 (Nat.pow_le_pow_right (Nat.pow_pos (by omega)) ?_)
    rw [List.length_take]; omega
  rw [Nat.pow_add, Nat.pow_mul, ← Nat.div_div_eq_div_mul, h1, Nat.add_mul_div_left _ _ (Nat.pow_pos (Nat.pow_pos (by omega))), Nat.div_eq_of_lt h2, Nat.zero_add]
  have e : 2 ^ m = 2 ^ j * 2 ^ (m - j) := by rw [← Nat.pow_add, show j + (m - j) = m by omega]
  generalize hv : val (2 ^ m) (l.drop (k + 1)) = v
  rw [e, Nat.mul_assoc, Nat.add_mul_div_left _ _ (Nat.pow_pos (by omega))]
/-- One bit. -/
theorem val_bit {m : Nat} (l : List Nat) (hl : ∀ x ∈ l, x < 2 ^ m) (k j : Nat) (hj : j < m) : val (2 ^ m) l / 2 ^ (m * k + j) % 2 = dg l k / 2 ^ j % 2 := by
  obtain ⟨r, hr⟩ := val_shift l hl k j (by omega)
  rw [hr, show m - j = (m - j - 1) + 1 by omega, Nat.pow_succ, Nat.mul_right_comm, Nat.add_mul_mod_self_right]
/-- One byte. -/
theorem val_byte {m : Nat} (l : List Nat) (hl : ∀ x ∈ l, x < 2 ^ m) (k j : Nat) (hj : j + 8 ≤ m) : val (2 ^ m) l / 2 ^ (m * k + j) % 256 = dg l k / 2 ^ j % 256 := by
  obtain ⟨r, hr⟩ := val_shift l hl k j (by omega)
  rw [hr, show m - j = (m - j - 8) + 8 by omega, Nat.pow_add, show (2 : Nat) ^ 8 = 256 by rfl, Nat.mul_right_comm, Nat.add_mul_mod_self_right]
/-- The n lowest bytes, the highest first. -/
def bytesOf (x n : Nat) : List Nat := (List.range n).map fun i => x / 2 ^ (8 * (n - 1 - i)) % 256
theorem bytesOf_length (x n : Nat) : (bytesOf x n).length = n := by simp [bytesOf]
theorem bytesOf_lt (x n : Nat) : ∀ b ∈ bytesOf x n, b < 256 := by
  intro b hb
  obtain ⟨i, _, rfl⟩ := List.mem_map.1 hb
  exact Nat.mod_lt _ (by omega)
theorem bytesOf_get {x n i : Nat} (h : i < n) : (bytesOf x n)[i]? = some (x / 2 ^ (8 * (n - 1 - i)) % 256) := by simp [bytesOf, h]
end Go.Proofs.Ytldhmjfjbalakaa

namespace Go.Proofs.Ytldhmjfjbalakaa
open Go.RowKit

theorem dg_last_pos {x : Nat} (hx : 0 < x) : 0 < dg (digs 18446744073709551616 x) ((digs 18446744073709551616 x).length - 1) := by
  have hne : digs 18446744073709551616 x ≠ [] := by rw [digs_pos (by omega) hx]; simp
  have h := digs_last (B := 18446744073709551616) (by omega) x hne
  have hpos := List.length_pos_iff.2 hne
  rw [List.getLast_eq_getElem] at h
  rw [dg, getD_eq' (by omega)]
  omega
theorem nbits_limbs {x : Nat} (hx : 0 < x) : nbits x = 64 * ((digs 18446744073709551616 x).length - 1) + Lib.bitLen (dg (digs 18446744073709551616 x) ((digs 18446744073709551616 x).length - 1)) := by
  have h0 := dg_last_pos hx
  have h1 := getD_lt (B := 18446744073709551616) (by omega) (digs_lt (by omega) x) ((digs 18446744073709551616 x).length - 1)
  have h2 := Lib.bitLenAux_bounds 64 _ h1 (by omega)
  have h3 := nbits_top (m := 64) (by omega) hx (k := Lib.bitLen (dg (digs 18446744073709551616 x) ((digs 18446744073709551616 x).length - 1))) h2.1 h2.2.1 h2.2.2
  exact h3

set_option maxRecDepth 100000 in
set_option maxHeartbeats 1000000 in
theorem bits_any (P : Nat → Prop) (A : Option Addr) (c : Nat) (a : List Nat) (w : World) (h : RN w P A c a) :
    Calls Try.prog 44 #[.slice A a.length c] w fun e w' => e = .returned (.int .i64 (nbits (val 18446744073709551616 a) : Int)) ∧ w = w' := by
  have ta := trim_any P A c a w h
  replace h := h.trim
  generalize val 18446744073709551616 a = x at *
  rcases Nat.eq_zero_or_pos x with rfl | hx
  · rw [digs_zero] at ta
    have Ta := Lib.hid ta
    clear ta
    go_enter Try.func44, Try.ntmps44
    go_wp2_with fail
    refine Ta.out.mono ?_
    rintro e w1 ⟨rfl, rfl⟩
    go_wp2
    go_ret
    exact ⟨rfl, rfl⟩
  · have hb := nbits_limbs hx
    have hlt := h.2.dgLt
    obtain ⟨h1, h2, h3⟩ := h.cap
    have hne : 0 < (digs 18446744073709551616 x).length := by rw [digs_pos (by omega) hx]; simp
    generalize digs 18446744073709551616 x = l at *
    obtain ⟨n, hn⟩ : ∃ n, l.length = n + 1 := ⟨l.length - 1, by omega⟩
    obtain ⟨ad, rfl, _, q1⟩ := h.at_ (i := n) (by omega)
    rw [hn, Nat.add_sub_cancel] at hb
    have hl := hlt n
    have hbl : Lib.bitLen (dg l n) ≤ 64 := Lib.bitLen_le _ 64 (by omega) hl
    have hlen := Try.bits_Len64 (dg l n : Int) w (by omega) (by omega)
    rw [Int.toNat_natCast] at hlen
    generalize Lib.bitLen (dg l n) = k at *
    have Hlen := Lib.hid hlen
    have Hb := Lib.hid hb
    rw [hn] at ta h1 h3
    have Ta := Lib.hid ta
    clear ta hb hlen hl hlt hne hx hn h
    go_enter Try.func44, Try.ntmps44
    go_wp2_with fail
    refine Ta.out.mono ?_
    rintro e w1 ⟨rfl, rfl⟩
    go_wp2_with fail
    refine Hlen.out.mono ?_
    rintro e w1 ⟨rfl, rfl⟩
    go_wp2
    go_ret
    exact ⟨ret_int (by rw [Hb.out]; simp), rfl⟩

/-- One bit of a number; none below 0. -/
def bitOf (x : Nat) (i : Int) : Nat := if i < 0 then 0 else x / 2 ^ i.toNat % 2
theorem mask1 (x : Nat) : x &&& 1 = x % 2 := Nat.and_one_is_mod x
theorem and_one (d j : Nat) (hd : d < 18446744073709551616) : bits .and .u64 ((d : Int) / 2 ^ j) 1 = ((d / 2 ^ j % 2 : Nat) : Int) := by
  have h0 : d / 2 ^ j ≤ d := Nat.div_le_self d _
  have h := bits_and_u64_nat (d / 2 ^ j) 1 (by omega) (by omega)
  rw [mask1] at h
  rw [← h]
  simp

set_option maxRecDepth 100000 in
set_option maxHeartbeats 1000000 in
theorem bit_any (P : Nat → Prop) (A : Option Addr) (c : Nat) (a : List Nat) (i : Int) (w : World) (h : RN w P A c a) (hi : i ≤ 9223372036854775807) :
    Calls Try.prog 82 #[.slice A a.length c, .int .i64 i] w fun e w' => e = .returned (.int .u64 (bitOf (val 18446744073709551616 a) i : Int)) ∧ w = w' := by
  obtain ⟨h1, h2, h3⟩ := h.cap
  by_cases h0 : i < 0
  · have hb := Lib.hid (show bitOf (val 18446744073709551616 a) i = 0 by simp [bitOf, h0])
    go_enter Try.func82, Try.ntmps82
    go_wp2
    go_ret
    rw [hb.out]
    exact ⟨rfl, rfl⟩
  · obtain ⟨n, rfl⟩ : ∃ n : Nat, i = (n : Int) := ⟨i.toNat, by omega⟩
    obtain ⟨k, j, hj, hn⟩ : ∃ k j, j < 64 ∧ n = 64 * k + j := ⟨n / 64, n % 64, by omega, by omega⟩
    have hb : bitOf (val 18446744073709551616 a) (n : Int) = dg a k / 2 ^ j % 2 := by
      have := val_bit (m := 64) a h.2.1 k j hj
      rw [bitOf, if_neg h0, Int.toNat_natCast, hn]
      exact this
    have e1 : (n : Int) / 64 = (k : Int) := by omega
    have e2 : (n : Int) % 64 = (j : Int) := by omega
    have e4 : IntKind.i64.wrap ((n : Int) / 64) = (k : Int) := by rw [e1]; exact IntWalk.i64_in _ (by omega)
    by_cases hk : k < a.length
    · obtain ⟨ad, rfl, _, q1⟩ := h.at_ hk
      have hd := h.2.dgLt k
      have e3 := and_one (dg a k) j hd
      have hj' : (j : Int) < 64 := by omega
      have hk' : (k : Int) < (a.length : Int) := by omega
      have Hb := Lib.hid hb
      clear hb hn hd h hi
      go_enter Try.func82, Try.ntmps82
      go_wp2
      go_ret
      exact ⟨ret_int (by rw [Hb.out]; simp), rfl⟩
    · have hd : dg a k = 0 := dg_none (by omega)
      rw [hd, Nat.zero_div] at hb
      have Hb := Lib.hid hb
      have hk' : ¬ (k : Int) < (a.length : Int) := by omega
      have hk2 : (a.length : Int) ≤ (k : Int) := by omega
      have hkb : (k : Int) ≤ 144115188075855871 := by omega
      clear hb hn hd h hi
      go_enter Try.func82, Try.ntmps82
      go_wp2
      go_ret
      rw [Hb.out]
      exact ⟨rfl, rfl⟩
end Go.Proofs.Ytldhmjfjbalakaa

namespace Go.Proofs.Ytldhmjfjbalakaa
open Go.RowKit

theorem RN.one (w : World) (x : Nat) (hx : x < 18446744073709551616) : RN (w.alloc (.cells #[.int .u64 (x : Int)] 72)) (In w.heap.size (w.heap.size + 1)) (some ⟨w.heap.size, 0, none⟩) 1 [x] :=
  ⟨RS.fresh #[.int .u64 (x : Int)] 72 1 1 rfl (by unfold maxLen; omega) ⟨Nat.le_refl _, by omega⟩, by simpa [Lim] using hx⟩
theorem val_one (x : Nat) : val 18446744073709551616 [x] = x := by simp
/-- The slice reads as the limbs l, in whatever block there is. -/
abbrev RU (w : World) (A : Option Addr) (c : Nat) (l : List Nat) : Prop := RN w (fun b => b < w.heap.size) A c l
theorem RN.up {w w' : World} {A : Option Addr} {c : Nat} {l : List Nat} (h : RU w A c l) (hB : Below w.heap.size w w') : RU w' A c l :=
  (h.below hB fun _ hb => hb).mono fun _ hb => Nat.lt_of_lt_of_le hb hB.size
theorem OB.ru {w : World} {base : Nat} {A : Option Addr} {c : Nat} {l : List Nat} (h : OB w base A c l) : RU w A c l := h.rn.mono fun _ hb => hb.2
theorem RN.ud {w : World} {A : Option Addr} {c : Nat} {l : List Nat} (h : RU w A c l) (n : Nat) : RU (w.drewN n) A c l := h
theorem below_undraw {w w' : World} {B n : Nat} (h : Below B (w.drewN n) w') : Below B w w' := ⟨h.os, h.tape, h.output, h.size, h.block⟩
theorem digs32_len {a : List Nat} {n : Nat} (h : Lim a) (hn : a.length ≤ n) : (digs 4294967296 (val 18446744073709551616 a)).length ≤ 2 * n := by
  apply digs_length_of_lt (by omega)
  rw [pow_two_mul]
  exact Nat.lt_of_lt_of_le (val_lt h.1) (Nat.pow_le_pow_right (by omega) hn)
theorem lt_self {w : World} : ∀ b, b < w.heap.size → b < w.heap.size := fun _ h => h
end Go.Proofs.Ytldhmjfjbalakaa

namespace Go.Proofs.Ytldhmjfjbalakaa

/-- A limb moved up by k bits: its two parts. -/
theorem up_parts {x k : Nat} (hx : x < 18446744073709551616) (hk : k < 64) : ∃ hi lo t, x / 2 ^ (64 - k) = hi ∧ x * 2 ^ k % 18446744073709551616 = lo ∧ lo + 18446744073709551616 * hi = x * 2 ^ k ∧ lo = t * 2 ^ k ∧ lo + 2 ^ k ≤ 18446744073709551616 ∧ hi < 2 ^ k := by
  have e64 : (18446744073709551616 : Nat) = 2 ^ k * 2 ^ (64 - k) := by rw [← Nat.pow_add, show k + (64 - k) = 64 by omega]
  have hpos : 0 < 2 ^ k := Nat.pow_pos (by omega)
  have h1 : x * 2 ^ k / 18446744073709551616 = x / 2 ^ (64 - k) := by rw [e64, Nat.mul_comm x, Nat.mul_div_mul_left _ _ hpos]
  have h2 : x * 2 ^ k % 18446744073709551616 = (x % 2 ^ (64 - k)) * 2 ^ k := by
    rw [e64, Nat.mul_comm x, Nat.mul_mod_mul_left, Nat.mul_comm]
  have h3 := Nat.div_add_mod (x * 2 ^ k) 18446744073709551616
  refine ⟨_, _, _, rfl, rfl, by rw [← h1]; omega, h2, ?_, ?_⟩
  · have h4 : x % 2 ^ (64 - k) + 1 ≤ 2 ^ (64 - k) := Nat.mod_lt _ (Nat.pow_pos (by omega))
    have h5 : (x % 2 ^ (64 - k) + 1) * 2 ^ k ≤ 2 ^ (64 - k) * 2 ^ k := Nat.mul_le_mul_right _ h4
    rw [Nat.add_mul, Nat.one_mul, Nat.mul_comm (2 ^ (64 - k)), ← e64, ← h2] at h5
    exact h5
  · apply Nat.div_lt_of_lt_mul
    rw [Nat.mul_comm, ← e64]; exact hx
/-- Behind i rounds of Shl. -/
def ShlAt (l o : List Nat) (w k i : Nat) : Prop := val 18446744073709551616 o = 2 ^ (64 * w + k) * val 18446744073709551616 (l.take i) ∧ (∀ j, i + w < j → dg o j = 0) ∧ dg o (i + w) < 2 ^ k
theorem dg_replicate (n j : Nat) : dg (List.replicate n 0) j = 0 := by
  rw [dg, List.getD_eq_getElem?_getD, List.getElem?_replicate]
  split <;> rfl
theorem ShlAt.zero (l : List Nat) (w k n : Nat) : ShlAt l (List.replicate n 0) w k 0 := by
  refine ⟨by rw [val_replicate]; simp, fun j _ => dg_replicate n j, by rw [dg_replicate]; exact Nat.pow_pos (by omega)⟩
theorem ShlAt.step {l o : List Nat} {w k i hi lo : Nat} (h : ShlAt l o w k i) (ho : i + w + 1 < o.length) (he : lo + 18446744073709551616 * hi = dg l i * 2 ^ k) (hh : hi < 2 ^ k) : ShlAt l ((o.set (i + w) (dg o (i + w) + lo)).set (i + w + 1) hi) w k (i + 1) := by
  obtain ⟨h1, h2, h3⟩ := h
  refine ⟨?_, fun j hj => by rw [getD_set_ne (by omega), getD_set_ne (by omega)]; exact h2 j (by omega), by rw [show i + 1 + w = i + w + 1 by omega, getD_set_eq (by simp; omega)]; exact hh⟩
  have s1 := val_set' 18446744073709551616 (show i + w < o.length by omega) (dg o (i + w) + lo)
  have s2 := val_set' 18446744073709551616 (l := o.set (i + w) (dg o (i + w) + lo)) (n := i + w + 1) (by simp; omega) hi
  rw [getD_set_ne (by omega : i + w ≠ i + w + 1), h2 (i + w + 1) (by omega)] at s2
  rw [val_take_getD, Nat.mul_add, ← h1]
  have e : 2 ^ (64 * w + k) * (18446744073709551616 ^ i * dg l i) = 18446744073709551616 ^ (i + w) * (dg l i * 2 ^ k) := by
    rw [Nat.pow_add, Nat.pow_mul, show (2 : Nat) ^ 64 = 18446744073709551616 by decide, Nat.pow_add]
    generalize 18446744073709551616 ^ w = a
    generalize 18446744073709551616 ^ i = b
    generalize 2 ^ k = c
    generalize dg l i = d
    rw [Nat.mul_comm b d, ← Nat.mul_assoc, Nat.mul_comm _ b, Nat.mul_assoc a, Nat.mul_comm c d, ← Nat.mul_assoc b a]
  rw [e, ← he, Nat.mul_add, ← Nat.mul_assoc, ← Nat.pow_succ]
  rw [Nat.mul_add] at s1
  generalize 18446744073709551616 ^ (i + w + 1) * hi = q1 at *
  generalize 18446744073709551616 ^ (i + w) * lo = q2 at *
  generalize 18446744073709551616 ^ (i + w) * dg o (i + w) = q3 at *
  generalize val 18446744073709551616 (o.set (i + w) (dg o (i + w) + lo)) = q4 at *
  generalize val 18446744073709551616 ((o.set (i + w) (dg o (i + w) + lo)).set (i + w + 1) hi) = q5 at *
  generalize val 18446744073709551616 o = q6 at *
  omega
theorem ShlAt.fin {l o : List Nat} {w k : Nat} (h : ShlAt l o w k l.length) : val 18446744073709551616 o = val 18446744073709551616 l * 2 ^ (64 * w + k) := by
  have := h.1
  rwa [List.take_length, Nat.mul_comm] at this
/-- A limb of a number moved down by 64 w + k bits. -/
theorem shr_digit {x k : Nat} {l : List Nat} (hk : k < 64) (i w : Nat) (hx : dg l (i + w + 1) = x) (hl : ∀ y ∈ l, y < 18446744073709551616) :
    ∃ t, x * 2 ^ (64 - k) % 18446744073709551616 = t * 2 ^ (64 - k) ∧ dg l (i + w) / 2 ^ k < 2 ^ (64 - k) ∧ dg l (i + w) / 2 ^ k + t * 2 ^ (64 - k) < 18446744073709551616 ∧
      val 18446744073709551616 l / 2 ^ (64 * (i + w) + k) % 18446744073709551616 = dg l (i + w) / 2 ^ k + t * 2 ^ (64 - k) := by
  have e64 : (18446744073709551616 : Nat) = 2 ^ k * 2 ^ (64 - k) := by rw [← Nat.pow_add, show k + (64 - k) = 64 by omega]
  have hpos : 0 < 2 ^ (64 - k) := Nat.pow_pos (by omega)
  have hd : dg l (i + w) < 18446744073709551616 := getD_lt (by omega) hl _
  have h1 : dg l (i + w) / 2 ^ k < 2 ^ (64 - k) := Nat.div_lt_of_lt_mul (by rw [← e64]; exact hd)
  have h2 : x * 2 ^ (64 - k) % 18446744073709551616 = (x % 2 ^ k) * 2 ^ (64 - k) := by
    rw [e64, Nat.mul_mod_mul_right]
  have h4 : (x % 2 ^ k + 1) * 2 ^ (64 - k) ≤ 2 ^ k * 2 ^ (64 - k) := Nat.mul_le_mul_right _ (Nat.mod_lt _ (Nat.pow_pos (by omega)))
  rw [← e64, Nat.add_mul, Nat.one_mul] at h4
  refine ⟨x % 2 ^ k, h2, h1, by omega, ?_⟩
  have hv : val 18446744073709551616 l / 2 ^ (64 * (i + w) + k) = dg l (i + w) / 2 ^ k + 2 ^ (64 - k) * (x + 18446744073709551616 * val 18446744073709551616 (l.drop (i + w + 2))) := by
    have hs := val_shift (m := 64) l hl (i + w) k (by omega)
    have h6 : val 18446744073709551616 l = val 18446744073709551616 (l.take (i + w)) + 18446744073709551616 ^ (i + w) * (dg l (i + w) + 18446744073709551616 * (x + 18446744073709551616 * val 18446744073709551616 (l.drop (i + w + 2)))) := by
      have dgdrop : ∀ j, val 18446744073709551616 (l.drop j) = dg l j + 18446744073709551616 * val 18446744073709551616 (l.drop (j + 1)) := fun j => by
        rcases Nat.lt_or_ge j l.length with h | h
        · rw [List.drop_eq_getElem_cons h, val_cons, dg, getD_eq' h]
        · rw [List.drop_eq_nil_of_le h, List.drop_eq_nil_of_le (by omega), dg, List.getD_eq_getElem?_getD, List.getElem?_eq_none h]
          simp
      rw [← hx, ← dgdrop (i + w + 1), ← dgdrop (i + w)]
      rcases Nat.lt_or_ge l.length (i + w) with h | h
      · rw [List.take_of_length_le (by omega), List.drop_eq_nil_of_le (by omega)]; simp
      · exact val_take_drop _ _ h
    have h7 : val 18446744073709551616 (l.take (i + w)) < 18446744073709551616 ^ (i + w) := by
      refine Nat.lt_of_lt_of_le (val_lt fun y hy => hl y (List.mem_of_mem_take hy)) (Nat.pow_le_pow_right (by omega) ?_)
      rw [List.length_take]; omega
    rw [Nat.pow_add, Nat.pow_mul, show (2 : Nat) ^ 64 = 18446744073709551616 by decide, ← Nat.div_div_eq_div_mul, h6, Nat.add_mul_div_left _ _ (Nat.pow_pos (by omega)), Nat.div_eq_of_lt h7, Nat.zero_add]
    generalize x + 18446744073709551616 * val 18446744073709551616 (l.drop (i + w + 2)) = v
    have : dg l (i + w) + 18446744073709551616 * v = dg l (i + w) + 2 ^ k * (2 ^ (64 - k) * v) := by rw [← Nat.mul_assoc, ← e64]
    rw [this, Nat.add_mul_div_left _ _ (Nat.pow_pos (by omega))]
  rw [hv, Nat.mul_add, ← Nat.add_assoc]
  have h8 : 2 ^ (64 - k) * (18446744073709551616 * val 18446744073709551616 (l.drop (i + w + 2))) = 18446744073709551616 * (2 ^ (64 - k) * val 18446744073709551616 (l.drop (i + w + 2))) := Nat.mul_left_comm _ _ _
  rw [h8, Nat.add_mul_mod_self_left]
  have h9 : x * 2 ^ (64 - k) = 18446744073709551616 * (x * 2 ^ (64 - k) / 18446744073709551616) + (x % 2 ^ k) * 2 ^ (64 - k) := by
    have := Nat.div_add_mod (x * 2 ^ (64 - k)) 18446744073709551616
    rw [h2] at this; omega
  rw [Nat.mul_comm (2 ^ (64 - k)) x, h9, Nat.add_comm (18446744073709551616 * _), ← Nat.add_assoc, Nat.add_mul_mod_self_left]
  exact Nat.mod_eq_of_lt (by omega)
/-- Behind i rounds of Shr: the digits that are laid are those of the number moved down. -/
def ShrAt (l o : List Nat) (w k i : Nat) : Prop := ∀ j, j < i → dg o j = val 18446744073709551616 l / 2 ^ (64 * (j + w) + k) % 18446744073709551616
theorem digit_of_val {B : Nat} {o : List Nat} (x : Nat) (hd : ∀ j, j < o.length → dg o j = x / B ^ j % B) (hx : x < B ^ o.length) : val B o = x := by
  have : ∀ i, i ≤ o.length → val B (o.take i) = x % B ^ i := by
    intro i
    induction i with
    | zero => intro _; simp [Nat.mod_one]
    | succ i ih =>
      intro hi
      rw [val_take_getD, ih (by omega), hd i (by omega), Nat.pow_succ, Nat.mod_mul]
  have h := this o.length (Nat.le_refl _)
  rw [List.take_length, Nat.mod_eq_of_lt hx] at h
  exact h
theorem ShrAt.fin {l o : List Nat} {w k : Nat} (h : ShrAt l o w k o.length) (hl : ∀ x ∈ l, x < 18446744073709551616) (hn : l.length = o.length + w) : val 18446744073709551616 o = val 18446744073709551616 l / 2 ^ (64 * w + k) := by
  apply digit_of_val
  · intro j hj
    rw [h j hj, Nat.div_div_eq_div_mul]
    congr 2
    rw [show (18446744073709551616 : Nat) = 2 ^ 64 by decide, ← Nat.pow_mul, ← Nat.pow_add]
    congr 1
    omega
  · apply Nat.div_lt_of_lt_mul
    have h1 := val_lt hl
    rw [hn, Nat.pow_add] at h1
    rw [Nat.pow_add, Nat.pow_mul, show (2 : Nat) ^ 64 = 18446744073709551616 by decide]
    have h2 : 18446744073709551616 ^ o.length * 18446744073709551616 ^ w * 1 ≤ 18446744073709551616 ^ o.length * 18446744073709551616 ^ w * 2 ^ k := Nat.mul_le_mul_left _ (Nat.pow_pos (by omega))
    have h3 : 18446744073709551616 ^ w * 2 ^ k * 18446744073709551616 ^ o.length = 18446744073709551616 ^ o.length * 18446744073709551616 ^ w * 2 ^ k := by
      rw [Nat.mul_comm, Nat.mul_assoc]
    rw [h3]
    omega
end Go.Proofs.Ytldhmjfjbalakaa

namespace Go.Proofs.Ytldhmjfjbalakaa
open Go.RowKit

set_option maxRecDepth 100000 in
set_option maxHeartbeats 1000000 in
theorem shl_no (P : Nat → Prop) (A : Option Addr) (c : Nat) (a : List Nat) (n : Int) (w : World) (h : RN w P A c a) (hn : n < 0 ∨ 65536 < n ∨ val 18446744073709551616 a = 0) :
    Calls Try.prog 91 #[.slice A a.length c, .int .i64 n] w fun e w' => e = .returned (.slice none 0 0) ∧ w = w' := by
  have ta := trim_any P A c a w h
  by_cases h0 : n < 0
  · have Ta := Lib.hid ta
    clear ta
    go_enter Try.func91, Try.ntmps91
    go_wp2_with fail
    refine Ta.out.mono ?_
    rintro e w1 ⟨rfl, rfl⟩
    go_wp2
    go_ret
    exact ⟨rfl, rfl⟩
  · by_cases h1 : 65536 < n
    · have Ta := Lib.hid ta
      clear ta
      go_enter Try.func91, Try.ntmps91
      go_wp2_with fail
      refine Ta.out.mono ?_
      rintro e w1 ⟨rfl, rfl⟩
      go_wp2
      go_ret
      exact ⟨rfl, rfl⟩
    · have hz : val 18446744073709551616 a = 0 := by omega
      rw [hz, digs_zero] at ta
      have Ta := Lib.hid ta
      clear ta hz hn
      go_enter Try.func91, Try.ntmps91
      go_wp2_with fail
      refine Ta.out.mono ?_
      rintro e w1 ⟨rfl, rfl⟩
      go_wp2
      go_ret
      exact ⟨rfl, rfl⟩

set_option maxRecDepth 100000 in
set_option maxHeartbeats 2000000 in
theorem shl_yes (P : Nat → Prop) (A : Option Addr) (c : Nat) (a : List Nat) (n : Nat) (w : World) (h : RN w P A c a) (hP : ∀ b, P b → b < w.heap.size) (hl : a.length < 100000) (hn : n ≤ 65536) (hv : 0 < val 18446744073709551616 a) :
    Calls Try.prog 91 #[.slice A a.length c, .int .i64 (n : Int)] w fun e w' => ∃ A1 c1, e = .returned (.slice A1 (digs 18446744073709551616 (val 18446744073709551616 a * 2 ^ n)).length c1) ∧
      OB w' w.heap.size A1 c1 (digs 18446744073709551616 (val 18446744073709551616 a * 2 ^ n)) ∧ c1 ≤ a.length + n / 64 + 1 ∧ (∃ o, A1 = some ⟨w.heap.size, 0, none⟩ ∧ Blk w' w.heap.size o ∧ o.length = c1 ∧ digs 18446744073709551616 (val 18446744073709551616 a * 2 ^ n) = o.take (digs 18446744073709551616 (val 18446744073709551616 a * 2 ^ n)).length) ∧ Below w.heap.size w w' := by
  have ta := Lib.hid (trim_any P A c a w h)
  have la := digs_length_le (B := 18446744073709551616) (by omega) h.2.1
  replace h := h.trim
  have hne : 0 < (digs 18446744073709551616 (val 18446744073709551616 a)).length := by rw [digs_pos (by omega) hv]; simp
  generalize val 18446744073709551616 a = x at *
  have hx := val_digs (B := 18446744073709551616) (by omega) x
  generalize digs 18446744073709551616 x = l at *
  have la' : l.length < 100000 := by omega
  have Hla := Lib.hid la
  have Hx := Lib.hid hx
  clear hl hx hv la
  obtain ⟨h1, h2, h3⟩ := h.cap
  obtain ⟨s, k, hk, hnk⟩ : ∃ s k, k < 64 ∧ n = 64 * s + k := ⟨n / 64, n % 64, by omega, by omega⟩
  have e1 : (n : Int) / 64 = (s : Int) := by omega
  have e2 : (n : Int) % 64 = (k : Int) := by omega
  have hs : s ≤ 1024 := by omega
  have hne' : ((l.length : Int) == 0) = false := eqB (by omega)
  have hmk := run_make_row' (P := Try.prog) 23 72 (.int .u64 0) 8 Try.underlying23 info64 rfl .i64 .i64 (l.length + s + 1) (by omega) (by omega)
  simp only [Int.natCast_add, Int.cast_ofNat_Int] at hmk
  have hk1 : (k : Int) < 64 := by omega
  have Hnk := Lib.hid hnk
  clear hne hnk
  go_enter Try.func91, Try.ntmps91
  go_wp2_with fail
  refine ta.out.mono ?_
  rintro e w1 ⟨rfl, rfl⟩
  go_wp2
  go_loopw [36] (fun iv wr => ∃ (i : Nat) (o : List Nat), iv = .int .i64 (i : Int) ∧ i ≤ l.length ∧ ShlAt l o s k i ∧ Hid (o.length = l.length + s + 1) ∧ Lim o ∧ Blk wr w.heap.size o ∧ Below w.heap.size w wr) (fun iv _ => l.length - (intOf iv).toNat)
  case atStart => exact ⟨0, List.replicate (l.length + s + 1) 0, rfl, by omega, ShlAt.zero _ _ _ _, Lib.hid (by simp), ⟨by simp, by simp; omega⟩, Blk.made w _, (Below.refl _ w).alloc (Nat.le_refl _) _⟩
  case round =>
    obtain ⟨i, o, rfl, hi, hS, Ho, hLo, hblk, hB⟩ := hrel
    by_cases hlt : i < l.length
    · obtain ⟨ad, rfl, had, q1⟩ := (h.below hB hP).at_ hlt
      have hol := Ho.out
      obtain ⟨hi', lo, t, p1, p2, p3, p4, p5, p6⟩ := up_parts (h.2.dgLt i) hk
      have hS' := hS.step (by omega) p3 p6
      obtain ⟨y, hy⟩ : ∃ y, dg o (i + s) + lo = y := ⟨_, rfl⟩
      rw [hy] at hS'
      have hyl : y < 18446744073709551616 := by have := hS.2.2; omega
      have hhl : hi' < 18446744073709551616 := by
        have : 2 ^ k ≤ 2 ^ 63 := Nat.pow_le_pow_right (by omega) (by omega)
        omega
      have f1 : IntKind.u64.wrap ((dg l i : Int) * 2 ^ k) = (lo : Int) := by
        rw [← p2]
        simp [IntKind.wrap, IntKind.bits, IntKind.signed]
      have f2 : bits .or .u64 (dg o (i + s) : Int) (lo : Int) = (y : Int) := by
        rw [bits_or_u64_nat _ _ (hLo.dgLt _) (by omega), Nat.or_comm, p4, or_shift _ _ _ hS.2.2, ← p4, ← hy, Nat.add_comm]
      have f3 : (dg l i : Int) / 2 ^ (64 - k) = (hi' : Int) := by rw [← p1]; simp
      have q3 := hblk.cell (i := i + s) (by omega)
      have q4 := hblk.free (i + s)
      have hblk1 := hblk.set (i + s) y
      have q5 := hblk1.cell (i := i + s + 1) (by simp; omega)
      have q6 := hblk1.free (i + s + 1)
      have hblk2 := hblk1.set (i + s + 1) hi'
      have hLo' := (hLo.set (i + s) y hyl).set (i + s + 1) hi' hhl
      have hB2 := (hB.setCell (p := ⟨w.heap.size, i + s, none⟩) (Nat.le_refl _) (.int .u64 (y : Int))).setCell (p := ⟨w.heap.size, i + s + 1, none⟩) (Nat.le_refl _) (.int .u64 (hi' : Int))
      have Ho' : Hid (((o.set (i + s) y).set (i + s + 1) hi').length = l.length + s + 1) := Lib.hid (by simpa using Ho.out)
      have k1 : (i : Int) + (s : Int) + 1 < (l.length : Int) + (s : Int) + 1 := by omega
      clear hS hLo hblk hB hblk1 hol p1 p2 p3 p4 p5 p6 hyl hhl hy
      go_wp2
      go_roundw
      case rel => exact ⟨i + 1, (o.set (i + s) y).set (i + s + 1) hi', by go_num, by omega, hS', Ho', hLo', hblk2, hB2⟩
      case measure => simp [intOf]; omega
    · obtain rfl : i = l.length := by omega
      have hfin := hS.fin
      rw [Hx.out, ← Hnk.out] at hfin
      have hOB : OB wr w.heap.size (some ⟨w.heap.size, 0, none⟩) (l.length + s + 1) o := OB.of_blk hblk (Nat.le_refl _) hLo (by have := Ho.out; omega) (by unfold maxLen; omega)
      have ht := trim_any _ _ _ _ _ hOB.rn
      have hOB' := hOB.trim
      have hpre : digs 18446744073709551616 (val 18446744073709551616 o) = o.take (digs 18446744073709551616 (val 18446744073709551616 o)).length := by
        obtain ⟨n, hn, e⟩ := hLo.trim
        rw [e, List.length_take, Nat.min_eq_left hn]
      rw [hfin, Ho.out] at ht
      rw [hfin] at hOB' hpre
      have Hpre := Lib.hid hpre
      have Hblk := Lib.hid hblk
      have Ht := Lib.hid ht
      have hcc : Hid (l.length + s + 1 ≤ a.length + n / 64 + 1) := Lib.hid (by have := Hla.out; have := Hnk.out; omega)
      clear hblk hLo ht hfin hOB hS hpre
      go_wp2_with fail
      refine Ht.out.mono ?_
      rintro e w1 ⟨rfl, rfl⟩
      go_wp2
      go_ret
      exact ⟨_, _, rfl, hOB', hcc.out, ⟨o, rfl, Hblk.out, Ho.out, Hpre.out⟩, hB⟩

set_option maxRecDepth 100000 in
set_option maxHeartbeats 1000000 in
theorem shr_neg (P : Nat → Prop) (A : Option Addr) (c : Nat) (a : List Nat) (n : Int) (w : World) (h : RN w P A c a) (hn : n < 0) :
    Calls Try.prog 95 #[.slice A a.length c, .int .i64 n] w fun e w' => e = .returned (.slice none 0 0) ∧ w = w' := by
  have Ta := Lib.hid (trim_any P A c a w h)
  go_enter Try.func95, Try.ntmps95
  go_wp2_with fail
  refine Ta.out.mono ?_
  rintro e w1 ⟨rfl, rfl⟩
  go_wp2
  go_ret
  exact ⟨rfl, rfl⟩

set_option maxRecDepth 100000 in
set_option maxHeartbeats 2000000 in
theorem shr_any (P : Nat → Prop) (A : Option Addr) (c : Nat) (a : List Nat) (n : Nat) (w : World) (h : RN w P A c a) (hP : ∀ b, P b → b < w.heap.size) (hl : a.length < 100000) (hn : n ≤ 9223372036854775807) :
    Calls Try.prog 95 #[.slice A a.length c, .int .i64 (n : Int)] w fun e w' => ∃ A1 c1, e = .returned (.slice A1 (digs 18446744073709551616 (val 18446744073709551616 a / 2 ^ n)).length c1) ∧
      OB w' w.heap.size A1 c1 (digs 18446744073709551616 (val 18446744073709551616 a / 2 ^ n)) ∧ Below w.heap.size w w' := by
  have ta := Lib.hid (trim_any P A c a w h)
  have la := digs_length_le (B := 18446744073709551616) (by omega) h.2.1
  replace h := h.trim
  generalize val 18446744073709551616 a = x at *
  have hx := val_digs (B := 18446744073709551616) (by omega) x
  generalize digs 18446744073709551616 x = l at *
  have la' : l.length < 100000 := by omega
  have Hx := Lib.hid hx
  obtain ⟨h1, h2, h3⟩ := h.cap
  obtain ⟨s, k, hk, hnk⟩ : ∃ s k, k < 64 ∧ n = 64 * s + k := ⟨n / 64, n % 64, by omega, by omega⟩
  have e1 : (n : Int) / 64 = (s : Int) := by omega
  have e2 : (n : Int) % 64 = (k : Int) := by omega
  have e4 : IntKind.i64.wrap ((n : Int) / 64) = (s : Int) := by rw [e1]; exact IntWalk.i64_in _ (by omega)
  have hsb : (s : Int) ≤ 144115188075855871 := by omega
  by_cases hs : s < l.length
  · obtain ⟨m, hm⟩ : ∃ m, l.length = m + s := ⟨l.length - s, by omega⟩
    have em : (l.length : Int) - (s : Int) = (m : Int) := by omega
    have hmk := run_make_row' (P := Try.prog) 23 72 (.int .u64 0) 8 Try.underlying23 info64 rfl .i64 .i64 m (by omega) (by omega)
    have hk1 : (k : Int) < 64 := by omega
    have hs' : (s : Int) < (l.length : Int) := by omega
    have hs2 : ¬ (l.length : Int) ≤ (s : Int) := by omega
    have Hnk := Lib.hid hnk
    have Hm := Lib.hid hm
    have hmb : m ≤ 100000 := by omega
    clear hl hx la hnk hn hm hsb hs
    go_enter Try.func95, Try.ntmps95
    go_wp2_with fail
    refine ta.out.mono ?_
    rintro e w1 ⟨rfl, rfl⟩
    go_wp2
    go_loopw [32] (fun iv wr => ∃ (i : Nat) (o : List Nat), iv = .int .i64 (i : Int) ∧ i ≤ m ∧ ShrAt l o s k i ∧ Hid (o.length = m) ∧ Lim o ∧ Blk wr w.heap.size o ∧ Below w.heap.size w wr) (fun iv _ => m - (intOf iv).toNat)
    case atStart => exact ⟨0, List.replicate m 0, rfl, by omega, fun j hj => by omega, Lib.hid (by simp), ⟨by simp, by simp; omega⟩, Blk.made w _, (Below.refl _ w).alloc (Nat.le_refl _) _⟩
    case round =>
      obtain ⟨i, o, rfl, hi, hS, Ho, hLo, hblk, hB⟩ := hrel
      have hol := Ho.out
      have hml := Hm.out
      by_cases hlt : i < m
      · obtain ⟨ad, rfl, had, q1⟩ := (h.below hB hP).at_ (i := i + s) (by omega)
        obtain ⟨t, p1, p2, p3, p4⟩ := shr_digit hk i s rfl h.2.1
        obtain ⟨z, hz⟩ : ∃ z, t * 2 ^ (64 - k) = z := ⟨_, rfl⟩
        obtain ⟨y1, hy1⟩ : ∃ y1, dg l (i + s) / 2 ^ k = y1 := ⟨_, rfl⟩
        obtain ⟨y, hy⟩ : ∃ y, y1 + z = y := ⟨_, rfl⟩
        have hor : (y1 ||| z) = y := by rw [Nat.or_comm, ← hz, or_shift _ _ _ (by rw [← hy1]; exact p2), hz, ← hy, Nat.add_comm]
        rw [hz] at p1 p3 p4
        rw [hy1] at p2 p3 p4
        rw [hy] at p3 p4
        have f1 : (dg l (i + s) : Int) / 2 ^ k = (y1 : Int) := by rw [← hy1]; simp
        have hS' : ShrAt l (o.set i y) s k (i + 1) := fun j hj => by
          rcases Nat.lt_or_ge j i with h | h
          · rw [getD_set_ne (by omega)]; exact hS j h
          · obtain rfl : j = i := by omega
            rw [getD_set_eq (by omega)]; exact p4.symm
        have q3 := hblk.cell (i := i) (by omega)
        have q4 := hblk.free i
        have hblk1 := hblk.set i y1
        have hy1l : y1 < 18446744073709551616 := by omega
        have k1 : (i : Int) + (s : Int) < (l.length : Int) := by omega
        by_cases h2 : i + s + 1 < l.length
        · have hB1 := hB.setCell (p := ⟨w.heap.size, i, none⟩) (Nat.le_refl _) (.int .u64 (y1 : Int))
          have q2 := (h.below hB1 hP).cells (i + s + 1) h2
          rw [add_succ] at q2
          have f2 : IntKind.u64.wrap ((dg l (i + s + 1) : Int) * 2 ^ (64 - k)) = (z : Int) := by
            rw [← p1]
            simp [IntKind.wrap, IntKind.bits, IntKind.signed]
          have hzl : z < 18446744073709551616 := by omega
          have f3 : bits .or .u64 (y1 : Int) (z : Int) = (y : Int) := by rw [bits_or_u64_nat _ _ hy1l hzl, hor]
          have q5 := hblk1.cell (i := i) (by simp; omega)
          rw [getD_set_eq (by omega)] at q5
          have q6 := hblk1.free i
          have hblk2 := hblk1.set i y
          rw [List.set_set] at hblk2
          have hLo' := hLo.set i y p3
          have hB2 := hB1.setCell (p := ⟨w.heap.size, i, none⟩) (Nat.le_refl _) (.int .u64 (y : Int))
          have Ho' : Hid ((o.set i y).length = m) := Lib.hid (by simpa using Ho.out)
          have k2 : (i : Int) + (s : Int) + 1 < (l.length : Int) := by omega
          clear hS hLo hblk hB hblk1 hol p1 p2 p3 p4 hz hy1 hy hor hy1l hzl hml hB1
          go_wp2
          go_region
          all_goals
            go_wp2
            go_roundw
            case rel => exact ⟨i + 1, o.set i y, by go_num, by omega, hS', Ho', hLo', hblk2, below_drewN hB2 1⟩
            case measure => simp [intOf]; omega
        · have hzz : z = 0 := by
            rw [dg_none (by omega : l.length ≤ i + s + 1), Nat.zero_mul, Nat.zero_mod] at p1
            exact p1.symm
          have hyy : y1 = y := by omega
          subst hyy
          have hLo' := hLo.set i y1 p3
          have hB2 := hB.setCell (p := ⟨w.heap.size, i, none⟩) (Nat.le_refl _) (.int .u64 (y1 : Int))
          have Ho' : Hid ((o.set i y1).length = m) := Lib.hid (by simpa using Ho.out)
          have k2 : ¬ (i : Int) + (s : Int) + 1 < (l.length : Int) := by omega
          clear hS hLo hblk hB hol p1 p2 p3 p4 hz hy1 hy hor hy1l hml hzz
          go_wp2
          go_roundw
          case rel => exact ⟨i + 1, o.set i y1, by go_num, by omega, hS', Ho', hLo', hblk1, hB2⟩
          case measure => simp [intOf]; omega
      · obtain rfl : i = m := by omega
        have hfin := ShrAt.fin (by rw [hol]; exact hS) h.2.1 (by rw [hol]; exact hml)
        rw [Hx.out, ← Hnk.out] at hfin
        have hOB : OB wr w.heap.size (some ⟨w.heap.size, 0, none⟩) i o := OB.of_blk hblk (Nat.le_refl _) hLo (by omega) (by unfold maxLen; omega)
        have ht := trim_any _ _ _ _ _ hOB.rn
        have hOB' := hOB.trim
        rw [hfin, hol] at ht
        rw [hfin] at hOB'
        have Ht := Lib.hid ht
        clear hblk hLo ht hfin hOB hS hol hml
        go_wp2_with fail
        refine Ht.out.mono ?_
        rintro e w1 ⟨rfl, rfl⟩
        go_wp2
        go_ret
        exact ⟨_, _, rfl, hOB', hB⟩
  · have hz : x / 2 ^ n = 0 := by
      apply Nat.div_eq_of_lt
      have h4 := val_lt h.2.1
      rw [hx] at h4
      refine Nat.lt_of_lt_of_le h4 ?_
      rw [show (18446744073709551616 : Nat) = 2 ^ 64 by decide, ← Nat.pow_mul]
      exact Nat.pow_le_pow_right (by omega) (by omega)
    rw [hz, digs_zero]
    have hs' : ¬ (s : Int) < (l.length : Int) := by omega
    have hs2 : (l.length : Int) ≤ (s : Int) := by omega
    clear hl hx la hnk hn hz hs
    go_enter Try.func95, Try.ntmps95
    go_wp2_with fail
    refine ta.out.mono ?_
    rintro e w1 ⟨rfl, rfl⟩
    go_wp2
    go_ret
    exact ⟨none, 0, rfl, OB.nil_ _ _, Below.refl _ _⟩
end Go.Proofs.Ytldhmjfjbalakaa
