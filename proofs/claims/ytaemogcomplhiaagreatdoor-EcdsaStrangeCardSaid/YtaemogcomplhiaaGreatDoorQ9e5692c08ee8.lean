/- Plain arithmetic of shifts of numbers: nothing of the program. What limb.Shl and Shr compute. What limb.Quo computes: a divisor of two limbs or more. zfield.New: a field made ready. curve.of: a curve's numbers. curve.of for P-384 (printed from P-256's by a program). -/
import Derived.Test.YtaemogcomplhiaaGreatDoorQ116fb9ab7aa0
import Derived.RegionTactic
import Derived.ChangeAlike
import Derived.BigQuiet
import Derived.Deep.DeepCutAuto
import Derived.Sort.AtCall
import Derived.Deep.RegionHeld3
namespace Go.Proofs.YtaemogcomplhiaaGreatDoor

theorem up_parts {x k : Nat} (hx : x < 18446744073709551616) (hk : k < 64) : ∃ hi lo t, x / 2 ^ (64 - k) = hi ∧ x * 2 ^ k % 18446744073709551616 = lo ∧ lo + 18446744073709551616 * hi = x * 2 ^ k ∧ lo = t * 2 ^ k ∧ lo + 2 ^ k ≤ 18446744073709551616 ∧ hi < 2 ^ k := by
 have e64 : (18446744073709551616 : Nat) = 2 ^ k * 2 ^ (64 - k) := by rw [← Nat.pow_add, show k + (64 - k) = 64 by omega]
 have hpos : 0 < 2 ^ k := Nat.pow_pos (by omega)
 have h1 : x * 2 ^ k / 18446744073709551616 = x / 2 ^ (64 - k) := by rw [e64, Nat.mul_comm x, Nat.mul_div_mul_left _ _ hpos]
 have h2 : x * 2 ^ k % 18446744073709551616 = (x % 2 ^ (64 - k)) * 2 ^ k := by
  rw [e64, Nat.mul_comm x, Nat.mul_mod_mul_left, Nat.mul_comm]
 have h3 := Nat.div_add_mod (x * 2 ^ k) 18446744073709551616
 refine ⟨_, _, _, rfl, rfl, by rw [← h1]; omega, h2, ?_, ?_⟩
 · have h4 : x % 2 ^ (64 - k) + 1 ≤ 2 ^ (64 - k) := Nat.mod_lt _ (Nat.pow_pos (by omega))
   have h5 : (x % 2 ^ (64 - k) + 1) * 2 ^ k ≤ 2 ^ (64 - k) * 2 ^ k := Nat.mul_le_mul_right _ h4
   rw [Nat.add_mul, Nat.one_mul, Nat.mul_comm (2 ^ (64 - k)), ← e64, ← h2] at h5
   exact h5
 · apply Nat.div_lt_of_lt_mul
   rw [Nat.mul_comm, ← e64]; exact hx
def ShlAt (l o : List Nat) (w k i : Nat) : Prop := val 18446744073709551616 o = 2 ^ (64 * w + k) * val 18446744073709551616 (l.take i) ∧ (∀ j, i + w < j → dg o j = 0) ∧ dg o (i + w) < 2 ^ k
theorem dg_replicate (n j : Nat) : dg (List.replicate n 0) j = 0 := by
 rw [dg, List.getD_eq_getElem?_getD, List.getElem?_replicate]
 split <;> rfl
theorem ShlAt.zero (l : List Nat) (w k n : Nat) : ShlAt l (List.replicate n 0) w k 0 := by
 refine ⟨by rw [val_replicate]; simp, fun j _ => dg_replicate n j, by rw [dg_replicate]; exact Nat.pow_pos (by omega)⟩
theorem ShlAt.step {l o : List Nat} {w k i hi lo : Nat} (h : ShlAt l o w k i) (ho : i + w + 1 < o.length) (he : lo + 18446744073709551616 * hi = dg l i * 2 ^ k) (hh : hi < 2 ^ k) : ShlAt l ((o.set (i + w) (dg o (i + w) + lo)).set (i + w + 1) hi) w k (i + 1) := by
 obtain ⟨h1, h2, h3⟩ := h
 refine ⟨?_, fun j hj => by rw [getD_set_ne (by omega), getD_set_ne (by omega)]; exact h2 j (by omega), by rw [show i + 1 + w = i + w + 1 by omega, getD_set_eq (by simp; omega)]; exact hh⟩
 have s1 := val_set' 18446744073709551616 (show i + w < o.length by omega) (dg o (i + w) + lo)
 have s2 := val_set' 18446744073709551616 (l := o.set (i + w) (dg o (i + w) + lo)) (n := i + w + 1) (by simp; omega) hi
 rw [getD_set_ne (by omega : i + w ≠ i + w + 1), h2 (i + w + 1) (by omega)] at s2
 rw [val_take_getD, Nat.mul_add, ← h1]
 have e : 2 ^ (64 * w + k) * (18446744073709551616 ^ i * dg l i) = 18446744073709551616 ^ (i + w) * (dg l i * 2 ^ k) := by
  rw [Nat.pow_add, Nat.pow_mul, show (2 : Nat) ^ 64 = 18446744073709551616 by decide, Nat.pow_add]
  generalize 18446744073709551616 ^ w = a
  generalize 18446744073709551616 ^ i = b
  generalize 2 ^ k = c
  generalize dg l i = d
  rw [Nat.mul_comm b d, ← Nat.mul_assoc, Nat.mul_comm _ b, Nat.mul_assoc a, Nat.mul_comm c d, ← Nat.mul_assoc b a]
 rw [e, ← he, Nat.mul_add, ← Nat.mul_assoc, ← Nat.pow_succ]
 rw [Nat.mul_add] at s1
 generalize 18446744073709551616 ^ (i + w + 1) * hi = q1 at *
 generalize 18446744073709551616 ^ (i + w) * lo = q2 at *
 generalize 18446744073709551616 ^ (i + w) * dg o (i + w) = q3 at *
 generalize val 18446744073709551616 (o.set (i + w) (dg o (i + w) + lo)) = q4 at *
 generalize val 18446744073709551616 ((o.set (i + w) (dg o (i + w) + lo)).set (i + w + 1) hi) = q5 at *
 generalize val 18446744073709551616 o = q6 at *
 omega
theorem ShlAt.fin {l o : List Nat} {w k : Nat} (h : ShlAt l o w k l.length) : val 18446744073709551616 o = val 18446744073709551616 l * 2 ^ (64 * w + k) := by
 have := h.1
 rwa [List.take_length, Nat.mul_comm] at this
theorem shr_digit {x k : Nat} {l : List Nat} (hk : k < 64) (i w : Nat) (hx : dg l (i + w + 1) = x) (hl : ∀ y ∈ l, y < 18446744073709551616) :
    ∃ t, x * 2 ^ (64 - k) % 18446744073709551616 = t * 2 ^ (64 - k) ∧ dg l (i + w) / 2 ^ k < 2 ^ (64 - k) ∧ dg l (i + w) / 2 ^ k + t * 2 ^ (64 - k) < 18446744073709551616 ∧
      val 18446744073709551616 l / 2 ^ (64 * (i + w) + k) % 18446744073709551616 = dg l (i + w) / 2 ^ k + t * 2 ^ (64 - k) := by
  have e64 : (18446744073709551616 : Nat) = 2 ^ k * 2 ^ (64 - k) := by rw [← Nat.pow_add, show k + (64 - k) = 64 by omega]
  have hpos : 0 < 2 ^ (64 - k) := Nat.pow_pos (by omega)
  have hd : dg l (i + w) < 18446744073709551616 := getD_lt (by omega) hl _
  have h1 : dg l (i + w) / 2 ^ k < 2 ^ (64 - k) := Nat.div_lt_of_lt_mul (by rw [← e64]; exact hd)
  have h2 : x * 2 ^ (64 - k) % 18446744073709551616 = (x % 2 ^ k) * 2 ^ (64 - k) := by
    rw [e64, Nat.mul_mod_mul_right]
  have h4 : (x % 2 ^ k + 1) * 2 ^ (64 - k) ≤ 2 ^ k * 2 ^ (64 - k) := Nat.mul_le_mul_right _ (Nat.mod_lt _ (Nat.pow_pos (by omega)))
  rw [← e64, Nat.add_mul, Nat.one_mul] at h4
  refine ⟨x % 2 ^ k, h2, h1, by omega, ?_⟩
  have hv : val 18446744073709551616 l / 2 ^ (64 * (i + w) + k) = dg l (i + w) / 2 ^ k + 2 ^ (64 - k) * (x + 18446744073709551616 * val 18446744073709551616 (l.drop (i + w + 2))) := by
    have hs := val_shift (m := 64) l hl (i + w) k (by omega)
    have h6 : val 18446744073709551616 l = val 18446744073709551616 (l.take (i + w)) + 18446744073709551616 ^ (i + w) * (dg l (i + w) + 18446744073709551616 * (x + 18446744073709551616 * val 18446744073709551616 (l.drop (i + w + 2)))) := by
      have dgdrop : ∀ j, val 18446744073709551616 (l.drop j) = dg l j + 18446744073709551616 * val 18446744073709551616 (l.drop (j + 1)) := fun j => by
        rcases Nat.lt_or_ge j l.length with h | h
        · rw [List.drop_eq_getElem_cons h, val_cons, dg, getD_eq' h]
        · rw [List.drop_eq_nil_of_le h, List.drop_eq_nil_of_le (by omega), dg, List.getD_eq_getElem?_getD, List.getElem?_eq_none h]
          simp
      rw [← hx, ← dgdrop (i + w + 1), ← dgdrop (i + w)]
      rcases Nat.lt_or_ge l.length (i + w) with h | h
      · rw [List.take_of_length_le (by omega), List.drop_eq_nil_of_le (by omega)]; simp
      · exact val_take_drop _ _ h
    have h7 : val 18446744073709551616 (l.take (i + w)) < 18446744073709551616 ^ (i + w) := by
      refine Nat.lt_of_lt_of_le (val_lt fun y hy => hl y (List.mem_of_mem_take hy)) (Nat.pow_le_pow_right (by omega) ?_)
      rw [List.length_take]; omega
    rw [Nat.pow_add, Nat.pow_mul, show (2 : Nat) ^ 64 = 18446744073709551616 by decide, ← Nat.div_div_eq_div_mul, h6, Nat.add_mul_div_left _ _ (Nat.pow_pos (by omega)), Nat.div_eq_of_lt h7, Nat.zero_add]
    generalize x + 18446744073709551616 * val 18446744073709551616 (l.drop (i + w + 2)) = v
    have : dg l (i + w) + 18446744073709551616 * v = dg l (i + w) + 2 ^ k * (2 ^ (64 - k) * v) := by rw [← Nat.mul_assoc, ← e64]
    rw [this, Nat.add_mul_div_left _ _ (Nat.pow_pos (by omega))]
  rw [hv, Nat.mul_add, ← Nat.add_assoc]
  have h8 : 2 ^ (64 - k) * (18446744073709551616 * val 18446744073709551616 (l.drop (i + w + 2))) = 18446744073709551616 * (2 ^ (64 - k) * val 18446744073709551616 (l.drop (i + w + 2))) := Nat.mul_left_comm _ _ _
  rw [h8, Nat.add_mul_mod_self_left]
  have h9 : x * 2 ^ (64 - k) = 18446744073709551616 * (x * 2 ^ (64 - k) / 18446744073709551616) + (x % 2 ^ k) * 2 ^ (64 - k) := by
    have := Nat.div_add_mod (x * 2 ^ (64 - k)) 18446744073709551616
    rw [h2] at this; omega
  rw [Nat.mul_comm (2 ^ (64 - k)) x, h9, Nat.add_comm (18446744073709551616 * _), ← Nat.add_assoc, Nat.add_mul_mod_self_left]
  exact Nat.mod_eq_of_lt (by omega)
def ShrAt (l o : List Nat) (w k i : Nat) : Prop := ∀ j, j < i → dg o j = val 18446744073709551616 l / 2 ^ (64 * (j + w) + k) % 18446744073709551616
theorem digit_of_val {B : Nat} {o : List Nat} (x : Nat) (hd : ∀ j, j < o.length → dg o j = x / B ^ j % B) (hx : x < B ^ o.length) : val B o = x := by
  have : ∀ i, i ≤ o.length → val B (o.take i) = x % B ^ i := by
    intro i
    induction i with
    | zero => intro _; simp [Nat.mod_one]
    | succ i ih =>
      intro hi
      rw [val_take_getD, ih (by omega), hd i (by omega), Nat.pow_succ, Nat.mod_mul]
  have h := this o.length (Nat.le_refl _)
  rw [List.take_length, Nat.mod_eq_of_lt hx] at h
  exact h
theorem ShrAt.fin {l o : List Nat} {w k : Nat} (h : ShrAt l o w k o.length) (hl : ∀ x ∈ l, x < 18446744073709551616) (hn : l.length = o.length + w) : val 18446744073709551616 o = val 18446744073709551616 l / 2 ^ (64 * w + k) := by
 apply digit_of_val
 · intro j hj
   rw [h j hj, Nat.div_div_eq_div_mul]
   congr 2
   rw [show (18446744073709551616 : Nat) = 2 ^ 64 by decide, ← Nat.pow_mul, ← Nat.pow_add]
   congr 1
   omega
 · apply Nat.div_lt_of_lt_mul
   have h1 := val_lt hl
   rw [hn, Nat.pow_add] at h1
   rw [Nat.pow_add, Nat.pow_mul, show (2 : Nat) ^ 64 = 18446744073709551616 by decide]
   have h2 : 18446744073709551616 ^ o.length * 18446744073709551616 ^ w * 1 ≤ 18446744073709551616 ^ o.length * 18446744073709551616 ^ w * 2 ^ k := Nat.mul_le_mul_left _ (Nat.pow_pos (by omega))
   have h3 : 18446744073709551616 ^ w * 2 ^ k * 18446744073709551616 ^ o.length = 18446744073709551616 ^ o.length * 18446744073709551616 ^ w * 2 ^ k := by
    rw [Nat.mul_comm, Nat.mul_assoc]
   rw [h3]
   omega
end Go.Proofs.YtaemogcomplhiaaGreatDoor

namespace Go.Proofs.YtaemogcomplhiaaGreatDoor
open Go.RowKit

set_option maxRecDepth 100000 in
set_option maxHeartbeats 2000000 in
theorem shl_yes (P : Nat → Prop) (A : Option Addr) (c : Nat) (a : List Nat) (n : Nat) (w : World) (h : RN w P A c a) (hP : ∀ b, P b → b < w.heap.size) (hl : a.length < 100000) (hn : n ≤ 65536) (hv : 0 < val 18446744073709551616 a) :
 Calls Tryz.prog 122 #[.slice A a.length c, .int .i64 (n : Int)] w fun e w' => ∃ A1 c1, e = .returned (.slice A1 (digs 18446744073709551616 (val 18446744073709551616 a * 2 ^ n)).length c1) ∧
  OB w' w.heap.size A1 c1 (digs 18446744073709551616 (val 18446744073709551616 a * 2 ^ n)) ∧ c1 ≤ a.length + n / 64 + 1 ∧ (∃ o, A1 = some ⟨w.heap.size, 0, none⟩ ∧ Blk w' w.heap.size o ∧ o.length = c1 ∧ digs 18446744073709551616 (val 18446744073709551616 a * 2 ^ n) = o.take (digs 18446744073709551616 (val 18446744073709551616 a * 2 ^ n)).length) ∧ Below w.heap.size w w' := by
 have ta := Lib.hid (trim_any P A c a w h)
 have la := digs_length_le (B := 18446744073709551616) (by omega) h.2.1
 replace h := h.trim
 have hne : 0 < (digs 18446744073709551616 (val 18446744073709551616 a)).length := by rw [digs_pos (by omega) hv]; simp
 generalize val 18446744073709551616 a = x at *
 have hx := val_digs (B := 18446744073709551616) (by omega) x
 generalize digs 18446744073709551616 x = l at *
 have la' : l.length < 100000 := by omega
 have Hla := Lib.hid la
 have Hx := Lib.hid hx
 clear hl hx hv la
 obtain ⟨h1, h2, h3⟩ := h.cap
 obtain ⟨s, k, hk, hnk⟩ : ∃ s k, k < 64 ∧ n = 64 * s + k := ⟨n / 64, n % 64, by omega, by omega⟩
 have e1 : (n : Int) / 64 = (s : Int) := by omega
 have e2 : (n : Int) % 64 = (k : Int) := by omega
 have hs : s ≤ 1024 := by omega
 have hne' : ((l.length : Int) == 0) = false := eqB (by omega)
 have hmk := run_make_row' (P := Tryz.prog) 24 65 (.int .u64 0) 8 Tryz.underlying24 info64 rfl .i64 .i64 (l.length + s + 1) (by omega) (by omega)
 simp only [Int.natCast_add, Int.cast_ofNat_Int] at hmk
 have hk1 : (k : Int) < 64 := by omega
 have Hnk := Lib.hid hnk
 clear hne hnk
 go_enter Tryz.func122, Tryz.ntmps122
 go_wp2_with fail
 refine ta.out.mono ?_
 rintro e w1 ⟨rfl, rfl⟩
 go_wp2
 go_loopw [36] (fun iv wr => ∃ (i : Nat) (o : List Nat), iv = .int .i64 (i : Int) ∧ i ≤ l.length ∧ ShlAt l o s k i ∧ Hid (o.length = l.length + s + 1) ∧ Lim o ∧ Blk wr w.heap.size o ∧ Below w.heap.size w wr) (fun iv _ => l.length - (intOf iv).toNat)
 case atStart => exact ⟨0, List.replicate (l.length + s + 1) 0, rfl, by omega, ShlAt.zero _ _ _ _, Lib.hid (by simp), ⟨by simp, by simp; omega⟩, Blk.made w _, (Below.refl _ w).alloc (Nat.le_refl _) _⟩
 case round =>
  obtain ⟨i, o, rfl, hi, hS, Ho, hLo, hblk, hB⟩ := hrel
  by_cases hlt : i < l.length
  · obtain ⟨ad, rfl, had, q1⟩ := (h.below hB hP).at_ hlt
    have hol := Ho.out
    obtain ⟨hi', lo, t, p1, p2, p3, p4, p5, p6⟩ := up_parts (h.2.dgLt i) hk
    have hS' := hS.step (by omega) p3 p6
    obtain ⟨y, hy⟩ : ∃ y, dg o (i + s) + lo = y := ⟨_, rfl⟩
    rw [hy] at hS'
    have hyl : y < 18446744073709551616 := by have := hS.2.2; omega
    have hhl : hi' < 18446744073709551616 := by
     have : 2 ^ k ≤ 2 ^ 63 := Nat.pow_le_pow_right (by omega) (by omega)
     omega
    have f1 : IntKind.u64.wrap ((dg l i : Int) * 2 ^ k) = (lo : Int) := by
     rw [← p2]
     simp [IntKind.wrap, IntKind.bits, IntKind.signed]
    have f2 : bits .or .u64 (dg o (i + s) : Int) (lo : Int) = (y : Int) := by
     rw [bits_or_u64_nat _ _ (hLo.dgLt _) (by omega), Nat.or_comm, p4, or_shift _ _ _ hS.2.2, ← p4, ← hy, Nat.add_comm]
    have f3 : (dg l i : Int) / 2 ^ (64 - k) = (hi' : Int) := by rw [← p1]; simp
    have q3 := hblk.cell (i := i + s) (by omega)
    have q4 := hblk.free (i + s)
    have hblk1 := hblk.set (i + s) y
    have q5 := hblk1.cell (i := i + s + 1) (by simp; omega)
    have q6 := hblk1.free (i + s + 1)
    have hblk2 := hblk1.set (i + s + 1) hi'
    have hLo' := (hLo.set (i + s) y hyl).set (i + s + 1) hi' hhl
    have hB2 := (hB.setCell (p := ⟨w.heap.size, i + s, none⟩) (Nat.le_refl _) (.int .u64 (y : Int))).setCell (p := ⟨w.heap.size, i + s + 1, none⟩) (Nat.le_refl _) (.int .u64 (hi' : Int))
    have Ho' : Hid (((o.set (i + s) y).set (i + s + 1) hi').length = l.length + s + 1) := Lib.hid (by simpa using Ho.out)
    have k1 : (i : Int) + (s : Int) + 1 < (l.length : Int) + (s : Int) + 1 := by omega
    clear hS hLo hblk hB hblk1 hol p1 p2 p3 p4 p5 p6 hyl hhl hy
    go_wp2
    go_roundw
    case rel => exact ⟨i + 1, (o.set (i + s) y).set (i + s + 1) hi', by go_num, by omega, hS', Ho', hLo', hblk2, hB2⟩
    case measure => simp [intOf]; omega
  · obtain rfl : i = l.length := by omega
    have hfin := hS.fin
    rw [Hx.out, ← Hnk.out] at hfin
    have hOB : OB wr w.heap.size (some ⟨w.heap.size, 0, none⟩) (l.length + s + 1) o := OB.of_blk hblk (Nat.le_refl _) hLo (by have := Ho.out; omega) (by unfold maxLen; omega)
    have ht := trim_any _ _ _ _ _ hOB.rn
    have hOB' := hOB.trim
    have hpre : digs 18446744073709551616 (val 18446744073709551616 o) = o.take (digs 18446744073709551616 (val 18446744073709551616 o)).length := by
     obtain ⟨n, hn, e⟩ := hLo.trim
     rw [e, List.length_take, Nat.min_eq_left hn]
    rw [hfin, Ho.out] at ht
    rw [hfin] at hOB' hpre
    have Hpre := Lib.hid hpre
    have Hblk := Lib.hid hblk
    have Ht := Lib.hid ht
    have hcc : Hid (l.length + s + 1 ≤ a.length + n / 64 + 1) := Lib.hid (by have := Hla.out; have := Hnk.out; omega)
    clear hblk hLo ht hfin hOB hS hpre
    go_wp2_with fail
    refine Ht.out.mono ?_
    rintro e w1 ⟨rfl, rfl⟩
    go_wp2
    go_ret
    exact ⟨_, _, rfl, hOB', hcc.out, ⟨o, rfl, Hblk.out, Ho.out, Hpre.out⟩, hB⟩

set_option maxRecDepth 100000 in
set_option maxHeartbeats 2000000 in
theorem shr_any (P : Nat → Prop) (A : Option Addr) (c : Nat) (a : List Nat) (n : Nat) (w : World) (h : RN w P A c a) (hP : ∀ b, P b → b < w.heap.size) (hl : a.length < 100000) (hn : n ≤ 9223372036854775807) :
 Calls Tryz.prog 126 #[.slice A a.length c, .int .i64 (n : Int)] w fun e w' => ∃ A1 c1, e = .returned (.slice A1 (digs 18446744073709551616 (val 18446744073709551616 a / 2 ^ n)).length c1) ∧
  OB w' w.heap.size A1 c1 (digs 18446744073709551616 (val 18446744073709551616 a / 2 ^ n)) ∧ Below w.heap.size w w' := by
 have ta := Lib.hid (trim_any P A c a w h)
 have la := digs_length_le (B := 18446744073709551616) (by omega) h.2.1
 replace h := h.trim
 generalize val 18446744073709551616 a = x at *
 have hx := val_digs (B := 18446744073709551616) (by omega) x
 generalize digs 18446744073709551616 x = l at *
 have la' : l.length < 100000 := by omega
 have Hx := Lib.hid hx
 obtain ⟨h1, h2, h3⟩ := h.cap
 obtain ⟨s, k, hk, hnk⟩ : ∃ s k, k < 64 ∧ n = 64 * s + k := ⟨n / 64, n % 64, by omega, by omega⟩
 have e1 : (n : Int) / 64 = (s : Int) := by omega
 have e2 : (n : Int) % 64 = (k : Int) := by omega
 have e4 : IntKind.i64.wrap ((n : Int) / 64) = (s : Int) := by rw [e1]; exact IntWalk.i64_in _ (by omega)
 have hsb : (s : Int) ≤ 144115188075855871 := by omega
 by_cases hs : s < l.length
 · obtain ⟨m, hm⟩ : ∃ m, l.length = m + s := ⟨l.length - s, by omega⟩
   have em : (l.length : Int) - (s : Int) = (m : Int) := by omega
   have hmk := run_make_row' (P := Tryz.prog) 24 65 (.int .u64 0) 8 Tryz.underlying24 info64 rfl .i64 .i64 m (by omega) (by omega)
   have hk1 : (k : Int) < 64 := by omega
   have hs' : (s : Int) < (l.length : Int) := by omega
   have hs2 : ¬ (l.length : Int) ≤ (s : Int) := by omega
   have Hnk := Lib.hid hnk
   have Hm := Lib.hid hm
   have hmb : m ≤ 100000 := by omega
   clear hl hx la hnk hn hm hsb hs
   go_enter Tryz.func126, Tryz.ntmps126
   go_wp2_with fail
   refine ta.out.mono ?_
   rintro e w1 ⟨rfl, rfl⟩
   go_wp2
   go_loopw [32] (fun iv wr => ∃ (i : Nat) (o : List Nat), iv = .int .i64 (i : Int) ∧ i ≤ m ∧ ShrAt l o s k i ∧ Hid (o.length = m) ∧ Lim o ∧ Blk wr w.heap.size o ∧ Below w.heap.size w wr) (fun iv _ => m - (intOf iv).toNat)
   case atStart => exact ⟨0, List.replicate m 0, rfl, by omega, fun j hj => by omega, Lib.hid (by simp), ⟨by simp, by simp; omega⟩, Blk.made w _, (Below.refl _ w).alloc (Nat.le_refl _) _⟩
   case round =>
    obtain ⟨i, o, rfl, hi, hS, Ho, hLo, hblk, hB⟩ := hrel
    have hol := Ho.out
    have hml := Hm.out
    by_cases hlt : i < m
    · obtain ⟨ad, rfl, had, q1⟩ := (h.below hB hP).at_ (i := i + s) (by omega)
      obtain ⟨t, p1, p2, p3, p4⟩ := shr_digit hk i s rfl h.2.1
      obtain ⟨z, hz⟩ : ∃ z, t * 2 ^ (64 - k) = z := ⟨_, rfl⟩
      obtain ⟨y1, hy1⟩ : ∃ y1, dg l (i + s) / 2 ^ k = y1 := ⟨_, rfl⟩
      obtain ⟨y, hy⟩ : ∃ y, y1 + z = y := ⟨_, rfl⟩
      have hor : (y1 ||| z) = y := by rw [Nat.or_comm, ← hz, or_shift _ _ _ (by rw [← hy1]; exact p2), hz, ← hy, Nat.add_comm]
      rw [hz] at p1 p3 p4
      rw [hy1] at p2 p3 p4
      rw [hy] at p3 p4
      have f1 : (dg l (i + s) : Int) / 2 ^ k = (y1 : Int) := by rw [← hy1]; simp
      have hS' : ShrAt l (o.set i y) s k (i + 1) := fun j hj => by
       rcases Nat.lt_or_ge j i with h | h
       · rw [getD_set_ne (by omega)]; exact hS j h
       · obtain rfl : j = i := by omega
         rw [getD_set_eq (by omega)]; exact p4.symm
      have q3 := hblk.cell (i := i) (by omega)
      have q4 := hblk.free i
      have hblk1 := hblk.set i y1
      have hy1l : y1 < 18446744073709551616 := by omega
      have k1 : (i : Int) + (s : Int) < (l.length : Int) := by omega
      by_cases h2 : i + s + 1 < l.length
      · have hB1 := hB.setCell (p := ⟨w.heap.size, i, none⟩) (Nat.le_refl _) (.int .u64 (y1 : Int))
        have q2 := (h.below hB1 hP).cells (i + s + 1) h2
        rw [add_succ] at q2
        have f2 : IntKind.u64.wrap ((dg l (i + s + 1) : Int) * 2 ^ (64 - k)) = (z : Int) := by
         rw [← p1]
         simp [IntKind.wrap, IntKind.bits, IntKind.signed]
        have hzl : z < 18446744073709551616 := by omega
        have f3 : bits .or .u64 (y1 : Int) (z : Int) = (y : Int) := by rw [bits_or_u64_nat _ _ hy1l hzl, hor]
        have q5 := hblk1.cell (i := i) (by simp; omega)
        rw [getD_set_eq (by omega)] at q5
        have q6 := hblk1.free i
        have hblk2 := hblk1.set i y
        rw [List.set_set] at hblk2
        have hLo' := hLo.set i y p3
        have hB2 := hB1.setCell (p := ⟨w.heap.size, i, none⟩) (Nat.le_refl _) (.int .u64 (y : Int))
        have Ho' : Hid ((o.set i y).length = m) := Lib.hid (by simpa using Ho.out)
        have k2 : (i : Int) + (s : Int) + 1 < (l.length : Int) := by omega
        clear hS hLo hblk hB hblk1 hol p1 p2 p3 p4 hz hy1 hy hor hy1l hzl hml hB1
        go_wp2
        go_region
        all_goals
         go_wp2
         go_roundw
         case rel => exact ⟨i + 1, o.set i y, by go_num, by omega, hS', Ho', hLo', hblk2, below_drewN hB2 1⟩
         case measure => simp [intOf]; omega
      · have hzz : z = 0 := by
         rw [dg_none (by omega : l.length ≤ i + s + 1), Nat.zero_mul, Nat.zero_mod] at p1
         exact p1.symm
        have hyy : y1 = y := by omega
        subst hyy
        have hLo' := hLo.set i y1 p3
        have hB2 := hB.setCell (p := ⟨w.heap.size, i, none⟩) (Nat.le_refl _) (.int .u64 (y1 : Int))
        have Ho' : Hid ((o.set i y1).length = m) := Lib.hid (by simpa using Ho.out)
        have k2 : ¬ (i : Int) + (s : Int) + 1 < (l.length : Int) := by omega
        clear hS hLo hblk hB hol p1 p2 p3 p4 hz hy1 hy hor hy1l hml hzz
        go_wp2
        go_roundw
        case rel => exact ⟨i + 1, o.set i y1, by go_num, by omega, hS', Ho', hLo', hblk1, hB2⟩
        case measure => simp [intOf]; omega
    · obtain rfl : i = m := by omega
      have hfin := ShrAt.fin (by rw [hol]; exact hS) h.2.1 (by rw [hol]; exact hml)
      rw [Hx.out, ← Hnk.out] at hfin
      have hOB : OB wr w.heap.size (some ⟨w.heap.size, 0, none⟩) i o := OB.of_blk hblk (Nat.le_refl _) hLo (by omega) (by unfold maxLen; omega)
      have ht := trim_any _ _ _ _ _ hOB.rn
      have hOB' := hOB.trim
      rw [hfin, hol] at ht
      rw [hfin] at hOB'
      have Ht := Lib.hid ht
      clear hblk hLo ht hfin hOB hS hol hml
      go_wp2_with fail
      refine Ht.out.mono ?_
      rintro e w1 ⟨rfl, rfl⟩
      go_wp2
      go_ret
      exact ⟨_, _, rfl, hOB', hB⟩
 · have hz : x / 2 ^ n = 0 := by
    apply Nat.div_eq_of_lt
    have h4 := val_lt h.2.1
    rw [hx] at h4
    refine Nat.lt_of_lt_of_le h4 ?_
    rw [show (18446744073709551616 : Nat) = 2 ^ 64 by decide, ← Nat.pow_mul]
    exact Nat.pow_le_pow_right (by omega) (by omega)
   rw [hz, digs_zero]
   have hs' : ¬ (s : Int) < (l.length : Int) := by omega
   have hs2 : (l.length : Int) ≤ (s : Int) := by omega
   clear hl hx la hnk hn hz hs
   go_enter Tryz.func126, Tryz.ntmps126
   go_wp2_with fail
   refine ta.out.mono ?_
   rintro e w1 ⟨rfl, rfl⟩
   go_wp2
   go_ret
   exact ⟨none, 0, rfl, OB.nil_ _ _, Below.refl _ _⟩
end Go.Proofs.YtaemogcomplhiaaGreatDoor

namespace Go.Proofs.YtaemogcomplhiaaGreatDoor
open Go.RowKit

theorem own_of_blk {w : World} {base g n c : Nat} {o l : List Nat} (h : Blk w g o) (hg : base ≤ g) (hc : o.length = c) (hc' : c ≤ maxLen) (hn : n ≤ c) (hl : l = o.take n) (hlen : l.length = n) :
 w.ownsRow base 65 1 (.slice (some ⟨g, 0, none⟩) n c) n (nts l) :=
 ⟨by simp [nts, hlen], .inr ⟨g, c, (nts o).toArray, rfl, hg, h, hn, hc', by simp [nts, hc], by simp [nts, hl]⟩⟩
theorem quo_setup {y : Nat} (hy : 18446744073709551616 ≤ y) : ∃ n2 s top, (digs 18446744073709551616 y).length = n2 + 2 ∧ dg (digs 18446744073709551616 y) (n2 + 1) = top ∧ top < 18446744073709551616 ∧ s < 64 ∧ Lib.bitLen top = 64 - s ∧
 (digs 18446744073709551616 (y * 2 ^ s)).length = n2 + 2 ∧ 18446744073709551616 ≤ 2 * dg (digs 18446744073709551616 (y * 2 ^ s)) (n2 + 1) ∧ 18446744073709551616 ^ (n2 + 2) ≤ 2 * (y * 2 ^ s) := by
 have hB : (2 : Nat) ≤ 18446744073709551616 := by omega
 have hlt := digs_lt hB y
 have hl : 1 < (digs 18446744073709551616 y).length := by
  rcases Nat.lt_or_ge 1 (digs 18446744073709551616 y).length with h | h
  · exact h
  · have h1 := lt_pow_digs hB y
    have h2 : 18446744073709551616 ^ (digs 18446744073709551616 y).length ≤ 18446744073709551616 ^ 1 := Nat.pow_le_pow_right (by omega) h
    omega
 obtain ⟨n2, hn⟩ : ∃ n2, (digs 18446744073709551616 y).length = n2 + 2 := ⟨(digs 18446744073709551616 y).length - 2, by omega⟩
 obtain ⟨top, ht⟩ : ∃ top, dg (digs 18446744073709551616 y) (n2 + 1) = top := ⟨_, rfl⟩
 have htl : top < 18446744073709551616 := by rw [← ht]; exact getD_lt (by omega) hlt _
 have h0 : top ≠ 0 := by
  rintro rfl
  have h1 := pow_digs_le hB (v := y) (by omega)
  rw [hn] at h1
  have h2 : y = val 18446744073709551616 ((digs 18446744073709551616 y).take (n2 + 1)) := by
   have := val_take_getD 18446744073709551616 (digs 18446744073709551616 y) (n2 + 1)
   rw [ht, Nat.mul_zero, Nat.add_zero, ← hn, List.take_length, val_digs hB] at this
   exact this
  have h3 := val_lt (B := 18446744073709551616) (l := (digs 18446744073709551616 y).take (n2 + 1)) fun x hx => hlt x (List.mem_of_mem_take hx)
  rw [← h2, List.length_take, Nat.min_eq_left (by omega)] at h3
  exact absurd h3 (Nat.not_lt.2 h1)
 obtain ⟨s, hs, hbl, g1, g2⟩ := shift_of h0 htl
 have e64 : (18446744073709551616 : Nat) = 2 ^ (64 - s) * 2 ^ s := by rw [← Nat.pow_add, show 64 - s + s = 64 by omega]
 obtain ⟨k1, k2, k3⟩ := norm_d hB (by decide) e64 hn ht (by omega) g2
 exact ⟨n2, s, top, hn, ht, htl, hs, hbl, k1, k2, k3⟩

theorem guess_ge {L lD : List Nat} {j n n1 n2 : Nat} (hn : n2 + 2 = n) (hn1 : n2 + 1 = n1) (hL : ∀ x ∈ L, x < 18446744073709551616) (hD : ∀ x ∈ lD, x < 18446744073709551616) (hlD : lD.length = n) (hlen : j + n < L.length)
 (htop : 18446744073709551616 ≤ 2 * dg lD n1) (hV : val 18446744073709551616 L < 18446744073709551616 ^ (j + 1) * val 18446744073709551616 lD) :
 (∀ i, j + n + 1 ≤ i → dg L i = 0) ∧ val 18446744073709551616 L / (18446744073709551616 ^ j * val 18446744073709551616 lD) ≤ guessF (dg L (j + n)) (dg L (j + n1)) (dg L (j + n2)) (dg lD n1) (dg lD n2) ∧
  guessF (dg L (j + n)) (dg L (j + n1)) (dg L (j + n2)) (dg lD n1) (dg lD n2) < 18446744073709551616 := by
 subst hn hn1
 have hdl := val_lt hD
 rw [hlD] at hdl
 have hz : ∀ i, j + (n2 + 2) + 1 ≤ i → dg L i = 0 := fun i hi => zero_of_val_lt hL (m := j + (n2 + 2) + 1) (Nat.lt_trans hV (by
  rw [show j + (n2 + 2) + 1 = (j + 1) + (n2 + 2) by omega, Nat.pow_add _ (j + 1)]
  exact Nat.mul_lt_mul_of_pos_left hdl (Nat.pow_pos (by omega)))) hi
 obtain ⟨k1, k2⟩ := guessF_ok (x2 := dg L (j + (n2 + 2))) (getD_lt (by omega) hL (j + (n2 + 1))) (getD_lt (by omega) hL (j + n2)) (getD_lt (by omega) hD (n2 + 1)) (getD_lt (by omega) hD n2) htop
 refine ⟨hz, k2 _ ?_ ?_, k1⟩
 · apply Nat.div_lt_of_lt_mul
   rw [Nat.pow_succ, Nat.mul_right_comm] at hV
   exact hV
 · obtain ⟨rv, hrv, hv⟩ := val_three (t := j + n2) hL (by omega) (fun i hi => hz i (by omega))
   obtain ⟨rd, hd⟩ := val_two (B := 18446744073709551616) (L := lD) (t := n2) (by omega)
   refine quo_three (B := 18446744073709551616) (t := j + n2) (DB := 18446744073709551616 ^ j * val 18446744073709551616 lD) (rd := 18446744073709551616 ^ j * rd) (Nat.div_mul_le_self _ _) ?_ hv hrv
   rw [hd, Nat.mul_add, ← Nat.mul_assoc, ← Nat.pow_add]
theorem Row.alloc_ {w : World} {g : Nat} {l : List Nat} (h : Row w g l) (o : Obj) : Row (w.alloc o) g l := h.of_heap (Below.heap_alloc w o g h.lt)
theorem RN.alloc_ {w : World} {P : Nat → Prop} {A : Option Addr} {c : Nat} {l : List Nat} (h : RN w P A c l) (hP : ∀ b, P b → b < w.heap.size) (o : Obj) : RN (w.alloc o) P A c l := h.below ((Below.refl w.heap.size w).alloc (Nat.le_refl _) o) hP
theorem shl_len (x : Nat) {s : Nat} (hs : s < 64) : (digs 18446744073709551616 (x * 2 ^ s)).length ≤ (digs 18446744073709551616 x).length + 1 := by
 apply digs_length_of_lt (by omega)
 have h1 := lt_pow_digs (B := 18446744073709551616) (by omega) x
 have h2 : 2 ^ s ≤ 2 ^ 64 := Nat.pow_le_pow_right (by omega) (by omega)
 rw [show (2 : Nat) ^ 64 = 18446744073709551616 by decide] at h2
 rw [Nat.pow_succ]
 exact Nat.lt_of_le_of_lt (Nat.mul_le_mul_left _ h2) (Nat.mul_lt_mul_of_pos_right h1 (by omega))

set_option maxRecDepth 100000 in
set_option maxHeartbeats 1000000 in
theorem quo_big (P P' : Nat → Prop) (A A' : Option Addr) (c c' : Nat) (a b : List Nat) (w : World) (h : RN w P A c a) (h' : RN w P' A' c' b) (hP : ∀ b, P b → b < w.heap.size) (hP' : ∀ b, P' b → b < w.heap.size) (hl : a.length < 90000) (hl' : b.length < 90000)
 (hge : val 18446744073709551616 b ≤ val 18446744073709551616 a) (hbig : 18446744073709551616 ≤ val 18446744073709551616 b) :
 Calls Tryz.prog 95 #[.slice A a.length c, .slice A' b.length c'] w fun e w' => ∃ A1 c1 A2 c2, e = .returned (.tuple #[.slice A1 (digs 18446744073709551616 (val 18446744073709551616 a / val 18446744073709551616 b)).length c1, .slice A2 (digs 18446744073709551616 (val 18446744073709551616 a % val 18446744073709551616 b)).length c2, .bool true]) ∧
  OB w' w.heap.size A1 c1 (digs 18446744073709551616 (val 18446744073709551616 a / val 18446744073709551616 b)) ∧ OB w' w.heap.size A2 c2 (digs 18446744073709551616 (val 18446744073709551616 a % val 18446744073709551616 b)) ∧ Below w.heap.size w w' := by
 have ta := Lib.hid (trim_any P A c a w h)
 have tb := trim_any P' A' c' b w h'
 have tc := cmp_any P P' A A' c c' _ _ w h.trim h'.trim
 have la := digs_length_le (B := 18446744073709551616) (by omega) h.2.1
 have lb := digs_length_le (B := 18446744073709551616) (by omega) h'.2.1
 rw [val_digs (by omega), val_digs (by omega)] at tc
 replace h := h.trim
 replace h' := h'.trim
 generalize val 18446744073709551616 a = x at *
 generalize val 18446744073709551616 b = y at *
 have hcv : 0 ≤ cmpV x y := by rcases cmpV_cases x y with h | h | h <;> omega
 generalize cmpV x y = v at tc hcv
 obtain ⟨i0, hi, hz0, hz1, hz2⟩ := info_parts info64
 obtain ⟨n2, s, top, hn, htop, htl, hs, hbl, hDn, hDt, hDp⟩ := quo_setup hbig
 have hxv := val_digs (B := 18446744073709551616) (by omega) x
 have hyv := val_digs (B := 18446744073709551616) (by omega) y
 have hmono : (digs 18446744073709551616 x).length ≤ (digs 18446744073709551616 (x * 2 ^ s)).length := digs_length_mono (by omega) (Nat.le_mul_of_pos_right _ (Nat.pow_pos (by omega)))
 have hmono2 : (digs 18446744073709551616 y).length ≤ (digs 18446744073709551616 x).length := digs_length_mono (by omega) hge
 have hshl := shl_len x hs
 have hX0 : 0 < x := by omega
 have hY0 : 0 < y := by omega
 generalize digs 18446744073709551616 x = l at *
 generalize digs 18446744073709551616 y = m at *
 have T1 := Lib.hid fun W (hW : RN W P A c l) (hp : ∀ b, P b → b < W.heap.size) => shl_yes P A c l s W hW hp (by omega) (by omega) (by rw [hxv]; exact hX0)
 have T2 := Lib.hid fun W (hW : RN W P' A' c' m) (hp : ∀ b, P' b → b < W.heap.size) => shl_yes P' A' c' m s W hW hp (by omega) (by omega) (by rw [hyv]; exact hY0)
 rw [hxv] at T1
 rw [hyv, hDn, hn] at T2
 rw [hn] at tb tc
 have hXD := norm_x (B := 18446744073709551616) (x := x * 2 ^ s) (D := y * 2 ^ s) (n := n2 + 2) (by omega) (by omega) hDp
 have hDlt := lt_pow_digs (B := 18446744073709551616) (by omega) (y * 2 ^ s)
 rw [hDn] at hDlt
 have hDd := digs_lt (B := 18446744073709551616) (by omega) (y * 2 ^ s)
 have hDv := val_digs (B := 18446744073709551616) (by omega) (y * 2 ^ s)
 have hXv := val_digs (B := 18446744073709551616) (by omega) (x * 2 ^ s)
 have hD0 : 0 < y * 2 ^ s := Nat.mul_pos hY0 (Nat.pow_pos (by omega))
 have hqx : (x * 2 ^ s) / (y * 2 ^ s) = x / y := Nat.mul_div_mul_right _ _ (Nat.pow_pos (by omega))
 have hrx : (x * 2 ^ s) % (y * 2 ^ s) / 2 ^ s = x % y := by
  rw [Nat.mul_mod_mul_right]
  exact Nat.mul_div_cancel _ (Nat.pow_pos (by omega))
 generalize y * 2 ^ s = D at *
 generalize x * 2 ^ s = X at *
 generalize digs 18446744073709551616 D = lD at *
 generalize digs 18446744073709551616 X = lX at *
 obtain ⟨n, hn'⟩ : ∃ n, n2 + 2 = n := ⟨_, rfl⟩
 obtain ⟨n1, hn1⟩ : ∃ n1, n2 + 1 = n1 := ⟨_, rfl⟩
 rw [hn'] at hn hDn hDlt hXD tb tc T2
 have HlD := Lib.hid hDn
 rw [hn1] at htop hDt
 obtain ⟨kX, hkX⟩ : ∃ kX, lX.length = kX := ⟨_, rfl⟩
 have hLX : Lim lX → True := fun _ => trivial
 clear hLX
 rw [hkX] at hmono T1 hXD hshl
 obtain ⟨t, htt⟩ : ∃ t, kX + 1 - n = t := ⟨_, rfl⟩
 rw [htt] at hXD
 have hlz := fun w => Tryz.bits_LeadingZeros64 (top : Int) w (by omega) (by omega)
 rw [Int.toNat_natCast, hbl, show (64 - ((64 - s : Nat) : Int)) = (s : Int) by omega] at hlz
 have hge0 : ((n : Int) == 0) = false := eqB (by omega)
 have hge1 : ((n : Int) == 1) = false := eqB (by omega)
 have i1 : (n : Int) - 1 = (n1 : Int) := by omega
 have i2 : n1 < n := by omega
 have i3 : ¬ kX < l.length := by omega
 have i4 : (kX : Int) + 1 - (n : Int) = (t : Int) := by omega
 have hcv' : ¬ v < 0 := by omega
 have hnb : n < 90000 := by omega
 have hlb : l.length < 90000 := by omega
 have hkb : kX ≤ 90001 := by omega
 obtain ⟨ad', rfl, hPad, q1⟩ := h'.at_ (i := n1) (by omega)
 rw [htop] at q1
 have Htb := Lib.hid tb
 have Htc := Lib.hid tc
 have Hlz := Lib.hid hlz
 have Hn2 := Lib.hid hn'
 have Hn1 := Lib.hid hn1
 have HkX := Lib.hid hkX
 have HXD := Lib.hid hXD
 have Htt := Lib.hid htt
 have Hqx := Lib.hid hqx
 have Hrx := Lib.hid hrx
 have HDv := Lib.hid hDv
 have HXv := Lib.hid hXv
 have HDlt := Lib.hid hDlt
 have HDt := Lib.hid hDt
 have Hla := Lib.hid la
 have Hl := Lib.hid hl
 clear tb tc hlz hn' hn1 hkX hXD htt hqx hrx hDv hXv hDlt hDt la hl hbig hge hxv hyv hmono2 hX0 hY0 hDp lb hl' hbl htl htop hcv hDn hmono hshl
 go_enter Tryz.func95, Tryz.ntmps95
 go_wp2_with fail
 refine ta.out.mono ?_
 rintro e w1 ⟨rfl, rfl⟩
 go_wp2_with fail
 refine Htb.out.mono ?_
 rintro e w1 ⟨rfl, rfl⟩
 go_wp2_with fail
 refine Htc.out.mono ?_
 rintro e w1 ⟨rfl, nd, rfl⟩
 obtain ⟨W, hW⟩ : ∃ W, W = w.drewN nd := ⟨_, rfl⟩
 have q2 : W.cell? (ad'.add n1) = some (.int .u64 (top : Int)) := by rw [hW]; exact q1
 have hsz : W.heap.size = w.heap.size := by rw [hW]; rfl
 have hB0 : Below w.heap.size w W := by rw [hW]; exact below_drewN (Below.refl _ _) _
 have hRa : RN W P A c l := by rw [hW]; exact h.drewN _
 have hRb : RN W P' (some ad') c' m := by rw [hW]; exact h'.drewN _
 rw [← hW]
 have T1' := Lib.hid (T1.out W hRa (by rw [hsz]; exact hP))
 have Hsz := Lib.hid hsz
 clear hW q1 T1 hRa h h' hsz
 go_wp2_with fail
 refine (Hlz.out _).mono ?_
 rintro e w1 ⟨rfl, hw1⟩
 obtain rfl : W = w1 := hw1.symm
 go_wp2_with fail
 refine T1'.out.mono ?_
 rintro e w2 ⟨A1, c1, rfl, hO1, hc1, ⟨o, rfl, hblk, ho, hpre⟩, hB1⟩
 have hown := own_of_blk hblk (Nat.le_refl _) ho (by unfold maxLen; have := hO1.cap; omega) (by have := hO1.cap; have := HkX.out; omega) hpre HkX.out
 have hLX := hO1.1
 have hB1s := hB1.size
 clear hblk hpre ho
 go_wp2_with (at_builtin; refine wpList_append_rs _ rfl _ _ 24 rfl W.heap.size 65 i0 (.int .u64 0) 1 8 Tryz.underlying24 hi hz0 hz1 hz2 rfl (by decide) _ kX (nts lX) rfl (hown.alloc _) (In w2.heap.size (w2.heap.size + 1)) (some ⟨w2.heap.size, 0, none⟩) 1 1 [.int .u64 0] rfl (RS.fresh #[.int .u64 0] 65 1 1 rfl (by unfold maxLen; omega) ⟨Nat.le_refl _, by omega⟩) (by simp [Value.oneCell']) (kX + 1) rfl (by unfold maxLen; omega) (by omega) (by simp; omega) ?_)
 intro A2 c2 w3 hown3 hg3 _
 have hlen : (lX ++ [0]).length = kX + 1 := by rw [List.length_append, HkX.out]; rfl
 have hown4 : w3.ownsRow W.heap.size 65 1 (.slice A2 (lX ++ [0]).length c2) (lX ++ [0]).length (nts (lX ++ [0])) := by
  rw [hlen]
  have : nts (lX ++ [0]) = nts lX ++ [.int .u64 0] := by simp [nts]
  rw [this]
  exact hown3
 have hLr : Lim (lX ++ [0]) := ⟨fun x hx => by
  rcases List.mem_append.1 hx with h | h
  · exact hLX.1 x h
  · rw [List.mem_singleton.1 h]; omega, by rw [hlen]; omega⟩
 have hOr := OB.of_own hown4 hLr
 obtain ⟨g, rfl, hg, hrow⟩ := hOr.row (by omega)
 have hcr := hOr.cap
 rw [hlen] at hcr
 have hgl := hrow.lt
 have hB3 : Below W.heap.size W w3 := (hB1.alloc hB1s _).grown hg3 (by simp; omega) (by intro j hj; exact own_block_le hown hj)
 have hvr : val 18446744073709551616 (lX ++ [0]) = X := by rw [val_append, HXv.out]; simp
 generalize lX ++ [0] = R at *
 obtain ⟨p, hp⟩ : ∃ p : Addr, p = ⟨g, 0, none⟩ := ⟨_, rfl⟩
 rw [← hp]
 have Hp := Lib.hid hp
 have T3 := Lib.hid (T2.out w3 (hRb.below hB3 (by rw [Hsz.out]; exact hP')) (by have := hB3.size; have := Hsz.out; intro b hb; have := hP' b hb; omega))
 have hcr2 : kX + 1 ≤ c2 := hcr.1
 have hcr3 : c2 ≤ 9223372036854775807 := hcr.2.1
 clear hp hown hown3 hown4 hO1 hB1 hB1s hcr T2 hRb q2 hg3 hOr
 go_wp2_with fail
 go_loopw [11] (fun rv wr => rv = .slice (some p) (kX + 1) c2 ∧ w3 = wr) (fun _ _ => 0)
 case atStart => exact ⟨rfl, rfl⟩
 case round =>
  obtain ⟨rfl, rfl⟩ := hrel
  go_wp2_with fail
  refine T3.out.mono ?_
  rintro e w4 ⟨A3, c3, rfl, hO3, hc3, ⟨o3, hA3, hu1, hu2, hu3⟩, hB4⟩
  clear hu1 hu2 hu3
  have hAd := hO3.row (by rw [HlD.out]; omega)
  have hRd := hO3.rn
  have hB4s := hB4.size
  have hgq : g < w4.heap.size := by omega
  have hrow4 := hrow.below hB4 hgl
  have hB34 : Below W.heap.size W w4 := hB3.trans (hB4.mono (by have := hB3.size; omega))
  have hB4a := hB34.alloc (by omega) (.cells (madeCells #[.int .u64 0] t) 65)
  have hblkq := Blk.made w4 t
  have hmk := run_make_row' (P := Tryz.prog) 24 65 (.int .u64 0) 8 Tryz.underlying24 info64 rfl .i64 .i64 t (by omega) (by omega)
  have Hs := Lib.hid (Below1.start t)
  clear hO3 hB4 hB34 hrow T3 hA3
  go_wp2_with fail
  go_loopw [14] (fun iv wr => ∃ (k : Nat) (z : Int) (L qs : List Nat), iv = .int .i64 z ∧ Below1 k z ∧ k ≤ t ∧ QuoAt 18446744073709551616 X D L qs k ∧ Hid (L.length = kX + 1) ∧ Hid (qs.length = t) ∧ Lim L ∧ Lim qs ∧ Row wr g L ∧ Blk wr w4.heap.size qs ∧ RN wr (In w3.heap.size w4.heap.size) A3 c3 lD ∧ Below w.heap.size w wr) (fun iv _ => (intOf iv + 1).toNat)
  case atStart => exact ⟨t, _, R, List.replicate t 0, rfl, Hs.out, by omega, by rw [← hvr]; exact QuoAt.start (by simp) (by rw [hvr]; exact HXD.out), Lib.hid hlen, Lib.hid (by simp), hLr, ⟨by simp, by simp; omega⟩, hrow4.alloc_ _, hblkq, hRd.alloc_ (fun b hb => hb.2) _, (hB0.trans (hB4a.mono (by rw [Hsz.out]; exact Nat.le_refl _)))⟩
  case round =>
   obtain ⟨k, z, L, qs, rfl, hz, hk, hQ, HL, Hqs, hLL, hLq, hrw, hbq, hRD, hB⟩ := hrel
   clear hrow4 hblkq hRd hB4a hlen hLr hvr hAd
   rcases hz with ⟨rfl, rfl⟩ | ⟨j, rfl, rfl⟩
   · obtain ⟨v1, v2⟩ := hQ.fin
     rw [Hqx.out] at v1
     have hws := hB.size
     have hWs := Hsz.out
     have hOq : OB wr w.heap.size (some ⟨w4.heap.size, 0, none⟩) t qs := OB.of_blk hbq (by omega) hLq (by have := Hqs.out; omega) (by unfold maxLen; omega)
     have hOr := hrw.ob (base := w.heap.size) (c := c2) (by omega) hLL (by have := HL.out; omega) (by unfold maxLen; omega)
     have tq := trim_any _ _ _ _ _ hOq.rn
     have hOq' := hOq.trim
     rw [v1] at hOq'
     rw [v1, Hqs.out] at tq
     have tr := shr_any _ _ _ _ s wr hOr.rn (fun b hb => hb.2) (by have := HL.out; omega) (by omega)
     rw [v2, Hrx.out, HL.out, ← Hp.out] at tr
     have Tq := Lib.hid tq
     have Tr := Lib.hid tr
     clear hQ hLL hLq hrw hbq hRD hOr hOq tq tr
     go_wp2_with fail
     refine Tq.out.mono ?_
     rintro e w5 ⟨rfl, rfl⟩
     go_wp2_with fail
     refine Tr.out.mono ?_
     rintro e w6 ⟨A6, c6, rfl, hO6, hB6⟩
     go_wp2
     go_ret3
     exact ⟨_, _, _, _, rfl, hOq'.below hB6 (Nat.le_refl _), hO6.mono hws, hB.trans (hB6.mono hws)⟩
   · have hLl := HL.out
     have hlD := HlD.out
     have e2 := Hn2.out
     have e1 := Hn1.out
     have hjt := Htt.out
     obtain ⟨hz0, hge, hgB⟩ := guess_ge (j := j) e2 e1 hLL.1 hDd hlD (by omega) HDt.out (by rw [HDv.out]; exact hQ.2)
     obtain ⟨ad, rfl, had, d1⟩ := hRD.at_ (i := n1) (by omega)
     have d2 := hRD.cells n2 (by omega)
     obtain ⟨y0, hy0⟩ : ∃ y0, j + n = y0 := ⟨_, rfl⟩
     obtain ⟨y1, hy1⟩ : ∃ y1, j + n1 = y1 := ⟨_, rfl⟩
     obtain ⟨y2, hy2⟩ : ∃ y2, j + n2 = y2 := ⟨_, rfl⟩
     rw [hy0, hy1, hy2] at hge hgB
     rw [HDv.out] at hge
     have r0 := hrw.cell Hp.out (j := y0) (by omega)
     have r1 := hrw.cell Hp.out (j := y1) (by omega)
     have r2 := hrw.cell Hp.out (j := y2) (by omega)
     rw [Nat.zero_add] at r0 r1 r2
     have hgs := guess_any (dg L y0) (dg L y1) (dg L y2) (dg lD n1) (dg lD n2)
     have hgs2 := fun w => hgs w (hLL.dgLt y1) (hLL.dgLt y2) (getD_lt (by omega) hDd n1) (getD_lt (by omega) hDd n2) HDt.out
     obtain ⟨G, hG⟩ : ∃ G, guessF (dg L y0) (dg L y1) (dg L y2) (dg lD n1) (dg lD n2) = G := ⟨_, rfl⟩
     rw [hG] at hge hgB hgs2
     have Hgs := Lib.hid hgs2
     have c0 : (j : Int) + (n : Int) = (y0 : Int) := by omega
     have c1' : (y0 : Int) - 1 = (y1 : Int) := by omega
     have c2' : (y0 : Int) - 2 = (y2 : Int) := by omega
     have c3' : (n : Int) - 2 = (n2 : Int) := by omega
     have c4 : y0 + 1 - j = n + 1 := by omega
     have hpj : p.add j = ⟨g, j, none⟩ := by rw [Hp.out, add_off, Nat.zero_add]
     have Hpj := Lib.hid hpj
     have b0 : (y0 : Int) < (kX : Int) + 1 := by omega
     have b1 : (y1 : Int) < (kX : Int) + 1 := by omega
     have b2 : (y2 : Int) < (kX : Int) + 1 := by omega
     have b3 : n2 < n := by omega
     have b4 : j ≤ y0 + 1 := by omega
     have b5 : (y0 : Int) + 1 ≤ (c2 : Int) := by omega
     have b6 : y0 ≤ 90001 := by omega
     clear hgs hgs2 hG e1 e2 hLl hpj
     have Hjt := Lib.hid hjt
     have Hlen : Hid (j + n < L.length) := Lib.hid (by have := HL.out; omega)
     have HlDn := Lib.hid hlD
     have hPg : ∀ b, In w3.heap.size w4.heap.size b → b ≠ g := fun b hb => by have := hb.1; omega
     have hgq' : w4.heap.size ≠ g := by omega
     have hwg : w.heap.size ≤ g := by have := Hsz.out; omega
     clear hjt hlD
     go_wp2_with fail
     go_quiet ((go_at_call 123; exact Calls.quiet_of (Hgs.out _)))
     go_wp2_with fail
     refine (takes_any g j (p.add j) Hpj.out (In w3.heap.size w4.heap.size) (some ad) c3 (c2 - j) n G L lD _ (hrw.drewN _) hLL (hRD.drewN _) hPg HlDn.out Hlen.out hgB).mono ?_
     rintro e w5 ⟨L1, bb, rfl, hrw1, hLL1, ho1, hl1, hv1, hz1⟩
     have hF1 := FixAt.start (n := n) (D := D) hge hgB hz1 hz0 (by rw [HDv.out] at hv1; exact hv1) hLL1.1 (by omega) HDlt.out
     have hbq1 : Blk w5 w4.heap.size qs := (ho1.block _ hgq').trans hbq
     have hRD1 := (hRD.drewN nq).only ho1 hPg
     have hB1' := (below_drewN hB nq).trans (ho1.below hwg)
     have hl1' := Lib.hid (hl1.trans HL.out)
     clear hrw hLL hbq hRD hB ho1 hv1 hz1 hl1 hge hgB r0 r1 r2 d1 d2 hz0
     go_wp2_with fail
     go_loopw [15, 17] (fun gv tv wr => ∃ (G : Nat) (too : Bool) (L' : List Nat), gv = .int .u64 (G : Int) ∧ tv = .bool too ∧ FixAt 18446744073709551616 (val 18446744073709551616 L) j n D L' G too ∧ Hid (L'.length = kX + 1) ∧ Lim L' ∧ Row wr g L' ∧ Blk wr w4.heap.size qs ∧ RN wr (In w3.heap.size w4.heap.size) (some ad) c3 lD ∧ Below w.heap.size w wr) (fun gv _ _ => (intOf gv).toNat)
     case atStart => exact ⟨G, _, L1, rfl, rfl, hF1, hl1', hLL1, hrw1, hbq1, hRD1, hB1'⟩
     case round =>
      clear hF1 hl1' hLL1 hrw1 hbq1 hRD1 hB1'
      obtain ⟨G, too, L', rfl, rfl, hF, HL', hLL, hrw, hbq, hRD, hB⟩ := hrel
      rcases too with _ | _
      · obtain ⟨f1, f2⟩ := hF.fin (by omega) hD0
        have hjq : j < qs.length := by have := Hqs.out; omega
        have hQ' := hQ.step hjq f1 f2
        have q3 := hbq.cell hjq
        have q4 := hbq.free j
        have hbq' := hbq.set j G
        have hLq' := hLq.set j G hF.2.1
        have hB' := hB.setCell (p := ⟨w4.heap.size, j, none⟩) (by show w.heap.size ≤ w4.heap.size; omega) (.int .u64 (G : Int))
        have hRD' : RN (World.setCell _ ⟨w4.heap.size, j, none⟩ (.int .u64 (G : Int))) (In w3.heap.size w4.heap.size) (some ad) c3 lD := hRD.keep fun q hq => World.cell?_of_block (w := _) (Below.heap_setCell _ _ _ q.block (by have := hq.2; show q.block ≠ w4.heap.size; omega))
        have hrw' := hrw.of_heap (Below.heap_setCell _ ⟨w4.heap.size, j, none⟩ (.int .u64 (G : Int)) g (by show g ≠ w4.heap.size; omega))
        have Hqs' : Hid ((qs.set j G).length = t) := Lib.hid (by simpa using Hqs.out)
        have k1 : j < t := by omega
        have Hs' := Lib.hid (Below1.start j)
        clear hF f1 f2 hQ hbq hLq hB hRD hrw
        go_wp2
        go_roundw
        case rel => exact ⟨j, _, L', qs.set j G, rfl, Hs'.out, by omega, hQ', HL', Hqs', hLL, hLq', hrw', hbq', hRD', hB'⟩
        case measure => simp [intOf]
      · have hpos := hF.pos hLL.1 (by omega)
        have hpos' := Nat.lt_of_le_of_lt (Nat.zero_le _) hpos
        clear hpos
        obtain ⟨G, rfl⟩ : ∃ k, G = k + 1 := ⟨G - 1, by omega⟩
        have hgB := hF.2.1
        have hGi : (G : Int) < 18446744073709551616 := by omega
        clear hpos' hgB
        go_wp2_with fail
        refine (gives_any g j (p.add j) Hpj.out (In w3.heap.size w4.heap.size) (some ad) c3 (c2 - j) n L' lD _ hrw hLL hRD hPg HlDn.out (by rw [HL'.out, ← HL.out]; exact Hlen.out)).mono ?_
        rintro e w6 ⟨L2, bb2, rfl, hrw2, hLL2, ho2, hl2, hv2, hz2⟩
        rw [HDv.out] at hv2
        have hF2 := hF.step hLL.1 hLL2.1 (by omega) hD0 HDlt.out hv2 hz2
        have hbq2 : Blk w6 w4.heap.size qs := (ho2.block _ hgq').trans hbq
        have hRD2 := hRD.only ho2 hPg
        have hB2 := hB.trans (ho2.below hwg)
        have r4 := hrw2.cell Hpj.out (j := n) (by rw [hl2, HL'.out, ← HL.out]; exact Hlen.out)
        have HL2 := Lib.hid (hl2.trans HL'.out)
        have k2 : (n : Int) < (n : Int) + 1 := by omega
        clear hF hLL hrw hbq hRD hB ho2 hl2 hv2 hz2
        by_cases hd0 : dg L2 (j + n) = 0
        · rw [hd0] at r4 hF2
          clear hd0
          go_wp2
          go_roundw
          case rel => exact ⟨G, false, L2, by go_num, rfl, by simpa using hF2, HL2, hLL2, hrw2, hbq2, hRD2, hB2⟩
          case measure => simp [intOf]
        · have hdn : ((dg L2 (j + n) : Int) != 0) = true := neB (by omega)
          have hF2' : FixAt 18446744073709551616 (val 18446744073709551616 L) j n D L2 G true := by simpa [hd0] using hF2
          clear hF2
          go_wp2
          go_roundw
          case rel => exact ⟨G, true, L2, by go_num, congrArg Value.bool (by first | exact hdn | (rw [← hy0]; exact hdn)), hF2', HL2, hLL2, hrw2, hbq2, hRD2, hB2⟩
          case measure => simp [intOf]

theorem quo_any (P P' : Nat → Prop) (A A' : Option Addr) (c c' : Nat) (a b : List Nat) (w : World) (h : RN w P A c a) (h' : RN w P' A' c' b) (hP : ∀ b, P b → b < w.heap.size) (hP' : ∀ b, P' b → b < w.heap.size) (hl : a.length < 90000) (hl' : b.length < 90000) (h0 : 0 < val 18446744073709551616 b) :
 Calls Tryz.prog 95 #[.slice A a.length c, .slice A' b.length c'] w fun e w' => ∃ A1 c1 A2 c2, e = .returned (.tuple #[.slice A1 (digs 18446744073709551616 (val 18446744073709551616 a / val 18446744073709551616 b)).length c1, .slice A2 (digs 18446744073709551616 (val 18446744073709551616 a % val 18446744073709551616 b)).length c2, .bool true]) ∧
  OB w' w.heap.size A1 c1 (digs 18446744073709551616 (val 18446744073709551616 a / val 18446744073709551616 b)) ∧ OB w' w.heap.size A2 c2 (digs 18446744073709551616 (val 18446744073709551616 a % val 18446744073709551616 b)) ∧ Below w.heap.size w w' := by
 rcases Nat.lt_or_ge (val 18446744073709551616 a) (val 18446744073709551616 b) with hlt | hge
 · have hq := quo_lt P P' A A' c c' a b w h h' hlt
   rw [Nat.div_eq_of_lt hlt, Nat.mod_eq_of_lt hlt, digs_zero]
   refine hq.mono ?_
   rintro e w' ⟨A1, c1, rfl, hO, hB⟩
   exact ⟨none, 0, A1, c1, rfl, OB.nil_ _ _, hO, hB⟩
 · rcases Nat.lt_or_ge (val 18446744073709551616 b) 18446744073709551616 with h1 | h1
   · exact quo_one P P' A A' c c' a b w h h' hP (by omega) hge h0 h1
   · exact quo_big P P' A A' c c' a b w h h' hP hP' hl hl' hge h1
end Go.Proofs.YtaemogcomplhiaaGreatDoor

namespace Go.Proofs.YtaemogcomplhiaaGreatDoor
open Go.RowKit

def z6 : List Nat := [0, 0, 0, 0, 0, 0]
theorem fc_m (n inv : Nat) (a ol rl : List Nat) (ha : a.length ≤ 6) : (fcells n inv z6 ol rl).take 1 ++ nts a ++ (fcells n inv z6 ol rl).drop (1 + a.length) = fcells n inv (a ++ List.replicate (6 - a.length) 0) ol rl := by
 match a, ha with
 | [], _ | [_], _ | [_, _], _ | [_, _, _], _ | [_, _, _, _], _ | [_, _, _, _, _], _ | [_, _, _, _, _, _], _ => rfl
theorem fc_o (n inv : Nat) (a ml rl : List Nat) (hm : ml.length = 6) (ha : a.length ≤ 6) : (fcells n inv ml z6 rl).take 8 ++ nts a ++ (fcells n inv ml z6 rl).drop (8 + a.length) = fcells n inv ml (a ++ List.replicate (6 - a.length) 0) rl := by
 obtain ⟨_, _, _, _, _, _, rfl⟩ := six hm
 match a, ha with
 | [], _ | [_], _ | [_, _], _ | [_, _, _], _ | [_, _, _, _], _ | [_, _, _, _, _], _ | [_, _, _, _, _, _], _ => rfl
theorem fc_r (n inv : Nat) (a ml ol : List Nat) (hm : ml.length = 6) (ho : ol.length = 6) (ha : a.length ≤ 6) : (fcells n inv ml ol z6).take 14 ++ nts a ++ (fcells n inv ml ol z6).drop (14 + a.length) = fcells n inv ml ol (a ++ List.replicate (6 - a.length) 0) := by
 obtain ⟨_, _, _, _, _, _, rfl⟩ := six hm
 obtain ⟨_, _, _, _, _, _, rfl⟩ := six ho
 match a, ha with
 | [], _ | [_], _ | [_, _], _ | [_, _, _], _ | [_, _, _, _], _ | [_, _, _, _, _], _ | [_, _, _, _, _, _], _ => rfl
theorem fc_inv (n inv : Nat) (ml ol rl : List Nat) (hm : ml.length = 6) : (fcells n 0 ml ol rl).toArray.setIfInBounds 7 (.int .u64 (inv : Int)) = (fcells n inv ml ol rl).toArray := by
 obtain ⟨_, _, _, _, _, _, rfl⟩ := six hm
 simp [fcells, nts]
theorem fc_len (n inv : Nat) (ml ol rl : List Nat) (hm : ml.length = 6) (ho : ol.length = 6) (hr : rl.length = 6) : (fcells n inv ml ol rl).length = 20 := by simp [fcells, nts, hm, ho, hr]
theorem pad_six {a : List Nat} (h : a.length ≤ 6) : (a ++ List.replicate (6 - a.length) 0).length = 6 := by simp; omega
theorem pad_lim {a : List Nat} (h : ∀ x ∈ a, x < 18446744073709551616) : ∀ x ∈ a ++ List.replicate (6 - a.length) 0, x < 18446744073709551616 := fun x hx => by
 rcases List.mem_append.1 hx with h1 | h1
 · exact h x h1
 · have := (List.mem_replicate.1 h1).2; omega

set_option maxRecDepth 100000 in
set_option maxHeartbeats 8000000 in
theorem znew_any (P : Nat → Prop) (A : Option Addr) (c : Nat) (a : List Nat) (M : Nat) (w : World) (h : RN w P A c a) (hM : val 18446744073709551616 a = M) (h1 : 1 < M) (hodd : M % 2 = 1) (_hl : a.length < 40000) (hl6 : (digs 18446744073709551616 M).length ≤ 6) :
 Calls Tryz.prog 91 #[.slice A a.length c] w fun e w' => ∃ g inv ml ol rl, e = .returned (.pointer (some ⟨g, 0, none⟩)) ∧ w.heap.size ≤ g ∧ FR w' g (digs 18446744073709551616 M).length inv M ml ol rl ∧ Below w.heap.size w w' := by
 obtain ⟨i0, hi, hz0, hz1, hz2⟩ := info_parts info64
 have hn1 := norm_any P A c a w h
 have hln := digs_length_le (B := 18446744073709551616) (by omega) h.2.1
 rw [hM] at hn1 hln
 have hvd := val_digs (B := 18446744073709551616) (by omega) M
 have hlim := digs_lt (B := 18446744073709551616) (by omega) M
 have hm0 := dg_zero_mod hlim (by omega)
 rw [hvd] at hm0
 obtain ⟨ml, hml⟩ : ∃ ml, digs 18446744073709551616 M = ml := ⟨_, rfl⟩
 rw [hml] at hn1 hln hvd hm0 hlim hl6 ⊢
 obtain ⟨m0, hm0'⟩ : ∃ m0, dg ml 0 = m0 := ⟨_, rfl⟩
 rw [hm0'] at hm0
 have hm2 : (m0 : Int) % 2 = 1 := by omega
 obtain ⟨n, hn⟩ : ∃ n, ml.length = n := ⟨_, rfl⟩
 have hn0 : 0 < n := by
  rcases Nat.eq_zero_or_pos n with h0 | h0
  · have : ml = [] := List.eq_nil_of_length_eq_zero (hn.trans h0)
    rw [this] at hvd
    simp at hvd
    omega
  · exact h0
 have hn6 : n ≤ 6 := by omega
 have kn : (0 : Int) < (n : Int) := by omega
 rw [hn] at hn1 ⊢
 have Hn1 := Lib.hid hn1
 have Hml := Lib.hid hml
 have Hn := Lib.hid hn
 have Hvd := Lib.hid hvd
 have Hm0 := Lib.hid hm0
 have Hm2 := Lib.hid hm2
 have Hlim := Lib.hid hlim
 clear hn1 hln hml hn hvd hm0 hm2 _hl hodd hM hlim hl6
 go_enter Tryz.func91, Tryz.ntmps91
 go_wp2_with fail
 refine Hn1.out.mono ?_
 rintro e w1 ⟨A1, c1, rfl, hO1, hB1⟩
 have r1 := hO1.rn
 have hG0 := heap_alloc_new w1 (.cells (fcells n 0 z6 z6 z6).toArray 165)
 have hBG : Below w1.heap.size w1 (w1.alloc (.cells (fcells n 0 z6 z6 z6).toArray 165)) := (Below.refl _ w1).alloc (Nat.le_refl _) _
 have r1a := r1.below hBG (fun b hb => hb.2)
 have hcpy := copy_into (dT := 23) (sT := 24) Tryz.underlying23 (w1.alloc (.cells (fcells n 0 z6 z6 z6).toArray 165)) w1.heap.size 1 6 6 (fcells n 0 z6 z6 z6) 165 hG0 _ A1 c1 ml r1a (by rw [Hn.out]; exact hn6) (by rw [fc_len _ _ _ _ _ rfl rfl rfl, Hn.out]; omega)
 rw [fc_m _ _ _ _ _ (by rw [Hn.out]; exact hn6), Hn.out] at hcpy
 obtain ⟨X, hcp, hG1, hX2, hX3, hX4⟩ := hcpy
 have hBX : Below w1.heap.size w1 X := hX2 _ w1 (Nat.le_refl _) hBG
 have r1X := r1.below hBX (fun b hb => hb.2)
 have hfc : (fcells n 0 z6 z6 z6).toArray = #[.int .i64 (n : Int), .int .u64 0, .int .u64 0, .int .u64 0, .int .u64 0, .int .u64 0, .int .u64 0, .int .u64 0, .int .u64 0, .int .u64 0, .int .u64 0, .int .u64 0, .int .u64 0, .int .u64 0, .int .u64 0, .int .u64 0, .int .u64 0, .int .u64 0, .int .u64 0, .int .u64 0] := rfl
 rw [hfc] at hcp
 have hmp6 := pad_six (a := ml) (by rw [Hn.out]; exact hn6)
 have hmpl := pad_lim Hlim.out
 have hmpv : val 18446744073709551616 (ml ++ List.replicate (6 - ml.length) 0) = M := by rw [val_pad]; exact Hvd.out
 have hmpt : val 18446744073709551616 ((ml ++ List.replicate (6 - ml.length) 0).take n) = M := by rw [← Hn.out, List.take_left']; exact Hvd.out; rfl
 rw [Hn.out] at hmp6 hmpl hmpv hmpt
 generalize ml ++ List.replicate (6 - n) 0 = mp at *
 have hGX : w1.heap.size < X.heap.size := blk_lt hG1
 obtain ⟨ad, rfl, hb1, q1⟩ := r1X.at_ (i := 0) (by rw [Hn.out]; exact hn0)
 rw [hm0'] at q1
 have q1b : X.cell? ad = some (.int .u64 (m0 : Int)) := by simpa [Addr.add] using q1
 have Hmp6 := Lib.hid hmp6
 have Hmpl := Lib.hid hmpl
 have Hmpv := Lib.hid hmpv
 have Hmpt := Lib.hid hmpt
 clear hfc hBG hG0 r1a hX2 hX3 hX4 q1 hmp6 hmpl hmpv hmpt
 go_wp2_with fail
 go_loopw [4, 23] (fun iv jv wr => ∃ (y : Int) (r : Nat), jv = .int .i64 (r : Int) ∧ iv = .int .u64 y ∧ r ≤ 6 ∧ NewtAt (m0 : Int) r y ∧ X = wr) (fun _ jv _ => 6 - (intOf jv).toNat)
 case atStart => exact ⟨1, 0, rfl, rfl, by omega, NewtAt.zero Hm2.out, rfl⟩
 case round =>
  obtain ⟨y, r, rfl, rfl, hr, hN, rfl⟩ := hrel
  by_cases hlt : r < 6
  · have hN' := hN.step hlt
    have hw1 : IntKind.u64.wrap ((m0 : Int) * y) = (m0 : Int) * y % 18446744073709551616 := IntKind.wrap_u64 _
    have hw2 : IntKind.u64.wrap (2 - (m0 : Int) * y % 18446744073709551616) = (2 - (m0 : Int) * y % 18446744073709551616) % 18446744073709551616 := IntKind.wrap_u64 _
    have hw3 : IntKind.u64.wrap (y * ((2 - (m0 : Int) * y % 18446744073709551616) % 18446744073709551616)) = y * ((2 - (m0 : Int) * y % 18446744073709551616) % 18446744073709551616) % 18446744073709551616 := IntKind.wrap_u64 _
    generalize (m0 : Int) * y % 18446744073709551616 = x1 at *
    generalize (2 - x1) % 18446744073709551616 = x2 at *
    generalize y * x2 % 18446744073709551616 = x3 at *
    have HN := Lib.hid hN'
    clear hN hN'
    go_wp2
    go_roundw
    case rel => exact ⟨x3, r + 1, by go_num, by first | rfl | simp [hw1, hw2, hw3], by omega, HN.out, by first | rfl | trivial⟩
    case measure => simp [intOf]; omega
  · obtain rfl : r = 6 := by omega
    obtain ⟨t, ht⟩ := hN.fin
    have hinv := neg_inv Hm0.out ht
    have h0 : 0 ≤ (-y) % 18446744073709551616 := Int.emod_nonneg _ (by decide)
    have hlt2 : (-y) % 18446744073709551616 < 18446744073709551616 := Int.emod_lt_of_pos _ (by decide)
    obtain ⟨inv, hv⟩ : ∃ inv : Nat, (-y) % 18446744073709551616 = (inv : Int) := ⟨_, (Int.toNat_of_nonneg h0).symm⟩
    have hneg : IntKind.u64.wrap (-y) = (inv : Int) := by rw [IntKind.wrap_u64]; exact hv
    rw [hv, Int.toNat_natCast] at hinv
    rw [hv] at hlt2
    have Hinv := Lib.hid hinv
    have Hlt2 := Lib.hid hlt2
    have hmk := run_make_row' (P := Tryz.prog) 24 65 (.int .u64 0) 8 Tryz.underlying24 info64 rfl .i64 .i64 n (by omega) (by omega)
    clear ht hinv h0 hv hN hlt hlt2
    have g7 := blk_cell hG1 7
    rw [show (fcells n 0 mp z6 z6).toArray[7]? = some (.int .u64 0) by obtain ⟨_, _, _, _, _, _, e⟩ := six Hmp6.out; rw [e]; rfl] at g7
    have f7 := blk_free hG1 7
    have hG2 := blk_set hG1 7 (.int .u64 (inv : Int))
    rw [fc_inv _ _ _ _ _ Hmp6.out] at hG2
    have hBY : Below w1.heap.size w1 (X.setCell ⟨w1.heap.size, 7, none⟩ (.int .u64 (inv : Int))) := hBX.setCell (p := ⟨w1.heap.size, 7, none⟩) (Nat.le_refl _) _
    have hzY : (X.setCell ⟨w1.heap.size, 7, none⟩ (.int .u64 (inv : Int))).heap.size = X.heap.size := by simp [World.setCell]
    have r1Y := r1.below hBY (fun b hb => hb.2)
    have n0 : (X.setCell ⟨w1.heap.size, 7, none⟩ (.int .u64 (inv : Int))).cell? ⟨w1.heap.size, 0, none⟩ = some (.int .i64 (n : Int)) := by rw [blk_cell hG2 0]; rfl
    go_upto_region 10 with fail
    generalize X.setCell ⟨w1.heap.size, 7, none⟩ (.int .u64 (inv : Int)) = Y at *
    have hGY : w1.heap.size < Y.heap.size := by omega
    clear hzY hG1 r1X q1b g7 f7 hBX hcp hneg
    have hbz := Blk.made Y n
    have hown : (Y.alloc (.cells (madeCells #[.int .u64 0] n) 65)).ownsRow Y.heap.size 65 1 (.slice (some ⟨Y.heap.size, 0, none⟩) n n) n (nts (List.replicate n 0)) :=
     own_of_blk (o := List.replicate n 0) hbz (Nat.le_refl _) (by simp) (by unfold maxLen; omega) (Nat.le_refl _) (by simp) (by simp)
    have hfr : RS ((Y.alloc (.cells (madeCells #[.int .u64 0] n) 65)).alloc (.cells #[.int .u64 1] 65)) (fun _ => True) 1 (some ⟨Y.heap.size + 1, 0, none⟩) 1 1 (nts [1]) := by
     have := RS.fresh (w := Y.alloc (.cells (madeCells #[.int .u64 0] n) 65)) (P := fun _ => True) #[.int .u64 1] 65 1 1 rfl (by unfold maxLen; omega) trivial
     rw [World.size_alloc] at this
     exact this
    have hown' := hown.alloc (.cells #[.int .u64 1] 65)
    have hBZ : Below Y.heap.size Y ((Y.alloc (.cells (madeCells #[.int .u64 0] n) 65)).alloc (.cells #[.int .u64 1] 65)) := ((Below.refl _ Y).alloc (Nat.le_refl _) _).alloc (by simp) _
    have hzZ : ((Y.alloc (.cells (madeCells #[.int .u64 0] n) 65)).alloc (.cells #[.int .u64 1] 65)).heap.size = Y.heap.size + 2 := by simp
    clear hbz hown
    go_wp2_with (at_builtin; generalize (Y.alloc (.cells (madeCells #[.int .u64 0] n) 65)).alloc (.cells #[.int .u64 1] 65) = W at *; refine wpList_append_rs _ rfl _ _ 24 rfl Y.heap.size 65 i0 (.int .u64 0) 1 8 Tryz.underlying24 hi hz0 hz1 hz2 rfl (by decide) (.slice (some ⟨Y.heap.size, 0, none⟩) n n) n _ rfl hown' (fun _ => True) _ 1 1 (nts [1]) rfl hfr (oneCell_nts [1]) (n + 1) rfl (by unfold maxLen; omega) (by omega) (by omega) ?_; intro A2 c2 w2 hown2 hg2 hor2)
    have hzw2 := hg2.size
    have hBw2 : Below Y.heap.size Y w2 := hBZ.grown hg2 (by omega) (fun k hk => by simp [Value.ownBlock] at hk; omega)
    have hs2 := hBw2.size
    have hG3 := (hBw2.block w1.heap.size hGY).trans hG2
    have hLr : Lim (List.replicate n 0 ++ [1]) := ⟨fun x hx => by
     rcases List.mem_append.1 hx with h | h
     · simp at h; omega
     · simp at h; omega, by simp; omega⟩
    have hlr : (List.replicate n 0 ++ [1]).length = n + 1 := by simp
    have hOr : OB w2 Y.heap.size A2 c2 (List.replicate n 0 ++ [1]) := OB.of_own (by rw [hlr]; simpa [nts] using hown2) hLr
    have hvr := val_pow n
    generalize List.replicate n 0 ++ [1] = rlst at *
    have hw1 := hB1.size
    have hY1 := hBY.size
    have hBw := hB1.trans ((hBY.trans (hBw2.mono hY1)).mono hw1)
    have r2 := r1Y.below hBw2 (fun b hb => by have := hb.2; omega)
    have hq1 := quo_any _ _ A2 (some ad) c2 c1 rlst ml w2 hOr.rn r2 (fun b hb => hb.2) (fun b hb => by have := hb.2; omega) (by omega) (by have := Hn.out; omega) (by rw [Hvd.out]; omega)
    rw [hvr, Hvd.out, hlr, Hn.out] at hq1
    obtain ⟨v1, hv1⟩ : ∃ v1, 18446744073709551616 ^ n % M = v1 := ⟨_, rfl⟩
    rw [hv1] at hq1
    have hv1M : v1 < M := by rw [← hv1]; exact Nat.mod_lt _ (by omega)
    have hl1 : (digs 18446744073709551616 v1).length ≤ n := by
     have := digs_length_mono (B := 18446744073709551616) (by omega) (Nat.le_of_lt hv1M)
     rw [Hml.out, Hn.out] at this
     exact this
    have Hq1 := Lib.hid hq1
    have Hv1 := Lib.hid hv1
    clear hq1 hown2 hg2 hor2 hfr hown' hG2 hBZ hOr hvr hlr hLr hmk hv1 n0 hBw2
    refine Hq1.out.mono ?_
    rintro e w3 ⟨A3, c3, A4, c4, rfl, _, hO4, hB3⟩
    have hG4 := (hB3.block w1.heap.size (blk_lt hG3)).trans hG3
    have hs3 := hB3.size
    have hm1 := mul_any _ _ A4 A4 c4 c4 _ _ w3 hO4.rn hO4.rn (fun b hb => hb.2) (fun b hb => hb.2) (by omega) (by omega)
    rw [val_digs (by omega)] at hm1
    have Hm1 := Lib.hid hm1
    clear hm1
    go_wp2_with fail
    refine Hm1.out.mono ?_
    rintro e w4 ⟨A5, c5, rfl, hO5, hB4⟩
    have hs4 := hB4.size
    have hB24 := hB3.trans (hB4.mono hs3)
    have r4 := r2.below hB24 fun b hb => by have := hb.2; omega
    have hl2 : (digs 18446744073709551616 (v1 * v1)).length < 90000 := by
     have := dig_mul (Nat.le_of_lt hv1M) (Nat.le_of_lt hv1M) (show (digs 18446744073709551616 M).length ≤ n by rw [Hml.out, Hn.out]; exact Nat.le_refl _)
     omega
    have hq2 := quo_any _ _ A5 (some ad) c5 c1 _ ml w4 hO5.rn r4 (fun b hb => hb.2) (fun b hb => by have := hb.2; omega) hl2 (by have := Hn.out; omega) (by rw [Hvd.out]; omega)
    rw [val_digs (by omega), Hvd.out, Hn.out] at hq2
    obtain ⟨v2, hv2⟩ : ∃ v2, v1 * v1 % M = v2 := ⟨_, rfl⟩
    rw [hv2] at hq2
    have hv2M : v2 < M := by rw [← hv2]; exact Nat.mod_lt _ (by omega)
    have hl3 : (digs 18446744073709551616 v2).length ≤ n := by
     have := digs_length_mono (B := 18446744073709551616) (by omega) (Nat.le_of_lt hv2M)
     rw [Hml.out, Hn.out] at this
     exact this
    have Hq2 := Lib.hid hq2
    have Hv2 := Lib.hid hv2
    clear hq2 hv2 hl2
    go_wp2_with fail
    refine Hq2.out.mono ?_
    rintro e w5 ⟨A6, c6, A7, c7, rfl, _, hO7, hB5⟩
    have hs5 := hB5.size
    have hB35 := hB4.trans (hB5.mono hs4)
    have hG5 := (hB35.block w1.heap.size (blk_lt hG4)).trans hG4
    have hO4' := hO4.below hB35 (Nat.le_refl _)
    have hBw5 := hBw.trans ((hB3.trans (hB35.mono hs3)).mono (by omega))
    obtain ⟨V1, hcp1, hGa, hVa2, hVa3, hVa4⟩ := copy_into (dT := 23) (sT := 24) Tryz.underlying23 w5 w1.heap.size 8 6 6 (fcells n inv mp z6 z6) 165 hG5 _ A4 c4 _ hO4'.rn (by omega) (by rw [fc_len _ _ _ _ _ Hmp6.out rfl rfl]; omega)
    rw [fc_o _ _ _ _ _ Hmp6.out (by omega)] at hGa
    have hBV1 := hVa2 w.heap.size w (by omega) hBw5
    have r7 : RN V1 (In w4.heap.size w5.heap.size) A7 c7 (digs 18446744073709551616 v2) := hO7.rn.keep fun q hq => World.cell?_of_block (hVa3 q.block (by have := hq.1; omega))
    have ho6 := pad_six (a := digs 18446744073709551616 v1) (by omega)
    have hol := pad_lim (digs_lt (B := 18446744073709551616) (by omega) v1)
    have hov : val 18446744073709551616 (digs 18446744073709551616 v1 ++ List.replicate (6 - (digs 18446744073709551616 v1).length) 0) = v1 := by rw [val_pad]; exact val_digs (by omega) v1
    generalize digs 18446744073709551616 v1 ++ List.replicate (6 - (digs 18446744073709551616 v1).length) 0 = op at *
    obtain ⟨V2, hcp2, hGb, hVb2, hVb3, hVb4⟩ := copy_into (dT := 23) (sT := 24) Tryz.underlying23 V1 w1.heap.size 14 6 6 (fcells n inv mp op z6) 165 hGa _ A7 c7 _ r7 (by omega) (by rw [fc_len _ _ _ _ _ Hmp6.out ho6 rfl]; omega)
    rw [fc_r _ _ _ _ _ Hmp6.out ho6 (by omega)] at hGb
    have hBV2 := hVb2 w.heap.size w (by omega) hBV1
    have hr6 := pad_six (a := digs 18446744073709551616 v2) (by omega)
    have hrl := pad_lim (digs_lt (B := 18446744073709551616) (by omega) v2)
    have hrv : val 18446744073709551616 (digs 18446744073709551616 v2 ++ List.replicate (6 - (digs 18446744073709551616 v2).length) 0) = v2 := by rw [val_pad]; exact val_digs (by omega) v2
    generalize digs 18446744073709551616 v2 ++ List.replicate (6 - (digs 18446744073709551616 v2).length) 0 = rp at *
    have hfin : FR V2 w1.heap.size n inv M mp op rp := ⟨⟨⟨hGb, Hmp6.out, ho6, hr6⟩, Hmpl.out, Hmpv.out, Hmpt.out, hn0, hn6, h1, by have := Hlt2.out; omega, Hinv.out⟩, ⟨ho6, hol, by rw [hov]; exact hv1M⟩, by rw [hov]; exact Hv1.out.symm, ⟨hr6, hrl, by rw [hrv]; exact hv2M⟩, by rw [hrv, ← Hv2.out, ← Hv1.out, ← Nat.mul_mod]⟩
    have Hfin := Lib.hid hfin
    have HB := Lib.hid hBV2
    clear hfin hBV2 hrv hrl hr6 hov hol ho6 hGa hGb hVa2 hVa3 hVb2 hVb3 hG5 r7 hBV1 hO4' hBw5
    go_wp2
    go_ret
    exact ⟨_, inv, mp, op, rp, rfl, hw1, Hfin.out, HB.out⟩
end Go.Proofs.YtaemogcomplhiaaGreatDoor

namespace Go.Proofs.YtaemogcomplhiaaGreatDoor
open Go.RowKit

def kcells (size : Nat) (sp sn sb sx sy fp : Value) (tl fl : List Nat) : List Value := [Value.int .i64 (size : Int), sp, sn, sb, sx, sy, fp] ++ nts tl ++ nts fl
structure Num (w : World) (P : Nat → Prop) (k g size n inv M bb : Nat) (pl nl bl xl yl ml ol rl tl fl : List Nat) (Ap An Ab Ax Ay : Option Addr) (cp cn cb cx cy : Nat) : Prop where
 blk : w.heap[k]? = some (.cells (kcells size (.slice Ap pl.length cp) (.slice An nl.length cn) (.slice Ab bl.length cb) (.slice Ax xl.length cx) (.slice Ay yl.length cy) (.pointer (some ⟨g, 0, none⟩)) tl fl).toArray 111 (0, 0))
 p : RN w P Ap cp pl
 nn : RN w P An cn nl
 b : RN w P Ab cb bl
 x : RN w P Ax cx xl
 y : RN w P Ay cy yl
 fr : FR w g n inv M ml ol rl
 pv : val 18446744073709551616 pl = M
 three : FE M n tl 3
 fb : FE M n fl bb

theorem set6 {w : World} {g i : Nat} {v a b c d e f : Value} (j : Nat) (h1 : i < j) (_h2 : i < 100) (h : w.cell? ⟨g, i, none⟩ = some v) :
 ((((((w.setCell ⟨g, j, none⟩ a).setCell ⟨g, j + 1, none⟩ b).setCell ⟨g, j + 2, none⟩ c).setCell ⟨g, j + 3, none⟩ d).setCell ⟨g, j + 4, none⟩ e).setCell ⟨g, j + 5, none⟩ f).cell? ⟨g, i, none⟩ = some v := by
 have key : ∀ (w : World) (k : Nat) (u : Value), i < k → (w.setCell ⟨g, k, none⟩ u).cell? ⟨g, i, none⟩ = w.cell? ⟨g, i, none⟩ := fun w k u hk => by
  have hne : k ≠ i := by omega
  simp [go_sem]
 rw [key _ _ _ (by omega), key _ _ _ (by omega), key _ _ _ (by omega), key _ _ _ (by omega), key _ _ _ (by omega), key _ _ _ (by omega)]
 exact h
theorem kcells_zero {w : World} {k size : Nat} {sp sn sb sx sy fp : Value} {ty : TypeId} (h : w.heap[k]? = some (.cells (kcells size sp sn sb sx sy fp z6 z6).toArray ty (0, 0))) : ∀ i, 7 ≤ i → i < 19 → w.cell? ⟨k, i, none⟩ = some (.int .u64 0) ∧ w.frozen? ⟨k, i, none⟩ = false := by
 intro i h1 h2
 refine ⟨?_, blk_free h i⟩
 rw [blk_cell h i]
 obtain ⟨j, rfl⟩ : ∃ j, i = j + 7 := ⟨i - 7, by omega⟩
 match j, h2 with
 | 0, _ | 1, _ | 2, _ | 3, _ | 4, _ | 5, _ | 6, _ | 7, _ | 8, _ | 9, _ | 10, _ | 11, _ => rfl
 | j + 12, h2 => omega
theorem six_mid {w : World} {g j : Nat} {ty : TypeId} {x0 x1 x2 x3 x4 x5 a b c d e f : Value} (pre post : List Value) (hj : pre.length = j) (h : w.heap[g]? = some (.cells (pre ++ x0 :: x1 :: x2 :: x3 :: x4 :: x5 :: post).toArray ty (0, 0))) :
 ((((((w.setCell ⟨g, j, none⟩ a).setCell ⟨g, j + 1, none⟩ b).setCell ⟨g, j + 2, none⟩ c).setCell ⟨g, j + 3, none⟩ d).setCell ⟨g, j + 4, none⟩ e).setCell ⟨g, j + 5, none⟩ f).heap[g]? = some (.cells (pre ++ a :: b :: c :: d :: e :: f :: post).toArray ty (0, 0)) := by
 subst hj
 rw [blk_set (blk_set (blk_set (blk_set (blk_set (blk_set h pre.length a) (pre.length + 1) b) (pre.length + 2) c) (pre.length + 3) d) (pre.length + 4) e) (pre.length + 5) f]
 simp only [List.setIfInBounds_toArray]
 rw [List.set_append_right _ _ (by omega), List.set_append_right _ _ (by omega), List.set_append_right _ _ (by omega), List.set_append_right _ _ (by omega), List.set_append_right _ _ (by omega), List.set_append_right _ _ (by omega)]
 simp
theorem twelve {w : World} {g size : Nat} {sp sn sb sx sy fp : Value} {ty : TypeId} (h : w.heap[g]? = some (.cells (kcells size sp sn sb sx sy fp z6 z6).toArray ty (0, 0))) (u0 u1 u2 u3 u4 u5 v0 v1 v2 v3 v4 v5 : Nat) :
 ((((((((((((w.setCell ⟨g, 7, none⟩ (.int .u64 (u0 : Int))).setCell ⟨g, 8, none⟩ (.int .u64 (u1 : Int))).setCell ⟨g, 9, none⟩ (.int .u64 (u2 : Int))).setCell ⟨g, 10, none⟩ (.int .u64 (u3 : Int))).setCell ⟨g, 11, none⟩ (.int .u64 (u4 : Int))).setCell ⟨g, 12, none⟩ (.int .u64 (u5 : Int))).setCell ⟨g, 13, none⟩ (.int .u64 (v0 : Int))).setCell ⟨g, 14, none⟩ (.int .u64 (v1 : Int))).setCell ⟨g, 15, none⟩ (.int .u64 (v2 : Int))).setCell ⟨g, 16, none⟩ (.int .u64 (v3 : Int))).setCell ⟨g, 17, none⟩ (.int .u64 (v4 : Int))).setCell ⟨g, 18, none⟩ (.int .u64 (v5 : Int))).heap[g]? = some (.cells (kcells size sp sn sb sx sy fp [u0, u1, u2, u3, u4, u5] [v0, v1, v2, v3, v4, v5]).toArray ty (0, 0)) ∧
 (∀ b, b ≠ g → ((((((((((((w.setCell ⟨g, 7, none⟩ (.int .u64 (u0 : Int))).setCell ⟨g, 8, none⟩ (.int .u64 (u1 : Int))).setCell ⟨g, 9, none⟩ (.int .u64 (u2 : Int))).setCell ⟨g, 10, none⟩ (.int .u64 (u3 : Int))).setCell ⟨g, 11, none⟩ (.int .u64 (u4 : Int))).setCell ⟨g, 12, none⟩ (.int .u64 (u5 : Int))).setCell ⟨g, 13, none⟩ (.int .u64 (v0 : Int))).setCell ⟨g, 14, none⟩ (.int .u64 (v1 : Int))).setCell ⟨g, 15, none⟩ (.int .u64 (v2 : Int))).setCell ⟨g, 16, none⟩ (.int .u64 (v3 : Int))).setCell ⟨g, 17, none⟩ (.int .u64 (v4 : Int))).setCell ⟨g, 18, none⟩ (.int .u64 (v5 : Int))).heap[b]? = w.heap[b]?) ∧ ((((((((((((w.setCell ⟨g, 7, none⟩ (.int .u64 (u0 : Int))).setCell ⟨g, 8, none⟩ (.int .u64 (u1 : Int))).setCell ⟨g, 9, none⟩ (.int .u64 (u2 : Int))).setCell ⟨g, 10, none⟩ (.int .u64 (u3 : Int))).setCell ⟨g, 11, none⟩ (.int .u64 (u4 : Int))).setCell ⟨g, 12, none⟩ (.int .u64 (u5 : Int))).setCell ⟨g, 13, none⟩ (.int .u64 (v0 : Int))).setCell ⟨g, 14, none⟩ (.int .u64 (v1 : Int))).setCell ⟨g, 15, none⟩ (.int .u64 (v2 : Int))).setCell ⟨g, 16, none⟩ (.int .u64 (v3 : Int))).setCell ⟨g, 17, none⟩ (.int .u64 (v4 : Int))).setCell ⟨g, 18, none⟩ (.int .u64 (v5 : Int))).heap.size = w.heap.size ∧ ∀ B w0, B ≤ g → Below B w0 w → Below B w0 ((((((((((((w.setCell ⟨g, 7, none⟩ (.int .u64 (u0 : Int))).setCell ⟨g, 8, none⟩ (.int .u64 (u1 : Int))).setCell ⟨g, 9, none⟩ (.int .u64 (u2 : Int))).setCell ⟨g, 10, none⟩ (.int .u64 (u3 : Int))).setCell ⟨g, 11, none⟩ (.int .u64 (u4 : Int))).setCell ⟨g, 12, none⟩ (.int .u64 (u5 : Int))).setCell ⟨g, 13, none⟩ (.int .u64 (v0 : Int))).setCell ⟨g, 14, none⟩ (.int .u64 (v1 : Int))).setCell ⟨g, 15, none⟩ (.int .u64 (v2 : Int))).setCell ⟨g, 16, none⟩ (.int .u64 (v3 : Int))).setCell ⟨g, 17, none⟩ (.int .u64 (v4 : Int))).setCell ⟨g, 18, none⟩ (.int .u64 (v5 : Int))) := by
 refine ⟨?_, ?_, by simp [World.setCell], ?_⟩
 · have h1 := six_mid [Value.int .i64 (size : Int), sp, sn, sb, sx, sy, fp] (nts z6) (j := 7) (ty := ty) (x0 := .int .u64 0) (x1 := .int .u64 0) (x2 := .int .u64 0) (x3 := .int .u64 0) (x4 := .int .u64 0) (x5 := .int .u64 0) rfl (a := .int .u64 (u0 : Int)) (b := .int .u64 (u1 : Int)) (c := .int .u64 (u2 : Int)) (d := .int .u64 (u3 : Int)) (e := .int .u64 (u4 : Int)) (f := .int .u64 (u5 : Int)) (h.trans (by simp [kcells, nts, z6]))
   have h2 := six_mid ([Value.int .i64 (size : Int), sp, sn, sb, sx, sy, fp] ++ nts [u0, u1, u2, u3, u4, u5]) [] (j := 13) (ty := ty) (x0 := .int .u64 0) (x1 := .int .u64 0) (x2 := .int .u64 0) (x3 := .int .u64 0) (x4 := .int .u64 0) (x5 := .int .u64 0) (by simp [nts]) (a := .int .u64 (v0 : Int)) (b := .int .u64 (v1 : Int)) (c := .int .u64 (v2 : Int)) (d := .int .u64 (v3 : Int)) (e := .int .u64 (v4 : Int)) (f := .int .u64 (v5 : Int)) (h1.trans (by simp [nts, z6]))
   exact h2.trans (by simp [kcells, nts])
 · intro b hb
   repeat rw [Below.heap_setCell _ _ _ _ hb]
 · intro B w0 hB h0
   exact ((((((((((((h0.setCell (p := ⟨g, 7, none⟩) hB (.int .u64 (u0 : Int))).setCell (p := ⟨g, 8, none⟩) hB (.int .u64 (u1 : Int))).setCell (p := ⟨g, 9, none⟩) hB (.int .u64 (u2 : Int))).setCell (p := ⟨g, 10, none⟩) hB (.int .u64 (u3 : Int))).setCell (p := ⟨g, 11, none⟩) hB (.int .u64 (u4 : Int))).setCell (p := ⟨g, 12, none⟩) hB (.int .u64 (u5 : Int))).setCell (p := ⟨g, 13, none⟩) hB (.int .u64 (v0 : Int))).setCell (p := ⟨g, 14, none⟩) hB (.int .u64 (v1 : Int))).setCell (p := ⟨g, 15, none⟩) hB (.int .u64 (v2 : Int))).setCell (p := ⟨g, 16, none⟩) hB (.int .u64 (v3 : Int))).setCell (p := ⟨g, 17, none⟩) hB (.int .u64 (v4 : Int))).setCell (p := ⟨g, 18, none⟩) hB (.int .u64 (v5 : Int)))
def p256p : List Nat := [18446744073709551615, 4294967295, 0, 18446744069414584321]
def p256n : List Nat := [17562291160714782033, 13611842547513532036, 18446744073709551615, 18446744069414584320]
def p256b : List Nat := [4309448131093880907, 7285987128567378166, 12964664127075681980, 6540974713487397863]
def p256x : List Nat := [17627433388654248598, 8575836109218198432, 17923454489921339634, 7716867327612699207]
def p256y : List Nat := [14678990851816772085, 3156516839386865358, 10297457778147434006, 5756518291402817435]
def Lits (l : List Nat) : Prop := (∀ x ∈ l, x < 18446744073709551616) ∧ l.length ≤ 6
theorem RN.lits (w : World) (l : List Nat) (h : Lits l) : RN (w.alloc (.cells (nts l).toArray 65)) (In w.heap.size (w.heap.size + 1)) (some ⟨w.heap.size, 0, none⟩) l.length l := by
 have hb : Blk (w.alloc (.cells (nts l).toArray 65)) w.heap.size l := heap_alloc_new w _
 have := (OB.of_blk (c := l.length) hb (base := w.heap.size) (Nat.le_refl _) ⟨h.1, by have := h.2; omega⟩ (Nat.le_refl _) (by have := h.2; unfold maxLen; omega)).rn
 exact this.mono fun b hb => by have := hb.2; rw [World.size_alloc] at this; exact ⟨hb.1, this⟩
theorem five_lits (w : World) (l1 l2 l3 l4 l5 : List Nat) (o : Obj) (h1 : Lits l1) (h2 : Lits l2) (h3 : Lits l3) (h4 : Lits l4) (h5 : Lits l5) :
 ∀ W, W = (((((w.alloc (.cells (nts l1).toArray 65)).alloc (.cells (nts l2).toArray 65)).alloc (.cells (nts l3).toArray 65)).alloc (.cells (nts l4).toArray 65)).alloc (.cells (nts l5).toArray 65)).alloc o →
 RN W (In w.heap.size (w.heap.size + 5)) (some ⟨w.heap.size, 0, none⟩) l1.length l1 ∧ RN W (In w.heap.size (w.heap.size + 5)) (some ⟨w.heap.size + 1, 0, none⟩) l2.length l2 ∧ RN W (In w.heap.size (w.heap.size + 5)) (some ⟨w.heap.size + 1 + 1, 0, none⟩) l3.length l3 ∧
 RN W (In w.heap.size (w.heap.size + 5)) (some ⟨w.heap.size + 1 + 1 + 1, 0, none⟩) l4.length l4 ∧ RN W (In w.heap.size (w.heap.size + 5)) (some ⟨w.heap.size + 1 + 1 + 1 + 1, 0, none⟩) l5.length l5 ∧ W.heap[w.heap.size + 1 + 1 + 1 + 1 + 1]? = some o ∧ W.heap.size = w.heap.size + 6 ∧ Below w.heap.size w W := by
 rintro W rfl
 have r1 := RN.lits w l1 h1
 have r2 := RN.lits (w.alloc (.cells (nts l1).toArray 65)) l2 h2
 have r3 := RN.lits ((w.alloc (.cells (nts l1).toArray 65)).alloc (.cells (nts l2).toArray 65)) l3 h3
 have r4 := RN.lits (((w.alloc (.cells (nts l1).toArray 65)).alloc (.cells (nts l2).toArray 65)).alloc (.cells (nts l3).toArray 65)) l4 h4
 have r5 := RN.lits ((((w.alloc (.cells (nts l1).toArray 65)).alloc (.cells (nts l2).toArray 65)).alloc (.cells (nts l3).toArray 65)).alloc (.cells (nts l4).toArray 65)) l5 h5
 have e := heap_alloc_new (((((w.alloc (.cells (nts l1).toArray 65)).alloc (.cells (nts l2).toArray 65)).alloc (.cells (nts l3).toArray 65)).alloc (.cells (nts l4).toArray 65)).alloc (.cells (nts l5).toArray 65)) o
 have b6 : Below (w.heap.size + 5) (((((w.alloc (.cells (nts l1).toArray 65)).alloc (.cells (nts l2).toArray 65)).alloc (.cells (nts l3).toArray 65)).alloc (.cells (nts l4).toArray 65)).alloc (.cells (nts l5).toArray 65)) ((((((w.alloc (.cells (nts l1).toArray 65)).alloc (.cells (nts l2).toArray 65)).alloc (.cells (nts l3).toArray 65)).alloc (.cells (nts l4).toArray 65)).alloc (.cells (nts l5).toArray 65)).alloc o) := (Below.refl _ _).alloc (by simp <;> omega) _
 simp only [World.size_alloc] at r2 r3 r4 r5 e
 have s4 := (r4.below ((Below.refl (w.heap.size + 4) _).alloc (by simp <;> omega) (.cells (nts l5).toArray 65)) (fun b hb => by have := hb.2; omega)).below b6 (fun b hb => by have := hb.2; omega)
 have s3 := ((r3.below ((Below.refl (w.heap.size + 3) _).alloc (by simp <;> omega) (.cells (nts l4).toArray 65)) (fun b hb => by have := hb.2; omega)).below ((Below.refl (w.heap.size + 4) _).alloc (by simp <;> omega) (.cells (nts l5).toArray 65)) (fun b hb => by have := hb.2; omega)).below b6 (fun b hb => by have := hb.2; omega)
 have s2 := (((r2.below ((Below.refl (w.heap.size + 2) _).alloc (by simp) (.cells (nts l3).toArray 65)) (fun b hb => by have := hb.2; omega)).below ((Below.refl (w.heap.size + 3) _).alloc (by simp <;> omega) (.cells (nts l4).toArray 65)) (fun b hb => by have := hb.2; omega)).below ((Below.refl (w.heap.size + 4) _).alloc (by simp <;> omega) (.cells (nts l5).toArray 65)) (fun b hb => by have := hb.2; omega)).below b6 (fun b hb => by have := hb.2; omega)
 have s1 := ((((r1.below ((Below.refl (w.heap.size + 1) _).alloc (by simp) (.cells (nts l2).toArray 65)) (fun b hb => by have := hb.2; omega)).below ((Below.refl (w.heap.size + 2) _).alloc (by simp) (.cells (nts l3).toArray 65)) (fun b hb => by have := hb.2; omega)).below ((Below.refl (w.heap.size + 3) _).alloc (by simp <;> omega) (.cells (nts l4).toArray 65)) (fun b hb => by have := hb.2; omega)).below ((Below.refl (w.heap.size + 4) _).alloc (by simp <;> omega) (.cells (nts l5).toArray 65)) (fun b hb => by have := hb.2; omega)).below b6 (fun b hb => by have := hb.2; omega)
 have s5 := r5.below b6 (fun b hb => by have := hb.2; omega)
 refine ⟨s1.mono ?_, s2.mono ?_, s3.mono ?_, s4.mono ?_, s5.mono ?_, e, by simp, ?_⟩
 any_goals (intro b hb; have h1 := hb.1; have h2 := hb.2; exact ⟨by omega, by omega⟩)
 exact ((((((Below.refl _ w).alloc (Nat.le_refl _) _).alloc (by simp) _).alloc (by simp <;> omega) _).alloc (by simp <;> omega) _).alloc (by simp <;> omega) _).alloc (by simp <;> omega) _

set_option maxRecDepth 100000 in
set_option maxHeartbeats 8000000 in
theorem of_p256 (w : World) : Calls Tryz.prog 64 #[.int .i64 1] w fun e w' => ∃ k g inv ml ol rl tl fl, e = .returned (.pointer (some ⟨k, 0, none⟩)) ∧ w.heap.size ≤ k ∧
 Num w' (In w.heap.size w'.heap.size) k g 32 4 inv (val 18446744073709551616 p256p) (val 18446744073709551616 p256b) p256p p256n p256b p256x p256y ml ol rl tl fl (some ⟨w.heap.size, 0, none⟩) (some ⟨w.heap.size + 1, 0, none⟩) (some ⟨w.heap.size + 1 + 1, 0, none⟩) (some ⟨w.heap.size + 1 + 1 + 1, 0, none⟩) (some ⟨w.heap.size + 1 + 1 + 1 + 1, 0, none⟩) 4 4 4 4 4 ∧ Below w.heap.size w w' := by
 obtain ⟨z, hz⟩ : ∃ z, z = World.alloc (((((w.alloc (.cells (nts p256p).toArray 65)).alloc (.cells (nts p256n).toArray 65)).alloc (.cells (nts p256b).toArray 65)).alloc (.cells (nts p256x).toArray 65)).alloc (.cells (nts p256y).toArray 65)) (.cells (kcells 32 (.slice (some ⟨w.heap.size, 0, none⟩) 4 4) (.slice (some ⟨w.heap.size + 1, 0, none⟩) 4 4) (.slice (some ⟨w.heap.size + 1 + 1, 0, none⟩) 4 4) (.slice (some ⟨w.heap.size + 1 + 1 + 1, 0, none⟩) 4 4) (.slice (some ⟨w.heap.size + 1 + 1 + 1 + 1, 0, none⟩) 4 4) (.pointer none) z6 z6).toArray 111) := ⟨_, rfl⟩
 obtain ⟨q1, q2, q3, q4, q5, q6, q7, q8⟩ := five_lits w p256p p256n p256b p256x p256y _ ⟨by decide, by decide⟩ ⟨by decide, by decide⟩ ⟨by decide, by decide⟩ ⟨by decide, by decide⟩ ⟨by decide, by decide⟩ z hz
 have hd : digs 18446744073709551616 (val 18446744073709551616 p256p) = p256p := digs_val (by omega) (by decide) (by decide)
 have hdl : (digs 18446744073709551616 (val 18446744073709551616 p256p)).length = 4 := by rw [hd]; rfl
 have hM1 : 1 < val 18446744073709551616 p256p := by decide +kernel
 have hMo : val 18446744073709551616 p256p % 2 = 1 := by decide +kernel
 have hM3 : 3 < val 18446744073709551616 p256p := by decide +kernel
 have hbM : val 18446744073709551616 p256b < val 18446744073709551616 p256p := by decide +kernel
 have hnew := znew_any _ _ _ p256p _ z q1 rfl hM1 hMo (by decide) (by rw [hdl]; omega)
 rw [hdl, q7] at hnew
 obtain ⟨M, hM⟩ : ∃ M, val 18446744073709551616 p256p = M := ⟨_, rfl⟩
 rw [hM] at hnew hM1 hMo hM3 hbM ⊢
 have Hnew := Lib.hid hnew
 have hb1 : p256p.length = 4 := rfl
 have Hz := Lib.hid hz
 have H2 := Hnew.out
 rw [hz, hb1] at H2
 have Hn2 := Lib.hid H2
 obtain ⟨K, hK⟩ : ∃ K, w.heap.size + 1 + 1 + 1 + 1 + 1 = K := ⟨_, rfl⟩
 clear hd hdl hnew H2 Hnew hz
 go_enter Tryz.func64, Tryz.ntmps64
 go_wp2_with fail
 refine Hn2.out.mono ?_
 rintro e w2 ⟨g, inv, ml, ol, rl, rfl, hg, hFR, hB2⟩
 rw [← Hz.out] at hB2
 rw [hK] at q6
 have hs2 := hB2.size
 have hG2 := (hB2.block K (by omega)).trans q6
 have k6 := blk_cell hG2 6
 rw [show (kcells 32 (.slice (some ⟨w.heap.size, 0, none⟩) 4 4) (.slice (some ⟨w.heap.size + 1, 0, none⟩) 4 4) (.slice (some ⟨w.heap.size + 1 + 1, 0, none⟩) 4 4) (.slice (some ⟨w.heap.size + 1 + 1 + 1, 0, none⟩) 4 4) (.slice (some ⟨w.heap.size + 1 + 1 + 1 + 1, 0, none⟩) 4 4) (.pointer none) z6 z6).toArray[6]? = some (.pointer none) by rfl] at k6
 have kf := blk_free hG2 6
 have hG3 := blk_set hG2 6 (.pointer (some ⟨g, 0, none⟩))
 rw [show (kcells 32 (.slice (some ⟨w.heap.size, 0, none⟩) 4 4) (.slice (some ⟨w.heap.size + 1, 0, none⟩) 4 4) (.slice (some ⟨w.heap.size + 1 + 1, 0, none⟩) 4 4) (.slice (some ⟨w.heap.size + 1 + 1 + 1, 0, none⟩) 4 4) (.slice (some ⟨w.heap.size + 1 + 1 + 1 + 1, 0, none⟩) 4 4) (.pointer none) z6 z6).toArray.setIfInBounds 6 (.pointer (some ⟨g, 0, none⟩)) = (kcells 32 (.slice (some ⟨w.heap.size, 0, none⟩) 4 4) (.slice (some ⟨w.heap.size + 1, 0, none⟩) 4 4) (.slice (some ⟨w.heap.size + 1 + 1, 0, none⟩) 4 4) (.slice (some ⟨w.heap.size + 1 + 1 + 1, 0, none⟩) 4 4) (.slice (some ⟨w.heap.size + 1 + 1 + 1 + 1, 0, none⟩) 4 4) (.pointer (some ⟨g, 0, none⟩)) z6 z6).toArray by rfl] at hG3
 have hgK : g ≠ K := by omega
 have hFR3 : FR (w2.setCell ⟨K, 6, none⟩ (.pointer (some ⟨g, 0, none⟩))) g 4 inv M ml ol rl := ⟨⟨⟨(Below.heap_setCell _ _ _ _ hgK).trans hFR.ff.fld.blk, hFR.ff.fld.m6, hFR.ff.fld.o6, hFR.ff.fld.r6⟩, hFR.ff.mlt, hFR.ff.mval, hFR.ff.mtake, hFR.ff.npos, hFR.ff.nle, hFR.ff.big, hFR.ff.invLt, hFR.ff.invV⟩, hFR.oelt, hFR.oval, hFR.relt, hFR.rval⟩
 have hB3 : Below K z (w2.setCell ⟨K, 6, none⟩ (.pointer (some ⟨g, 0, none⟩))) := (hB2.mono (show K ≤ w.heap.size + 6 by omega)).setCell (p := ⟨K, 6, none⟩) (Nat.le_refl _) _
 have hz3 : (w2.setCell ⟨K, 6, none⟩ (.pointer (some ⟨g, 0, none⟩))).heap.size = w2.heap.size := by simp [World.setCell]
 go_upto_region 9 with fail
 generalize w2.setCell ⟨K, 6, none⟩ (.pointer (some ⟨g, 0, none⟩)) = w3 at *
 have c6 := blk_cell hG3 6
 have c3 := blk_cell hG3 3
 rw [show (kcells 32 (.slice (some ⟨w.heap.size, 0, none⟩) 4 4) (.slice (some ⟨w.heap.size + 1, 0, none⟩) 4 4) (.slice (some ⟨w.heap.size + 1 + 1, 0, none⟩) 4 4) (.slice (some ⟨w.heap.size + 1 + 1 + 1, 0, none⟩) 4 4) (.slice (some ⟨w.heap.size + 1 + 1 + 1 + 1, 0, none⟩) 4 4) (.pointer (some ⟨g, 0, none⟩)) z6 z6).toArray[6]? = some (.pointer (some ⟨g, 0, none⟩)) by rfl] at c6
 rw [show (kcells 32 (.slice (some ⟨w.heap.size, 0, none⟩) 4 4) (.slice (some ⟨w.heap.size + 1, 0, none⟩) 4 4) (.slice (some ⟨w.heap.size + 1 + 1, 0, none⟩) 4 4) (.slice (some ⟨w.heap.size + 1 + 1 + 1, 0, none⟩) 4 4) (.slice (some ⟨w.heap.size + 1 + 1 + 1 + 1, 0, none⟩) 4 4) (.pointer (some ⟨g, 0, none⟩)) z6 z6).toArray[3]? = some (.slice (some ⟨w.heap.size + 1 + 1, 0, none⟩) 4 4) by rfl] at c3
 have hK3 : K < w3.heap.size := blk_lt hG3
 have q33 : RN w3 (In w.heap.size (w.heap.size + 5)) (some ⟨w.heap.size + 1 + 1, 0, none⟩) 4 p256b := q3.below hB3 (fun b hb => by have := hb.2; omega)
 have hof := of_any 3 w3.drew (by omega)
 rw [show digs 18446744073709551616 3 = [3] by rw [digs_pos (by omega) (by omega), Nat.mod_eq_of_lt (by omega), Nat.div_eq_of_lt (by omega), digs_zero]] at hof
 have hg3 : g < w3.heap.size := hFR3.ff.fld.lt
 have ht1 := fun (X : World) (hX : Below w3.heap.size w3 X) (A1 : Option Addr) (c1 : Nat) (hO : OB X w3.heap.size A1 c1 [3]) => zto_any _ A1 c1 [3] X (hFR3.below hX hg3) hO.rn (fun b hb => hb.2) (by simp) (by simp; exact hM3)
 have ht2 := fun (X : World) (hX : Below w3.heap.size w3 X) => zto_any _ _ 4 p256b X (hFR3.below hX hg3) (q33.below hX (fun b hb => by have := hb.2; omega)) (fun b hb => by have := hb.2; have := hX.size; omega) (by decide) hbM
 have Hof := Lib.hid hof
 have Ht1 := Lib.hid ht1
 have Ht2 := Lib.hid ht2
 clear hof ht1 ht2
 have c6d : w3.drew.cell? ⟨K, 6, none⟩ = some (.pointer (some ⟨g, 0, none⟩)) := c6
 have c3d : w3.drew.cell? ⟨K, 3, none⟩ = some (.slice (some ⟨w.heap.size + 1 + 1, 0, none⟩) 4 4) := c3
 go_region_held3 (fun w' => w'.cell? ⟨K, 6, none⟩ = some (.pointer (some ⟨g, 0, none⟩)) ∧ w'.cell? ⟨K, 3, none⟩ = some (.slice (some ⟨w.heap.size + 1 + 1, 0, none⟩) 4 4))
  (first | with_reducible exact ⟨set6 7 (by decide) (by decide) c63, set6 7 (by decide) (by decide) c33⟩ | with_reducible exact ⟨set6 13 (by decide) (by decide) (set6 7 (by decide) (by decide) c63), set6 13 (by decide) (by decide) (set6 7 (by decide) (by decide) c33)⟩ | exact ⟨c6, c3⟩ | exact ⟨c61, c31⟩ | exact ⟨c62, c32⟩ | exact ⟨c63, c33⟩)
  (first
   | (go_at_call 67; refine Hof.out.mono ?_; rintro e x1 ⟨A1, cc1, rfl, hO1, hx1'⟩; have hx1 : Below w3.heap.size w3 x1 := ⟨hx1'.os, hx1'.tape, hx1'.output, hx1'.size, hx1'.block⟩; have hO1' : OB x1 w3.heap.size A1 cc1 [3] := hO1; have c61 := (hx1.cell (p := ⟨K, 6, none⟩) hK3).trans c6; have c31 := (hx1.cell (p := ⟨K, 3, none⟩) hK3).trans c3; have T1 := Lib.hid (Ht1.out x1 hx1 A1 cc1 hO1'))
   | (go_at_call_has 92 A1; refine T1.out.mono ?_; rintro e x2 ⟨o3, rfl, hf3, hx2⟩; obtain ⟨u0, u1, u2, u3, u4, u5, hoe⟩ := six hf3.elt.six; have hve : EV o3 = .agg #[.int .u64 (u0 : Int), .int .u64 (u1 : Int), .int .u64 (u2 : Int), .int .u64 (u3 : Int), .int .u64 (u4 : Int), .int .u64 (u5 : Int)] := (by rw [hoe]; rfl); rw [hve]; clear hve; have Hoe := Lib.hid hoe; clear hoe; have hx12 := hx1.trans (hx2.mono hx1.size); have c62 := (hx12.cell (p := ⟨K, 6, none⟩) hK3).trans c6; have c32 := (hx12.cell (p := ⟨K, 3, none⟩) hK3).trans c3; have T2 := Lib.hid (Ht2.out x2 hx12))
   | (go_at_call 92; refine T2.out.mono ?_; rintro e x3 ⟨ob, rfl, hfb, hx3⟩; obtain ⟨v0, v1, v2, v3, v4, v5, hob⟩ := six hfb.elt.six; have hvb : EV ob = .agg #[.int .u64 (v0 : Int), .int .u64 (v1 : Int), .int .u64 (v2 : Int), .int .u64 (v3 : Int), .int .u64 (v4 : Int), .int .u64 (v5 : Int)] := (by rw [hob]; rfl); rw [hvb]; clear hvb; have Hob := Lib.hid hob; clear hob; have hx13 := hx12.trans (hx3.mono hx12.size); have c63 := (hx13.cell (p := ⟨K, 6, none⟩) hK3).trans c6; have c33 := (hx13.cell (p := ⟨K, 3, none⟩) hK3).trans c3; have hGx := (hx13.block K hK3).trans hG3; have dz := kcells_zero hGx; obtain ⟨d7, y7⟩ := dz 7 (by decide) (by decide); obtain ⟨d8, y8⟩ := dz 8 (by decide) (by decide); obtain ⟨d9, y9⟩ := dz 9 (by decide) (by decide); obtain ⟨d10, y10⟩ := dz 10 (by decide) (by decide); obtain ⟨d11, y11⟩ := dz 11 (by decide) (by decide); obtain ⟨d12, y12⟩ := dz 12 (by decide) (by decide); obtain ⟨d13, y13⟩ := dz 13 (by decide) (by decide); obtain ⟨d14, y14⟩ := dz 14 (by decide) (by decide); obtain ⟨d15, y15⟩ := dz 15 (by decide) (by decide); obtain ⟨d16, y16⟩ := dz 16 (by decide) (by decide); obtain ⟨d17, y17⟩ := dz 17 (by decide) (by decide); obtain ⟨d18, y18⟩ := dz 18 (by decide) (by decide); clear dz))
 obtain ⟨t1, t2, t3, t4⟩ := twelve hGx u0 u1 u2 u3 u4 u5 v0 v1 v2 v3 v4 v5
 have hB9 := t4 w.heap.size w (by omega) (q8.trans ((hB3.trans (hx13.mono (by omega))).mono (by have := q8.size; omega)))
 have hFR9 := hFR3.below hx13 hg3
 have hs3 : w3.heap.size ≤ x3.heap.size := hx13.size
 clear c61 c31 c62 c32 c63 c33 T1 T2 hGx hx1' hx1 hx2 hx3 hx12
 generalize ((((((((((((x3.setCell ⟨K, 7, none⟩ (.int .u64 (u0 : Int))).setCell ⟨K, 8, none⟩ (.int .u64 (u1 : Int))).setCell ⟨K, 9, none⟩ (.int .u64 (u2 : Int))).setCell ⟨K, 10, none⟩ (.int .u64 (u3 : Int))).setCell ⟨K, 11, none⟩ (.int .u64 (u4 : Int))).setCell ⟨K, 12, none⟩ (.int .u64 (u5 : Int))).setCell ⟨K, 13, none⟩ (.int .u64 (v0 : Int))).setCell ⟨K, 14, none⟩ (.int .u64 (v1 : Int))).setCell ⟨K, 15, none⟩ (.int .u64 (v2 : Int))).setCell ⟨K, 16, none⟩ (.int .u64 (v3 : Int))).setCell ⟨K, 17, none⟩ (.int .u64 (v4 : Int))).setCell ⟨K, 18, none⟩ (.int .u64 (v5 : Int))) = w9 at *
 have hFR9' : FR w9 g 4 inv M ml ol rl := ⟨⟨⟨(t2 g hgK).trans hFR9.ff.fld.blk, hFR9.ff.fld.m6, hFR9.ff.fld.o6, hFR9.ff.fld.r6⟩, hFR9.ff.mlt, hFR9.ff.mval, hFR9.ff.mtake, hFR9.ff.npos, hFR9.ff.nle, hFR9.ff.big, hFR9.ff.invLt, hFR9.ff.invV⟩, hFR9.oelt, hFR9.oval, hFR9.relt, hFR9.rval⟩
 have hz9 : w.heap.size + 6 ≤ w9.heap.size := by have := hB3.size; omega
 have hkeep : ∀ (l : List Nat) (A : Option Addr) (c : Nat), RN z (In w.heap.size (w.heap.size + 5)) A c l → RN w9 (In w.heap.size w9.heap.size) A c l := fun l A c hR =>
  (hR.keep fun q hq => World.cell?_of_block ((t2 q.block (by have := hq.2; omega)).trans ((hx13.block q.block (by have := hq.2; omega)).trans (hB3.block q.block (by have := hq.2; omega))))).mono fun b hb => ⟨hb.1, by have := hb.2; omega⟩
 have r1 := hkeep _ _ _ q1
 have r2 := hkeep _ _ _ q2
 have r3 := hkeep _ _ _ q3
 have r4 := hkeep _ _ _ q4
 have r5 := hkeep _ _ _ q5
 have ho3 := Hoe.out
 have hob := Hob.out
 rw [← ho3, ← hob] at t1
 have hfin : Num w9 (In w.heap.size w9.heap.size) K g 32 4 inv M (val 18446744073709551616 p256b) p256p p256n p256b p256x p256y ml ol rl o3 ob (some ⟨w.heap.size, 0, none⟩) (some ⟨w.heap.size + 1, 0, none⟩) (some ⟨w.heap.size + 1 + 1, 0, none⟩) (some ⟨w.heap.size + 1 + 1 + 1, 0, none⟩) (some ⟨w.heap.size + 1 + 1 + 1 + 1, 0, none⟩) 4 4 4 4 4 :=
  ⟨t1, r1, r2, r3, r4, r5, hFR9', hM, by have := hf3; simpa using this, hfb⟩
 have Hfin := Lib.hid hfin
 have HB9 := Lib.hid hB9
 clear hfin hB9 t1 t2 t3 t4 r1 r2 r3 r4 r5 hkeep hFR9 hFR9' hf3 hfb hFR3 hG3 q1 q2 q3 q4 q5 q6 q8
 go_wp2
 go_ret
 exact ⟨K, g, inv, ml, ol, rl, o3, ob, rfl, by omega, Hfin.out, HB9.out⟩
end Go.Proofs.YtaemogcomplhiaaGreatDoor

namespace Go.Proofs.YtaemogcomplhiaaGreatDoor
open Go.RowKit

def p384p : List Nat := [4294967295, 18446744069414584320, 18446744073709551614, 18446744073709551615, 18446744073709551615, 18446744073709551615]
def p384n : List Nat := [17072048233947408755, 6348401684107011962, 14367412456785391071, 18446744073709551615, 18446744073709551615, 18446744073709551615]
def p384b : List Nat := [3064076045283764975, 14291673747578343837, 221811693264799578, 1737717031765098770, 10992729701402291481, 12912154004749740004]
def p384x : List Nat := [4203087948775033527, 6125724927633205612, 6482722621138151992, 7934563412932533144, 10282218360005504372, 12288012358878168375]
def p384y : List Nat := [8809917716911230559, 747793036959711645, 16850834916486723776, 17938995913990739068, 6745997240412855337, 3897828414440483951]
set_option maxRecDepth 100000 in
set_option maxHeartbeats 8000000 in
theorem of_p384 (w : World) : Calls Tryz.prog 64 #[.int .i64 2] w fun e w' => ∃ k g inv ml ol rl tl fl, e = .returned (.pointer (some ⟨k, 0, none⟩)) ∧ w.heap.size ≤ k ∧
 Num w' (In w.heap.size w'.heap.size) k g 48 6 inv (val 18446744073709551616 p384p) (val 18446744073709551616 p384b) p384p p384n p384b p384x p384y ml ol rl tl fl (some ⟨w.heap.size, 0, none⟩) (some ⟨w.heap.size + 1, 0, none⟩) (some ⟨w.heap.size + 1 + 1, 0, none⟩) (some ⟨w.heap.size + 1 + 1 + 1, 0, none⟩) (some ⟨w.heap.size + 1 + 1 + 1 + 1, 0, none⟩) 6 6 6 6 6 ∧ Below w.heap.size w w' := by
 obtain ⟨z, hz⟩ : ∃ z, z = World.alloc (((((w.alloc (.cells (nts p384p).toArray 65)).alloc (.cells (nts p384n).toArray 65)).alloc (.cells (nts p384b).toArray 65)).alloc (.cells (nts p384x).toArray 65)).alloc (.cells (nts p384y).toArray 65)) (.cells (kcells 48 (.slice (some ⟨w.heap.size, 0, none⟩) 6 6) (.slice (some ⟨w.heap.size + 1, 0, none⟩) 6 6) (.slice (some ⟨w.heap.size + 1 + 1, 0, none⟩) 6 6) (.slice (some ⟨w.heap.size + 1 + 1 + 1, 0, none⟩) 6 6) (.slice (some ⟨w.heap.size + 1 + 1 + 1 + 1, 0, none⟩) 6 6) (.pointer none) z6 z6).toArray 111) := ⟨_, rfl⟩
 obtain ⟨q1, q2, q3, q4, q5, q6, q7, q8⟩ := five_lits w p384p p384n p384b p384x p384y _ ⟨by decide, by decide⟩ ⟨by decide, by decide⟩ ⟨by decide, by decide⟩ ⟨by decide, by decide⟩ ⟨by decide, by decide⟩ z hz
 have hd : digs 18446744073709551616 (val 18446744073709551616 p384p) = p384p := digs_val (by omega) (by decide) (by decide)
 have hdl : (digs 18446744073709551616 (val 18446744073709551616 p384p)).length = 6 := by rw [hd]; rfl
 have hM1 : 1 < val 18446744073709551616 p384p := by decide +kernel
 have hMo : val 18446744073709551616 p384p % 2 = 1 := by decide +kernel
 have hM3 : 3 < val 18446744073709551616 p384p := by decide +kernel
 have hbM : val 18446744073709551616 p384b < val 18446744073709551616 p384p := by decide +kernel
 have hnew := znew_any _ _ _ p384p _ z q1 rfl hM1 hMo (by decide) (by rw [hdl]; omega)
 rw [hdl, q7] at hnew
 obtain ⟨M, hM⟩ : ∃ M, val 18446744073709551616 p384p = M := ⟨_, rfl⟩
 rw [hM] at hnew hM1 hMo hM3 hbM ⊢
 have Hnew := Lib.hid hnew
 have hb1 : p384p.length = 6 := rfl
 have Hz := Lib.hid hz
 have H2 := Hnew.out
 rw [hz, hb1] at H2
 have Hn2 := Lib.hid H2
 obtain ⟨K, hK⟩ : ∃ K, w.heap.size + 1 + 1 + 1 + 1 + 1 = K := ⟨_, rfl⟩
 clear hd hdl hnew H2 Hnew hz
 go_enter Tryz.func64, Tryz.ntmps64
 go_wp2_with fail
 refine Hn2.out.mono ?_
 rintro e w2 ⟨g, inv, ml, ol, rl, rfl, hg, hFR, hB2⟩
 rw [← Hz.out] at hB2
 rw [hK] at q6
 have hs2 := hB2.size
 have hG2 := (hB2.block K (by omega)).trans q6
 have k6 := blk_cell hG2 6
 rw [show (kcells 48 (.slice (some ⟨w.heap.size, 0, none⟩) 6 6) (.slice (some ⟨w.heap.size + 1, 0, none⟩) 6 6) (.slice (some ⟨w.heap.size + 1 + 1, 0, none⟩) 6 6) (.slice (some ⟨w.heap.size + 1 + 1 + 1, 0, none⟩) 6 6) (.slice (some ⟨w.heap.size + 1 + 1 + 1 + 1, 0, none⟩) 6 6) (.pointer none) z6 z6).toArray[6]? = some (.pointer none) by rfl] at k6
 have kf := blk_free hG2 6
 have hG3 := blk_set hG2 6 (.pointer (some ⟨g, 0, none⟩))
 rw [show (kcells 48 (.slice (some ⟨w.heap.size, 0, none⟩) 6 6) (.slice (some ⟨w.heap.size + 1, 0, none⟩) 6 6) (.slice (some ⟨w.heap.size + 1 + 1, 0, none⟩) 6 6) (.slice (some ⟨w.heap.size + 1 + 1 + 1, 0, none⟩) 6 6) (.slice (some ⟨w.heap.size + 1 + 1 + 1 + 1, 0, none⟩) 6 6) (.pointer none) z6 z6).toArray.setIfInBounds 6 (.pointer (some ⟨g, 0, none⟩)) = (kcells 48 (.slice (some ⟨w.heap.size, 0, none⟩) 6 6) (.slice (some ⟨w.heap.size + 1, 0, none⟩) 6 6) (.slice (some ⟨w.heap.size + 1 + 1, 0, none⟩) 6 6) (.slice (some ⟨w.heap.size + 1 + 1 + 1, 0, none⟩) 6 6) (.slice (some ⟨w.heap.size + 1 + 1 + 1 + 1, 0, none⟩) 6 6) (.pointer (some ⟨g, 0, none⟩)) z6 z6).toArray by rfl] at hG3
 have hgK : g ≠ K := by omega
 have hFR3 : FR (w2.setCell ⟨K, 6, none⟩ (.pointer (some ⟨g, 0, none⟩))) g 6 inv M ml ol rl := ⟨⟨⟨(Below.heap_setCell _ _ _ _ hgK).trans hFR.ff.fld.blk, hFR.ff.fld.m6, hFR.ff.fld.o6, hFR.ff.fld.r6⟩, hFR.ff.mlt, hFR.ff.mval, hFR.ff.mtake, hFR.ff.npos, hFR.ff.nle, hFR.ff.big, hFR.ff.invLt, hFR.ff.invV⟩, hFR.oelt, hFR.oval, hFR.relt, hFR.rval⟩
 have hB3 : Below K z (w2.setCell ⟨K, 6, none⟩ (.pointer (some ⟨g, 0, none⟩))) := (hB2.mono (show K ≤ w.heap.size + 6 by omega)).setCell (p := ⟨K, 6, none⟩) (Nat.le_refl _) _
 have hz3 : (w2.setCell ⟨K, 6, none⟩ (.pointer (some ⟨g, 0, none⟩))).heap.size = w2.heap.size := by simp [World.setCell]
 go_upto_region 9 with fail
 generalize w2.setCell ⟨K, 6, none⟩ (.pointer (some ⟨g, 0, none⟩)) = w3 at *
 have c6 := blk_cell hG3 6
 have c3 := blk_cell hG3 3
 rw [show (kcells 48 (.slice (some ⟨w.heap.size, 0, none⟩) 6 6) (.slice (some ⟨w.heap.size + 1, 0, none⟩) 6 6) (.slice (some ⟨w.heap.size + 1 + 1, 0, none⟩) 6 6) (.slice (some ⟨w.heap.size + 1 + 1 + 1, 0, none⟩) 6 6) (.slice (some ⟨w.heap.size + 1 + 1 + 1 + 1, 0, none⟩) 6 6) (.pointer (some ⟨g, 0, none⟩)) z6 z6).toArray[6]? = some (.pointer (some ⟨g, 0, none⟩)) by rfl] at c6
 rw [show (kcells 48 (.slice (some ⟨w.heap.size, 0, none⟩) 6 6) (.slice (some ⟨w.heap.size + 1, 0, none⟩) 6 6) (.slice (some ⟨w.heap.size + 1 + 1, 0, none⟩) 6 6) (.slice (some ⟨w.heap.size + 1 + 1 + 1, 0, none⟩) 6 6) (.slice (some ⟨w.heap.size + 1 + 1 + 1 + 1, 0, none⟩) 6 6) (.pointer (some ⟨g, 0, none⟩)) z6 z6).toArray[3]? = some (.slice (some ⟨w.heap.size + 1 + 1, 0, none⟩) 6 6) by rfl] at c3
 have hK3 : K < w3.heap.size := blk_lt hG3
 have q33 : RN w3 (In w.heap.size (w.heap.size + 5)) (some ⟨w.heap.size + 1 + 1, 0, none⟩) 6 p384b := q3.below hB3 (fun b hb => by have := hb.2; omega)
 have hof := of_any 3 w3.drew (by omega)
 rw [show digs 18446744073709551616 3 = [3] by rw [digs_pos (by omega) (by omega), Nat.mod_eq_of_lt (by omega), Nat.div_eq_of_lt (by omega), digs_zero]] at hof
 have hg3 : g < w3.heap.size := hFR3.ff.fld.lt
 have ht1 := fun (X : World) (hX : Below w3.heap.size w3 X) (A1 : Option Addr) (c1 : Nat) (hO : OB X w3.heap.size A1 c1 [3]) => zto_any _ A1 c1 [3] X (hFR3.below hX hg3) hO.rn (fun b hb => hb.2) (by simp) (by simp; exact hM3)
 have ht2 := fun (X : World) (hX : Below w3.heap.size w3 X) => zto_any _ _ 6 p384b X (hFR3.below hX hg3) (q33.below hX (fun b hb => by have := hb.2; omega)) (fun b hb => by have := hb.2; have := hX.size; omega) (by decide) hbM
 have Hof := Lib.hid hof
 have Ht1 := Lib.hid ht1
 have Ht2 := Lib.hid ht2
 clear hof ht1 ht2
 have c6d : w3.drew.cell? ⟨K, 6, none⟩ = some (.pointer (some ⟨g, 0, none⟩)) := c6
 have c3d : w3.drew.cell? ⟨K, 3, none⟩ = some (.slice (some ⟨w.heap.size + 1 + 1, 0, none⟩) 6 6) := c3
 go_region_held3 (fun w' => w'.cell? ⟨K, 6, none⟩ = some (.pointer (some ⟨g, 0, none⟩)) ∧ w'.cell? ⟨K, 3, none⟩ = some (.slice (some ⟨w.heap.size + 1 + 1, 0, none⟩) 6 6))
  (first | with_reducible exact ⟨set6 7 (by decide) (by decide) c63, set6 7 (by decide) (by decide) c33⟩ | with_reducible exact ⟨set6 13 (by decide) (by decide) (set6 7 (by decide) (by decide) c63), set6 13 (by decide) (by decide) (set6 7 (by decide) (by decide) c33)⟩ | exact ⟨c6, c3⟩ | exact ⟨c61, c31⟩ | exact ⟨c62, c32⟩ | exact ⟨c63, c33⟩)
  (first
   | (go_at_call 67; refine Hof.out.mono ?_; rintro e x1 ⟨A1, cc1, rfl, hO1, hx1'⟩; have hx1 : Below w3.heap.size w3 x1 := ⟨hx1'.os, hx1'.tape, hx1'.output, hx1'.size, hx1'.block⟩; have hO1' : OB x1 w3.heap.size A1 cc1 [3] := hO1; have c61 := (hx1.cell (p := ⟨K, 6, none⟩) hK3).trans c6; have c31 := (hx1.cell (p := ⟨K, 3, none⟩) hK3).trans c3; have T1 := Lib.hid (Ht1.out x1 hx1 A1 cc1 hO1'))
   | (go_at_call_has 92 A1; refine T1.out.mono ?_; rintro e x2 ⟨o3, rfl, hf3, hx2⟩; obtain ⟨u0, u1, u2, u3, u4, u5, hoe⟩ := six hf3.elt.six; have hve : EV o3 = .agg #[.int .u64 (u0 : Int), .int .u64 (u1 : Int), .int .u64 (u2 : Int), .int .u64 (u3 : Int), .int .u64 (u4 : Int), .int .u64 (u5 : Int)] := (by rw [hoe]; rfl); rw [hve]; clear hve; have Hoe := Lib.hid hoe; clear hoe; have hx12 := hx1.trans (hx2.mono hx1.size); have c62 := (hx12.cell (p := ⟨K, 6, none⟩) hK3).trans c6; have c32 := (hx12.cell (p := ⟨K, 3, none⟩) hK3).trans c3; have T2 := Lib.hid (Ht2.out x2 hx12))
   | (go_at_call 92; refine T2.out.mono ?_; rintro e x3 ⟨ob, rfl, hfb, hx3⟩; obtain ⟨v0, v1, v2, v3, v4, v5, hob⟩ := six hfb.elt.six; have hvb : EV ob = .agg #[.int .u64 (v0 : Int), .int .u64 (v1 : Int), .int .u64 (v2 : Int), .int .u64 (v3 : Int), .int .u64 (v4 : Int), .int .u64 (v5 : Int)] := (by rw [hob]; rfl); rw [hvb]; clear hvb; have Hob := Lib.hid hob; clear hob; have hx13 := hx12.trans (hx3.mono hx12.size); have c63 := (hx13.cell (p := ⟨K, 6, none⟩) hK3).trans c6; have c33 := (hx13.cell (p := ⟨K, 3, none⟩) hK3).trans c3; have hGx := (hx13.block K hK3).trans hG3; have dz := kcells_zero hGx; obtain ⟨d7, y7⟩ := dz 7 (by decide) (by decide); obtain ⟨d8, y8⟩ := dz 8 (by decide) (by decide); obtain ⟨d9, y9⟩ := dz 9 (by decide) (by decide); obtain ⟨d10, y10⟩ := dz 10 (by decide) (by decide); obtain ⟨d11, y11⟩ := dz 11 (by decide) (by decide); obtain ⟨d12, y12⟩ := dz 12 (by decide) (by decide); obtain ⟨d13, y13⟩ := dz 13 (by decide) (by decide); obtain ⟨d14, y14⟩ := dz 14 (by decide) (by decide); obtain ⟨d15, y15⟩ := dz 15 (by decide) (by decide); obtain ⟨d16, y16⟩ := dz 16 (by decide) (by decide); obtain ⟨d17, y17⟩ := dz 17 (by decide) (by decide); obtain ⟨d18, y18⟩ := dz 18 (by decide) (by decide); clear dz))
 obtain ⟨t1, t2, t3, t4⟩ := twelve hGx u0 u1 u2 u3 u4 u5 v0 v1 v2 v3 v4 v5
 have hB9 := t4 w.heap.size w (by omega) (q8.trans ((hB3.trans (hx13.mono (by omega))).mono (by have := q8.size; omega)))
 have hFR9 := hFR3.below hx13 hg3
 have hs3 : w3.heap.size ≤ x3.heap.size := hx13.size
 clear c61 c31 c62 c32 c63 c33 T1 T2 hGx hx1' hx1 hx2 hx3 hx12
 generalize ((((((((((((x3.setCell ⟨K, 7, none⟩ (.int .u64 (u0 : Int))).setCell ⟨K, 8, none⟩ (.int .u64 (u1 : Int))).setCell ⟨K, 9, none⟩ (.int .u64 (u2 : Int))).setCell ⟨K, 10, none⟩ (.int .u64 (u3 : Int))).setCell ⟨K, 11, none⟩ (.int .u64 (u4 : Int))).setCell ⟨K, 12, none⟩ (.int .u64 (u5 : Int))).setCell ⟨K, 13, none⟩ (.int .u64 (v0 : Int))).setCell ⟨K, 14, none⟩ (.int .u64 (v1 : Int))).setCell ⟨K, 15, none⟩ (.int .u64 (v2 : Int))).setCell ⟨K, 16, none⟩ (.int .u64 (v3 : Int))).setCell ⟨K, 17, none⟩ (.int .u64 (v4 : Int))).setCell ⟨K, 18, none⟩ (.int .u64 (v5 : Int))) = w9 at *
 have hFR9' : FR w9 g 6 inv M ml ol rl := ⟨⟨⟨(t2 g hgK).trans hFR9.ff.fld.blk, hFR9.ff.fld.m6, hFR9.ff.fld.o6, hFR9.ff.fld.r6⟩, hFR9.ff.mlt, hFR9.ff.mval, hFR9.ff.mtake, hFR9.ff.npos, hFR9.ff.nle, hFR9.ff.big, hFR9.ff.invLt, hFR9.ff.invV⟩, hFR9.oelt, hFR9.oval, hFR9.relt, hFR9.rval⟩
 have hz9 : w.heap.size + 6 ≤ w9.heap.size := by have := hB3.size; omega
 have hkeep : ∀ (l : List Nat) (A : Option Addr) (c : Nat), RN z (In w.heap.size (w.heap.size + 5)) A c l → RN w9 (In w.heap.size w9.heap.size) A c l := fun l A c hR =>
  (hR.keep fun q hq => World.cell?_of_block ((t2 q.block (by have := hq.2; omega)).trans ((hx13.block q.block (by have := hq.2; omega)).trans (hB3.block q.block (by have := hq.2; omega))))).mono fun b hb => ⟨hb.1, by have := hb.2; omega⟩
 have r1 := hkeep _ _ _ q1
 have r2 := hkeep _ _ _ q2
 have r3 := hkeep _ _ _ q3
 have r4 := hkeep _ _ _ q4
 have r5 := hkeep _ _ _ q5
 have ho3 := Hoe.out
 have hob := Hob.out
 rw [← ho3, ← hob] at t1
 have hfin : Num w9 (In w.heap.size w9.heap.size) K g 48 6 inv M (val 18446744073709551616 p384b) p384p p384n p384b p384x p384y ml ol rl o3 ob (some ⟨w.heap.size, 0, none⟩) (some ⟨w.heap.size + 1, 0, none⟩) (some ⟨w.heap.size + 1 + 1, 0, none⟩) (some ⟨w.heap.size + 1 + 1 + 1, 0, none⟩) (some ⟨w.heap.size + 1 + 1 + 1 + 1, 0, none⟩) 6 6 6 6 6 :=
  ⟨t1, r1, r2, r3, r4, r5, hFR9', hM, by have := hf3; simpa using this, hfb⟩
 have Hfin := Lib.hid hfin
 have HB9 := Lib.hid hB9
 clear hfin hB9 t1 t2 t3 t4 r1 r2 r3 r4 r5 hkeep hFR9 hFR9' hf3 hfb hFR3 hG3 q1 q2 q3 q4 q5 q6 q8
 go_wp2
 go_ret
 exact ⟨K, g, inv, ml, ol, rl, o3, ob, rfl, by omega, Hfin.out, HB9.out⟩
end Go.Proofs.YtaemogcomplhiaaGreatDoor
