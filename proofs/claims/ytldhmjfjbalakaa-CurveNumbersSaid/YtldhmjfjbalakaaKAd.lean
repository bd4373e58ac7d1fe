/- What limb.Mul computes. What the reference's From, Of, To and Is compute. What the reference's Is, and the laws' Cut and few, compute. What the reference's Add and Sub compute. -/
import Derived.Test.YtldhmjfjbalakaaKAc
namespace Go.Proofs.Ytldhmjfjbalakaa
open Go.RowKit

theorem mul64_at (x y hi lo : Nat) (hx : x < 18446744073709551616) (hy : y < 18446744073709551616) (hl : lo < 18446744073709551616) (he : lo + 18446744073709551616 * hi = x * y) (w : World) :
    Calls Try.prog 99 #[.int .u64 (x : Int), .int .u64 (y : Int)] w fun e w' => e = .returned (.tuple #[.int .u64 (hi : Int), .int .u64 (lo : Int)]) ∧ w = w' :=
  (Try.bits_Mul64 x y hx hy w).mono fun e w' ⟨h1, h2⟩ => by
    rw [← he, show (lo + 18446744073709551616 * hi) / 18446744073709551616 = hi by omega, show (lo + 18446744073709551616 * hi) % 18446744073709551616 = lo by omega] at h1
    exact ⟨h1, h2.symm⟩
/-- One round of a product: x y + u + c in two limbs. -/
theorem mul_round (x y u c : Nat) (hx : x < 18446744073709551616) (hy : y < 18446744073709551616) (hu : u < 18446744073709551616) (hc : c < 18446744073709551616) :
    ∃ hi lo s1 c1 s2 c2 : Nat, lo < 18446744073709551616 ∧ lo + 18446744073709551616 * hi = x * y ∧ s1 < 18446744073709551616 ∧ s1 + 18446744073709551616 * c1 = lo + u + 0 ∧ s2 < 18446744073709551616 ∧ s2 + 18446744073709551616 * c2 = s1 + c + 0 ∧
      c1 ≤ 1 ∧ c2 ≤ 1 ∧ hi + c1 < 18446744073709551616 ∧ hi + c1 + c2 < 18446744073709551616 ∧ s2 + 18446744073709551616 * (hi + c1 + c2) = x * y + u + c := by
  have hb := mul_bound hx hy hu hc
  refine ⟨x * y / 18446744073709551616, x * y % 18446744073709551616, (x * y % 18446744073709551616 + u) % 18446744073709551616, (x * y % 18446744073709551616 + u) / 18446744073709551616,
    ((x * y % 18446744073709551616 + u) % 18446744073709551616 + c) % 18446744073709551616, ((x * y % 18446744073709551616 + u) % 18446744073709551616 + c) / 18446744073709551616, ?_⟩
  generalize x * y = p at *
  omega

set_option maxRecDepth 100000 in
set_option maxHeartbeats 2000000 in
theorem mul_any (P P' : Nat → Prop) (A A' : Option Addr) (c c' : Nat) (a b : List Nat) (w : World) (h : RN w P A c a) (h' : RN w P' A' c' b) (hP : ∀ b, P b → b < w.heap.size) (hP' : ∀ b, P' b → b < w.heap.size) (hl : a.length < 100000) (hl' : b.length < 100000) :
    Calls Try.prog 96 #[.slice A a.length c, .slice A' b.length c'] w fun e w' => ∃ A1 c1, e = .returned (.slice A1 (digs 18446744073709551616 (val 18446744073709551616 a * val 18446744073709551616 b)).length c1) ∧
      OB w' w.heap.size A1 c1 (digs 18446744073709551616 (val 18446744073709551616 a * val 18446744073709551616 b)) ∧ Below w.heap.size w w' := by
  have ta := Lib.hid (trim_any P A c a w h)
  have tb := Lib.hid (trim_any P' A' c' b w h')
  have la := digs_length_le (B := 18446744073709551616) (by omega) h.2.1
  have lb := digs_length_le (B := 18446744073709551616) (by omega) h'.2.1
  replace h := h.trim
  replace h' := h'.trim
  generalize val 18446744073709551616 a = x at *
  generalize val 18446744073709551616 b = y at *
  have hx := val_digs (B := 18446744073709551616) (by omega) x
  have hy := val_digs (B := 18446744073709551616) (by omega) y
  generalize digs 18446744073709551616 x = l at *
  generalize digs 18446744073709551616 y = m at *
  have la' : l.length < 100000 := by omega
  have lb' : m.length < 100000 := by omega
  clear la lb hl hl'
  have Hx := Lib.hid hx
  have Hy := Lib.hid hy
  clear hx hy
  obtain ⟨h1, h2, h3⟩ := h.cap
  obtain ⟨g1, g2, g3⟩ := h'.cap
  have hmk := run_make_row' (P := Try.prog) 23 72 (.int .u64 0) 8 Try.underlying23 info64 rfl .i64 .i64 (l.length + m.length) (by omega) (by omega)
  simp only [Int.natCast_add] at hmk
  go_enter Try.func96, Try.ntmps96
  go_wp2_with fail
  refine ta.out.mono ?_
  rintro e w1 ⟨rfl, rfl⟩
  go_wp2_with fail
  refine tb.out.mono ?_
  rintro e w1 ⟨rfl, rfl⟩
  go_wp2
  clear ta tb
  go_loopw [26] (fun iv wr => ∃ (i : Nat) (o : List Nat), iv = .int .i64 (i : Int) ∧ i ≤ l.length ∧ RowAt 18446744073709551616 l m o i ∧ Lim o ∧ Blk wr w.heap.size o ∧ Below w.heap.size w wr) (fun iv _ => l.length - (intOf iv).toNat)
  case atStart => exact ⟨0, List.replicate (l.length + m.length) 0, rfl, by omega, RowAt.zero _ _ _, ⟨by simp, by simp; omega⟩, Blk.made w _, (Below.refl _ w).alloc (Nat.le_refl _) _⟩
  case round =>
    obtain ⟨i, o0, rfl, hi, hR, hLo, hblk, hB⟩ := hrel
    obtain ⟨wo, rfl⟩ : ∃ wo, wo = wr := ⟨_, rfl⟩
    by_cases hlt : i < l.length
    · obtain ⟨ad, rfl, _, q1⟩ := (h.below hB hP).at_ hlt
      have hxi := h.2.dgLt i
      go_wp2
      go_loopw [8, 33] (fun cv jv wr => ∃ (j cr : Nat) (o : List Nat), jv = .int .i64 (j : Int) ∧ cv = .int .u64 (cr : Int) ∧ j ≤ m.length ∧ cr < 18446744073709551616 ∧ MulAt 18446744073709551616 o0 m (dg l i) i o j cr ∧ Lim o ∧ Blk wr w.heap.size o ∧ Below w.heap.size w wr) (fun _ jv _ => m.length - (intOf jv).toNat)
      case atStart => exact ⟨0, 0, o0, rfl, rfl, by omega, by omega, MulAt.zero _ _ _ _ _, hLo, hblk, hB⟩
      case round =>
        clear q1 hB hblk hLo
        obtain ⟨j, cr, o, rfl, rfl, hj, hcr, hM, hLo, hblk, hB⟩ := hrel
        have hol : o.length = l.length + m.length := hM.1.trans hR.1
        by_cases hjt : j < m.length
        · obtain ⟨ae, rfl, _, q2⟩ := (h'.below hB hP').at_ hjt
          have hok : i + j < o.length := by omega
          have q3 := hblk.cell hok
          have q4 := hblk.free (i + j)
          obtain ⟨hi', lo, s1, c1, s2, c2, b1, b2, b3, b4, b5, b6, b7, b8, b9, b10, he⟩ := mul_round (dg l i) (dg m j) (dg o (i + j)) cr hxi (h'.2.dgLt j) (hLo.dgLt _) hcr
          have hmul := Lib.hid (fun w => mul64_at (dg l i) (dg m j) hi' lo hxi (h'.2.dgLt j) b1 b2 w)
          have hadd1 := fun w => add64_at lo (dg o (i + j)) 0 s1 c1 (by omega) b3 b4 w
          have hadd2 := fun w => add64_at s1 cr 0 s2 c2 (by omega) b5 b6 w
          simp only [Int.cast_ofNat_Int] at hadd1 hadd2
          have hM' := hM.step hok he
          have hblk' := hblk.set (i + j) s2
          have hLo' := hLo.set (i + j) s2 b5
          have hB' := hB.setCell (p := ⟨w.heap.size, i + j, none⟩) (Nat.le_refl _) (.int .u64 (s2 : Int))
          have k1 : (i : Int) + (j : Int) < (l.length : Int) + (m.length : Int) := by omega
          clear he b2 b4 b6 hM hblk hLo hB hok hol
          go_wp2_with fail
          refine (hmul.out _).mono ?_
          rintro e w1 ⟨rfl, rfl⟩
          go_wp2
          go_roundw
          case rel => exact ⟨j + 1, hi' + c1 + c2, o.set (i + j) s2, by go_num, by go_num, by omega, b10, hM', hLo', hblk', hB'⟩
          case measure => simp [intOf]; omega
        · obtain rfl : j = m.length := by omega
          have hR' := hR.step hlt hM
          have q3 := hblk.cell (i := i + m.length) (by omega)
          have q4 := hblk.free (i + m.length)
          have hblk' := hblk.set (i + m.length) cr
          have hLo' := hLo.set (i + m.length) cr hcr
          have hB' := hB.setCell (p := ⟨w.heap.size, i + m.length, none⟩) (Nat.le_refl _) (.int .u64 (cr : Int))
          have k1 : (i : Int) + (m.length : Int) < (l.length : Int) + (m.length : Int) := by omega
          clear hM hblk hLo hB hol
          go_wp2
          go_roundw
          case rel => exact ⟨i + 1, o.set (i + m.length) cr, by go_num, by omega, hR', hLo', hblk', hB'⟩
          case measure => simp [intOf]; omega
    · obtain rfl : i = l.length := by omega
      have hfin := hR.fin
      rw [Hx.out, Hy.out] at hfin
      have hol := hR.1
      have hOB : OB wo w.heap.size (some ⟨w.heap.size, 0, none⟩) (l.length + m.length) o0 := OB.of_blk hblk (Nat.le_refl _) hLo (by omega) (by unfold maxLen; omega)
      have ht := trim_any _ _ _ _ _ hOB.rn
      have hOB' := hOB.trim
      rw [hfin, hol] at ht
      rw [hfin] at hOB'
      have Ht := Lib.hid ht
      clear hblk hLo ht hfin hOB hR hol
      go_wp2_with fail
      refine Ht.out.mono ?_
      rintro e w1 ⟨rfl, rfl⟩
      go_wp2
      go_ret
      exact ⟨_, _, rfl, hOB', hB⟩
end Go.Proofs.Ytldhmjfjbalakaa

namespace Go.Proofs.Ytldhmjfjbalakaa
open Go.RowKit

theorem OB.recap {w : World} {base : Nat} {A : Option Addr} {c c' : Nat} {l : List Nat} (h : OB w base A c l) (hc : l.length ≤ c') (hc' : c' ≤ maxLen) : OB w base A c' l := ⟨h.1, hc, hc', h.2.2.2⟩
theorem OB.trim32 {w : World} {base : Nat} {A : Option Addr} {c : Nat} {l : List Nat} (h : OB w base A c l) (hl : Dig l) : OB w base A (digs 4294967296 (val 4294967296 l)).length (digs 4294967296 (val 4294967296 l)) := by
  obtain ⟨n, _, e⟩ := hl.cut
  rw [← e]
  have := h.take n
  exact this.recap (Nat.le_refl _) (by have := this.cap; unfold maxLen; omega)
theorem Dig.set {l : List Nat} (h : Dig l) (i x : Nat) (hx : x < 4294967296) : Dig (l.set i x) := set_lt h hx
theorem Dig.dgLt {l : List Nat} (h : Dig l) (i : Nat) : dg l i < 4294967296 := getD_lt (by omega) h i
theorem Dig.digs (x : Nat) : Dig (Go.Proofs.Ytldhmjfjbalakaa.digs 4294967296 x) := digs_lt (by omega) x

/-- Behind i rounds of From. -/
def FromAt (l o : List Nat) (i : Nat) : Prop := o.length = 2 * l.length ∧ Dig o ∧ val 4294967296 (o.take (2 * i)) = val 18446744073709551616 (l.take i)
theorem pow_two_mul (i : Nat) : 4294967296 ^ (2 * i) = 18446744073709551616 ^ i := by
  rw [Nat.pow_mul]
theorem FromAt.zero (l : List Nat) : FromAt l (List.replicate (2 * l.length) 0) 0 := ⟨by simp, by intro x hx; simp at hx; omega, by simp⟩
theorem FromAt.step {l o : List Nat} {i p q : Nat} (h : FromAt l o i) (hi : i < l.length) (hp : p < 4294967296) (hq : q < 4294967296) (he : p + 4294967296 * q = dg l i) : FromAt l ((o.set (2 * i) p).set (2 * i + 1) q) (i + 1) := by
  obtain ⟨h1, h2, h3⟩ := h
  refine ⟨by simpa using h1, (h2.set _ _ hp).set _ _ hq, ?_⟩
  rw [show 2 * (i + 1) = 2 * i + 1 + 1 by omega, val_take_set _ (by simp; omega), val_take_set _ (by omega), h3, val_take_getD, ← he, Nat.pow_succ, pow_two_mul]
  simp only [Nat.mul_add, Nat.mul_assoc, Nat.add_assoc]
theorem FromAt.fin {l o : List Nat} (h : FromAt l o l.length) : val 4294967296 o = val 18446744073709551616 l := by
  obtain ⟨h1, _, h3⟩ := h
  rwa [List.take_of_length_le (by omega), List.take_length] at h3

set_option maxRecDepth 100000 in
set_option maxHeartbeats 1000000 in
theorem from_any (P : Nat → Prop) (A : Option Addr) (c : Nat) (l : List Nat) (w : World) (h : RN w P A c l) (hP : ∀ b, P b → b < w.heap.size) (hl : l.length < 100000) :
    Calls Try.prog 19 #[.slice A l.length c] w fun e w' => ∃ A1 c1, e = .returned (.slice A1 (digs 4294967296 (val 18446744073709551616 l)).length c1) ∧
      OB w' w.heap.size A1 c1 (digs 4294967296 (val 18446744073709551616 l)) ∧ Below w.heap.size w w' := by
  obtain ⟨h1, h2, h3⟩ := h.cap
  have hmk := run_make_row' (P := Try.prog) 29 72 (.int .u64 0) 8 Try.underlying29 info64 rfl .i64 .i64 (2 * l.length) (by omega) (by omega)
  simp only [Int.natCast_mul, Int.cast_ofNat_Int] at hmk
  go_enter Try.func19, Try.ntmps19
  go_wp2
  go_loopw [4] (fun iv wr => ∃ (i : Nat) (o : List Nat), iv = .int .i64 (i : Int) ∧ i ≤ l.length ∧ FromAt l o i ∧ Lim o ∧ Blk wr w.heap.size o ∧ Below w.heap.size w wr) (fun iv _ => l.length - (intOf iv).toNat)
  case atStart => exact ⟨0, List.replicate (2 * l.length) 0, rfl, by omega, FromAt.zero _, ⟨by simp, by simp; omega⟩, Blk.made w _, (Below.refl _ w).alloc (Nat.le_refl _) _⟩
  case round =>
    obtain ⟨i, o, rfl, hi, hF, hLo, hblk, hB⟩ := hrel
    by_cases hlt : i < l.length
    · obtain ⟨ad, rfl, had, q1⟩ := (h.below hB hP).at_ hlt
      have hol := hF.1
      have hxi := h.2.dgLt i
      obtain ⟨p, q, hp, hq, he, e1, e2⟩ : ∃ p q : Nat, p < 4294967296 ∧ q < 4294967296 ∧ p + 4294967296 * q = dg l i ∧ (dg l i : Int) % 4294967296 = (p : Int) ∧ (dg l i : Int) / 4294967296 = (q : Int) :=
        ⟨dg l i % 4294967296, dg l i / 4294967296, by omega, by omega, by omega, by omega, by omega⟩
      have q3 := hblk.cell (i := 2 * i) (by omega)
      have q4 := hblk.free (2 * i)
      have hblk1 := hblk.set (2 * i) p
      have q5 := hblk1.cell (i := 2 * i + 1) (by simp; omega)
      have q6 := hblk1.free (2 * i + 1)
      have hblk2 := hblk1.set (2 * i + 1) q
      have hLo' := (hLo.set (2 * i) p (by omega)).set (2 * i + 1) q (by omega)
      have hB1 := hB.setCell (p := ⟨w.heap.size, 2 * i, none⟩) (Nat.le_refl _) (.int .u64 (p : Int))
      have q7 := ((h.below hB1 hP).cells i hlt)
      have hB2 := hB1.setCell (p := ⟨w.heap.size, 2 * i + 1, none⟩) (Nat.le_refl _) (.int .u64 (q : Int))
      have hF' := hF.step hlt hp hq he
      have k1 : (2 : Int) * (i : Int) < 2 * (l.length : Int) := by omega
      have k2 : (2 : Int) * (i : Int) + 1 < 2 * (l.length : Int) := by omega
      clear hF hLo hblk hB hblk1 hB1 he hol hp hq
      go_wp2
      go_roundw
      case rel => exact ⟨i + 1, (o.set (2 * i) p).set (2 * i + 1) q, by go_num, by omega, hF', hLo', hblk2, hB2⟩
      case measure => simp [intOf]; omega
    · obtain rfl : i = l.length := by omega
      have hfin := hF.fin
      have hOB : OB wr w.heap.size (some ⟨w.heap.size, 0, none⟩) (2 * l.length) o := OB.of_blk hblk (Nat.le_refl _) hLo (by have := hF.1; omega) (by unfold maxLen; omega)
      have ht := refTrim_any _ _ _ _ _ hOB.rn hF.2.1
      have hOB' := hOB.trim32 hF.2.1
      rw [hfin, hF.1] at ht
      rw [hfin] at hOB'
      have Ht := Lib.hid ht
      clear hblk hLo ht hfin hOB hF
      go_wp2_with fail
      refine Ht.out.mono ?_
      rintro e w1 ⟨rfl, rfl⟩
      go_wp2
      go_ret
      exact ⟨_, _, rfl, hOB', hB⟩

set_option maxHeartbeats 400000 in
theorem refOf_any (x : Nat) (w : World) (hx : x < 18446744073709551616) :
    Calls Try.prog 39 #[.int .u64 (x : Int)] w fun e w' => ∃ A' c', e = .returned (.slice A' (digs 4294967296 x).length c') ∧ OB w' w.heap.size A' c' (digs 4294967296 x) ∧ Below w.heap.size w w' := by
  have hv : val 18446744073709551616 [x] = x := by simp
  have hm := fun P A c w h hP => from_any P A c [x] w h hP (by simp)
  rw [hv] at hm
  have Hm := Lib.hid hm
  clear hm hv
  go_enter Try.func39, Try.ntmps39
  go_wp2_with fail
  refine (Hm.out (In w.heap.size (w.heap.size + 1)) _ _ _ ⟨RS.fresh #[.int .u64 (x : Int)] 72 1 1 rfl (by unfold maxLen; omega) ⟨Nat.le_refl _, by omega⟩, by simpa [Lim] using hx⟩ (fun b hb => by have := hb.2; simp; omega)).mono ?_
  rintro e w1 ⟨A', c', rfl, hO, hB⟩
  go_wp2
  go_ret
  exact ⟨A', c', rfl, hO.mono (by simp), ((Below.refl _ w).alloc (Nat.le_refl _) _).trans (hB.mono (by simp))⟩

/-- Two digits to the base 2^32 make one to the base 2^64. -/
def pairs : List Nat → List Nat
  | [] => []
  | [a] => [a]
  | a :: b :: r => (a + 4294967296 * b) :: pairs r
theorem pairs_val : ∀ l : List Nat, val 18446744073709551616 (pairs l) = val 4294967296 l
  | [] => rfl
  | [a] => by simp [pairs]
  | a :: b :: r => by simp only [pairs, val_cons, pairs_val r]; omega
theorem pairs_lt : ∀ {l : List Nat}, Dig l → ∀ x ∈ pairs l, x < 18446744073709551616
  | [], _, x, hx => by cases hx
  | [a], h, x, hx => by
    have := h a (by simp)
    simp only [pairs, List.mem_singleton] at hx
    omega
  | a :: b :: r, h, x, hx => by
    have h1 := h a (by simp)
    have h2 := h b (by simp)
    simp only [pairs, List.mem_cons] at hx
    rcases hx with rfl | hx
    · omega
    · exact pairs_lt (fun y hy => h y (by simp [hy])) x hx
theorem pairs_ne : ∀ {l : List Nat}, l ≠ [] → pairs l ≠ []
  | [], h => absurd rfl h
  | [a], _ => by simp [pairs]
  | a :: b :: r, _ => by simp [pairs]
theorem pairs_last : ∀ {l : List Nat} (h : l ≠ []), l.getLast h ≠ 0 → ∀ h' : pairs l ≠ [], (pairs l).getLast h' ≠ 0
  | [], h, _, _ => absurd rfl h
  | [a], _, h, h' => by simpa [pairs] using h
  | [a, b], _, h, h' => by
    simp at h
    simp [pairs]
    omega
  | a :: b :: d :: r, _, h, h' => by
    have e : pairs (a :: b :: d :: r) = (a + 4294967296 * b) :: pairs (d :: r) := rfl
    have hne : pairs (d :: r) ≠ [] := pairs_ne (by simp)
    simp only [e, List.getLast_cons hne]
    exact pairs_last (by simp) (by simpa using h) hne
theorem pairs_digs (x : Nat) : pairs (digs 4294967296 x) = digs 18446744073709551616 x := by
  have h1 := pairs_val (digs 4294967296 x)
  rw [val_digs (by omega)] at h1
  have h2 := digs_val (B := 18446744073709551616) (by omega) (pairs_lt (Dig.digs x)) fun hne => by
    have hne' : digs 4294967296 x ≠ [] := by intro e; rw [e] at hne; exact hne rfl
    exact pairs_last hne' (digs_last (by omega) x hne') hne
  rw [h1] at h2
  exact h2.symm
theorem pairs_length : ∀ l : List Nat, (pairs l).length = (l.length + 1) / 2
  | [] => rfl
  | [a] => by simp [pairs]
  | a :: b :: r => by simp only [pairs, List.length_cons, pairs_length r]; omega
theorem dg_cons_zero (a : Nat) (l : List Nat) : dg (a :: l) 0 = a := rfl
theorem dg_cons_succ (a : Nat) (l : List Nat) (i : Nat) : dg (a :: l) (i + 1) = dg l i := rfl
theorem dg_nil (i : Nat) : dg [] i = 0 := rfl
theorem pairs_dg : ∀ (l : List Nat) (k : Nat), dg (pairs l) k = dg l (2 * k) + 4294967296 * dg l (2 * k + 1)
  | [], k => by simp [pairs, dg_nil]
  | [a], 0 => by simp [pairs, dg_cons_zero, dg_cons_succ, dg_nil]
  | [a], k + 1 => by rw [show 2 * (k + 1) = 2 * k + 1 + 1 by omega]; simp [pairs, dg_cons_succ, dg_nil]
  | a :: b :: r, 0 => by simp [pairs, dg_cons_zero, dg_cons_succ]
  | a :: b :: r, k + 1 => by
    rw [show 2 * (k + 1) = 2 * k + 1 + 1 by omega]
    simp only [pairs, dg_cons_succ, pairs_dg r k]
theorem take_succ_dg {l : List Nat} {k : Nat} (h : k < l.length) : l.take (k + 1) = l.take k ++ [dg l k] := by
  rw [List.take_succ_eq_append_getElem h, dg, getD_eq' h]

theorem own_block_le {w : World} {base n size : Nat} {e : TypeId} {v : Value} {xs : List Value} (h : w.ownsRow base e size v n xs) {j : Nat} (hj : v.ownBlock = some j) : base ≤ j := by
  obtain ⟨h0, ⟨rfl, _⟩ | ⟨g, cap, cur, rfl, hg, _⟩⟩ := h
  · simp [Value.ownBlock] at hj
  · simp [Value.ownBlock] at hj
    omega

set_option maxRecDepth 100000 in
set_option maxHeartbeats 1000000 in
theorem to_any (P : Nat → Prop) (A : Option Addr) (c : Nat) (x : Nat) (w : World) (h : RN w P A c (digs 4294967296 x)) (hP : ∀ b, P b → b < w.heap.size) :
    Calls Try.prog 22 #[.slice A (digs 4294967296 x).length c] w fun e w' => ∃ A1 c1, e = .returned (.slice A1 (digs 18446744073709551616 x).length c1) ∧
      OB w' w.heap.size A1 c1 (digs 18446744073709551616 x) ∧ Below w.heap.size w w' := by
  obtain ⟨i0, hi, hz0, hz1, hz2⟩ := info_parts info64
  obtain ⟨h1, h2, h3⟩ := h.cap
  have hx := pairs_digs x
  have hd := Dig.digs x
  rw [← hx]
  generalize digs 4294967296 x = l at *
  have hpl := pairs_length l
  have hpd := pairs_dg l
  have hplt := pairs_lt hd
  generalize pairs l = m at *
  clear hx
  have Hpd := Lib.hid hpd
  have Hpl := Lib.hid hpl
  have hmb : m.length ≤ 1000000 := by omega
  clear hpd hpl
  have hLm : Lim m := ⟨hplt, hmb⟩
  go_enter Try.func22, Try.ntmps22
  go_wp2
  go_loopw [3, 4] (fun lv iv wr => ∃ (k : Nat), iv = .int .i64 (2 * (k : Int)) ∧ k ≤ m.length ∧ wr.ownsRow w.heap.size 72 1 lv k (nts (m.take k)) ∧ Below w.heap.size w wr) (fun _ iv _ => l.length + 1 - (intOf iv).toNat)
  case atStart => exact ⟨0, rfl, by omega, World.ownsRow_nil _ _ _ _, Below.refl _ _⟩
  case round =>
    obtain ⟨k, rfl, hk, hO, hB⟩ := hrel
    have hkl := Hpl.out
    by_cases hlt : k < m.length
    · obtain ⟨ad, rfl, had, q1⟩ := (h.below hB hP).at_ (i := 2 * k) (by omega)
      have hd1 := hd.dgLt (2 * k)
      have hd2 := hd.dgLt (2 * k + 1)
      have he := Hpd.out k
      have hmk := hLm.dgLt k
      have hs := hB.size
      have htk := take_succ_dg hlt
      have k1 : (2 : Int) * (k : Int) < (l.length : Int) := by omega
      by_cases h2 : 2 * k + 1 < l.length
      · have q2 := (h.below hB hP).cells (2 * k + 1) h2
        rw [add_succ] at q2
        have k2 : (2 : Int) * (k : Int) + 1 < (l.length : Int) := by omega
        have e1 : (dg l (2 * k) : Int) + (dg l (2 * k + 1) : Int) * 4294967296 = (dg m k : Int) := by omega
        clear he hkl
        go_wp2_with (at_builtin; refine wpList_append_rs _ rfl _ _ 23 rfl w.heap.size 72 i0 (.int .u64 0) 1 8 Try.underlying23 hi hz0 hz1 hz2 rfl (by decide) _ k (nts (m.take k)) rfl (hO.alloc _) (In wr.heap.size (wr.heap.size + 1)) (some ⟨wr.heap.size, 0, none⟩) 1 1 [.int .u64 (dg m k : Int)] rfl (RS.fresh #[.int .u64 (dg m k : Int)] 72 1 1 rfl (by unfold maxLen; omega) ⟨Nat.le_refl _, by omega⟩) (by simp [Value.oneCell']) (k + 1) rfl (by unfold maxLen; omega) (by omega) (by simp; omega) ?_)
        intro A' c' w1 hown hgrow hblk
        go_wp2
        go_roundw
        case rel => exact ⟨k + 1, by go_num, by omega, by rw [htk]; simpa [nts] using hown, (hB.alloc hs _).grown hgrow (by simp; omega) (by intro j hj; exact own_block_le hO hj)⟩
        case measure => simp [intOf]; omega
      · have e1 : dg l (2 * k) = dg m k := by rw [he, dg_none (by omega : l.length ≤ 2 * k + 1)]; omega
        have k2 : ¬ (2 : Int) * (k : Int) + 1 < (l.length : Int) := by omega
        rw [e1] at q1
        clear he hkl e1
        go_wp2_with (at_builtin; refine wpList_append_rs _ rfl _ _ 23 rfl w.heap.size 72 i0 (.int .u64 0) 1 8 Try.underlying23 hi hz0 hz1 hz2 rfl (by decide) _ k (nts (m.take k)) rfl (hO.alloc _) (In wr.heap.size (wr.heap.size + 1)) (some ⟨wr.heap.size, 0, none⟩) 1 1 [.int .u64 (dg m k : Int)] rfl (RS.fresh #[.int .u64 (dg m k : Int)] 72 1 1 rfl (by unfold maxLen; omega) ⟨Nat.le_refl _, by omega⟩) (by simp [Value.oneCell']) (k + 1) rfl (by unfold maxLen; omega) (by omega) (by simp; omega) ?_)
        intro A' c' w1 hown hgrow hblk
        go_wp2
        go_roundw
        case rel => exact ⟨k + 1, by go_num, by omega, by rw [htk]; simpa [nts] using hown, (hB.alloc hs _).grown hgrow (by simp; omega) (by intro j hj; exact own_block_le hO hj)⟩
        case measure => simp [intOf]; omega
    · obtain rfl : k = m.length := by omega
      have k1 : ¬ (2 : Int) * (m.length : Int) < (l.length : Int) := by omega
      obtain ⟨A1, c1, rfl⟩ := own_shape hO
      rw [List.take_length] at hO
      clear hkl
      go_wp2
      go_ret
      exact ⟨_, _, rfl, OB.of_own hO hLm, hB⟩
end Go.Proofs.Ytldhmjfjbalakaa

namespace Go.Proofs.Ytldhmjfjbalakaa
open Go.RowKit

/-- The first k digits are equal. -/
def SameTo (l m : List Nat) (k : Nat) : Prop := ∀ j, j < k → dg l j = dg m j
theorem SameTo.step {l m : List Nat} {k : Nat} (h : SameTo l m k) (he : dg l k = dg m k) : SameTo l m (k + 1) := fun j hj => by
  rcases Nat.lt_or_ge j k with h1 | h1
  · exact h j h1
  · obtain rfl : j = k := by omega
    exact he
theorem SameTo.fin {l m : List Nat} (h : SameTo l m l.length) (hl : l.length = m.length) : l = m := by
  apply List.ext_getElem hl
  intro i h1 h2
  have := h i h1
  rwa [dg, dg, getD_eq' h1, getD_eq' h2] at this

set_option maxRecDepth 100000 in
set_option maxHeartbeats 1000000 in
/-- Is, where the answer is known. -/
theorem is_bool (P P' : Nat → Prop) (A A' : Option Addr) (c c' : Nat) (l : List Nat) (x : Nat) (w : World) (h : RN w P A c l) (h' : RN w P' A' c' (digs 4294967296 x)) (hP : ∀ b, P b → b < w.heap.size) (hP' : ∀ b, P' b → b < w.heap.size) :
    Calls Try.prog 33 #[.slice A l.length c, .slice A' (digs 4294967296 x).length c'] w fun e w' => e = .returned (.bool (decide (l = digs 18446744073709551616 x))) ∧ Below w.heap.size w w' := by
  obtain ⟨h1, h2, h3⟩ := h.cap
  have ht := Lib.hid (to_any P' A' c' x w h' hP')
  have hmc := OB.cap (w := w) (base := 0) (A := none) (c := 1000000) (l := l)
  clear hmc
  generalize digs 18446744073709551616 x = m at *
  by_cases hl : l.length = m.length
  · have Hl := Lib.hid hl
    have hl1 : ((l.length : Int) != (m.length : Int)) = false := by simp [hl]
    clear hl
    go_enter Try.func33, Try.ntmps33
    go_wp2_with fail
    refine ht.out.mono ?_
    rintro e w1 ⟨A1, c1, rfl, hO, hB⟩
    obtain ⟨g1, g2, g3⟩ := hO.cap
    go_wp2
    go_loopw [6] (fun iv wr => ∃ (k n : Nat), iv = .int .i64 (k : Int) ∧ k ≤ l.length ∧ SameTo l m k ∧ wr = w1.drewN n) (fun iv _ => l.length - (intOf iv).toNat)
    case atStart => exact ⟨0, 0, rfl, by omega, fun j hj => by omega, rfl⟩
    case round =>
      obtain ⟨k, n, rfl, hk, hS, rfl⟩ := hrel
      have hlm := Hl.out
      by_cases hlt : k < l.length
      · obtain ⟨ad, rfl, had, q1⟩ := (h.below hB hP).at_ hlt
        obtain ⟨ae, rfl, hae, q2⟩ := hO.rn.at_ (i := k) (by omega)
        have k1 : (k : Int) < (m.length : Int) := by omega
        by_cases he : dg l k = dg m k
        · have hS' := hS.step he
          rw [← he] at q2
          clear hlm he hS
          go_wp2
          go_quiet (fail)
          go_wp2
          go_roundw
          case rel => exact ⟨k + 1, _, by go_num, by omega, hS', by first | rfl | exact drewN_add _ _ _⟩
          case measure => simp [intOf]; omega
        · have hne : decide (l = m) = false := by
            rw [decide_eq_false_iff_not]
            rintro rfl
            exact he rfl
          have Hne := Lib.hid hne
          have hd0 : (((dg l k : Nat) : Int) != ((dg m k : Nat) : Int)) = true := neB (by omega)
          clear hlm he hS hne
          go_wp2
          go_quiet (fail)
          go_wp2
          go_ret
          rw [Hne.out]
          exact ⟨rfl, by first | exact below_drewN hB _ | exact below_drewN (below_drewN hB _) _⟩
      · obtain rfl : k = l.length := by omega
        have he := hS.fin hlm
        have Hne := Lib.hid (show decide (l = m) = true by rw [he]; simp)
        clear hlm he hS
        go_wp2
        go_ret
        rw [Hne.out]
        exact ⟨rfl, below_drewN hB _⟩
  · have hne : decide (l = m) = false := by
      rw [decide_eq_false_iff_not]
      rintro rfl
      exact hl rfl
    have Hne := Lib.hid hne
    have hl1 : ((l.length : Int) != (m.length : Int)) = true := neB (by omega)
    clear hl hne
    go_enter Try.func33, Try.ntmps33
    go_wp2_with fail
    refine ht.out.mono ?_
    rintro e w1 ⟨A1, c1, rfl, hO, hB⟩
    go_wp2
    go_ret
    rw [Hne.out]
    exact ⟨rfl, hB⟩
theorem is_yes (P P' : Nat → Prop) (A A' : Option Addr) (c c' : Nat) (x : Nat) (w : World) (h : RN w P A c (digs 18446744073709551616 x)) (h' : RN w P' A' c' (digs 4294967296 x)) (hP : ∀ b, P b → b < w.heap.size) (hP' : ∀ b, P' b → b < w.heap.size) :
    Calls Try.prog 33 #[.slice A (digs 18446744073709551616 x).length c, .slice A' (digs 4294967296 x).length c'] w fun e w' => e = .returned (.bool true) ∧ Below w.heap.size w w' := by
  have := is_bool P P' A A' c c' _ x w h h' hP hP'
  rwa [show decide (digs 18446744073709551616 x = digs 18446744073709551616 x) = true by simp] at this

/-- The slice reads as limbs, however many. -/
def RL (w : World) (P : Nat → Prop) (A : Option Addr) (c : Nat) (l : List Nat) : Prop := RS w P 1 A l.length c (nts l) ∧ (∀ x ∈ l, x < 18446744073709551616) ∧ l.length ≤ 17592186044416
theorem RL.take {w : World} {P : Nat → Prop} {A : Option Addr} {c : Nat} {l : List Nat} (h : RL w P A c l) {n : Nat} (hn : n ≤ 1000000) (hn' : n ≤ l.length) : RN w P A c (l.take n) := by
  have := h.1.pre hn'
  rw [Nat.mul_one, nts_take] at this
  refine ⟨by rw [List.length_take, Nat.min_eq_left hn']; exact this, fun x hx => h.2.1 x (List.mem_of_mem_take hx), by rw [List.length_take]; omega⟩
theorem RL.below {w w' : World} {P : Nat → Prop} {A : Option Addr} {c B : Nat} {l : List Nat} (h : RL w P A c l) (hb : Below B w w') (hB : ∀ b, P b → b < B) : RL w' P A c l := ⟨h.1.below hb hB, h.2⟩

set_option maxHeartbeats 400000 in
theorem cut_any (P : Nat → Prop) (A : Option Addr) (c : Nat) (l : List Nat) (n : Nat) (w : World) (h : RL w P A c l) (hn : n ≤ 100000) :
    Calls Try.prog 11 #[.slice A l.length c, .int .i64 (n : Int)] w fun e w' => ∃ A1 c1, e = .returned (.slice A1 (l.take n).length c1) ∧ OB w' w.heap.size A1 c1 (l.take n) ∧ Below w.heap.size w w' := by
  obtain ⟨i0, hi, hz0, hz1, hz2⟩ := info_parts info64
  obtain ⟨⟨h1, h2, _⟩, h4, h5⟩ := id h
  unfold maxLen at h2
  by_cases hl : l.length < n
  · have ht : l.take n = l := List.take_of_length_le (by omega)
    have hR : RN w P A c l := ⟨h.1, h4, by omega⟩
    rw [ht]
    have hlB : decide (l.length < n) = true := by simpa using hl
    clear ht h4
    go_enter Try.func11, Try.ntmps11
    go_wp2_with (at_builtin; refine wpList_append_rs _ rfl _ _ 23 rfl w.heap.size 72 i0 (.int .u64 0) 1 8 Try.underlying23 hi hz0 hz1 hz2 rfl (by decide) _ 0 [] rfl (World.ownsRow_nil _ _ _ _) P A l.length c (nts l) rfl hR.1 (oneCell_nts l) l.length (by omega) (by unfold maxLen; omega) (by omega) (Nat.le_refl _) ?_)
    intro A' c' w1 hown hgrow hblk
    go_wp2
    go_ret
    exact ⟨A', c', rfl, OB.of_own (by simpa using hown) hR.2, (Below.refl _ w).grown hgrow (Nat.le_refl _) (by intro k hk; simp [Value.ownBlock] at hk)⟩
  · have hR := h.take (n := n) (by omega) (by omega)
    have hlen : (l.take n).length = n := by rw [List.length_take]; omega
    have hlB : decide (l.length < n) = false := by simpa using hl
    have k1 : (n : Int) ≤ (c : Int) := by omega
    generalize l.take n = d at *
    subst hlen
    clear h4 hl
    go_enter Try.func11, Try.ntmps11
    go_wp2_with (at_builtin; refine wpList_append_rs _ rfl _ _ 23 rfl w.heap.size 72 i0 (.int .u64 0) 1 8 Try.underlying23 hi hz0 hz1 hz2 rfl (by decide) _ 0 [] rfl (World.ownsRow_nil _ _ _ _) P A d.length c (nts d) rfl hR.1 (oneCell_nts d) d.length (by omega) (by unfold maxLen; omega) (by omega) (Nat.le_refl _) ?_)
    intro A' c' w1 hown hgrow hblk
    go_wp2
    go_ret
    exact ⟨A', c', rfl, OB.of_own (by simpa using hown) hR.2, (Below.refl _ w).grown hgrow (Nat.le_refl _) (by intro k hk; simp [Value.ownBlock] at hk)⟩
end Go.Proofs.Ytldhmjfjbalakaa

namespace Go.Proofs.Ytldhmjfjbalakaa
open Go.RowKit

theorem RN.dig {w : World} {P : Nat → Prop} {A : Option Addr} {c x : Nat} (_ : RN w P A c (digs 4294967296 x)) : Dig (digs 4294967296 x) := Dig.digs x

set_option maxRecDepth 100000 in
set_option maxHeartbeats 2000000 in
theorem refAdd_any (P P' : Nat → Prop) (A A' : Option Addr) (c c' : Nat) (x y : Nat) (w : World) (h : RN w P A c (digs 4294967296 x)) (h' : RN w P' A' c' (digs 4294967296 y)) (hP : ∀ b, P b → b < w.heap.size) (hP' : ∀ b, P' b → b < w.heap.size)
    (hl : (digs 4294967296 x).length < 100000) (hl' : (digs 4294967296 y).length < 100000) :
    Calls Try.prog 23 #[.slice A (digs 4294967296 x).length c, .slice A' (digs 4294967296 y).length c'] w fun e w' => ∃ A1 c1, e = .returned (.slice A1 (digs 4294967296 (x + y)).length c1) ∧
      OB w' w.heap.size A1 c1 (digs 4294967296 (x + y)) ∧ Below w.heap.size w w' := by
  have hx := val_digs (B := 4294967296) (by omega) x
  have hy := val_digs (B := 4294967296) (by omega) y
  have dx := Dig.digs x
  have dy := Dig.digs y
  generalize digs 4294967296 x = l at *
  generalize digs 4294967296 y = m at *
  have Hx := Lib.hid hx
  have Hy := Lib.hid hy
  clear hx hy
  obtain ⟨h1, h2, h3⟩ := h.cap
  obtain ⟨g1, g2, g3⟩ := h'.cap
  go_enter Try.func23, Try.ntmps23
  go_upto_if 14 with fail
  go_cut [5] (fun s5 wx => ∃ n : Nat, s5 = .int .i64 (n : Int) ∧ l.length ≤ n ∧ m.length ≤ n ∧ n < 100000 ∧ w = wx)
  case first =>
    by_cases hs : l.length < m.length
    · go_wp2_with fail
      go_meet
      case rel => exact ⟨m.length, rfl, by omega, by omega, by omega, rfl⟩
    · go_wp2_with fail
      go_meet
      case rel => exact ⟨l.length, rfl, by omega, by omega, by omega, rfl⟩
  case rest =>
    obtain ⟨n, rfl, hln, hmn, hn, rfl⟩ := hcut
    have hmk := run_make_row' (P := Try.prog) 29 72 (.int .u64 0) 8 Try.underlying29 info64 rfl .i64 .i64 (n + 1) (by omega) (by omega)
    simp only [Int.natCast_add, Int.cast_ofNat_Int] at hmk
    go_wp2
    go_loopw [7, 8] (fun cv iv wr => ∃ (k cr : Nat) (o : List Nat), iv = .int .i64 (k : Int) ∧ cv = .int .u64 (cr : Int) ∧ k ≤ n + 1 ∧ (k ≤ n → cr ≤ 1) ∧ (k = n + 1 → cr = 0) ∧ AddAt 4294967296 l m o k cr ∧ Hid (o.length = n + 1) ∧ Dig o ∧ Blk wr w.heap.size o ∧ Below w.heap.size w wr) (fun _ iv _ => n + 1 - (intOf iv).toNat)
    case atStart => exact ⟨0, 0, List.replicate (n + 1) 0, rfl, rfl, by omega, by omega, by omega, AddAt.zero _ _ _ _, Lib.hid (by simp), by intro x hx; simp at hx; omega, Blk.made w _, (Below.refl _ w).alloc (Nat.le_refl _) _⟩
    case round =>
      obtain ⟨k, cr, o, rfl, rfl, hk, hcr, hcr0, hA, Ho, hD, hblk, hB⟩ := hrel
      by_cases hlt : k ≤ n
      · have hok : k < o.length := by have := Ho.out; omega
        have q3 := hblk.cell hok
        have q4 := hblk.free k
        have hcr1 := hcr hlt
        have b1 := dx.dgLt k
        have b2 := dy.dgLt k
        obtain ⟨s, cr', hs, hcr', he, hend⟩ : ∃ s c' : Nat, s < 4294967296 ∧ c' ≤ 1 ∧ s + 4294967296 * c' = dg l k + dg m k + cr ∧ (k = n → c' = 0) := by
          refine ⟨(dg l k + dg m k + cr) % 4294967296, (dg l k + dg m k + cr) / 4294967296, by omega, by omega, by omega, fun e => ?_⟩
          rw [dg_none (by omega : l.length ≤ k), dg_none (by omega : m.length ≤ k)]
          omega
        have hA' := hA.step hok he
        have hblk' := hblk.set k s
        have hD' := hD.set k s hs
        have hB' := hB.setCell (p := ⟨w.heap.size, k, none⟩) (Nat.le_refl _) (.int .u64 (s : Int))
        have Ho' : Hid ((o.set k s).length = n + 1) := Lib.hid (by rw [List.length_set]; exact Ho.out)
        have k1 : (k : Int) < (n : Int) + 1 := by omega
        by_cases hm1 : k < l.length
        · obtain ⟨ad, rfl, had, q1⟩ := (h.below hB hP).at_ hm1
          by_cases hm2 : k < m.length
          · obtain ⟨ae, rfl, hae, q2⟩ := (h'.below hB hP').at_ hm2
            have e1 : ((cr : Int) + (dg l k : Int) + (dg m k : Int)) % 4294967296 = (s : Int) := by omega
            have e2 : ((cr : Int) + (dg l k : Int) + (dg m k : Int)) / 4294967296 = (cr' : Int) := by omega
            clear he hA hblk hD hB hok hcr
            go_wp2
            go_roundw
            case rel => exact ⟨k + 1, cr', o.set k s, by go_num, (by first | rfl | exact congrArg (Value.int .u64) e2), by omega, fun _ => hcr', fun e => hend (by omega), hA', Ho', hD', hblk', hB'⟩
            case measure => simp [intOf]; omega
          · have e0 : dg m k = 0 := dg_none (by omega)
            have e1 : ((cr : Int) + (dg l k : Int)) % 4294967296 = (s : Int) := by omega
            have e2 : ((cr : Int) + (dg l k : Int)) / 4294967296 = (cr' : Int) := by omega
            clear he hA hblk hD hB hok hcr e0
            go_wp2
            go_roundw
            case rel => exact ⟨k + 1, cr', o.set k s, by go_num, (by first | rfl | exact congrArg (Value.int .u64) e2), by omega, fun _ => hcr', fun e => hend (by omega), hA', Ho', hD', hblk', hB'⟩
            case measure => simp [intOf]; omega
        · by_cases hm2 : k < m.length
          · obtain ⟨ae, rfl, hae, q2⟩ := (h'.below hB hP').at_ hm2
            have e0 : dg l k = 0 := dg_none (by omega)
            have e1 : ((cr : Int) + (dg m k : Int)) % 4294967296 = (s : Int) := by omega
            have e2 : ((cr : Int) + (dg m k : Int)) / 4294967296 = (cr' : Int) := by omega
            clear he hA hblk hD hB hok hcr e0
            go_wp2
            go_roundw
            case rel => exact ⟨k + 1, cr', o.set k s, by go_num, (by first | rfl | exact congrArg (Value.int .u64) e2), by omega, fun _ => hcr', fun e => hend (by omega), hA', Ho', hD', hblk', hB'⟩
            case measure => simp [intOf]; omega
          · have e0 : dg l k = 0 := dg_none (by omega)
            have e00 : dg m k = 0 := dg_none (by omega)
            have e1 : ((cr : Int)) % 4294967296 = (s : Int) := by omega
            have e2 : ((cr : Int)) / 4294967296 = (cr' : Int) := by omega
            clear he hA hblk hD hB hok hcr e0 e00
            go_wp2
            go_roundw
            case rel => exact ⟨k + 1, cr', o.set k s, by go_num, (by first | rfl | exact congrArg (Value.int .u64) e2), by omega, fun _ => hcr', fun e => hend (by omega), hA', Ho', hD', hblk', hB'⟩
            case measure => simp [intOf]; omega
      · obtain rfl : k = n + 1 := by omega
        have hcr1 := hcr0 rfl
        subst hcr1
        have hfin : val 4294967296 o = x + y := by
          have := hA
          unfold AddAt at this
          rwa [List.take_of_length_le (by rw [Ho.out]; omega), List.take_of_length_le (by omega), List.take_of_length_le (by omega), Hx.out, Hy.out, Nat.mul_zero, Nat.add_zero] at this
        have hLo : Lim o := ⟨fun z hz => by have := hD z hz; omega, by rw [Ho.out]; omega⟩
        have hOB : OB wr w.heap.size (some ⟨w.heap.size, 0, none⟩) (n + 1) o := OB.of_blk hblk (Nat.le_refl _) hLo (by have := Ho.out; omega) (by unfold maxLen; omega)
        have ht := refTrim_any _ _ _ _ _ hOB.rn hD
        have hOB' := hOB.trim32 hD
        rw [hfin, Ho.out] at ht
        rw [hfin] at hOB'
        have Ht := Lib.hid ht
        clear hblk hLo ht hfin hOB hA hcr hcr0
        go_wp2_with fail
        refine Ht.out.mono ?_
        rintro e w1 ⟨rfl, rfl⟩
        go_wp2
        go_ret
        exact ⟨_, _, rfl, hOB', hB⟩
end Go.Proofs.Ytldhmjfjbalakaa
