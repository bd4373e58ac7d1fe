/- What limb.Mul computes. -/
import Derived.Test.YtldhmjfjbalakaaGreatSub
namespace Go.Proofs.YtldhmjfjbalakaaGreat
open Go.RowKit

theorem mul64_at (x y hi lo : Nat) (hx : x < 18446744073709551616) (hy : y < 18446744073709551616) (hl : lo < 18446744073709551616) (he : lo + 18446744073709551616 * hi = x * y) (w : World) :
    Calls Tryz.prog 134 #[.int .u64 (x : Int), .int .u64 (y : Int)] w fun e w' => e = .returned (.tuple #[.int .u64 (hi : Int), .int .u64 (lo : Int)]) ∧ w = w' :=
  (Tryz.bits_Mul64 x y hx hy w).mono fun e w' ⟨h1, h2⟩ => by
    rw [← he, show (lo + 18446744073709551616 * hi) / 18446744073709551616 = hi by omega, show (lo + 18446744073709551616 * hi) % 18446744073709551616 = lo by omega] at h1
    exact ⟨h1, h2.symm⟩
/-- One round of a product: x y + u + c in two limbs. -/
theorem mul_round (x y u c : Nat) (hx : x < 18446744073709551616) (hy : y < 18446744073709551616) (hu : u < 18446744073709551616) (hc : c < 18446744073709551616) :
    ∃ hi lo s1 c1 s2 c2 : Nat, lo < 18446744073709551616 ∧ lo + 18446744073709551616 * hi = x * y ∧ s1 < 18446744073709551616 ∧ s1 + 18446744073709551616 * c1 = lo + u + 0 ∧ s2 < 18446744073709551616 ∧ s2 + 18446744073709551616 * c2 = s1 + c + 0 ∧
      c1 ≤ 1 ∧ c2 ≤ 1 ∧ hi + c1 < 18446744073709551616 ∧ hi + c1 + c2 < 18446744073709551616 ∧ s2 + 18446744073709551616 * (hi + c1 + c2) = x * y + u + c := by
  have hb := mul_bound hx hy hu hc
  refine ⟨x * y / 18446744073709551616, x * y % 18446744073709551616, (x * y % 18446744073709551616 + u) % 18446744073709551616, (x * y % 18446744073709551616 + u) / 18446744073709551616,
    ((x * y % 18446744073709551616 + u) % 18446744073709551616 + c) % 18446744073709551616, ((x * y % 18446744073709551616 + u) % 18446744073709551616 + c) / 18446744073709551616, ?_⟩
  generalize x * y = p at *
  omega

set_option maxRecDepth 100000 in
set_option maxHeartbeats 2000000 in
theorem mul_any (P P' : Nat → Prop) (A A' : Option Addr) (c c' : Nat) (a b : List Nat) (w : World) (h : RN w P A c a) (h' : RN w P' A' c' b) (hP : ∀ b, P b → b < w.heap.size) (hP' : ∀ b, P' b → b < w.heap.size) (hl : a.length < 100000) (hl' : b.length < 100000) :
    Calls Tryz.prog 130 #[.slice A a.length c, .slice A' b.length c'] w fun e w' => ∃ A1 c1, e = .returned (.slice A1 (digs 18446744073709551616 (val 18446744073709551616 a * val 18446744073709551616 b)).length c1) ∧
      OB w' w.heap.size A1 c1 (digs 18446744073709551616 (val 18446744073709551616 a * val 18446744073709551616 b)) ∧ Below w.heap.size w w' := by
  have ta := Lib.hid (trim_any P A c a w h)
  have tb := Lib.hid (trim_any P' A' c' b w h')
  have la := digs_length_le (B := 18446744073709551616) (by omega) h.2.1
  have lb := digs_length_le (B := 18446744073709551616) (by omega) h'.2.1
  replace h := h.trim
  replace h' := h'.trim
  generalize val 18446744073709551616 a = x at *
  generalize val 18446744073709551616 b = y at *
  have hx := val_digs (B := 18446744073709551616) (by omega) x
  have hy := val_digs (B := 18446744073709551616) (by omega) y
  generalize digs 18446744073709551616 x = l at *
  generalize digs 18446744073709551616 y = m at *
  have la' : l.length < 100000 := by omega
  have lb' : m.length < 100000 := by omega
  clear la lb hl hl'
  have Hx := Lib.hid hx
  have Hy := Lib.hid hy
  clear hx hy
  obtain ⟨h1, h2, h3⟩ := h.cap
  obtain ⟨g1, g2, g3⟩ := h'.cap
  have hmk := run_make_row' (P := Tryz.prog) 91 90 (.int .u64 0) 8 Tryz.underlying91 info64 rfl .i64 .i64 (l.length + m.length) (by omega) (by omega)
  simp only [Int.natCast_add] at hmk
  go_enter Tryz.func130, Tryz.ntmps130
  go_wp2_with fail
  refine ta.out.mono ?_
  rintro e w1 ⟨rfl, rfl⟩
  go_wp2_with fail
  refine tb.out.mono ?_
  rintro e w1 ⟨rfl, rfl⟩
  go_wp2
  clear ta tb
  go_loopw [26] (fun iv wr => ∃ (i : Nat) (o : List Nat), iv = .int .i64 (i : Int) ∧ i ≤ l.length ∧ RowAt 18446744073709551616 l m o i ∧ Lim o ∧ Blk wr w.heap.size o ∧ Below w.heap.size w wr) (fun iv _ => l.length - (intOf iv).toNat)
  case atStart => exact ⟨0, List.replicate (l.length + m.length) 0, rfl, by omega, RowAt.zero _ _ _, ⟨by simp, by simp; omega⟩, Blk.made w _, (Below.refl _ w).alloc (Nat.le_refl _) _⟩
  case round =>
    obtain ⟨i, o0, rfl, hi, hR, hLo, hblk, hB⟩ := hrel
    obtain ⟨wo, rfl⟩ : ∃ wo, wo = wr := ⟨_, rfl⟩
    by_cases hlt : i < l.length
    · obtain ⟨ad, rfl, _, q1⟩ := (h.below hB hP).at_ hlt
      have hxi := h.2.dgLt i
      go_wp2
      go_loopw [8, 33] (fun cv jv wr => ∃ (j cr : Nat) (o : List Nat), jv = .int .i64 (j : Int) ∧ cv = .int .u64 (cr : Int) ∧ j ≤ m.length ∧ cr < 18446744073709551616 ∧ MulAt 18446744073709551616 o0 m (dg l i) i o j cr ∧ Lim o ∧ Blk wr w.heap.size o ∧ Below w.heap.size w wr) (fun _ jv _ => m.length - (intOf jv).toNat)
      case atStart => exact ⟨0, 0, o0, rfl, rfl, by omega, by omega, MulAt.zero _ _ _ _ _, hLo, hblk, hB⟩
      case round =>
        clear q1 hB hblk hLo
        obtain ⟨j, cr, o, rfl, rfl, hj, hcr, hM, hLo, hblk, hB⟩ := hrel
        have hol : o.length = l.length + m.length := hM.1.trans hR.1
        by_cases hjt : j < m.length
        · obtain ⟨ae, rfl, _, q2⟩ := (h'.below hB hP').at_ hjt
          have hok : i + j < o.length := by omega
          have q3 := hblk.cell hok
          have q4 := hblk.free (i + j)
          obtain ⟨hi', lo, s1, c1, s2, c2, b1, b2, b3, b4, b5, b6, b7, b8, b9, b10, he⟩ := mul_round (dg l i) (dg m j) (dg o (i + j)) cr hxi (h'.2.dgLt j) (hLo.dgLt _) hcr
          have hmul := Lib.hid (fun w => mul64_at (dg l i) (dg m j) hi' lo hxi (h'.2.dgLt j) b1 b2 w)
          have hadd1 := fun w => add64_at lo (dg o (i + j)) 0 s1 c1 (by omega) b3 b4 w
          have hadd2 := fun w => add64_at s1 cr 0 s2 c2 (by omega) b5 b6 w
          simp only [Int.cast_ofNat_Int] at hadd1 hadd2
          have hM' := hM.step hok he
          have hblk' := hblk.set (i + j) s2
          have hLo' := hLo.set (i + j) s2 b5
          have hB' := hB.setCell (p := ⟨w.heap.size, i + j, none⟩) (Nat.le_refl _) (.int .u64 (s2 : Int))
          have k1 : (i : Int) + (j : Int) < (l.length : Int) + (m.length : Int) := by omega
          clear he b2 b4 b6 hM hblk hLo hB hok hol
          go_wp2_with fail
          refine (hmul.out _).mono ?_
          rintro e w1 ⟨rfl, rfl⟩
          go_wp2
          go_roundw
          case rel => exact ⟨j + 1, hi' + c1 + c2, o.set (i + j) s2, by go_num, by go_num, by omega, b10, hM', hLo', hblk', hB'⟩
          case measure => simp [intOf]; omega
        · obtain rfl : j = m.length := by omega
          have hR' := hR.step hlt hM
          have q3 := hblk.cell (i := i + m.length) (by omega)
          have q4 := hblk.free (i + m.length)
          have hblk' := hblk.set (i + m.length) cr
          have hLo' := hLo.set (i + m.length) cr hcr
          have hB' := hB.setCell (p := ⟨w.heap.size, i + m.length, none⟩) (Nat.le_refl _) (.int .u64 (cr : Int))
          have k1 : (i : Int) + (m.length : Int) < (l.length : Int) + (m.length : Int) := by omega
          clear hM hblk hLo hB hol
          go_wp2
          go_roundw
          case rel => exact ⟨i + 1, o.set (i + m.length) cr, by go_num, by omega, hR', hLo', hblk', hB'⟩
          case measure => simp [intOf]; omega
    · obtain rfl : i = l.length := by omega
      have hfin := hR.fin
      rw [Hx.out, Hy.out] at hfin
      have hol := hR.1
      have hOB : OB wo w.heap.size (some ⟨w.heap.size, 0, none⟩) (l.length + m.length) o0 := OB.of_blk hblk (Nat.le_refl _) hLo (by omega) (by unfold maxLen; omega)
      have ht := trim_any _ _ _ _ _ hOB.rn
      have hOB' := hOB.trim
      rw [hfin, hol] at ht
      rw [hfin] at hOB'
      have Ht := Lib.hid ht
      clear hblk hLo ht hfin hOB hR hol
      go_wp2_with fail
      refine Ht.out.mono ?_
      rintro e w1 ⟨rfl, rfl⟩
      go_wp2
      go_ret
      exact ⟨_, _, rfl, hOB', hB⟩
end Go.Proofs.YtldhmjfjbalakaaGreat
