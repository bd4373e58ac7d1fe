/- What the reference's Sub and Mul compute. Plain arithmetic of bits.Div64: one step of a division of three halves by two; nothing of the program. What bits.Div64 computes. -/
import Derived.Test.YtldhmjfjbalakaaKAd
import Derived.Test.YtldhmjfjbalakaaKAb
import Derived.Lib.BitFns
import Derived.Lib.ItoaNum
import Derived.Deep.CutBlock
import Derived.IntWalk
import Derived.Laws.Bits64b
namespace Go.Proofs.Ytldhmjfjbalakaa
open Go.RowKit

set_option maxRecDepth 100000 in
set_option maxHeartbeats 2000000 in
theorem refSub_any (P P' : Nat → Prop) (A A' : Option Addr) (c c' : Nat) (x y : Nat) (w : World) (h : RN w P A c (digs 4294967296 x)) (h' : RN w P' A' c' (digs 4294967296 y)) (hP : ∀ b, P b → b < w.heap.size) (hP' : ∀ b, P' b → b < w.heap.size)
    (hl : (digs 4294967296 x).length < 100000) (hle : y ≤ x) :
    Calls Try.prog 40 #[.slice A (digs 4294967296 x).length c, .slice A' (digs 4294967296 y).length c'] w fun e w' => ∃ A1 c1, e = .returned (.slice A1 (digs 4294967296 (x - y)).length c1) ∧
      OB w' w.heap.size A1 c1 (digs 4294967296 (x - y)) ∧ Below w.heap.size w w' := by
  have hx := val_digs (B := 4294967296) (by omega) x
  have hy := val_digs (B := 4294967296) (by omega) y
  have hml := digs_length_mono (B := 4294967296) (by omega) hle
  have dx := Dig.digs x
  have dy := Dig.digs y
  generalize digs 4294967296 x = l at *
  generalize digs 4294967296 y = m at *
  have Hx := Lib.hid hx
  have Hy := Lib.hid hy
  clear hx hy
  obtain ⟨h1, h2, h3⟩ := h.cap
  obtain ⟨g1, g2, g3⟩ := h'.cap
  have hmk := run_make_row' (P := Try.prog) 29 72 (.int .u64 0) 8 Try.underlying29 info64 rfl .i64 .i64 l.length (by omega) (by omega)
  go_enter Try.func40, Try.ntmps40
  go_wp2
  go_loopw [6, 7] (fun cv iv wr => ∃ (k cr : Nat) (o : List Nat), iv = .int .i64 (k : Int) ∧ cv = .int .u64 (cr : Int) ∧ k ≤ l.length ∧ cr ≤ 1 ∧ SubAt 4294967296 l m o k cr ∧ Hid (o.length = l.length) ∧ Dig o ∧ Blk wr w.heap.size o ∧ Below w.heap.size w wr) (fun _ iv _ => l.length - (intOf iv).toNat)
  case atStart => exact ⟨0, 0, List.replicate l.length 0, rfl, rfl, by omega, by omega, SubAt.zero _ _ _ _, Lib.hid (by simp), by intro x hx; simp at hx; omega, Blk.made w _, (Below.refl _ w).alloc (Nat.le_refl _) _⟩
  case round =>
    obtain ⟨k, cr, o, rfl, rfl, hk, hcr, hA, Ho, hD, hblk, hB⟩ := hrel
    by_cases hlt : k < l.length
    · have hok : k < o.length := by have := Ho.out; omega
      have q3 := hblk.cell hok
      have q4 := hblk.free k
      have b1 := dx.dgLt k
      have b2 := dy.dgLt k
      obtain ⟨ad, rfl, had, q1⟩ := (h.below hB hP).at_ hlt
      by_cases hm2 : k < m.length
      · obtain ⟨ae, rfl, hae, q2⟩ := (h'.below hB hP').at_ hm2
        by_cases hb : dg l k < cr + dg m k
        · obtain ⟨s, hs, e1⟩ : ∃ s : Nat, s < 4294967296 ∧ (dg l k : Int) + 4294967296 - ((cr : Int) + (dg m k : Int)) = (s : Int) := ⟨dg l k + 4294967296 - (cr + dg m k), by omega, by omega⟩
          have hA' := hA.step (s := s) (c' := 1) hok (by omega)
          have hblk' := hblk.set k s
          have hD' := hD.set k s hs
          have hB' := hB.setCell (p := ⟨w.heap.size, k, none⟩) (Nat.le_refl _) (.int .u64 (s : Int))
          have Ho' : Hid ((o.set k s).length = l.length) := Lib.hid (by rw [List.length_set]; exact Ho.out)
          have t1 : (dg l k : Int) < (cr : Int) + (dg m k : Int) := by omega
          clear hA hblk hD hB hok hb
          go_wp2
          go_roundw
          case rel => exact ⟨k + 1, 1, o.set k s, by go_num, by go_num, by omega, by omega, hA', Ho', hD', hblk', hB'⟩
          case measure => simp [intOf]; omega
        · obtain ⟨s, hs, e1⟩ : ∃ s : Nat, s < 4294967296 ∧ (dg l k : Int) - ((cr : Int) + (dg m k : Int)) = (s : Int) := ⟨dg l k - (cr + dg m k), by omega, by omega⟩
          have hA' := hA.step (s := s) (c' := 0) hok (by omega)
          have hblk' := hblk.set k s
          have hD' := hD.set k s hs
          have hB' := hB.setCell (p := ⟨w.heap.size, k, none⟩) (Nat.le_refl _) (.int .u64 (s : Int))
          have Ho' : Hid ((o.set k s).length = l.length) := Lib.hid (by rw [List.length_set]; exact Ho.out)
          have t1 : ¬ (dg l k : Int) < (cr : Int) + (dg m k : Int) := by omega
          clear hA hblk hD hB hok hb
          go_wp2
          go_roundw
          case rel => exact ⟨k + 1, 0, o.set k s, by go_num, by go_num, by omega, by omega, hA', Ho', hD', hblk', hB'⟩
          case measure => simp [intOf]; omega
      · have e0 : dg m k = 0 := dg_none (by omega)
        by_cases hb : dg l k < cr
        · obtain ⟨s, hs, e1⟩ : ∃ s : Nat, s < 4294967296 ∧ (dg l k : Int) + 4294967296 - (cr : Int) = (s : Int) := ⟨dg l k + 4294967296 - cr, by omega, by omega⟩
          have hA' := hA.step (s := s) (c' := 1) hok (by omega)
          have hblk' := hblk.set k s
          have hD' := hD.set k s hs
          have hB' := hB.setCell (p := ⟨w.heap.size, k, none⟩) (Nat.le_refl _) (.int .u64 (s : Int))
          have Ho' : Hid ((o.set k s).length = l.length) := Lib.hid (by rw [List.length_set]; exact Ho.out)
          clear hA hblk hD hB hok e0
          go_wp2
          go_roundw
          case rel => exact ⟨k + 1, 1, o.set k s, by go_num, by go_num, by omega, by omega, hA', Ho', hD', hblk', hB'⟩
          case measure => simp [intOf]; omega
        · obtain ⟨s, hs, e1⟩ : ∃ s : Nat, s < 4294967296 ∧ (dg l k : Int) - (cr : Int) = (s : Int) := ⟨dg l k - cr, by omega, by omega⟩
          have hA' := hA.step (s := s) (c' := 0) hok (by omega)
          have hblk' := hblk.set k s
          have hD' := hD.set k s hs
          have hB' := hB.setCell (p := ⟨w.heap.size, k, none⟩) (Nat.le_refl _) (.int .u64 (s : Int))
          have Ho' : Hid ((o.set k s).length = l.length) := Lib.hid (by rw [List.length_set]; exact Ho.out)
          clear hA hblk hD hB hok e0
          go_wp2
          go_roundw
          case rel => exact ⟨k + 1, 0, o.set k s, by go_num, by go_num, by omega, by omega, hA', Ho', hD', hblk', hB'⟩
          case measure => simp [intOf]; omega
    · obtain rfl : k = l.length := by omega
      have hfin := hA.fin Ho.out hD rfl hml (by rw [Hx.out, Hy.out]; exact hle)
      rw [Hx.out, Hy.out] at hfin
      have hLo : Lim o := ⟨fun z hz => by have := hD z hz; omega, by rw [Ho.out]; omega⟩
      have hOB : OB wr w.heap.size (some ⟨w.heap.size, 0, none⟩) l.length o := OB.of_blk hblk (Nat.le_refl _) hLo (by have := Ho.out; omega) (by unfold maxLen; omega)
      have ht := refTrim_any _ _ _ _ _ hOB.rn hD
      have hOB' := hOB.trim32 hD
      rw [hfin, Ho.out] at ht
      rw [hfin] at hOB'
      have Ht := Lib.hid ht
      clear hblk hLo ht hfin hOB hA
      go_wp2_with fail
      refine Ht.out.mono ?_
      rintro e w1 ⟨rfl, rfl⟩
      go_wp2
      go_ret
      exact ⟨_, _, rfl, hOB', hB⟩

set_option maxRecDepth 100000 in
set_option maxHeartbeats 2000000 in
theorem refMul_any (P P' : Nat → Prop) (A A' : Option Addr) (c c' : Nat) (x y : Nat) (w : World) (h : RN w P A c (digs 4294967296 x)) (h' : RN w P' A' c' (digs 4294967296 y)) (hP : ∀ b, P b → b < w.heap.size) (hP' : ∀ b, P' b → b < w.heap.size)
    (hl : (digs 4294967296 x).length < 100000) (hl' : (digs 4294967296 y).length < 100000) :
    Calls Try.prog 87 #[.slice A (digs 4294967296 x).length c, .slice A' (digs 4294967296 y).length c'] w fun e w' => ∃ A1 c1, e = .returned (.slice A1 (digs 4294967296 (x * y)).length c1) ∧
      OB w' w.heap.size A1 c1 (digs 4294967296 (x * y)) ∧ Below w.heap.size w w' := by
  have hx := val_digs (B := 4294967296) (by omega) x
  have hy := val_digs (B := 4294967296) (by omega) y
  have dx := Dig.digs x
  have dy := Dig.digs y
  generalize digs 4294967296 x = l at *
  generalize digs 4294967296 y = m at *
  have Hx := Lib.hid hx
  have Hy := Lib.hid hy
  clear hx hy
  obtain ⟨h1, h2, h3⟩ := h.cap
  obtain ⟨g1, g2, g3⟩ := h'.cap
  have hmk := run_make_row' (P := Try.prog) 29 72 (.int .u64 0) 8 Try.underlying29 info64 rfl .i64 .i64 (l.length + m.length) (by omega) (by omega)
  simp only [Int.natCast_add] at hmk
  go_enter Try.func87, Try.ntmps87
  go_wp2
  go_loopw [6] (fun iv wr => ∃ (i : Nat) (o : List Nat), iv = .int .i64 (i : Int) ∧ i ≤ l.length ∧ RowAt 4294967296 l m o i ∧ Dig o ∧ Blk wr w.heap.size o ∧ Below w.heap.size w wr) (fun iv _ => l.length - (intOf iv).toNat)
  case atStart => exact ⟨0, List.replicate (l.length + m.length) 0, rfl, by omega, RowAt.zero _ _ _, by intro x hx; simp at hx; omega, Blk.made w _, (Below.refl _ w).alloc (Nat.le_refl _) _⟩
  case round =>
    obtain ⟨i, o0, rfl, hi, hR, hD, hblk, hB⟩ := hrel
    obtain ⟨wo, rfl⟩ : ∃ wo, wo = wr := ⟨_, rfl⟩
    by_cases hlt : i < l.length
    · obtain ⟨ad, rfl, had, q1⟩ := (h.below hB hP).at_ hlt
      have hxi := dx.dgLt i
      go_wp2
      go_loopw [7, 9] (fun cv jv wr => ∃ (j cr : Nat) (o : List Nat), jv = .int .i64 (j : Int) ∧ cv = .int .u64 (cr : Int) ∧ j ≤ m.length ∧ cr < 4294967296 ∧ MulAt 4294967296 o0 m (dg l i) i o j cr ∧ Dig o ∧ Blk wr w.heap.size o ∧ Below w.heap.size w wr) (fun _ jv _ => m.length - (intOf jv).toNat)
      case atStart => exact ⟨0, 0, o0, rfl, rfl, by omega, by omega, MulAt.zero _ _ _ _ _, hD, hblk, hB⟩
      case round =>
        clear q1 hB hblk hD
        obtain ⟨j, cr, o, rfl, rfl, hj, hcr, hM, hD, hblk, hB⟩ := hrel
        have hol : o.length = l.length + m.length := hM.1.trans hR.1
        by_cases hjt : j < m.length
        · obtain ⟨ae, rfl, hae, q2⟩ := (h'.below hB hP').at_ hjt
          have hok : i + j < o.length := by omega
          have q3 := hblk.cell hok
          have q4 := hblk.free (i + j)
          have b2 := dy.dgLt j
          have b3 := hD.dgLt (i + j)
          have hb := mul_bound hxi b2 b3 hcr
          obtain ⟨pr, hpr⟩ : ∃ pr, dg l i * dg m j = pr := ⟨_, rfl⟩
          have Hpr := Lib.hid (show (dg l i : Int) * (dg m j : Int) = (pr : Int) by rw [← hpr, Int.natCast_mul])
          rw [hpr] at hb
          obtain ⟨s, cr', hs, hcr', he⟩ : ∃ s c' : Nat, s < 4294967296 ∧ c' < 4294967296 ∧ s + 4294967296 * c' = pr + dg o (i + j) + cr :=
            ⟨(pr + dg o (i + j) + cr) % 4294967296, (pr + dg o (i + j) + cr) / 4294967296, by omega, by omega, by omega⟩
          have e1 : ((cr : Int) + ((dg o (i + j) : Int) + (pr : Int))) % 4294967296 = (s : Int) := by omega
          have e2 : ((cr : Int) + ((dg o (i + j) : Int) + (pr : Int))) / 4294967296 = (cr' : Int) := by omega
          have hM' := hM.step hok (by rw [hpr]; exact he)
          have hblk' := hblk.set (i + j) s
          have hD' := hD.set (i + j) s hs
          have hB' := hB.setCell (p := ⟨w.heap.size, i + j, none⟩) (Nat.le_refl _) (.int .u64 (s : Int))
          have k1 : (i : Int) + (j : Int) < (l.length : Int) + (m.length : Int) := by omega
          have k3 : (pr : Int) < 18446744073709551616 := by omega
          have k4 : (cr : Int) + ((dg o (i + j) : Int) + (pr : Int)) < 18446744073709551616 := by omega
          clear he hM hblk hD hB hok hol hb hpr
          have hpr := Hpr.out
          go_wp2
          go_quiet (fail)
          go_wp2
          go_roundw
          case rel => exact ⟨j + 1, cr', o.set (i + j) s, by go_num, (by first | rfl | exact congrArg (Value.int .u64) e2), by omega, hcr', hM', hD', hblk', below_drewN hB' _⟩
          case measure => simp [intOf]; omega
        · obtain rfl : j = m.length := by omega
          have hR' := hR.step hlt hM
          have q3 := hblk.cell (i := i + m.length) (by omega)
          have q4 := hblk.free (i + m.length)
          have hblk' := hblk.set (i + m.length) cr
          have hD' := hD.set (i + m.length) cr hcr
          have hB' := hB.setCell (p := ⟨w.heap.size, i + m.length, none⟩) (Nat.le_refl _) (.int .u64 (cr : Int))
          have k1 : (i : Int) + (m.length : Int) < (l.length : Int) + (m.length : Int) := by omega
          clear hM hblk hD hB hol
          go_wp2
          go_roundw
          case rel => exact ⟨i + 1, o.set (i + m.length) cr, by go_num, by omega, hR', hD', hblk', hB'⟩
          case measure => simp [intOf]; omega
    · obtain rfl : i = l.length := by omega
      have hfin := hR.fin
      rw [Hx.out, Hy.out] at hfin
      have hol := hR.1
      have hLo : Lim o0 := ⟨fun z hz => by have := hD z hz; omega, by omega⟩
      have hOB : OB wo w.heap.size (some ⟨w.heap.size, 0, none⟩) (l.length + m.length) o0 := OB.of_blk hblk (Nat.le_refl _) hLo (by omega) (by unfold maxLen; omega)
      have ht := refTrim_any _ _ _ _ _ hOB.rn hD
      have hOB' := hOB.trim32 hD
      rw [hfin, hol] at ht
      rw [hfin] at hOB'
      have Ht := Lib.hid ht
      clear hblk hLo ht hfin hOB hR hol
      go_wp2_with fail
      refine Ht.out.mono ?_
      rintro e w1 ⟨rfl, rfl⟩
      go_wp2
      go_ret
      exact ⟨_, _, rfl, hOB', hB⟩
end Go.Proofs.Ytldhmjfjbalakaa

namespace Go.Proofs.Ytldhmjfjbalakaa

/-- The guess q with its rest r, so far: u b + u1 is divided by D = y1 b + y0. -/
def GuessAt (b u u1 y1 y0 q r : Nat) : Prop := q * y1 + r = u ∧ (u * b + u1) / (y1 * b + y0) ≤ q ∧ q ≤ b + 1
structure GuessOk (b u u1 y1 y0 : Nat) : Prop where
  hb : 2 ≤ b
  hy : b ≤ 2 * y1
  hy1 : y1 < b
  hy0 : y0 < b
  hu1 : u1 < b
  hu : u < y1 * b + y0
section
variable {b u u1 y1 y0 q r : Nat}
theorem GuessOk.start (h : GuessOk b u u1 y1 y0) : GuessAt b u u1 y1 y0 (u / y1) (u - u / y1 * y1) ∧ u - u / y1 * y1 < b ∧ u / y1 * y1 ≤ u := by
  obtain ⟨hb, hy, hy1, hy0, hu1, hu⟩ := h
  have h1 : u / y1 * y1 ≤ u := Nat.div_mul_le_self u y1
  have h2 : u < u / y1 * y1 + y1 := Nat.lt_div_mul_add (by omega)
  generalize hG : u / y1 = G at *
  have h3 : G ≤ b + 1 := by
    rcases Nat.lt_or_ge (b + 1) G with h | h
    · have h6 : (b + 2) * y1 ≤ G * y1 := Nat.mul_le_mul_right _ h
      rw [Nat.add_mul, Nat.mul_comm b] at h6
      omega
    · exact h
  have h4 : (u * b + u1) / (y1 * b + y0) ≤ G := by
    apply Nat.le_of_lt_succ
    apply Nat.div_lt_of_lt_mul
    have h5 : (y1 * b + y0) * (G + 1) = (G * y1 + y1) * b + y0 * (G + 1) := by
      rw [Nat.mul_add, Nat.add_mul, Nat.mul_one, Nat.mul_add, Nat.mul_one, Nat.add_mul, Nat.mul_right_comm, Nat.mul_comm y1 G]
      omega
    have h7 : (u + 1) * b ≤ (G * y1 + y1) * b := Nat.mul_le_mul_right _ h2
    rw [Nat.add_mul, Nat.one_mul] at h7
    show _ < _ * (G + 1)
    rw [h5]
    omega
  unfold GuessAt
  generalize G * y1 = p at *
  exact ⟨⟨by omega, h4, h3⟩, by omega, h1⟩
/-- The quotient is below b. -/
theorem GuessOk.quo_lt (h : GuessOk b u u1 y1 y0) : (u * b + u1) / (y1 * b + y0) < b := by
  obtain ⟨hb, hy, hy1, hy0, hu1, hu⟩ := h
  apply Nat.div_lt_of_lt_mul
  have h1 : (u + 1) * b ≤ (y1 * b + y0) * b := Nat.mul_le_mul_right _ hu
  rw [Nat.add_mul, Nat.one_mul] at h1
  omega
theorem GuessAt.le (h : GuessOk b u u1 y1 y0) (hg : GuessAt b u u1 y1 y0 q r) (hd : q * y0 ≤ b * r + u1) : q = (u * b + u1) / (y1 * b + y0) := by
  obtain ⟨h1, h2, h3⟩ := hg
  have hD : 0 < y1 * b + y0 := by have := Nat.mul_pos (show 0 < y1 by have := h.hy; have := h.hb; omega) (show 0 < b by have := h.hb; omega); omega
  refine Nat.le_antisymm ((Nat.le_div_iff_mul_le hD).2 ?_) h2
  have e : q * (y1 * b + y0) = q * y1 * b + q * y0 := by rw [Nat.mul_add, Nat.mul_assoc]
  have e2 : u * b = q * y1 * b + b * r := by rw [← h1, Nat.add_mul, Nat.mul_comm r]
  omega
theorem GuessAt.gt (h : GuessOk b u u1 y1 y0) (hg : GuessAt b u u1 y1 y0 q r) (hd : b ≤ q ∨ b * r + u1 < q * y0) : (u * b + u1) / (y1 * b + y0) < q := by
  obtain ⟨h1, h2, h3⟩ := hg
  rcases hd with hd | hd
  · have := h.quo_lt; omega
  · apply Nat.div_lt_of_lt_mul
    have e : (y1 * b + y0) * q = q * y1 * b + q * y0 := by rw [Nat.mul_comm, Nat.mul_add, Nat.mul_assoc]
    have e2 : u * b = q * y1 * b + b * r := by rw [← h1, Nat.add_mul, Nat.mul_comm r]
    omega
theorem GuessAt.step (h : GuessOk b u u1 y1 y0) (hg : GuessAt b u u1 y1 y0 q r) (hd : b ≤ q ∨ b * r + u1 < q * y0) : GuessAt b u u1 y1 y0 (q - 1) (r + y1) ∧ 1 ≤ q := by
  have h4 := hg.gt h hd
  obtain ⟨h1, h2, h3⟩ := hg
  obtain ⟨n, rfl⟩ : ∃ n, q = n + 1 := ⟨q - 1, by have := Nat.zero_le ((u * b + u1) / (y1 * b + y0)); omega⟩
  refine ⟨⟨?_, by rw [Nat.add_sub_cancel]; exact Nat.le_of_lt_succ h4, by omega⟩, by omega⟩
  rw [Nat.add_mul] at h1
  rw [Nat.add_sub_cancel]
  omega
/-- Left with a rest of b or more: the guess is right. -/
theorem GuessAt.out (h : GuessOk b u u1 y1 y0) (hg : GuessAt b u u1 y1 y0 q r) (hq : q ≤ b) (hr : b ≤ r) : q = (u * b + u1) / (y1 * b + y0) := by
  refine hg.le h ?_
  have h1 : q * y0 ≤ b * b := Nat.mul_le_mul hq (by have := h.hy0; omega)
  have h2 : b * b ≤ b * r := Nat.mul_le_mul_left _ hr
  omega
theorem GuessAt.mul_le (hg : GuessAt b u u1 y1 y0 q r) (hy0 : y0 < b) : q * y0 < b * b := by
  obtain ⟨_, _, h3⟩ := hg
  obtain ⟨n, rfl⟩ : ∃ n, b = n + 1 := ⟨b - 1, by omega⟩
  have h1 : q * y0 ≤ (n + 2) * n := Nat.mul_le_mul (by omega) (by omega)
  have h2 : (n + 2) * n = n * n + 2 * n := by rw [Nat.add_mul]
  have h3 : (n + 1) * (n + 1) = n * n + 2 * n + 1 := by simp only [Nat.add_mul, Nat.mul_add]; omega
  omega
end
/-- The rest of one step is below the divisor. -/
theorem rest_of {N D : Nat} (hD : 0 < D) : N / D * D ≤ N ∧ N - N / D * D < D := by
  have h1 := Nat.div_mul_le_self N D
  have h2 := Nat.lt_div_mul_add (a := N) hD
  omega
/-- Two steps make the whole division. -/
theorem two_steps {b N D u1 u0 : Nat} (hD : 0 < D) (r q0 : Nat) (hr : r = N * b + u1 - (N * b + u1) / D * D) (hq : q0 = (r * b + u0) / D) :
    (N * b + u1) / D * b + q0 = ((N * b + u1) * b + u0) / D ∧ r * b + u0 - q0 * D = ((N * b + u1) * b + u0) % D := by
  have h1 := rest_of (N := N * b + u1) hD
  generalize N * b + u1 = M at *
  have e : M = M / D * D + r := by omega
  have e2 : M * b + u0 = (M / D * b) * D + (r * b + u0) := by
    have : M * b = (M / D * D + r) * b := by rw [← e]
    rw [this, Nat.add_mul, Nat.mul_right_comm, Nat.add_assoc]
  have hd : (M * b + u0) / D = M / D * b + (r * b + u0) / D := by
    rw [e2, Nat.add_comm, Nat.add_mul_div_right _ _ hD, Nat.add_comm]
  have hm : (M * b + u0) % D = (r * b + u0) % D := by
    rw [e2, Nat.add_comm, Nat.add_mul_mod_self_right]
  rw [hd, hm, hq]
  refine ⟨rfl, ?_⟩
  have h5 := Nat.div_add_mod (r * b + u0) D
  have h6 : (r * b + u0) / D * D = D * ((r * b + u0) / D) := Nat.mul_comm _ _
  omega
theorem le_of_log {y k : Nat} (hy : y ≠ 0) (h : Lib.bitLen y = k) (hlt : y < 18446744073709551616) : 1 ≤ k ∧ k ≤ 64 ∧ 2 ^ (k - 1) ≤ y ∧ y < 2 ^ k := by
  have h1 := Lib.bitLenAux_bounds 64 y hlt hy
  have h2 := Lib.bitLen_le y 64 (Nat.le_refl _) hlt
  subst h
  exact ⟨h1.1, h2, h1.2⟩
/-- How far the divisor moves up: its highest bit is set then. -/
theorem shift_of {y : Nat} (hy : y ≠ 0) (hlt : y < 18446744073709551616) : ∃ s, s < 64 ∧ Lib.bitLen y = 64 - s ∧ 9223372036854775808 ≤ y * 2 ^ s ∧ y * 2 ^ s < 18446744073709551616 := by
  obtain ⟨h1, h2, h3, h4⟩ := le_of_log hy rfl hlt
  refine ⟨64 - Lib.bitLen y, by omega, by omega, ?_, ?_⟩
  · have : 2 ^ (Lib.bitLen y - 1) * 2 ^ (64 - Lib.bitLen y) ≤ y * 2 ^ (64 - Lib.bitLen y) := Nat.mul_le_mul_right _ h3
    rw [← Nat.pow_add, show Lib.bitLen y - 1 + (64 - Lib.bitLen y) = 63 by omega] at this
    simpa using this
  · have : y * 2 ^ (64 - Lib.bitLen y) < 2 ^ Lib.bitLen y * 2 ^ (64 - Lib.bitLen y) := Nat.mul_lt_mul_of_pos_right h4 (Nat.pow_pos (by omega))
    rw [← Nat.pow_add, show Lib.bitLen y + (64 - Lib.bitLen y) = 64 by omega] at this
    simpa using this
/-- The dividend moved up, in two limbs. -/
theorem moved {hi lo y s : Nat} (hs : s < 64) (hlo : lo < 18446744073709551616) (h : hi < y) (hy : y * 2 ^ s < 18446744073709551616) :
    hi * 2 ^ s + lo / 2 ^ (64 - s) < y * 2 ^ s ∧ lo / 2 ^ (64 - s) < 2 ^ s ∧ (hi * 2 ^ s + lo / 2 ^ (64 - s)) * 18446744073709551616 + lo * 2 ^ s % 18446744073709551616 = (hi * 18446744073709551616 + lo) * 2 ^ s ∧ hi * 2 ^ s < 18446744073709551616 := by
  have e64 : (18446744073709551616 : Nat) = 2 ^ s * 2 ^ (64 - s) := by rw [← Nat.pow_add, show s + (64 - s) = 64 by omega]
  have h1 : lo / 2 ^ (64 - s) < 2 ^ s := by
    apply Nat.div_lt_of_lt_mul
    rw [Nat.mul_comm, ← e64]; exact hlo
  have h2 : (hi + 1) * 2 ^ s ≤ y * 2 ^ s := Nat.mul_le_mul_right _ h
  rw [Nat.add_mul, Nat.one_mul] at h2
  refine ⟨by omega, h1, ?_, by have := Nat.pow_pos (n := s) (show 0 < 2 by omega); omega⟩
  have h3 : lo * 2 ^ s / 18446744073709551616 = lo / 2 ^ (64 - s) := by
    rw [e64, Nat.mul_comm lo, Nat.mul_div_mul_left _ _ (Nat.pow_pos (by omega))]
  have h4 := Nat.div_add_mod (lo * 2 ^ s) 18446744073709551616
  rw [h3] at h4
  rw [Nat.add_mul, Nat.add_mul, Nat.mul_right_comm hi]
  omega
end Go.Proofs.Ytldhmjfjbalakaa

namespace Go.Proofs.Ytldhmjfjbalakaa
open Go.RowKit

theorem or_shift (i a b : Nat) (h : b < 2 ^ i) : a * 2 ^ i ||| b = a * 2 ^ i + b := by
  rw [Nat.mul_comm, Nat.two_pow_add_eq_or_of_lt h]
theorem mask32 (x : Nat) : x &&& 4294967295 = x % 4294967296 := by
  have h := Nat.and_two_pow_sub_one_eq_mod x 32
  rwa [show 2 ^ 32 - 1 = 4294967295 by decide, show 2 ^ 32 = 4294967296 by decide] at h
theorem and_mask32 (x : Nat) (hx : x < 18446744073709551616) : bits .and .u64 (x : Int) 4294967295 = ((x % 4294967296 : Nat) : Int) := by
  have h := bits_and_u64_nat x 4294967295 hx (by omega)
  rw [mask32] at h
  exact h
theorem halves (x : Nat) (hx : x < 18446744073709551616) : ∃ a b : Nat, a < 4294967296 ∧ b < 4294967296 ∧ a * 4294967296 + b = x ∧ (x : Int) / 4294967296 = (a : Int) ∧ bits .and .u64 (x : Int) 4294967295 = (b : Int) := by
  have h := Nat.div_add_mod x 4294967296
  have h2 := Nat.mod_lt x (show 0 < 4294967296 by omega)
  have h3 := and_mask32 x hx
  have h4 : (x : Int) / 4294967296 = ((x / 4294967296 : Nat) : Int) := by omega
  generalize x / 4294967296 = a at *
  generalize x % 4294967296 = b at *
  exact ⟨a, b, by omega, h2, by omega, h4, h3⟩
theorem join4 (a b c d : Nat) (h : b * 4294967296 + c = d) : (a * 4294967296 + b) * 4294967296 + c = a * 18446744073709551616 + d := by
  rw [← h, Nat.add_mul, Nat.mul_assoc, Nat.add_assoc]
/-- A difference of two numbers that were each cut to 64 bits. -/
theorem wrap_diff (a b r k l : Nat) (h : b + r = a) (hr : r < 18446744073709551616) : IntKind.u64.wrap (((a - 18446744073709551616 * k : Int)) - ((b : Int) - 18446744073709551616 * l)) = (r : Int) := by
  simp [IntKind.wrap, IntKind.bits, IntKind.signed]
  omega
theorem ret_uu {a b c d : Int} (h : a = b) (h' : c = d) : Ending.returned (.tuple #[.int .u64 a, .int .u64 c]) = .returned (.tuple #[.int .u64 b, .int .u64 d]) := by rw [h, h']

set_option maxHeartbeats 400000 in
theorem div64_zero (lo y : Nat) (w : World) (hlo : lo < 18446744073709551616) (hy : 0 < y) (hy' : y < 18446744073709551616) :
    Calls Try.prog 103 #[.int .u64 0, .int .u64 (lo : Int), .int .u64 (y : Int)] w fun e w' => e = .returned (.tuple #[.int .u64 ((lo / y : Nat) : Int), .int .u64 ((lo % y : Nat) : Int)]) ∧ ∃ n, w' = w.drewN n := by
  have h0 : ((y : Int) == 0) = false := eqB (by omega)
  have h1 : (0 : Int) < (y : Int) := by omega
  have hq : IntKind.u64.wrap ((lo : Int) / (y : Int)) = ((lo / y : Nat) : Int) := by
    have h : lo / y ≤ lo := Nat.div_le_self lo y
    rw [← Int.natCast_ediv]
    generalize lo / y = z at *
    exact IntWalk.u64_in _ (by omega)
  go_enter Try.func103, Try.ntmps103
  go_wp2
  go_quiet (fail)
  go_wp2
  go_ret2
  exact ⟨ret_uu (by simp) (by simp), _, rfl⟩

set_option maxRecDepth 100000 in
set_option maxHeartbeats 4000000 in
theorem div64_pos (hi lo y : Nat) (w : World) (hlo : lo < 18446744073709551616) (h0 : 0 < hi) (hhi : hi < y) (hy' : y < 18446744073709551616) :
    Calls Try.prog 103 #[.int .u64 (hi : Int), .int .u64 (lo : Int), .int .u64 (y : Int)] w fun e w' => e = .returned (.tuple #[.int .u64 (((hi * 18446744073709551616 + lo) / y : Nat) : Int), .int .u64 (((hi * 18446744073709551616 + lo) % y : Nat) : Int)]) ∧ ∃ n, w' = w.drewN n := by
  have n0 : ((y : Int) == 0) = false := eqB (by omega)
  have n1 : ((hi : Int) == 0) = false := eqB (by omega)
  have n2 : ¬ (y : Int) ≤ (hi : Int) := by omega
  obtain ⟨s, hs, hbl, hY1, hY2⟩ := shift_of (y := y) (by omega) hy'
  have hlz := (Try.bits_LeadingZeros64 (y : Int) w (by omega) (by omega))
  rw [Int.toNat_natCast, hbl, show (64 - ((64 - s : Nat) : Int)) = (s : Int) by omega] at hlz
  have Hlz := Lib.hid hlz
  clear hlz hbl
  obtain ⟨m1, m2, m3, m4⟩ := moved hs hlo hhi hY2
  obtain ⟨H, hH⟩ : ∃ H, hi * 2 ^ s = H := ⟨_, rfl⟩
  obtain ⟨L1, hL1⟩ : ∃ L1, lo / 2 ^ (64 - s) = L1 := ⟨_, rfl⟩
  obtain ⟨Y, hY⟩ : ∃ Y, y * 2 ^ s = Y := ⟨_, rfl⟩
  obtain ⟨L, hL⟩ : ∃ L, lo * 2 ^ s % 18446744073709551616 = L := ⟨_, rfl⟩
  have hor : H ||| L1 = H + L1 := by rw [← hH]; exact or_shift s hi L1 (by rw [← hL1]; exact m2)
  have f1 : IntKind.u64.wrap ((y : Int) * 2 ^ s) = (Y : Int) := by
    rw [show ((y : Int) * 2 ^ s) = (Y : Int) by rw [← hY]; simp]
    exact IntWalk.u64_in _ (by omega)
  have f4 : IntKind.u64.wrap ((hi : Int) * 2 ^ s) = (H : Int) := by
    rw [show ((hi : Int) * 2 ^ s) = (H : Int) by rw [← hH]; simp]
    exact IntWalk.u64_in _ (by omega)
  have f5 : (lo : Int) / 2 ^ (64 - s) = (L1 : Int) := by rw [← hL1]; simp
  have f7 : IntKind.u64.wrap ((lo : Int) * 2 ^ s) = (L : Int) := by
    rw [← hL]
    simp [IntKind.wrap, IntKind.bits, IntKind.signed]
  have k1 : (s : Int) < 64 := by omega
  rw [hH] at m1 m3 m4
  rw [hL1] at m1 m2 m3
  rw [hY] at m1 hY1 hY2
  rw [hL] at m3
  have hLlt : L < 18446744073709551616 := by rw [← hL]; exact Nat.mod_lt _ (by omega)
  obtain ⟨U, hU⟩ : ∃ U, H + L1 = U := ⟨_, rfl⟩
  rw [hU] at m1 m3 hor
  have f6 : bits .or .u64 (H : Int) (L1 : Int) = (U : Int) := by
    rw [bits_or_u64_nat H L1 (by omega) (by omega), hor]
  obtain ⟨y1, y0, hy1, hy0, hyy, f2, f3⟩ : ∃ y1 y0 : Nat, y1 < 4294967296 ∧ y0 < 4294967296 ∧ y1 * 4294967296 + y0 = Y ∧ (Y : Int) / 4294967296 = (y1 : Int) ∧ bits .and .u64 (Y : Int) 4294967295 = (y0 : Int)  := halves Y hY2
  obtain ⟨u1, u0, hu1, hu0, huu, f8, f9⟩ : ∃ u1 u0 : Nat, u1 < 4294967296 ∧ u0 < 4294967296 ∧ u1 * 4294967296 + u0 = L ∧ (L : Int) / 4294967296 = (u1 : Int) ∧ bits .and .u64 (L : Int) 4294967295 = (u0 : Int)  := halves L hLlt
  have G : GuessOk 4294967296 U u1 y1 y0 := ⟨by omega, by omega, hy1, hy0, hu1, by omega⟩
  obtain ⟨hg, hr, hp⟩ := G.start
  obtain ⟨q, hq⟩ : ∃ q, U / y1 = q := ⟨_, rfl⟩
  rw [hq] at hg hr hp
  obtain ⟨p, hp'⟩ : ∃ p, q * y1 = p := ⟨_, rfl⟩
  rw [hp'] at hg hr hp
  obtain ⟨r, hr'⟩ : ∃ r, U - p = r := ⟨_, rfl⟩
  rw [hr'] at hg hr
  have hqU : q ≤ U := by rw [← hq]; exact Nat.div_le_self U y1
  have f10 : IntKind.u64.wrap ((U : Int) / (y1 : Int)) = (q : Int) := by rw [← Int.natCast_ediv, hq]; exact IntWalk.u64_in _ (by omega)
  have f10' : IntKind.u64.wrap ((U : Int).tdiv (y1 : Int)) = (q : Int) := by rw [Int.tdiv_eq_ediv_of_nonneg (by omega)]; exact f10
  have f11 : IntKind.u64.wrap ((q : Int) * (y1 : Int)) = (p : Int) := by rw [← Int.natCast_mul, hp']; exact IntWalk.u64_in _ (by omega)
  have f12 : (U : Int) - (p : Int) = (r : Int) := by omega
  have n3 : ((y1 : Int) == 0) = false := eqB (by omega)
  have n4 : ¬ y1 = 0 := by omega
  have HY := Lib.hid hY
  clear hH hL1 hY hL hor hU hq hp' hr' hp
  go_enter Try.func103, Try.ntmps103
  go_wp2_with fail
  refine Hlz.out.mono ?_
  rintro e w1 ⟨rfl, rfl⟩
  go_upto_block 0 with fail
  go_cut [15, 16] (fun s15 s16 wx => ∃ Q r' : Nat, s15 = .int .u64 (Q : Int) ∧ s16 = .int .u64 (r' : Int) ∧ Hid (Q = (U * 4294967296 + u1) / (y1 * 4294967296 + y0)) ∧ w1 = wx)
  case first =>
    go_wp2_with fail
    go_loop [15, 16] (fun qv rv => ∃ q r : Nat, qv = .int .u64 (q : Int) ∧ rv = .int .u64 (r : Int) ∧ GuessAt 4294967296 U u1 y1 y0 q r ∧ r < 4294967296) (fun qv _ => (intOf qv).toNat)
    case atStart => exact ⟨q, r, rfl, rfl, hg, hr⟩
    case round =>
      clear hg hr
      obtain ⟨q, r, rfl, rfl, hg, hr⟩ := hrel
      have hml := hg.mul_le hy0
      obtain ⟨z, hz⟩ : ∃ z, q * y0 = z := ⟨_, rfl⟩
      rw [hz] at hml
      have hqb := hg.2.2
      by_cases h1 : 4294967296 ≤ q ∨ 4294967296 * r + u1 < q * y0
      · obtain ⟨hg', hq1⟩ := hg.step G h1
        obtain ⟨n, rfl⟩ : ∃ n, q = n + 1 := ⟨q - 1, by omega⟩
        rw [Nat.add_sub_cancel] at hg'
        have g1 : IntKind.u64.wrap (((n : Int) + 1) * (y0 : Int)) = (z : Int) := by
          rw [show ((n : Int) + 1) * (y0 : Int) = (z : Int) by rw [← hz]; simp]
          exact IntWalk.u64_in _ (by omega)
        rw [hz] at h1
        have hout := fun h => hg'.out G (by omega) h
        have Hout := Lib.hid hout
        clear hout hg hz hml
        by_cases h3 : 4294967296 ≤ r + y1
        · have hQ := Lib.hid (Hout.out h3)
          by_cases h4 : 4294967296 ≤ n + 1
          · have i4 : (4294967296 : Int) ≤ (n : Int) + 1 := by omega
            have i3 : (4294967296 : Int) ≤ (r : Int) + (y1 : Int) := by omega
            clear h1 h3 h4
            go_wp2
            go_meet
            case rel => exact ⟨n, _, by go_num, rfl, hQ, rfl⟩
          · have i5 : (4294967296 : Int) * (r : Int) + (u1 : Int) < (z : Int) := by omega
            have i4 : ¬ (4294967296 : Int) ≤ (n : Int) + 1 := by omega
            have i3 : (4294967296 : Int) ≤ (r : Int) + (y1 : Int) := by omega
            clear h1 h3 h4
            go_wp2
            go_meet
            case rel => exact ⟨n, _, by go_num, rfl, hQ, rfl⟩
        · by_cases h4 : 4294967296 ≤ n + 1
          · have i4 : (4294967296 : Int) ≤ (n : Int) + 1 := by omega
            have i3 : ¬ (4294967296 : Int) ≤ (r : Int) + (y1 : Int) := by omega
            have H3 := Lib.hid h3
            clear h1 h3 h4
            go_wp2
            go_round
            case rel => exact ⟨n, r + y1, by go_num, by go_num, hg', by have := H3.out; omega⟩
            case measure => simp [intOf]
          · have i5 : (4294967296 : Int) * (r : Int) + (u1 : Int) < (z : Int) := by omega
            have i4 : ¬ (4294967296 : Int) ≤ (n : Int) + 1 := by omega
            have i3 : ¬ (4294967296 : Int) ≤ (r : Int) + (y1 : Int) := by omega
            have H3 := Lib.hid h3
            clear h1 h3 h4
            go_wp2
            go_round
            case rel => exact ⟨n, r + y1, by go_num, by go_num, hg', by have := H3.out; omega⟩
            case measure => simp [intOf]
      · have hQ := Lib.hid (hg.le G (by omega))
        have g1 : IntKind.u64.wrap ((q : Int) * (y0 : Int)) = (z : Int) := by
          rw [show (q : Int) * (y0 : Int) = (z : Int) by rw [← hz]; simp]
          exact IntWalk.u64_in _ (by omega)
        have i4 : ¬ (4294967296 : Int) ≤ (q : Int) := by omega
        have i5 : ¬ (4294967296 : Int) * (r : Int) + (u1 : Int) < (z : Int) := by omega
        clear h1 hg hz hml
        go_wp2
        go_meet
        case rel => exact ⟨q, _, rfl, rfl, hQ, rfl⟩
  case rest =>
    clear hg hr hqU f10 f10' f11 f12
    obtain ⟨Q, r', rfl, rfl, HQ, rfl⟩ := hcut
    have hQ := HQ.out
    rw [hyy] at hQ
    have hQb := G.quo_lt
    rw [hyy, ← hQ] at hQb
    have hYpos : 0 < Y := by omega
    have hrest := rest_of (N := U * 4294967296 + u1) hYpos
    rw [← hQ] at hrest
    obtain ⟨p3, hp3⟩ : ∃ p3, Q * Y = p3 := ⟨_, rfl⟩
    rw [hp3] at hrest
    obtain ⟨R, hR⟩ : ∃ R, U * 4294967296 + u1 - p3 = R := ⟨_, rfl⟩
    rw [hR] at hrest
    obtain ⟨hr1, hr2⟩ := hrest
    obtain ⟨a1, k1', ha1, ha1b, ha1e⟩ : ∃ a1 k1 : Nat, IntKind.u64.wrap ((U : Int) * 4294967296) = (a1 : Int) ∧ (a1 : Int) ≤ 18446744069414584320 ∧ (a1 : Int) = (U : Int) * 4294967296 - 18446744073709551616 * k1 := by
      refine ⟨U * 4294967296 % 18446744073709551616, U / 4294967296, ?_, by omega, by omega⟩
      simp [IntKind.wrap, IntKind.bits, IntKind.signed]
    obtain ⟨a3, k3, ha3, ha3e⟩ : ∃ a3 k3 : Nat, IntKind.u64.wrap ((Q : Int) * (Y : Int)) = (a3 : Int) ∧ (a3 : Int) = (p3 : Int) - 18446744073709551616 * k3 := by
      rw [show (Q : Int) * (Y : Int) = (p3 : Int) by rw [← hp3]; simp]
      exact ⟨p3 % 18446744073709551616, p3 / 18446744073709551616, by simp [IntKind.wrap, IntKind.bits, IntKind.signed], by omega⟩
    have hd : IntKind.u64.wrap ((a1 : Int) + (u1 : Int) - (a3 : Int)) = (R : Int) := by
      have := wrap_diff (U * 4294967296 + u1) p3 R k1' k3 (by omega) (by omega)
      rw [ha3e, ha1e, ← this]
      congr 1
      simp
      omega
    have G2 : GuessOk 4294967296 R u0 y1 y0 := ⟨by omega, by omega, hy1, hy0, hu0, by omega⟩
    obtain ⟨hg, hr, hp⟩ := G2.start
    obtain ⟨qq, hq⟩ : ∃ q, R / y1 = q := ⟨_, rfl⟩
    rw [hq] at hg hr hp
    obtain ⟨pp, hp'⟩ : ∃ p, qq * y1 = p := ⟨_, rfl⟩
    rw [hp'] at hg hr hp
    obtain ⟨rr, hr'⟩ : ∃ r, R - pp = r := ⟨_, rfl⟩
    rw [hr'] at hg hr
    have hqU : qq ≤ R := by rw [← hq]; exact Nat.div_le_self R y1
    have f10 : IntKind.u64.wrap ((R : Int) / (y1 : Int)) = (qq : Int) := by rw [← Int.natCast_ediv, hq]; exact IntWalk.u64_in _ (by omega)
    have f10' : IntKind.u64.wrap ((R : Int).tdiv (y1 : Int)) = (qq : Int) := by rw [Int.tdiv_eq_ediv_of_nonneg (by omega)]; exact f10
    have f11 : IntKind.u64.wrap ((qq : Int) * (y1 : Int)) = (pp : Int) := by rw [← Int.natCast_mul, hp']; exact IntWalk.u64_in _ (by omega)
    have f12 : (R : Int) - (pp : Int) = (rr : Int) := by omega
    have hts := two_steps (b := 4294967296) (N := U) (u1 := u1) (u0 := u0) hYpos R _ (by rw [← hQ, hp3]; exact hR.symm) rfl
    rw [← hQ] at hts
    have Hts := Lib.hid hts
    have Hp3 := Lib.hid hp3
    have HR := Lib.hid hR
    clear hts hQ hp3 hR ha1e ha3e hq hp' hr' hp hr1
    go_upto_block 2 with fail
    go_cut [18, 16] (fun s18 s16 wx => ∃ Q r' : Nat, s18 = .int .u64 (Q : Int) ∧ s16 = .int .u64 (r' : Int) ∧ Hid (Q = (R * 4294967296 + u0) / (y1 * 4294967296 + y0)) ∧ w1 = wx)
    case first =>
      go_wp2_with fail
      go_loop [18, 16] (fun qv rv => ∃ q r : Nat, qv = .int .u64 (q : Int) ∧ rv = .int .u64 (r : Int) ∧ GuessAt 4294967296 R u0 y1 y0 q r ∧ r < 4294967296) (fun qv _ => (intOf qv).toNat)
      case atStart => exact ⟨qq, rr, rfl, rfl, hg, hr⟩
      case round =>
        clear hg hr
        obtain ⟨q, r, rfl, rfl, hg, hr⟩ := hrel
        have hml := hg.mul_le hy0
        obtain ⟨z, hz⟩ : ∃ z, q * y0 = z := ⟨_, rfl⟩
        rw [hz] at hml
        have hqb := hg.2.2
        by_cases h1 : 4294967296 ≤ q ∨ 4294967296 * r + u0 < q * y0
        · obtain ⟨hg', hq1⟩ := hg.step G2 h1
          obtain ⟨n, rfl⟩ : ∃ n, q = n + 1 := ⟨q - 1, by omega⟩
          rw [Nat.add_sub_cancel] at hg'
          have g1 : IntKind.u64.wrap (((n : Int) + 1) * (y0 : Int)) = (z : Int) := by
            rw [show ((n : Int) + 1) * (y0 : Int) = (z : Int) by rw [← hz]; simp]
            exact IntWalk.u64_in _ (by omega)
          rw [hz] at h1
          have hout := fun h => hg'.out G2 (by omega) h
          have Hout := Lib.hid hout
          clear hout hg hz hml
          by_cases h3 : 4294967296 ≤ r + y1
          · have hQ := Lib.hid (Hout.out h3)
            by_cases h4 : 4294967296 ≤ n + 1
            · have i4 : (4294967296 : Int) ≤ (n : Int) + 1 := by omega
              have i3 : (4294967296 : Int) ≤ (r : Int) + (y1 : Int) := by omega
              clear h1 h3 h4
              go_wp2
              go_meet
              case rel => exact ⟨n, _, by go_num, rfl, hQ, rfl⟩
            · have i5 : (4294967296 : Int) * (r : Int) + (u0 : Int) < (z : Int) := by omega
              have i4 : ¬ (4294967296 : Int) ≤ (n : Int) + 1 := by omega
              have i3 : (4294967296 : Int) ≤ (r : Int) + (y1 : Int) := by omega
              clear h1 h3 h4
              go_wp2
              go_meet
              case rel => exact ⟨n, _, by go_num, rfl, hQ, rfl⟩
          · by_cases h4 : 4294967296 ≤ n + 1
            · have i4 : (4294967296 : Int) ≤ (n : Int) + 1 := by omega
              have i3 : ¬ (4294967296 : Int) ≤ (r : Int) + (y1 : Int) := by omega
              have H3 := Lib.hid h3
              clear h1 h3 h4
              go_wp2
              go_round
              case rel => exact ⟨n, r + y1, by go_num, by go_num, hg', by have := H3.out; omega⟩
              case measure => simp [intOf]
            · have i5 : (4294967296 : Int) * (r : Int) + (u0 : Int) < (z : Int) := by omega
              have i4 : ¬ (4294967296 : Int) ≤ (n : Int) + 1 := by omega
              have i3 : ¬ (4294967296 : Int) ≤ (r : Int) + (y1 : Int) := by omega
              have H3 := Lib.hid h3
              clear h1 h3 h4
              go_wp2
              go_round
              case rel => exact ⟨n, r + y1, by go_num, by go_num, hg', by have := H3.out; omega⟩
              case measure => simp [intOf]
        · have hQ := Lib.hid (hg.le G2 (by omega))
          have g1 : IntKind.u64.wrap ((q : Int) * (y0 : Int)) = (z : Int) := by
            rw [show (q : Int) * (y0 : Int) = (z : Int) by rw [← hz]; simp]
            exact IntWalk.u64_in _ (by omega)
          have i4 : ¬ (4294967296 : Int) ≤ (q : Int) := by omega
          have i5 : ¬ (4294967296 : Int) * (r : Int) + (u0 : Int) < (z : Int) := by omega
          clear h1 hg hz hml
          go_wp2
          go_meet
          case rel => exact ⟨q, _, rfl, rfl, hQ, rfl⟩
    case rest =>
      clear hg hr hqU f10 f10' f11 f12
      obtain ⟨Q0, r2, rfl, rfl, HQ0, rfl⟩ := hcut
      have hQ0 := HQ0.out
      rw [hyy] at hQ0
      have hQ0b := G2.quo_lt
      rw [hyy, ← hQ0] at hQ0b
      obtain ⟨e1, e2⟩ := Hts.out
      rw [← hQ0] at e1 e2
      have hrest2 := rest_of (N := R * 4294967296 + u0) hYpos
      rw [← hQ0] at hrest2
      have hM0 : (U * 4294967296 + u1) * 4294967296 + u0 = U * 18446744073709551616 + L := join4 U u1 u0 L huu
      have hM := hM0.trans m3
      rw [hM] at e1 e2
      have hYs := HY.out
      rw [← hYs, Nat.mul_div_mul_right _ _ (Nat.pow_pos (by omega))] at e1
      rw [← hYs, Nat.mul_mod_mul_right] at e2
      rw [hYs] at e2
      obtain ⟨p4, hp4⟩ : ∃ p4, Q0 * Y = p4 := ⟨_, rfl⟩
      rw [hp4] at hrest2 e2
      obtain ⟨T, hT⟩ : ∃ T, (hi * 18446744073709551616 + lo) % y = T := ⟨_, rfl⟩
      obtain ⟨V, hV⟩ : ∃ V, (hi * 18446744073709551616 + lo) / y = V := ⟨_, rfl⟩
      rw [hT] at e2
      rw [hV] at e1
      obtain ⟨S, hS⟩ : ∃ S, T * 2 ^ s = S := ⟨_, rfl⟩
      rw [hS] at e2
      have hS2 : (S : Int) / 2 ^ s = (T : Int) := by
        rw [← hS]
        have : T * 2 ^ s / 2 ^ s = T := Nat.mul_div_cancel _ (Nat.pow_pos (by omega))
        rw [show ((2 : Int) ^ s) = ((2 ^ s : Nat) : Int) by simp, ← Int.natCast_ediv, this]
      obtain ⟨b1, k5, hb1, hb1b, hb1e⟩ : ∃ a1 k1 : Nat, IntKind.u64.wrap ((R : Int) * 4294967296) = (a1 : Int) ∧ (a1 : Int) ≤ 18446744069414584320 ∧ (a1 : Int) = (R : Int) * 4294967296 - 18446744073709551616 * k1 := by
        refine ⟨R * 4294967296 % 18446744073709551616, R / 4294967296, ?_, by omega, by omega⟩
        simp [IntKind.wrap, IntKind.bits, IntKind.signed]
      obtain ⟨b3, k6, hb3, hb3e⟩ : ∃ a3 k3 : Nat, IntKind.u64.wrap ((Q0 : Int) * (Y : Int)) = (a3 : Int) ∧ (a3 : Int) = (p4 : Int) - 18446744073709551616 * k3 := by
        rw [show (Q0 : Int) * (Y : Int) = (p4 : Int) by rw [← hp4]; simp]
        exact ⟨p4 % 18446744073709551616, p4 / 18446744073709551616, by simp [IntKind.wrap, IntKind.bits, IntKind.signed], by omega⟩
      have hd2 : IntKind.u64.wrap ((b1 : Int) + (u0 : Int) - (b3 : Int)) = (S : Int) := by
        have := wrap_diff (R * 4294967296 + u0) p4 S k5 k6 (by omega) (by omega)
        rw [hb3e, hb1e, ← this]
        congr 1
        simp
        omega
      have He1 := Lib.hid e1
      have HT := Lib.hid hT
      have HV := Lib.hid hV
      clear e1 e2 hQ0 hp4 hS hT hV hb1e hb3e hrest2 hM hM0 hYs
      go_wp2
      go_ret2
      exact ⟨ret_uu (by rw [HV.out, ← He1.out]; simp) (by rw [HT.out]), 0, rfl⟩
end Go.Proofs.Ytldhmjfjbalakaa
