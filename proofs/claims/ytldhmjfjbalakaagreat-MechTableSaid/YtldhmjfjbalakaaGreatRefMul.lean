/- What the reference's Sub and Mul compute. -/
import Derived.Test.YtldhmjfjbalakaaGreatRefAdd
namespace Go.Proofs.YtldhmjfjbalakaaGreat
open Go.RowKit

set_option maxRecDepth 100000 in
set_option maxHeartbeats 2000000 in
theorem refSub_any (P P' : Nat → Prop) (A A' : Option Addr) (c c' : Nat) (x y : Nat) (w : World) (h : RN w P A c (digs 4294967296 x)) (h' : RN w P' A' c' (digs 4294967296 y)) (hP : ∀ b, P b → b < w.heap.size) (hP' : ∀ b, P' b → b < w.heap.size)
    (hl : (digs 4294967296 x).length < 100000) (hle : y ≤ x) :
    Calls Tryz.prog 93 #[.slice A (digs 4294967296 x).length c, .slice A' (digs 4294967296 y).length c'] w fun e w' => ∃ A1 c1, e = .returned (.slice A1 (digs 4294967296 (x - y)).length c1) ∧
      OB w' w.heap.size A1 c1 (digs 4294967296 (x - y)) ∧ Below w.heap.size w w' := by
  have hx := val_digs (B := 4294967296) (by omega) x
  have hy := val_digs (B := 4294967296) (by omega) y
  have hml := digs_length_mono (B := 4294967296) (by omega) hle
  have dx := Dig.digs x
  have dy := Dig.digs y
  generalize digs 4294967296 x = l at *
  generalize digs 4294967296 y = m at *
  have Hx := Lib.hid hx
  have Hy := Lib.hid hy
  clear hx hy
  obtain ⟨h1, h2, h3⟩ := h.cap
  obtain ⟨g1, g2, g3⟩ := h'.cap
  have hmk := run_make_row' (P := Tryz.prog) 47 90 (.int .u64 0) 8 Tryz.underlying47 info64 rfl .i64 .i64 l.length (by omega) (by omega)
  go_enter Tryz.func93, Tryz.ntmps93
  go_wp2
  go_loopw [6, 7] (fun cv iv wr => ∃ (k cr : Nat) (o : List Nat), iv = .int .i64 (k : Int) ∧ cv = .int .u64 (cr : Int) ∧ k ≤ l.length ∧ cr ≤ 1 ∧ SubAt 4294967296 l m o k cr ∧ Hid (o.length = l.length) ∧ Dig o ∧ Blk wr w.heap.size o ∧ Below w.heap.size w wr) (fun _ iv _ => l.length - (intOf iv).toNat)
  case atStart => exact ⟨0, 0, List.replicate l.length 0, rfl, rfl, by omega, by omega, SubAt.zero _ _ _ _, Lib.hid (by simp), by intro x hx; simp at hx; omega, Blk.made w _, (Below.refl _ w).alloc (Nat.le_refl _) _⟩
  case round =>
    obtain ⟨k, cr, o, rfl, rfl, hk, hcr, hA, Ho, hD, hblk, hB⟩ := hrel
    by_cases hlt : k < l.length
    · have hok : k < o.length := by have := Ho.out; omega
      have q3 := hblk.cell hok
      have q4 := hblk.free k
      have b1 := dx.dgLt k
      have b2 := dy.dgLt k
      obtain ⟨ad, rfl, had, q1⟩ := (h.below hB hP).at_ hlt
      by_cases hm2 : k < m.length
      · obtain ⟨ae, rfl, hae, q2⟩ := (h'.below hB hP').at_ hm2
        by_cases hb : dg l k < cr + dg m k
        · obtain ⟨s, hs, e1⟩ : ∃ s : Nat, s < 4294967296 ∧ (dg l k : Int) + 4294967296 - ((cr : Int) + (dg m k : Int)) = (s : Int) := ⟨dg l k + 4294967296 - (cr + dg m k), by omega, by omega⟩
          have hA' := hA.step (s := s) (c' := 1) hok (by omega)
          have hblk' := hblk.set k s
          have hD' := hD.set k s hs
          have hB' := hB.setCell (p := ⟨w.heap.size, k, none⟩) (Nat.le_refl _) (.int .u64 (s : Int))
          have Ho' : Hid ((o.set k s).length = l.length) := Lib.hid (by rw [List.length_set]; exact Ho.out)
          have t1 : (dg l k : Int) < (cr : Int) + (dg m k : Int) := by omega
          clear hA hblk hD hB hok hb
          go_wp2
          go_roundw
          case rel => exact ⟨k + 1, 1, o.set k s, by go_num, by go_num, by omega, by omega, hA', Ho', hD', hblk', hB'⟩
          case measure => simp [intOf]; omega
        · obtain ⟨s, hs, e1⟩ : ∃ s : Nat, s < 4294967296 ∧ (dg l k : Int) - ((cr : Int) + (dg m k : Int)) = (s : Int) := ⟨dg l k - (cr + dg m k), by omega, by omega⟩
          have hA' := hA.step (s := s) (c' := 0) hok (by omega)
          have hblk' := hblk.set k s
          have hD' := hD.set k s hs
          have hB' := hB.setCell (p := ⟨w.heap.size, k, none⟩) (Nat.le_refl _) (.int .u64 (s : Int))
          have Ho' : Hid ((o.set k s).length = l.length) := Lib.hid (by rw [List.length_set]; exact Ho.out)
          have t1 : ¬ (dg l k : Int) < (cr : Int) + (dg m k : Int) := by omega
          clear hA hblk hD hB hok hb
          go_wp2
          go_roundw
          case rel => exact ⟨k + 1, 0, o.set k s, by go_num, by go_num, by omega, by omega, hA', Ho', hD', hblk', hB'⟩
          case measure => simp [intOf]; omega
      · have e0 : dg m k = 0 := dg_none (by omega)
        by_cases hb : dg l k < cr
        · obtain ⟨s, hs, e1⟩ : ∃ s : Nat, s < 4294967296 ∧ (dg l k : Int) + 4294967296 - (cr : Int) = (s : Int) := ⟨dg l k + 4294967296 - cr, by omega, by omega⟩
          have hA' := hA.step (s := s) (c' := 1) hok (by omega)
          have hblk' := hblk.set k s
          have hD' := hD.set k s hs
          have hB' := hB.setCell (p := ⟨w.heap.size, k, none⟩) (Nat.le_refl _) (.int .u64 (s : Int))
          have Ho' : Hid ((o.set k s).length = l.length) := Lib.hid (by rw [List.length_set]; exact Ho.out)
          clear hA hblk hD hB hok e0
          go_wp2
          go_roundw
          case rel => exact ⟨k + 1, 1, o.set k s, by go_num, by go_num, by omega, by omega, hA', Ho', hD', hblk', hB'⟩
          case measure => simp [intOf]; omega
        · obtain ⟨s, hs, e1⟩ : ∃ s : Nat, s < 4294967296 ∧ (dg l k : Int) - (cr : Int) = (s : Int) := ⟨dg l k - cr, by omega, by omega⟩
          have hA' := hA.step (s := s) (c' := 0) hok (by omega)
          have hblk' := hblk.set k s
          have hD' := hD.set k s hs
          have hB' := hB.setCell (p := ⟨w.heap.size, k, none⟩) (Nat.le_refl _) (.int .u64 (s : Int))
          have Ho' : Hid ((o.set k s).length = l.length) := Lib.hid (by rw [List.length_set]; exact Ho.out)
          clear hA hblk hD hB hok e0
          go_wp2
          go_roundw
          case rel => exact ⟨k + 1, 0, o.set k s, by go_num, by go_num, by omega, by omega, hA', Ho', hD', hblk', hB'⟩
          case measure => simp [intOf]; omega
    · obtain rfl : k = l.length := by omega
      have hfin := hA.fin Ho.out hD rfl hml (by rw [Hx.out, Hy.out]; exact hle)
      rw [Hx.out, Hy.out] at hfin
      have hLo : Lim o := ⟨fun z hz => by have := hD z hz; omega, by rw [Ho.out]; omega⟩
      have hOB : OB wr w.heap.size (some ⟨w.heap.size, 0, none⟩) l.length o := OB.of_blk hblk (Nat.le_refl _) hLo (by have := Ho.out; omega) (by unfold maxLen; omega)
      have ht := refTrim_any _ _ _ _ _ hOB.rn hD
      have hOB' := hOB.trim32 hD
      rw [hfin, Ho.out] at ht
      rw [hfin] at hOB'
      have Ht := Lib.hid ht
      clear hblk hLo ht hfin hOB hA
      go_wp2_with fail
      refine Ht.out.mono ?_
      rintro e w1 ⟨rfl, rfl⟩
      go_wp2
      go_ret
      exact ⟨_, _, rfl, hOB', hB⟩

set_option maxRecDepth 100000 in
set_option maxHeartbeats 2000000 in
theorem refMul_any (P P' : Nat → Prop) (A A' : Option Addr) (c c' : Nat) (x y : Nat) (w : World) (h : RN w P A c (digs 4294967296 x)) (h' : RN w P' A' c' (digs 4294967296 y)) (hP : ∀ b, P b → b < w.heap.size) (hP' : ∀ b, P' b → b < w.heap.size)
    (hl : (digs 4294967296 x).length < 100000) (hl' : (digs 4294967296 y).length < 100000) :
    Calls Tryz.prog 91 #[.slice A (digs 4294967296 x).length c, .slice A' (digs 4294967296 y).length c'] w fun e w' => ∃ A1 c1, e = .returned (.slice A1 (digs 4294967296 (x * y)).length c1) ∧
      OB w' w.heap.size A1 c1 (digs 4294967296 (x * y)) ∧ Below w.heap.size w w' := by
  have hx := val_digs (B := 4294967296) (by omega) x
  have hy := val_digs (B := 4294967296) (by omega) y
  have dx := Dig.digs x
  have dy := Dig.digs y
  generalize digs 4294967296 x = l at *
  generalize digs 4294967296 y = m at *
  have Hx := Lib.hid hx
  have Hy := Lib.hid hy
  clear hx hy
  obtain ⟨h1, h2, h3⟩ := h.cap
  obtain ⟨g1, g2, g3⟩ := h'.cap
  have hmk := run_make_row' (P := Tryz.prog) 47 90 (.int .u64 0) 8 Tryz.underlying47 info64 rfl .i64 .i64 (l.length + m.length) (by omega) (by omega)
  simp only [Int.natCast_add] at hmk
  go_enter Tryz.func91, Tryz.ntmps91
  go_wp2
  go_loopw [6] (fun iv wr => ∃ (i : Nat) (o : List Nat), iv = .int .i64 (i : Int) ∧ i ≤ l.length ∧ RowAt 4294967296 l m o i ∧ Dig o ∧ Blk wr w.heap.size o ∧ Below w.heap.size w wr) (fun iv _ => l.length - (intOf iv).toNat)
  case atStart => exact ⟨0, List.replicate (l.length + m.length) 0, rfl, by omega, RowAt.zero _ _ _, by intro x hx; simp at hx; omega, Blk.made w _, (Below.refl _ w).alloc (Nat.le_refl _) _⟩
  case round =>
    obtain ⟨i, o0, rfl, hi, hR, hD, hblk, hB⟩ := hrel
    obtain ⟨wo, rfl⟩ : ∃ wo, wo = wr := ⟨_, rfl⟩
    by_cases hlt : i < l.length
    · obtain ⟨ad, rfl, had, q1⟩ := (h.below hB hP).at_ hlt
      have hxi := dx.dgLt i
      go_wp2
      go_loopw [7, 9] (fun cv jv wr => ∃ (j cr : Nat) (o : List Nat), jv = .int .i64 (j : Int) ∧ cv = .int .u64 (cr : Int) ∧ j ≤ m.length ∧ cr < 4294967296 ∧ MulAt 4294967296 o0 m (dg l i) i o j cr ∧ Dig o ∧ Blk wr w.heap.size o ∧ Below w.heap.size w wr) (fun _ jv _ => m.length - (intOf jv).toNat)
      case atStart => exact ⟨0, 0, o0, rfl, rfl, by omega, by omega, MulAt.zero _ _ _ _ _, hD, hblk, hB⟩
      case round =>
        clear q1 hB hblk hD
        obtain ⟨j, cr, o, rfl, rfl, hj, hcr, hM, hD, hblk, hB⟩ := hrel
        have hol : o.length = l.length + m.length := hM.1.trans hR.1
        by_cases hjt : j < m.length
        · obtain ⟨ae, rfl, hae, q2⟩ := (h'.below hB hP').at_ hjt
          have hok : i + j < o.length := by omega
          have q3 := hblk.cell hok
          have q4 := hblk.free (i + j)
          have b2 := dy.dgLt j
          have b3 := hD.dgLt (i + j)
          have hb := mul_bound hxi b2 b3 hcr
          obtain ⟨pr, hpr⟩ : ∃ pr, dg l i * dg m j = pr := ⟨_, rfl⟩
          have Hpr := Lib.hid (show (dg l i : Int) * (dg m j : Int) = (pr : Int) by rw [← hpr, Int.natCast_mul])
          rw [hpr] at hb
          obtain ⟨s, cr', hs, hcr', he⟩ : ∃ s c' : Nat, s < 4294967296 ∧ c' < 4294967296 ∧ s + 4294967296 * c' = pr + dg o (i + j) + cr :=
            ⟨(pr + dg o (i + j) + cr) % 4294967296, (pr + dg o (i + j) + cr) / 4294967296, by omega, by omega, by omega⟩
          have e1 : ((cr : Int) + ((dg o (i + j) : Int) + (pr : Int))) % 4294967296 = (s : Int) := by omega
          have e2 : ((cr : Int) + ((dg o (i + j) : Int) + (pr : Int))) / 4294967296 = (cr' : Int) := by omega
          have hM' := hM.step hok (by rw [hpr]; exact he)
          have hblk' := hblk.set (i + j) s
          have hD' := hD.set (i + j) s hs
          have hB' := hB.setCell (p := ⟨w.heap.size, i + j, none⟩) (Nat.le_refl _) (.int .u64 (s : Int))
          have k1 : (i : Int) + (j : Int) < (l.length : Int) + (m.length : Int) := by omega
          have k3 : (pr : Int) < 18446744073709551616 := by omega
          have k4 : (cr : Int) + ((dg o (i + j) : Int) + (pr : Int)) < 18446744073709551616 := by omega
          clear he hM hblk hD hB hok hol hb hpr
          have hpr := Hpr.out
          go_wp2
          go_quiet (fail)
          go_wp2
          go_roundw
          case rel => exact ⟨j + 1, cr', o.set (i + j) s, by go_num, (by first | rfl | exact congrArg (Value.int .u64) e2), by omega, hcr', hM', hD', hblk', below_drewN hB' _⟩
          case measure => simp [intOf]; omega
        · obtain rfl : j = m.length := by omega
          have hR' := hR.step hlt hM
          have q3 := hblk.cell (i := i + m.length) (by omega)
          have q4 := hblk.free (i + m.length)
          have hblk' := hblk.set (i + m.length) cr
          have hD' := hD.set (i + m.length) cr hcr
          have hB' := hB.setCell (p := ⟨w.heap.size, i + m.length, none⟩) (Nat.le_refl _) (.int .u64 (cr : Int))
          have k1 : (i : Int) + (m.length : Int) < (l.length : Int) + (m.length : Int) := by omega
          clear hM hblk hD hB hol
          go_wp2
          go_roundw
          case rel => exact ⟨i + 1, o.set (i + m.length) cr, by go_num, by omega, hR', hD', hblk', hB'⟩
          case measure => simp [intOf]; omega
    · obtain rfl : i = l.length := by omega
      have hfin := hR.fin
      rw [Hx.out, Hy.out] at hfin
      have hol := hR.1
      have hLo : Lim o0 := ⟨fun z hz => by have := hD z hz; omega, by omega⟩
      have hOB : OB wo w.heap.size (some ⟨w.heap.size, 0, none⟩) (l.length + m.length) o0 := OB.of_blk hblk (Nat.le_refl _) hLo (by omega) (by unfold maxLen; omega)
      have ht := refTrim_any _ _ _ _ _ hOB.rn hD
      have hOB' := hOB.trim32 hD
      rw [hfin, hol] at ht
      rw [hfin] at hOB'
      have Ht := Lib.hid ht
      clear hblk hLo ht hfin hOB hR hol
      go_wp2_with fail
      refine Ht.out.mono ?_
      rintro e w1 ⟨rfl, rfl⟩
      go_wp2
      go_ret
      exact ⟨_, _, rfl, hOB', hB⟩
end Go.Proofs.YtldhmjfjbalakaaGreat
