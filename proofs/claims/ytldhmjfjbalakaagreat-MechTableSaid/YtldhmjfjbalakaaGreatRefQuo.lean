/- What the reference's small and times compute. -/
import Derived.Test.YtldhmjfjbalakaaGreatRefQuoN
import Derived.Test.YtldhmjfjbalakaaGreatQuoP
import Derived.Test.YtldhmjfjbalakaaGreatRefMul
namespace Go.Proofs.YtldhmjfjbalakaaGreat
open Go.RowKit

set_option maxRecDepth 100000 in
set_option maxHeartbeats 1000000 in
theorem refTimes_any (P : Nat → Prop) (A : Option Addr) (c : Nat) (l : List Nat) (d : Nat) (w : World) (h : RN w P A c l) (hP : ∀ b, P b → b < w.heap.size) (hD : Dig l) (hl : l.length < 100000) (hd' : d < 4294967296) :
    Calls Tryz.prog 123 #[.slice A l.length c, .int .u64 (d : Int)] w fun e w' => ∃ o, e = .returned (.slice (some ⟨w.heap.size, 0, none⟩) (l.length + 1) (l.length + 1)) ∧ Blk w' w.heap.size o ∧ o.length = l.length + 1 ∧ Dig o ∧ val 4294967296 o = d * val 4294967296 l ∧ Below w.heap.size w w' := by
  obtain ⟨h1, h2, h3⟩ := h.cap
  have hmk := run_make_row' (P := Tryz.prog) 47 90 (.int .u64 0) 8 Tryz.underlying47 info64 rfl .i64 .i64 (l.length + 1) (by omega) (by omega)
  simp only [Int.natCast_add, Int.cast_ofNat_Int] at hmk
  go_enter Tryz.func123, Tryz.ntmps123
  go_wp2
  go_loopw [6, 7] (fun cv iv wr => ∃ (i cr : Nat) (o : List Nat), iv = .int .i64 (i : Int) ∧ cv = .int .u64 (cr : Int) ∧ i ≤ l.length ∧ cr < 4294967296 ∧ TimesAt 4294967296 l o d i cr ∧ Dig o ∧ Blk wr w.heap.size o ∧ Below w.heap.size w wr) (fun _ iv _ => l.length - (intOf iv).toNat)
  case atStart => exact ⟨0, 0, List.replicate (l.length + 1) 0, rfl, rfl, by omega, by omega, ⟨by simp, by simp⟩, by intro x hx; simp at hx; omega, Blk.made w _, (Below.refl _ w).alloc (Nat.le_refl _) _⟩
  case round =>
    obtain ⟨i, cr, o, rfl, rfl, hi, hcr, hT, hDo, hblk, hB⟩ := hrel
    have hol := hT.1
    by_cases hlt : i < l.length
    · obtain ⟨ad, rfl, had, q1⟩ := (h.below hB hP).at_ hlt
      have hb := mul_bound (hD.dgLt i) hd' hcr (show 0 < 4294967296 by omega)
      obtain ⟨pr, hpr⟩ : ∃ pr, dg l i * d = pr := ⟨_, rfl⟩
      have Hpr := Lib.hid (show (dg l i : Int) * (d : Int) = (pr : Int) by rw [← hpr, Int.natCast_mul])
      rw [hpr] at hb
      obtain ⟨s, cr', hs, hcr', he⟩ : ∃ s c' : Nat, s < 4294967296 ∧ c' < 4294967296 ∧ s + 4294967296 * c' = cr + pr := ⟨(cr + pr) % 4294967296, (cr + pr) / 4294967296, by omega, by omega, by omega⟩
      have e1 : ((cr : Int) + (pr : Int)) % 4294967296 = (s : Int) := by omega
      have e2 : ((cr : Int) + (pr : Int)) / 4294967296 = (cr' : Int) := by omega
      have q3 := hblk.cell (i := i) (by omega)
      have q4 := hblk.free i
      have hT' := hT.step (by omega) (by rw [hpr]; exact he)
      have hblk' := hblk.set i s
      have hD' := hDo.set i s hs
      have hB' := hB.setCell (p := ⟨w.heap.size, i, none⟩) (Nat.le_refl _) (.int .u64 (s : Int))
      have k1 : (i : Int) < (l.length : Int) + 1 := by omega
      have k3 : (pr : Int) < 18446744073709551616 := by omega
      have k4 : (cr : Int) + (pr : Int) < 18446744073709551616 := by omega
      clear he hT hblk hDo hB hb hpr hol
      have hpr := Hpr.out
      go_wp2
      go_roundw
      case rel => exact ⟨i + 1, cr', o.set i s, by go_num, (by first | rfl | exact congrArg (Value.int .u64) e2), by omega, hcr', hT', hD', hblk', hB'⟩
      case measure => simp [intOf]; omega
    · obtain rfl : i = l.length := by omega
      have q3 := hblk.cell (i := l.length) (by omega)
      have q4 := hblk.free l.length
      have hfin := hT.fin
      have hblk' := hblk.set l.length cr
      have hD' := hDo.set l.length cr hcr
      have hB' := hB.setCell (p := ⟨w.heap.size, l.length, none⟩) (Nat.le_refl _) (.int .u64 (cr : Int))
      have k1 : (l.length : Int) < (l.length : Int) + 1 := by omega
      have Hf := Lib.hid hfin
      have Hol := Lib.hid (show (o.set l.length cr).length = l.length + 1 by simpa using hol)
      clear hT hblk hDo hB hfin hol
      go_wp2
      go_ret
      exact ⟨o.set l.length cr, rfl, hblk', Hol.out, hD', Hf.out, hB'⟩

set_option maxRecDepth 100000 in
set_option maxHeartbeats 1000000 in
theorem refSmall_any (P : Nat → Prop) (A : Option Addr) (c : Nat) (l : List Nat) (d : Nat) (w : World) (h : RN w P A c l) (hP : ∀ b, P b → b < w.heap.size) (hDl : Dig l) (hl : l.length < 100000) (hd : 0 < d) (hd' : d < 4294967297) :
    Calls Tryz.prog 122 #[.slice A l.length c, .int .u64 (d : Int)] w fun e w' => ∃ A1 c1, e = .returned (.tuple #[.slice A1 (digs 4294967296 (val 4294967296 l / d)).length c1, .int .u64 ((val 4294967296 l % d : Nat) : Int)]) ∧
      OB w' w.heap.size A1 c1 (digs 4294967296 (val 4294967296 l / d)) ∧ Below w.heap.size w w' := by
  obtain ⟨h1, h2, h3⟩ := h.cap
  have hmk := run_make_row' (P := Tryz.prog) 47 90 (.int .u64 0) 8 Tryz.underlying47 info64 rfl .i64 .i64 l.length (by omega) (by omega)
  have Hs := Lib.hid (Below1.start l.length)
  have n0 : ((d : Int) == 0) = false := eqB (by omega)
  have n1 : ¬ d = 0 := by omega
  go_enter Tryz.func122, Tryz.ntmps122
  go_wp2
  go_loopw [7, 8] (fun rv iv wr => ∃ (k r : Nat) (z : Int) (o : List Nat), iv = .int .i64 z ∧ Below1 k z ∧ rv = .int .u64 (r : Int) ∧ k ≤ l.length ∧ r < d ∧ SmallAt 4294967296 l o d k r ∧ Dig o ∧ Blk wr w.heap.size o ∧ Below w.heap.size w wr) (fun _ iv _ => (intOf iv + 1).toNat)
  case atStart => exact ⟨l.length, 0, _, List.replicate l.length 0, rfl, Hs.out, rfl, by omega, by omega, SmallAt.start d (by simp), by intro x hx; simp at hx; omega, Blk.made w _, (Below.refl _ w).alloc (Nat.le_refl _) _⟩
  case round =>
    obtain ⟨k, r, z, o, rfl, hz, rfl, hk, hr, hS, hDo, hblk, hB⟩ := hrel
    rcases hz with ⟨rfl, rfl⟩ | ⟨j, rfl, rfl⟩
    · obtain ⟨hv, hrem⟩ := hS.fin hr
      have hLo : Lim o := ⟨fun x hx => by have := hDo x hx; omega, by have := hS.1; omega⟩
      have hOB : OB wr w.heap.size (some ⟨w.heap.size, 0, none⟩) l.length o := OB.of_blk hblk (Nat.le_refl _) hLo (by have := hS.1; omega) (by unfold maxLen; omega)
      have ht := refTrim_any _ _ _ _ _ hOB.rn hDo
      have hOB' := hOB.trim32 hDo
      rw [hv, hS.1] at ht
      rw [hv] at hOB'
      have Ht := Lib.hid ht
      have Hrem := Lib.hid hrem
      clear hblk hLo ht hv hrem hOB hS hDo
      go_wp2_with fail
      refine Ht.out.mono ?_
      rintro e w1 ⟨rfl, rfl⟩
      go_wp2
      go_ret2
      exact ⟨_, _, by rw [Hrem.out]; rfl, hOB', hB⟩
    · obtain ⟨ad, rfl, had, q1⟩ := (h.below hB hP).at_ (i := j) (by omega)
      have hol := hS.1
      have hlj := hDl.dgLt j
      have q3 := hblk.cell (i := j) (by omega)
      have q4 := hblk.free j
      obtain ⟨t, ht⟩ : ∃ t, r * 4294967296 + dg l j = t := ⟨_, rfl⟩
      obtain ⟨q, r', hr', he, hq⟩ : ∃ q r' : Nat, r' < d ∧ t = d * q + r' ∧ q < 4294967296 := by
        refine ⟨t / d, t % d, Nat.mod_lt _ hd, (Nat.div_add_mod _ d).symm, ?_⟩
        apply Nat.div_lt_of_lt_mul
        have : (r + 1) * 4294967296 ≤ d * 4294967296 := Nat.mul_le_mul_right _ hr
        omega
      have htb : (t : Int) < 18446744073709551616 := by omega
      have f0 : (r : Int) * 4294967296 + (dg l j : Int) = (t : Int) := by omega
      have f1 : (t : Int) / (d : Int) = (q : Int) := by
        rw [← Int.natCast_ediv, he, Nat.mul_add_div hd, Nat.div_eq_of_lt hr', Nat.add_zero]
      have f2 : (t : Int) % (d : Int) = (r' : Int) := by
        rw [← Int.natCast_emod, he, Nat.mul_add_mod, Nat.mod_eq_of_lt hr']
      have f1' : (t : Int).tdiv (d : Int) = (q : Int) := by rw [Int.tdiv_eq_ediv_of_nonneg (by omega)]; exact f1
      have f2' : (t : Int).tmod (d : Int) = (r' : Int) := by rw [Int.tmod_eq_emod_of_nonneg (by omega)]; exact f2
      have hS' := hS.step (by omega) (by rw [ht]; exact he)
      have hblk' := hblk.set j q
      have hD' := hDo.set j q hq
      have hB' := hB.setCell (p := ⟨w.heap.size, j, none⟩) (Nat.le_refl _) (.int .u64 (q : Int))
      have k1 : (j : Int) < (l.length : Int) := by omega
      have k2 : (r : Int) * 4294967296 < 18446744073709551616 := by omega
      have k3 : (q : Int) < 18446744073709551616 := by omega
      have k4 : (r' : Int) < 18446744073709551616 := by omega
      have Hs' := Lib.hid (Below1.start j)
      clear he hS hblk hDo hB hol ht
      go_wp2
      go_roundw
      case rel => exact ⟨j, r', _, o.set j q, rfl, Hs'.out, by go_num, by omega, hr', hS', hD', hblk', hB'⟩
      case measure => simp [intOf]
end Go.Proofs.YtldhmjfjbalakaaGreat
