/- What limb.Shl and Shr compute. -/
import Derived.Test.YtnniellajmjmnaaBytesLaw
import Derived.Test.YtnniellajmjmnaaShiftN
import Derived.RegionTactic
import Derived.ChangeAlike
namespace Go.Proofs.Ytnniellajmjmnaa
open Go.RowKit

set_option maxRecDepth 100000 in
set_option maxHeartbeats 1000000 in
theorem shl_no (P : Nat → Prop) (A : Option Addr) (c : Nat) (a : List Nat) (n : Int) (w : World) (h : RN w P A c a) (hn : n < 0 ∨ 65536 < n ∨ val 18446744073709551616 a = 0) :
    Calls Try.prog 21 #[.slice A a.length c, .int .i64 n] w fun e w' => e = .returned (.slice none 0 0) ∧ w = w' := by
  have ta := trim_any P A c a w h
  by_cases h0 : n < 0
  · have Ta := Lib.hid ta
    clear ta
    go_enter Try.func21, Try.ntmps21
    go_wp2_with fail
    refine Ta.out.mono ?_
    rintro e w1 ⟨rfl, rfl⟩
    go_wp2
    go_ret
    exact ⟨rfl, rfl⟩
  · by_cases h1 : 65536 < n
    · have Ta := Lib.hid ta
      clear ta
      go_enter Try.func21, Try.ntmps21
      go_wp2_with fail
      refine Ta.out.mono ?_
      rintro e w1 ⟨rfl, rfl⟩
      go_wp2
      go_ret
      exact ⟨rfl, rfl⟩
    · have hz : val 18446744073709551616 a = 0 := by omega
      rw [hz, digs_zero] at ta
      have Ta := Lib.hid ta
      clear ta hz hn
      go_enter Try.func21, Try.ntmps21
      go_wp2_with fail
      refine Ta.out.mono ?_
      rintro e w1 ⟨rfl, rfl⟩
      go_wp2
      go_ret
      exact ⟨rfl, rfl⟩

set_option maxRecDepth 100000 in
set_option maxHeartbeats 2000000 in
theorem shl_yes (P : Nat → Prop) (A : Option Addr) (c : Nat) (a : List Nat) (n : Nat) (w : World) (h : RN w P A c a) (hP : ∀ b, P b → b < w.heap.size) (hl : a.length < 100000) (hn : n ≤ 65536) (hv : 0 < val 18446744073709551616 a) :
    Calls Try.prog 21 #[.slice A a.length c, .int .i64 (n : Int)] w fun e w' => ∃ A1 c1, e = .returned (.slice A1 (digs 18446744073709551616 (val 18446744073709551616 a * 2 ^ n)).length c1) ∧
      OB w' w.heap.size A1 c1 (digs 18446744073709551616 (val 18446744073709551616 a * 2 ^ n)) ∧ c1 ≤ a.length + n / 64 + 1 ∧ (∃ o, A1 = some ⟨w.heap.size, 0, none⟩ ∧ Blk w' w.heap.size o ∧ o.length = c1 ∧ digs 18446744073709551616 (val 18446744073709551616 a * 2 ^ n) = o.take (digs 18446744073709551616 (val 18446744073709551616 a * 2 ^ n)).length) ∧ Below w.heap.size w w' := by
  have ta := Lib.hid (trim_any P A c a w h)
  have la := digs_length_le (B := 18446744073709551616) (by omega) h.2.1
  replace h := h.trim
  have hne : 0 < (digs 18446744073709551616 (val 18446744073709551616 a)).length := by rw [digs_pos (by omega) hv]; simp
  generalize val 18446744073709551616 a = x at *
  have hx := val_digs (B := 18446744073709551616) (by omega) x
  generalize digs 18446744073709551616 x = l at *
  have la' : l.length < 100000 := by omega
  have Hla := Lib.hid la
  have Hx := Lib.hid hx
  clear hl hx hv la
  obtain ⟨h1, h2, h3⟩ := h.cap
  obtain ⟨s, k, hk, hnk⟩ : ∃ s k, k < 64 ∧ n = 64 * s + k := ⟨n / 64, n % 64, by omega, by omega⟩
  have e1 : (n : Int) / 64 = (s : Int) := by omega
  have e2 : (n : Int) % 64 = (k : Int) := by omega
  have hs : s ≤ 1024 := by omega
  have hne' : ((l.length : Int) == 0) = false := eqB (by omega)
  have hmk := run_make_row' (P := Try.prog) 23 54 (.int .u64 0) 8 Try.underlying23 info64 rfl .i64 .i64 (l.length + s + 1) (by omega) (by omega)
  simp only [Int.natCast_add, Int.cast_ofNat_Int] at hmk
  have hk1 : (k : Int) < 64 := by omega
  have Hnk := Lib.hid hnk
  clear hne hnk
  go_enter Try.func21, Try.ntmps21
  go_wp2_with fail
  refine ta.out.mono ?_
  rintro e w1 ⟨rfl, rfl⟩
  go_wp2
  go_loopw [36] (fun iv wr => ∃ (i : Nat) (o : List Nat), iv = .int .i64 (i : Int) ∧ i ≤ l.length ∧ ShlAt l o s k i ∧ Hid (o.length = l.length + s + 1) ∧ Lim o ∧ Blk wr w.heap.size o ∧ Below w.heap.size w wr) (fun iv _ => l.length - (intOf iv).toNat)
  case atStart => exact ⟨0, List.replicate (l.length + s + 1) 0, rfl, by omega, ShlAt.zero _ _ _ _, Lib.hid (by simp), ⟨by simp, by simp; omega⟩, Blk.made w _, (Below.refl _ w).alloc (Nat.le_refl _) _⟩
  case round =>
    obtain ⟨i, o, rfl, hi, hS, Ho, hLo, hblk, hB⟩ := hrel
    by_cases hlt : i < l.length
    · obtain ⟨ad, rfl, had, q1⟩ := (h.below hB hP).at_ hlt
      have hol := Ho.out
      obtain ⟨hi', lo, t, p1, p2, p3, p4, p5, p6⟩ := up_parts (h.2.dgLt i) hk
      have hS' := hS.step (by omega) p3 p6
      obtain ⟨y, hy⟩ : ∃ y, dg o (i + s) + lo = y := ⟨_, rfl⟩
      rw [hy] at hS'
      have hyl : y < 18446744073709551616 := by have := hS.2.2; omega
      have hhl : hi' < 18446744073709551616 := by
        have : 2 ^ k ≤ 2 ^ 63 := Nat.pow_le_pow_right (by omega) (by omega)
        omega
      have f1 : IntKind.u64.wrap ((dg l i : Int) * 2 ^ k) = (lo : Int) := by
        rw [← p2]
        simp [IntKind.wrap, IntKind.bits, IntKind.signed]
      have f2 : bits .or .u64 (dg o (i + s) : Int) (lo : Int) = (y : Int) := by
        rw [bits_or_u64_nat _ _ (hLo.dgLt _) (by omega), Nat.or_comm, p4, or_shift _ _ _ hS.2.2, ← p4, ← hy, Nat.add_comm]
      have f3 : (dg l i : Int) / 2 ^ (64 - k) = (hi' : Int) := by rw [← p1]; simp
      have q3 := hblk.cell (i := i + s) (by omega)
      have q4 := hblk.free (i + s)
      have hblk1 := hblk.set (i + s) y
      have q5 := hblk1.cell (i := i + s + 1) (by simp; omega)
      have q6 := hblk1.free (i + s + 1)
      have hblk2 := hblk1.set (i + s + 1) hi'
      have hLo' := (hLo.set (i + s) y hyl).set (i + s + 1) hi' hhl
      have hB2 := (hB.setCell (p := ⟨w.heap.size, i + s, none⟩) (Nat.le_refl _) (.int .u64 (y : Int))).setCell (p := ⟨w.heap.size, i + s + 1, none⟩) (Nat.le_refl _) (.int .u64 (hi' : Int))
      have Ho' : Hid (((o.set (i + s) y).set (i + s + 1) hi').length = l.length + s + 1) := Lib.hid (by simpa using Ho.out)
      have k1 : (i : Int) + (s : Int) + 1 < (l.length : Int) + (s : Int) + 1 := by omega
      clear hS hLo hblk hB hblk1 hol p1 p2 p3 p4 p5 p6 hyl hhl hy
      go_wp2
      go_roundw
      case rel => exact ⟨i + 1, (o.set (i + s) y).set (i + s + 1) hi', by go_num, by omega, hS', Ho', hLo', hblk2, hB2⟩
      case measure => simp [intOf]; omega
    · obtain rfl : i = l.length := by omega
      have hfin := hS.fin
      rw [Hx.out, ← Hnk.out] at hfin
      have hOB : OB wr w.heap.size (some ⟨w.heap.size, 0, none⟩) (l.length + s + 1) o := OB.of_blk hblk (Nat.le_refl _) hLo (by have := Ho.out; omega) (by unfold maxLen; omega)
      have ht := trim_any _ _ _ _ _ hOB.rn
      have hOB' := hOB.trim
      have hpre : digs 18446744073709551616 (val 18446744073709551616 o) = o.take (digs 18446744073709551616 (val 18446744073709551616 o)).length := by
        obtain ⟨n, hn, e⟩ := hLo.trim
        rw [e, List.length_take, Nat.min_eq_left hn]
      rw [hfin, Ho.out] at ht
      rw [hfin] at hOB' hpre
      have Hpre := Lib.hid hpre
      have Hblk := Lib.hid hblk
      have Ht := Lib.hid ht
      have hcc : Hid (l.length + s + 1 ≤ a.length + n / 64 + 1) := Lib.hid (by have := Hla.out; have := Hnk.out; omega)
      clear hblk hLo ht hfin hOB hS hpre
      go_wp2_with fail
      refine Ht.out.mono ?_
      rintro e w1 ⟨rfl, rfl⟩
      go_wp2
      go_ret
      exact ⟨_, _, rfl, hOB', hcc.out, ⟨o, rfl, Hblk.out, Ho.out, Hpre.out⟩, hB⟩

set_option maxRecDepth 100000 in
set_option maxHeartbeats 1000000 in
theorem shr_neg (P : Nat → Prop) (A : Option Addr) (c : Nat) (a : List Nat) (n : Int) (w : World) (h : RN w P A c a) (hn : n < 0) :
    Calls Try.prog 22 #[.slice A a.length c, .int .i64 n] w fun e w' => e = .returned (.slice none 0 0) ∧ w = w' := by
  have Ta := Lib.hid (trim_any P A c a w h)
  go_enter Try.func22, Try.ntmps22
  go_wp2_with fail
  refine Ta.out.mono ?_
  rintro e w1 ⟨rfl, rfl⟩
  go_wp2
  go_ret
  exact ⟨rfl, rfl⟩

set_option maxRecDepth 100000 in
set_option maxHeartbeats 2000000 in
theorem shr_any (P : Nat → Prop) (A : Option Addr) (c : Nat) (a : List Nat) (n : Nat) (w : World) (h : RN w P A c a) (hP : ∀ b, P b → b < w.heap.size) (hl : a.length < 100000) (hn : n ≤ 9223372036854775807) :
    Calls Try.prog 22 #[.slice A a.length c, .int .i64 (n : Int)] w fun e w' => ∃ A1 c1, e = .returned (.slice A1 (digs 18446744073709551616 (val 18446744073709551616 a / 2 ^ n)).length c1) ∧
      OB w' w.heap.size A1 c1 (digs 18446744073709551616 (val 18446744073709551616 a / 2 ^ n)) ∧ Below w.heap.size w w' := by
  have ta := Lib.hid (trim_any P A c a w h)
  have la := digs_length_le (B := 18446744073709551616) (by omega) h.2.1
  replace h := h.trim
  generalize val 18446744073709551616 a = x at *
  have hx := val_digs (B := 18446744073709551616) (by omega) x
  generalize digs 18446744073709551616 x = l at *
  have la' : l.length < 100000 := by omega
  have Hx := Lib.hid hx
  obtain ⟨h1, h2, h3⟩ := h.cap
  obtain ⟨s, k, hk, hnk⟩ : ∃ s k, k < 64 ∧ n = 64 * s + k := ⟨n / 64, n % 64, by omega, by omega⟩
  have e1 : (n : Int) / 64 = (s : Int) := by omega
  have e2 : (n : Int) % 64 = (k : Int) := by omega
  have e4 : IntKind.i64.wrap ((n : Int) / 64) = (s : Int) := by rw [e1]; exact IntWalk.i64_in _ (by omega)
  have hsb : (s : Int) ≤ 144115188075855871 := by omega
  by_cases hs : s < l.length
  · obtain ⟨m, hm⟩ : ∃ m, l.length = m + s := ⟨l.length - s, by omega⟩
    have em : (l.length : Int) - (s : Int) = (m : Int) := by omega
    have hmk := run_make_row' (P := Try.prog) 23 54 (.int .u64 0) 8 Try.underlying23 info64 rfl .i64 .i64 m (by omega) (by omega)
    have hk1 : (k : Int) < 64 := by omega
    have hs' : (s : Int) < (l.length : Int) := by omega
    have hs2 : ¬ (l.length : Int) ≤ (s : Int) := by omega
    have Hnk := Lib.hid hnk
    have Hm := Lib.hid hm
    have hmb : m ≤ 100000 := by omega
    clear hl hx la hnk hn hm hsb hs
    go_enter Try.func22, Try.ntmps22
    go_wp2_with fail
    refine ta.out.mono ?_
    rintro e w1 ⟨rfl, rfl⟩
    go_wp2
    go_loopw [32] (fun iv wr => ∃ (i : Nat) (o : List Nat), iv = .int .i64 (i : Int) ∧ i ≤ m ∧ ShrAt l o s k i ∧ Hid (o.length = m) ∧ Lim o ∧ Blk wr w.heap.size o ∧ Below w.heap.size w wr) (fun iv _ => m - (intOf iv).toNat)
    case atStart => exact ⟨0, List.replicate m 0, rfl, by omega, fun j hj => by omega, Lib.hid (by simp), ⟨by simp, by simp; omega⟩, Blk.made w _, (Below.refl _ w).alloc (Nat.le_refl _) _⟩
    case round =>
      obtain ⟨i, o, rfl, hi, hS, Ho, hLo, hblk, hB⟩ := hrel
      have hol := Ho.out
      have hml := Hm.out
      by_cases hlt : i < m
      · obtain ⟨ad, rfl, had, q1⟩ := (h.below hB hP).at_ (i := i + s) (by omega)
        obtain ⟨t, p1, p2, p3, p4⟩ := shr_digit hk i s rfl h.2.1
        obtain ⟨z, hz⟩ : ∃ z, t * 2 ^ (64 - k) = z := ⟨_, rfl⟩
        obtain ⟨y1, hy1⟩ : ∃ y1, dg l (i + s) / 2 ^ k = y1 := ⟨_, rfl⟩
        obtain ⟨y, hy⟩ : ∃ y, y1 + z = y := ⟨_, rfl⟩
        have hor : (y1 ||| z) = y := by rw [Nat.or_comm, ← hz, or_shift _ _ _ (by rw [← hy1]; exact p2), hz, ← hy, Nat.add_comm]
        rw [hz] at p1 p3 p4
        rw [hy1] at p2 p3 p4
        rw [hy] at p3 p4
        have f1 : (dg l (i + s) : Int) / 2 ^ k = (y1 : Int) := by rw [← hy1]; simp
        have hS' : ShrAt l (o.set i y) s k (i + 1) := fun j hj => by
          rcases Nat.lt_or_ge j i with h | h
          · rw [getD_set_ne (by omega)]; exact hS j h
          · obtain rfl : j = i := by omega
            rw [getD_set_eq (by omega)]; exact p4.symm
        have q3 := hblk.cell (i := i) (by omega)
        have q4 := hblk.free i
        have hblk1 := hblk.set i y1
        have hy1l : y1 < 18446744073709551616 := by omega
        have k1 : (i : Int) + (s : Int) < (l.length : Int) := by omega
        by_cases h2 : i + s + 1 < l.length
        · have hB1 := hB.setCell (p := ⟨w.heap.size, i, none⟩) (Nat.le_refl _) (.int .u64 (y1 : Int))
          have q2 := (h.below hB1 hP).cells (i + s + 1) h2
          rw [add_succ] at q2
          have f2 : IntKind.u64.wrap ((dg l (i + s + 1) : Int) * 2 ^ (64 - k)) = (z : Int) := by
            rw [← p1]
            simp [IntKind.wrap, IntKind.bits, IntKind.signed]
          have hzl : z < 18446744073709551616 := by omega
          have f3 : bits .or .u64 (y1 : Int) (z : Int) = (y : Int) := by rw [bits_or_u64_nat _ _ hy1l hzl, hor]
          have q5 := hblk1.cell (i := i) (by simp; omega)
          rw [getD_set_eq (by omega)] at q5
          have q6 := hblk1.free i
          have hblk2 := hblk1.set i y
          rw [List.set_set] at hblk2
          have hLo' := hLo.set i y p3
          have hB2 := hB1.setCell (p := ⟨w.heap.size, i, none⟩) (Nat.le_refl _) (.int .u64 (y : Int))
          have Ho' : Hid ((o.set i y).length = m) := Lib.hid (by simpa using Ho.out)
          have k2 : (i : Int) + (s : Int) + 1 < (l.length : Int) := by omega
          clear hS hLo hblk hB hblk1 hol p1 p2 p3 p4 hz hy1 hy hor hy1l hzl hml hB1
          go_wp2
          go_region
          all_goals
            go_wp2
            go_roundw
            case rel => exact ⟨i + 1, o.set i y, by go_num, by omega, hS', Ho', hLo', hblk2, below_drewN hB2 1⟩
            case measure => simp [intOf]; omega
        · have hzz : z = 0 := by
            rw [dg_none (by omega : l.length ≤ i + s + 1), Nat.zero_mul, Nat.zero_mod] at p1
            exact p1.symm
          have hyy : y1 = y := by omega
          subst hyy
          have hLo' := hLo.set i y1 p3
          have hB2 := hB.setCell (p := ⟨w.heap.size, i, none⟩) (Nat.le_refl _) (.int .u64 (y1 : Int))
          have Ho' : Hid ((o.set i y1).length = m) := Lib.hid (by simpa using Ho.out)
          have k2 : ¬ (i : Int) + (s : Int) + 1 < (l.length : Int) := by omega
          clear hS hLo hblk hB hol p1 p2 p3 p4 hz hy1 hy hor hy1l hml hzz
          go_wp2
          go_roundw
          case rel => exact ⟨i + 1, o.set i y1, by go_num, by omega, hS', Ho', hLo', hblk1, hB2⟩
          case measure => simp [intOf]; omega
      · obtain rfl : i = m := by omega
        have hfin := ShrAt.fin (by rw [hol]; exact hS) h.2.1 (by rw [hol]; exact hml)
        rw [Hx.out, ← Hnk.out] at hfin
        have hOB : OB wr w.heap.size (some ⟨w.heap.size, 0, none⟩) i o := OB.of_blk hblk (Nat.le_refl _) hLo (by omega) (by unfold maxLen; omega)
        have ht := trim_any _ _ _ _ _ hOB.rn
        have hOB' := hOB.trim
        rw [hfin, hol] at ht
        rw [hfin] at hOB'
        have Ht := Lib.hid ht
        clear hblk hLo ht hfin hOB hS hol hml
        go_wp2_with fail
        refine Ht.out.mono ?_
        rintro e w1 ⟨rfl, rfl⟩
        go_wp2
        go_ret
        exact ⟨_, _, rfl, hOB', hB⟩
  · have hz : x / 2 ^ n = 0 := by
      apply Nat.div_eq_of_lt
      have h4 := val_lt h.2.1
      rw [hx] at h4
      refine Nat.lt_of_lt_of_le h4 ?_
      rw [show (18446744073709551616 : Nat) = 2 ^ 64 by decide, ← Nat.pow_mul]
      exact Nat.pow_le_pow_right (by omega) (by omega)
    rw [hz, digs_zero]
    have hs' : ¬ (s : Int) < (l.length : Int) := by omega
    have hs2 : (l.length : Int) ≤ (s : Int) := by omega
    clear hl hx la hnk hn hz hs
    go_enter Try.func22, Try.ntmps22
    go_wp2_with fail
    refine ta.out.mono ?_
    rintro e w1 ⟨rfl, rfl⟩
    go_wp2
    go_ret
    exact ⟨none, 0, rfl, OB.nil_ _ _, Below.refl _ _⟩
end Go.Proofs.Ytnniellajmjmnaa
