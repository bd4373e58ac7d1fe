/- What limb.FromBytes, the reference's FromBytes, Bits and Bytes compute. -/
import Derived.Test.YtldhmjfjbalakaaGreatOpen
import Derived.Test.YtldhmjfjbalakaaGreatFromN
import Derived.RegionTactic
import Derived.ChangeAlike
namespace Go.Proofs.YtldhmjfjbalakaaGreat
open Go.RowKit

theorem RB.cells {w : World} {P : Nat → Prop} {ad : Addr} {c : Nat} {bs : List Nat} (h : RB w P (some ad) c bs) : ∀ i, i < bs.length → w.cell? (ad.add i) = some (.int .u8 (dg bs i : Int)) := by
  intro i hi
  obtain ⟨ad', e, _, hc, _⟩ := h.at_ hi
  cases e
  rw [dg, getD_eq' hi]
  exact hc
theorem RB.dg {w : World} {P : Nat → Prop} {A : Option Addr} {c : Nat} {bs : List Nat} (h : RB w P A c bs) {i : Nat} (hi : i < bs.length) : ∃ ad, A = some ad ∧ w.cell? (ad.add i) = some (.int .u8 (Go.Proofs.YtldhmjfjbalakaaGreat.dg bs i : Int)) ∧ Go.Proofs.YtldhmjfjbalakaaGreat.dg bs i < 256 := by
  obtain ⟨ad, rfl, _, hc, hb⟩ := h.at_ hi
  refine ⟨ad, rfl, h.cells i hi, ?_⟩
  rw [Go.Proofs.YtldhmjfjbalakaaGreat.dg, getD_eq' hi]
  omega

set_option maxRecDepth 100000 in
set_option maxHeartbeats 2000000 in
theorem fromBytes_any (P : Nat → Prop) (A : Option Addr) (c : Nat) (bs : List Nat) (w : World) (h : RB w P A c bs) (hP : ∀ b, P b → b < w.heap.size) (hl : bs.length ≤ 100000) :
    Calls Tryz.prog 99 #[.slice A bs.length c] w fun e w' => ∃ A1 c1, e = .returned (.slice A1 (digs 18446744073709551616 (numOf bs)).length c1) ∧
      OB w' w.heap.size A1 c1 (digs 18446744073709551616 (numOf bs)) ∧ Below w.heap.size w w' := by
  obtain ⟨h1, h2, h3⟩ := h.cap
  obtain ⟨n, hn⟩ : ∃ n, bs.length = n := ⟨_, rfl⟩
  rw [hn] at h1 h3 hl ⊢
  obtain ⟨N, hN, hN1, hN2⟩ : ∃ N : Nat, ((n : Int) + 7) / 8 = (N : Int) ∧ N ≤ 100000 ∧ n ≤ 8 * N := ⟨(n + 7) / 8, by omega, by omega, by omega⟩
  have hmk := run_make_row' (P := Tryz.prog) 91 90 (.int .u64 0) 8 Tryz.underlying91 info64 rfl .i64 .i64 N (by omega) (by omega)
  have Hn := Lib.hid hn
  clear hn
  go_enter Tryz.func99, Tryz.ntmps99
  go_wp2
  go_loopw [14] (fun iv wr => ∃ (i : Nat) (o : List Nat), iv = .int .i64 (i : Int) ∧ i ≤ n ∧ Hid (o.length = N) ∧ Lim o ∧ val 18446744073709551616 o = 256 ^ (n - i) * numOf (bs.take i) ∧ Blk wr w.heap.size o ∧ Below w.heap.size w wr) (fun iv _ => n - (intOf iv).toNat)
  case atStart => exact ⟨0, List.replicate N 0, rfl, by omega, Lib.hid (by simp), ⟨by simp, by simp; omega⟩, by rw [val_replicate]; simp [numOf], Blk.made w _, (Below.refl _ w).alloc (Nat.le_refl _) _⟩
  case round =>
    obtain ⟨i, o, rfl, hi, Ho, hLo, hv, hblk, hB⟩ := hrel
    by_cases hlt : i < n
    · obtain ⟨ad, rfl, q1, hc⟩ := (h.below hB hP).dg (i := i) (by rw [Hn.out]; exact hlt)
      obtain ⟨k, q, r, hk, hr, hkq⟩ : ∃ k q r, k = n - 1 - i ∧ r < 8 ∧ k = 8 * q + r := ⟨n - 1 - i, (n - 1 - i) / 8, (n - 1 - i) % 8, rfl, by omega, by omega⟩
      have hqo : q < o.length := by have := Ho.out; omega
      obtain ⟨s1, s2, s3, s4⟩ := from_step (m := 64) (j := r * 8) (q := q) (k := k) hLo.1 hqo (by omega) (by omega) hc (by rw [show n - i = k + 1 by omega] at hv; exact hv)
      rw [← numOf_snoc, ← take_succ_dg (by rw [Hn.out]; exact hlt), show k = n - (i + 1) by omega] at s4
      obtain ⟨z, hz⟩ : ∃ z, dg bs i * 2 ^ (r * 8) = z := ⟨_, rfl⟩
      rw [hz] at s1 s2 s3 s4
      obtain ⟨y, hy⟩ : ∃ y, dg o q + z = y := ⟨_, rfl⟩
      rw [hy] at s2 s3 s4
      have e1 : (n : Int) - 1 - (i : Int) = (k : Int) := by omega
      have e2 : (k : Int) / 8 = (q : Int) := by omega
      have e3 : (k : Int) % 8 = (r : Int) := by omega
      have e4 : IntKind.u64.wrap ((dg bs i : Int) * 2 ^ (r * 8)) = (z : Int) := by
        rw [show (dg bs i : Int) * 2 ^ (r * 8) = (z : Int) by rw [← hz]; simp]
        exact IntWalk.u64_in _ (by omega)
      have e5 : bits .or .u64 (dg o q : Int) (z : Int) = (y : Int) := by
        rw [bits_or_u64_nat _ _ (hLo.dgLt q) s1, s3]
      have q3 := hblk.cell hqo
      have q4 := hblk.free q
      have hblk' := hblk.set q y
      have hLo' := hLo.set q y s2
      have hB' := hB.setCell (p := ⟨w.heap.size, q, none⟩) (Nat.le_refl _) (.int .u64 (y : Int))
      have Ho' : Hid ((o.set q y).length = N) := Lib.hid (by rw [List.length_set]; exact Ho.out)
      have k1 : (q : Int) < (N : Int) := by have := Ho.out; omega
      have k2 : (r : Int) < 8 := by omega
      have k3 : (dg bs i : Int) < 256 := by omega
      have S4 := Lib.hid s4
      clear s4 s3 s2 s1 hz hy hk hkq hqo hblk hLo hB hv hc
      go_wp2_with fail
      go_region
      go_wp2
      go_roundw
      case rel => exact ⟨i + 1, o.set q y, by go_num, by omega, Ho', hLo', S4.out, hblk', below_drewN hB' 1⟩
      case measure => simp [intOf]; omega
    · obtain rfl : i = n := by omega
      rw [Nat.sub_self, Nat.pow_zero, Nat.one_mul, List.take_of_length_le (by rw [Hn.out]; omega)] at hv
      have hOB : OB wr w.heap.size (some ⟨w.heap.size, 0, none⟩) N o := OB.of_blk hblk (Nat.le_refl _) hLo (by have := Ho.out; omega) (by unfold maxLen; omega)
      have ht := trim_any _ _ _ _ _ hOB.rn
      have hOB' := hOB.trim
      rw [hv, Ho.out] at ht
      rw [hv] at hOB'
      have Ht := Lib.hid ht
      clear hblk hLo ht hv hOB
      go_wp2_with fail
      refine Ht.out.mono ?_
      rintro e w1 ⟨rfl, rfl⟩
      go_wp2
      go_ret
      exact ⟨_, _, rfl, hOB', hB⟩

set_option maxRecDepth 100000 in
set_option maxHeartbeats 2000000 in
theorem refFromBytes_any (P : Nat → Prop) (A : Option Addr) (c : Nat) (bs : List Nat) (w : World) (h : RB w P A c bs) (hP : ∀ b, P b → b < w.heap.size) (hl : bs.length ≤ 100000) :
    Calls Tryz.prog 62 #[.slice A bs.length c] w fun e w' => ∃ A1 c1, e = .returned (.slice A1 (digs 4294967296 (numOf bs)).length c1) ∧
      OB w' w.heap.size A1 c1 (digs 4294967296 (numOf bs)) ∧ Below w.heap.size w w' := by
  obtain ⟨h1, h2, h3⟩ := h.cap
  obtain ⟨n, hn⟩ : ∃ n, bs.length = n := ⟨_, rfl⟩
  rw [hn] at h1 h3 hl ⊢
  obtain ⟨N, hN, hN1, hN2⟩ : ∃ N : Nat, ((n : Int) + 3) / 4 = (N : Int) ∧ N ≤ 100000 ∧ n ≤ 4 * N := ⟨(n + 3) / 4, by omega, by omega, by omega⟩
  have hmk := run_make_row' (P := Tryz.prog) 47 90 (.int .u64 0) 8 Tryz.underlying47 info64 rfl .i64 .i64 N (by omega) (by omega)
  have Hn := Lib.hid hn
  clear hn
  go_enter Tryz.func62, Tryz.ntmps62
  go_wp2
  go_loopw [4] (fun iv wr => ∃ (i : Nat) (o : List Nat), iv = .int .i64 (i : Int) ∧ i ≤ n ∧ Hid (o.length = N) ∧ Dig o ∧ val 4294967296 o = 256 ^ (n - i) * numOf (bs.take i) ∧ Blk wr w.heap.size o ∧ Below w.heap.size w wr) (fun iv _ => n - (intOf iv).toNat)
  case atStart => exact ⟨0, List.replicate N 0, rfl, by omega, Lib.hid (by simp), (by intro x hx; simp at hx; omega), by rw [val_replicate]; simp [numOf], Blk.made w _, (Below.refl _ w).alloc (Nat.le_refl _) _⟩
  case round =>
    obtain ⟨i, o, rfl, hi, Ho, hD, hv, hblk, hB⟩ := hrel
    by_cases hlt : i < n
    · obtain ⟨ad, rfl, q1, hc⟩ := (h.below hB hP).dg (i := i) (by rw [Hn.out]; exact hlt)
      obtain ⟨k, q, r, hk, hr, hkq⟩ : ∃ k q r, k = n - 1 - i ∧ r < 4 ∧ k = 4 * q + r := ⟨n - 1 - i, (n - 1 - i) / 4, (n - 1 - i) % 4, rfl, by omega, by omega⟩
      have hqo : q < o.length := by have := Ho.out; omega
      obtain ⟨s1, s2, s3, s4⟩ := from_step (m := 32) (j := 8 * r) (q := q) (k := k) hD hqo (by omega) (by omega) hc (by rw [show n - i = k + 1 by omega] at hv; exact hv)
      rw [← numOf_snoc, ← take_succ_dg (by rw [Hn.out]; exact hlt), show k = n - (i + 1) by omega] at s4
      obtain ⟨z, hz⟩ : ∃ z, dg bs i * 2 ^ (8 * r) = z := ⟨_, rfl⟩
      rw [hz] at s1 s2 s3 s4
      obtain ⟨y, hy⟩ : ∃ y, dg o q + z = y := ⟨_, rfl⟩
      rw [hy] at s2 s3 s4
      have e1 : (n : Int) - 1 - (i : Int) = (k : Int) := by omega
      have e2 : (k : Int) / 4 = (q : Int) := by omega
      have e3 : (k : Int) % 4 = (r : Int) := by omega
      have e4 : IntKind.u64.wrap ((dg bs i : Int) * 2 ^ (8 * r)) = (z : Int) := by
        rw [show (dg bs i : Int) * 2 ^ (8 * r) = (z : Int) by rw [← hz]; simp]
        exact IntWalk.u64_in _ (by omega)
      have e5 : (dg o q : Int) + (z : Int) = (y : Int) := by omega
      have b1 := hD.dgLt q
      have q3 := hblk.cell hqo
      have q4 := hblk.free q
      have hblk' := hblk.set q y
      have hD' := hD.set q y s2
      have hB' := hB.setCell (p := ⟨w.heap.size, q, none⟩) (Nat.le_refl _) (.int .u64 (y : Int))
      have Ho' : Hid ((o.set q y).length = N) := Lib.hid (by rw [List.length_set]; exact Ho.out)
      have k1 : (q : Int) < (N : Int) := by have := Ho.out; omega
      have k2 : (r : Int) < 4 := by omega
      have k3 : (dg bs i : Int) < 256 := by omega
      have S4 := Lib.hid s4
      clear s4 s3 s2 hz hy hk hkq hqo hblk hD hB hv hc
      go_wp2_with fail
      go_region
      go_wp2
      go_roundw
      case rel => exact ⟨i + 1, o.set q y, by go_num, by omega, Ho', hD', S4.out, hblk', below_drewN hB' 1⟩
      case measure => simp [intOf]; omega
    · obtain rfl : i = n := by omega
      rw [Nat.sub_self, Nat.pow_zero, Nat.one_mul, List.take_of_length_le (by rw [Hn.out]; omega)] at hv
      have hLo : Lim o := ⟨fun z hz => by have := hD z hz; omega, by rw [Ho.out]; omega⟩
      have hOB : OB wr w.heap.size (some ⟨w.heap.size, 0, none⟩) N o := OB.of_blk hblk (Nat.le_refl _) hLo (by have := Ho.out; omega) (by unfold maxLen; omega)
      have ht := refTrim_any _ _ _ _ _ hOB.rn hD
      have hOB' := hOB.trim32 hD
      rw [hv, Ho.out] at ht
      rw [hv] at hOB'
      have Ht := Lib.hid ht
      clear hblk hLo ht hv hOB
      go_wp2_with fail
      refine Ht.out.mono ?_
      rintro e w1 ⟨rfl, rfl⟩
      go_wp2
      go_ret
      exact ⟨_, _, rfl, hOB', hB⟩
end Go.Proofs.YtldhmjfjbalakaaGreat
