/- What the reference's Add and Sub compute. -/
import Derived.Test.YtldhmjfjbalakaaGreatIs
namespace Go.Proofs.YtldhmjfjbalakaaGreat
open Go.RowKit

theorem RN.dig {w : World} {P : Nat → Prop} {A : Option Addr} {c x : Nat} (_ : RN w P A c (digs 4294967296 x)) : Dig (digs 4294967296 x) := Dig.digs x

set_option maxRecDepth 100000 in
set_option maxHeartbeats 2000000 in
theorem refAdd_any (P P' : Nat → Prop) (A A' : Option Addr) (c c' : Nat) (x y : Nat) (w : World) (h : RN w P A c (digs 4294967296 x)) (h' : RN w P' A' c' (digs 4294967296 y)) (hP : ∀ b, P b → b < w.heap.size) (hP' : ∀ b, P' b → b < w.heap.size)
    (hl : (digs 4294967296 x).length < 100000) (hl' : (digs 4294967296 y).length < 100000) :
    Calls Tryz.prog 89 #[.slice A (digs 4294967296 x).length c, .slice A' (digs 4294967296 y).length c'] w fun e w' => ∃ A1 c1, e = .returned (.slice A1 (digs 4294967296 (x + y)).length c1) ∧
      OB w' w.heap.size A1 c1 (digs 4294967296 (x + y)) ∧ Below w.heap.size w w' := by
  have hx := val_digs (B := 4294967296) (by omega) x
  have hy := val_digs (B := 4294967296) (by omega) y
  have dx := Dig.digs x
  have dy := Dig.digs y
  generalize digs 4294967296 x = l at *
  generalize digs 4294967296 y = m at *
  have Hx := Lib.hid hx
  have Hy := Lib.hid hy
  clear hx hy
  obtain ⟨h1, h2, h3⟩ := h.cap
  obtain ⟨g1, g2, g3⟩ := h'.cap
  go_enter Tryz.func89, Tryz.ntmps89
  go_upto_if 14 with fail
  go_cut [5] (fun s5 wx => ∃ n : Nat, s5 = .int .i64 (n : Int) ∧ l.length ≤ n ∧ m.length ≤ n ∧ n < 100000 ∧ w = wx)
  case first =>
    by_cases hs : l.length < m.length
    · go_wp2_with fail
      go_meet
      case rel => exact ⟨m.length, rfl, by omega, by omega, by omega, rfl⟩
    · go_wp2_with fail
      go_meet
      case rel => exact ⟨l.length, rfl, by omega, by omega, by omega, rfl⟩
  case rest =>
    obtain ⟨n, rfl, hln, hmn, hn, rfl⟩ := hcut
    have hmk := run_make_row' (P := Tryz.prog) 47 90 (.int .u64 0) 8 Tryz.underlying47 info64 rfl .i64 .i64 (n + 1) (by omega) (by omega)
    simp only [Int.natCast_add, Int.cast_ofNat_Int] at hmk
    go_wp2
    go_loopw [7, 8] (fun cv iv wr => ∃ (k cr : Nat) (o : List Nat), iv = .int .i64 (k : Int) ∧ cv = .int .u64 (cr : Int) ∧ k ≤ n + 1 ∧ (k ≤ n → cr ≤ 1) ∧ (k = n + 1 → cr = 0) ∧ AddAt 4294967296 l m o k cr ∧ Hid (o.length = n + 1) ∧ Dig o ∧ Blk wr w.heap.size o ∧ Below w.heap.size w wr) (fun _ iv _ => n + 1 - (intOf iv).toNat)
    case atStart => exact ⟨0, 0, List.replicate (n + 1) 0, rfl, rfl, by omega, by omega, by omega, AddAt.zero _ _ _ _, Lib.hid (by simp), by intro x hx; simp at hx; omega, Blk.made w _, (Below.refl _ w).alloc (Nat.le_refl _) _⟩
    case round =>
      obtain ⟨k, cr, o, rfl, rfl, hk, hcr, hcr0, hA, Ho, hD, hblk, hB⟩ := hrel
      by_cases hlt : k ≤ n
      · have hok : k < o.length := by have := Ho.out; omega
        have q3 := hblk.cell hok
        have q4 := hblk.free k
        have hcr1 := hcr hlt
        have b1 := dx.dgLt k
        have b2 := dy.dgLt k
        obtain ⟨s, cr', hs, hcr', he, hend⟩ : ∃ s c' : Nat, s < 4294967296 ∧ c' ≤ 1 ∧ s + 4294967296 * c' = dg l k + dg m k + cr ∧ (k = n → c' = 0) := by
          refine ⟨(dg l k + dg m k + cr) % 4294967296, (dg l k + dg m k + cr) / 4294967296, by omega, by omega, by omega, fun e => ?_⟩
          rw [dg_none (by omega : l.length ≤ k), dg_none (by omega : m.length ≤ k)]
          omega
        have hA' := hA.step hok he
        have hblk' := hblk.set k s
        have hD' := hD.set k s hs
        have hB' := hB.setCell (p := ⟨w.heap.size, k, none⟩) (Nat.le_refl _) (.int .u64 (s : Int))
        have Ho' : Hid ((o.set k s).length = n + 1) := Lib.hid (by rw [List.length_set]; exact Ho.out)
        have k1 : (k : Int) < (n : Int) + 1 := by omega
        by_cases hm1 : k < l.length
        · obtain ⟨ad, rfl, had, q1⟩ := (h.below hB hP).at_ hm1
          by_cases hm2 : k < m.length
          · obtain ⟨ae, rfl, hae, q2⟩ := (h'.below hB hP').at_ hm2
            have e1 : ((cr : Int) + (dg l k : Int) + (dg m k : Int)) % 4294967296 = (s : Int) := by omega
            have e2 : ((cr : Int) + (dg l k : Int) + (dg m k : Int)) / 4294967296 = (cr' : Int) := by omega
            clear he hA hblk hD hB hok hcr
            go_wp2
            go_roundw
            case rel => exact ⟨k + 1, cr', o.set k s, by go_num, (by first | rfl | exact congrArg (Value.int .u64) e2), by omega, fun _ => hcr', fun e => hend (by omega), hA', Ho', hD', hblk', hB'⟩
            case measure => simp [intOf]; omega
          · have e0 : dg m k = 0 := dg_none (by omega)
            have e1 : ((cr : Int) + (dg l k : Int)) % 4294967296 = (s : Int) := by omega
            have e2 : ((cr : Int) + (dg l k : Int)) / 4294967296 = (cr' : Int) := by omega
            clear he hA hblk hD hB hok hcr e0
            go_wp2
            go_roundw
            case rel => exact ⟨k + 1, cr', o.set k s, by go_num, (by first | rfl | exact congrArg (Value.int .u64) e2), by omega, fun _ => hcr', fun e => hend (by omega), hA', Ho', hD', hblk', hB'⟩
            case measure => simp [intOf]; omega
        · by_cases hm2 : k < m.length
          · obtain ⟨ae, rfl, hae, q2⟩ := (h'.below hB hP').at_ hm2
            have e0 : dg l k = 0 := dg_none (by omega)
            have e1 : ((cr : Int) + (dg m k : Int)) % 4294967296 = (s : Int) := by omega
            have e2 : ((cr : Int) + (dg m k : Int)) / 4294967296 = (cr' : Int) := by omega
            clear he hA hblk hD hB hok hcr e0
            go_wp2
            go_roundw
            case rel => exact ⟨k + 1, cr', o.set k s, by go_num, (by first | rfl | exact congrArg (Value.int .u64) e2), by omega, fun _ => hcr', fun e => hend (by omega), hA', Ho', hD', hblk', hB'⟩
            case measure => simp [intOf]; omega
          · have e0 : dg l k = 0 := dg_none (by omega)
            have e00 : dg m k = 0 := dg_none (by omega)
            have e1 : ((cr : Int)) % 4294967296 = (s : Int) := by omega
            have e2 : ((cr : Int)) / 4294967296 = (cr' : Int) := by omega
            clear he hA hblk hD hB hok hcr e0 e00
            go_wp2
            go_roundw
            case rel => exact ⟨k + 1, cr', o.set k s, by go_num, (by first | rfl | exact congrArg (Value.int .u64) e2), by omega, fun _ => hcr', fun e => hend (by omega), hA', Ho', hD', hblk', hB'⟩
            case measure => simp [intOf]; omega
      · obtain rfl : k = n + 1 := by omega
        have hcr1 := hcr0 rfl
        subst hcr1
        have hfin : val 4294967296 o = x + y := by
          have := hA
          unfold AddAt at this
          rwa [List.take_of_length_le (by rw [Ho.out]; omega), List.take_of_length_le (by omega), List.take_of_length_le (by omega), Hx.out, Hy.out, Nat.mul_zero, Nat.add_zero] at this
        have hLo : Lim o := ⟨fun z hz => by have := hD z hz; omega, by rw [Ho.out]; omega⟩
        have hOB : OB wr w.heap.size (some ⟨w.heap.size, 0, none⟩) (n + 1) o := OB.of_blk hblk (Nat.le_refl _) hLo (by have := Ho.out; omega) (by unfold maxLen; omega)
        have ht := refTrim_any _ _ _ _ _ hOB.rn hD
        have hOB' := hOB.trim32 hD
        rw [hfin, Ho.out] at ht
        rw [hfin] at hOB'
        have Ht := Lib.hid ht
        clear hblk hLo ht hfin hOB hA hcr hcr0
        go_wp2_with fail
        refine Ht.out.mono ?_
        rintro e w1 ⟨rfl, rfl⟩
        go_wp2
        go_ret
        exact ⟨_, _, rfl, hOB', hB⟩
end Go.Proofs.YtldhmjfjbalakaaGreat
