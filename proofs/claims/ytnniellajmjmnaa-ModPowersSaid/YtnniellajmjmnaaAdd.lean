/- What limb.Add and limb.Sub compute. -/
import Derived.Test.YtnniellajmjmnaaCmp
namespace Go.Proofs.Ytnniellajmjmnaa
open Go.RowKit

theorem add64_at (x y c s c' : Nat) (hc : c ≤ 1) (hs : s < 18446744073709551616) (he : s + 18446744073709551616 * c' = x + y + c) (w : World) :
    (callFunc 74 #[.int .u64 (x : Int), .int .u64 (y : Int), .int .u64 (c : Int)]).run Try.prog w = .ok (.value (.tuple #[.int .u64 (s : Int), .int .u64 (c' : Int)])) w := by
  rw [Try.add64_run x y c hc w, show (x + y + c) % 18446744073709551616 = s by omega, show (x + y + c) / 18446744073709551616 = c' by omega]
theorem sub64_at (x y c s c' : Nat) (hc : c ≤ 1) (hx : x < 18446744073709551616) (hy : y < 18446744073709551616) (hs : s < 18446744073709551616) (he : s + y + c = x + 18446744073709551616 * c') (hc' : c' ≤ 1) (w : World) :
    (callFunc 75 #[.int .u64 (x : Int), .int .u64 (y : Int), .int .u64 (c : Int)]).run Try.prog w = .ok (.value (.tuple #[.int .u64 (s : Int), .int .u64 (c' : Int)])) w := by
  rw [Try.sub64_run x y c hc w, show (x + 18446744073709551616 - y - c) % 18446744073709551616 = s by omega, show (if x < y + c then 1 else 0 : Nat) = c' by split <;> omega]
theorem carry_of (x y c : Nat) (hx : x < 18446744073709551616) (hy : y < 18446744073709551616) (hc : c ≤ 1) : ∃ s c', s < 18446744073709551616 ∧ c' ≤ 1 ∧ s + 18446744073709551616 * c' = x + y + c :=
  ⟨(x + y + c) % 18446744073709551616, (x + y + c) / 18446744073709551616, by omega, by omega, by omega⟩
theorem borrow_of (x y c : Nat) (hx : x < 18446744073709551616) (hy : y < 18446744073709551616) (hc : c ≤ 1) : ∃ s c', s < 18446744073709551616 ∧ c' ≤ 1 ∧ s + y + c = x + 18446744073709551616 * c' := by
  by_cases h : y + c ≤ x
  · exact ⟨x - y - c, 0, by omega, by omega, by omega⟩
  · exact ⟨x + 18446744073709551616 - y - c, 1, by omega, by omega, by omega⟩
theorem dg_none {l : List Nat} {k : Nat} (h : l.length ≤ k) : dg l k = 0 := by
  rw [dg, List.getD_eq_getElem?_getD, List.getElem?_eq_none h]; rfl

set_option maxRecDepth 100000 in
set_option maxHeartbeats 1000000 in
theorem add_any (P P' : Nat → Prop) (A A' : Option Addr) (c c' : Nat) (a b : List Nat) (w : World) (h : RN w P A c a) (h' : RN w P' A' c' b) (hP : ∀ b, P b → b < w.heap.size) (hP' : ∀ b, P' b → b < w.heap.size) (hl : a.length < 100000) (hl' : b.length < 100000) :
    Calls Try.prog 35 #[.slice A a.length c, .slice A' b.length c'] w fun e w' => ∃ A1 c1, e = .returned (.slice A1 (digs 18446744073709551616 (val 18446744073709551616 a + val 18446744073709551616 b)).length c1) ∧
      OB w' w.heap.size A1 c1 (digs 18446744073709551616 (val 18446744073709551616 a + val 18446744073709551616 b)) ∧ Below w.heap.size w w' := by
  have ta := Lib.hid (trim_any P A c a w h)
  have tb := Lib.hid (trim_any P' A' c' b w h')
  have la := digs_length_le (B := 18446744073709551616) (by omega) h.2.1
  have lb := digs_length_le (B := 18446744073709551616) (by omega) h'.2.1
  replace h := h.trim
  replace h' := h'.trim
  generalize val 18446744073709551616 a = x at *
  generalize val 18446744073709551616 b = y at *
  have hx := val_digs (B := 18446744073709551616) (by omega) x
  have hy := val_digs (B := 18446744073709551616) (by omega) y
  generalize digs 18446744073709551616 x = l at *
  generalize digs 18446744073709551616 y = m at *
  have la' : l.length < 100000 := by omega
  have lb' : m.length < 100000 := by omega
  clear la lb hl hl'
  have Hx := Lib.hid hx
  have Hy := Lib.hid hy
  clear hx hy
  go_enter Try.func35, Try.ntmps35
  go_wp2_with fail
  refine ta.out.mono ?_
  rintro e w1 ⟨rfl, rfl⟩
  go_wp2_with fail
  refine tb.out.mono ?_
  rintro e w1 ⟨rfl, rfl⟩
  go_upto_if 17 with fail
  go_cut [0, 1] (fun s0 s1 wx => ∃ (A c : _) (l : List Nat) (A' c' : _) (m : List Nat), s0 = .slice A l.length c ∧ s1 = .slice A' m.length c' ∧ m.length ≤ l.length ∧ l.length < 100000 ∧
    RN w (fun b => b < w.heap.size) A c l ∧ RN w (fun b => b < w.heap.size) A' c' m ∧ Hid (val 18446744073709551616 l + val 18446744073709551616 m = x + y) ∧ w = wx)
  case first =>
    by_cases hs : l.length < m.length
    · go_wp2_with fail
      go_meet
      case rel => exact ⟨A', c', m, A, c, l, rfl, rfl, by omega, by omega, h'.mono hP', h.mono hP, Lib.hid (by rw [Hx.out, Hy.out, Nat.add_comm]), rfl⟩
    · go_wp2_with fail
      go_meet
      case rel => exact ⟨A, c, l, A', c', m, rfl, rfl, by omega, by omega, h.mono hP, h'.mono hP', Lib.hid (by rw [Hx.out, Hy.out]), rfl⟩
  case rest =>
    clear ta tb h h' hP hP' Hx Hy la' lb'
    clear A A' c c' l m
    obtain ⟨A, c, l, A', c', m, rfl, rfl, hle, hlen, h, h', Hv, rfl⟩ := hcut
    obtain ⟨h1, h2, h3⟩ := h.cap
    obtain ⟨g1, g2, g3⟩ := h'.cap
    have hmk := run_make_row' (P := Try.prog) 23 54 (.int .u64 0) 8 Try.underlying23 info64 rfl .i64 .i64 (l.length + 1) (by omega) (by omega)
    simp only [Int.natCast_add, Int.cast_ofNat_Int] at hmk
    go_wp2
    go_loopw [6, 26] (fun cv iv wr => ∃ (k cr : Nat) (o : List Nat), iv = .int .i64 (k : Int) ∧ cv = .int .u64 (cr : Int) ∧ k ≤ l.length ∧ cr ≤ 1 ∧ AddAt 18446744073709551616 l m o k cr ∧ Hid (o.length = l.length + 1) ∧ Lim o ∧ Blk wr w.heap.size o ∧ Below w.heap.size w wr) (fun _ iv _ => l.length - (intOf iv).toNat)
    case atStart => exact ⟨0, 0, List.replicate (l.length + 1) 0, rfl, rfl, by omega, by omega, AddAt.zero _ _ _ _, Lib.hid (by simp), ⟨by simp, by simp; omega⟩, Blk.made w _, (Below.refl _ w).alloc (Nat.le_refl _) _⟩
    case round =>
      obtain ⟨k, cr, o, rfl, rfl, hk, hcr, hA, Ho, hLo, hblk, hB⟩ := hrel
      by_cases hlt : k < l.length
      · obtain ⟨ad, rfl, _, q1⟩ := (h.below hB (fun b hb => hb)).at_ hlt
        obtain ⟨s, cr', hs, hcr', he⟩ := carry_of (dg l k) (dg m k) cr (h.2.dgLt k) (h'.2.dgLt k) hcr
        have hok : k < o.length := by have := Ho.out; omega
        have q3 := hblk.cell hok
        have q4 := hblk.free k
        have hA' := hA.step hok he
        have hblk' := hblk.set k s
        have hLo' := hLo.set k s hs
        have hB' := hB.setCell (p := ⟨w.heap.size, k, none⟩) (Nat.le_refl _) (.int .u64 (s : Int))
        have Ho' : Hid ((o.set k s).length = l.length + 1) := Lib.hid (by rw [List.length_set]; exact Ho.out)
        by_cases hm : k < m.length
        · obtain ⟨ae, rfl, _, q2⟩ := (h'.below hB (fun b hb => hb)).at_ hm
          have hadd := fun w => add64_at (dg l k) (dg m k) cr s cr' hcr hs he w
          clear he hA hblk hLo hB
          go_wp2
          go_roundw
          case rel => exact ⟨k + 1, cr', o.set k s, by go_num, rfl, by omega, hcr', hA', Ho', hLo', hblk', hB'⟩
          case measure => simp [intOf]; omega
        · have hadd := fun w => add64_at (dg l k) 0 cr s cr' hcr hs (by rw [dg_none (by omega : m.length ≤ k)] at he; exact he) w
          simp only [Int.cast_ofNat_Int] at hadd
          clear he hA hblk hLo hB
          go_wp2
          go_roundw
          case rel => exact ⟨k + 1, cr', o.set k s, by go_num, rfl, by omega, hcr', hA', Ho', hLo', hblk', hB'⟩
          case measure => simp [intOf]; omega
      · obtain rfl : k = l.length := by omega
        have hfin := hA.fin (by rw [Ho.out]) (Nat.le_refl _) hle
        rw [Hv.out] at hfin
        have q4 := hblk.free l.length
        have q3 := hblk.cell (i := l.length) (by have := Ho.out; omega)
        have hblk' := hblk.set l.length cr
        have hLo' := hLo.set l.length cr (by omega)
        have hB' := hB.setCell (p := ⟨w.heap.size, l.length, none⟩) (Nat.le_refl _) (.int .u64 (cr : Int))
        have Ho' : Hid ((o.set l.length cr).length = l.length + 1) := Lib.hid (by rw [List.length_set]; exact Ho.out)
        obtain ⟨o', ho'⟩ : ∃ o', o.set l.length cr = o' := ⟨_, rfl⟩
        rw [ho'] at hfin hblk' hLo' Ho'
        have hOB : OB (wr.setCell ⟨w.heap.size, l.length, none⟩ (.int .u64 (cr : Int))) w.heap.size (some ⟨w.heap.size, 0, none⟩) (l.length + 1) o' := OB.of_blk hblk' (Nat.le_refl _) hLo' (by have := Ho'.out; omega) (by unfold maxLen; omega)
        have ht := trim_any _ _ _ _ _ hOB.rn
        have hOB' := hOB.trim
        rw [hfin, Ho'.out] at ht
        rw [hfin] at hOB'
        have Ht := Lib.hid ht
        clear hA hblk hLo hB ht hfin hOB hblk' hLo' ho'
        go_wp2_with fail
        refine Ht.out.mono ?_
        rintro e w1 ⟨rfl, rfl⟩
        go_wp2
        go_ret
        exact ⟨_, _, rfl, hOB', hB'⟩

set_option maxRecDepth 100000 in
set_option maxHeartbeats 1000000 in
theorem sub_no (P P' : Nat → Prop) (A A' : Option Addr) (c c' : Nat) (a b : List Nat) (w : World) (h : RN w P A c a) (h' : RN w P' A' c' b) (hlt : val 18446744073709551616 a < val 18446744073709551616 b) :
    Calls Try.prog 38 #[.slice A a.length c, .slice A' b.length c'] w fun e w' => e = .returned (.tuple #[.slice none 0 0, .bool false]) ∧ ∃ n, w' = w.drewN n := by
  have ta := Lib.hid (trim_any P A c a w h)
  have tb := Lib.hid (trim_any P' A' c' b w h')
  have tc := cmp_any P P' A A' c c' _ _ w h.trim h'.trim
  rw [val_digs (by omega), val_digs (by omega), cmpV_lt hlt] at tc
  have Tc := Lib.hid tc
  clear tc h h' hlt
  go_enter Try.func38, Try.ntmps38
  go_wp2_with fail
  refine ta.out.mono ?_
  rintro e w1 ⟨rfl, rfl⟩
  go_wp2_with fail
  refine tb.out.mono ?_
  rintro e w1 ⟨rfl, rfl⟩
  go_wp2_with fail
  refine Tc.out.mono ?_
  rintro e w1 ⟨rfl, n, rfl⟩
  go_wp2
  go_ret2
  exact ⟨rfl, n, rfl⟩

set_option maxRecDepth 100000 in
set_option maxHeartbeats 1000000 in
theorem sub_yes (P P' : Nat → Prop) (A A' : Option Addr) (c c' : Nat) (a b : List Nat) (w : World) (h : RN w P A c a) (h' : RN w P' A' c' b) (hP : ∀ b, P b → b < w.heap.size) (hP' : ∀ b, P' b → b < w.heap.size) (hl : a.length < 100000)
    (hge : val 18446744073709551616 b ≤ val 18446744073709551616 a) :
    Calls Try.prog 38 #[.slice A a.length c, .slice A' b.length c'] w fun e w' => ∃ A1 c1, e = .returned (.tuple #[.slice A1 (digs 18446744073709551616 (val 18446744073709551616 a - val 18446744073709551616 b)).length c1, .bool true]) ∧
      OB w' w.heap.size A1 c1 (digs 18446744073709551616 (val 18446744073709551616 a - val 18446744073709551616 b)) ∧ Below w.heap.size w w' := by
  have ta := Lib.hid (trim_any P A c a w h)
  have tb := Lib.hid (trim_any P' A' c' b w h')
  have tc := cmp_any P P' A A' c c' _ _ w h.trim h'.trim
  rw [val_digs (by omega), val_digs (by omega)] at tc
  have la := digs_length_le (B := 18446744073709551616) (by omega) h.2.1
  have hml := digs_length_mono (B := 18446744073709551616) (by omega) hge
  replace h := h.trim
  replace h' := h'.trim
  generalize val 18446744073709551616 a = x at *
  generalize val 18446744073709551616 b = y at *
  have hx := val_digs (B := 18446744073709551616) (by omega) x
  have hy := val_digs (B := 18446744073709551616) (by omega) y
  generalize digs 18446744073709551616 x = l at *
  generalize digs 18446744073709551616 y = m at *
  have hlen : l.length < 100000 := by omega
  clear la hl
  have hge' : val 18446744073709551616 m ≤ val 18446744073709551616 l := by rw [hx, hy]; exact hge
  have Hv := Lib.hid (show val 18446744073709551616 l - val 18446744073709551616 m = x - y by rw [hx, hy])
  have hcv : 0 ≤ cmpV x y := by rcases cmpV_cases x y with h | h | h <;> omega
  generalize cmpV x y = v at tc hcv
  have Tc := Lib.hid tc
  have Hge := Lib.hid hge'
  clear hx hy tc hge hge'
  obtain ⟨h1, h2, h3⟩ := h.cap
  obtain ⟨g1, g2, g3⟩ := h'.cap
  go_enter Try.func38, Try.ntmps38
  go_wp2_with fail
  refine ta.out.mono ?_
  rintro e w1 ⟨rfl, rfl⟩
  go_wp2_with fail
  refine tb.out.mono ?_
  rintro e w1 ⟨rfl, rfl⟩
  go_wp2_with fail
  refine Tc.out.mono ?_
  rintro e w1 ⟨rfl, n, rfl⟩
  have hmk := run_make_row' (P := Try.prog) 23 54 (.int .u64 0) 8 Try.underlying23 info64 rfl .i64 .i64 l.length (by omega) (by omega)
  go_wp2
  go_loopw [7, 23] (fun cv iv wr => ∃ (k cr : Nat) (o : List Nat), iv = .int .i64 (k : Int) ∧ cv = .int .u64 (cr : Int) ∧ k ≤ l.length ∧ cr ≤ 1 ∧ SubAt 18446744073709551616 l m o k cr ∧ Hid (o.length = l.length) ∧ Lim o ∧ Blk wr w.heap.size o ∧ Below w.heap.size w wr) (fun _ iv _ => l.length - (intOf iv).toNat)
  case atStart => exact ⟨0, 0, List.replicate l.length 0, rfl, rfl, by omega, by omega, SubAt.zero _ _ _ _, Lib.hid (by simp), ⟨by simp, by simp; omega⟩, Blk.made (w.drewN n) _, (below_drewN (Below.refl _ w) n).alloc (Nat.le_refl _) _⟩
  case round =>
    obtain ⟨k, cr, o, rfl, rfl, hk, hcr, hA, Ho, hLo, hblk, hB⟩ := hrel
    by_cases hlt : k < l.length
    · obtain ⟨ad, rfl, _, q1⟩ := (h.below hB hP).at_ hlt
      obtain ⟨s, cr', hs, hcr', he⟩ := borrow_of (dg l k) (dg m k) cr (h.2.dgLt k) (h'.2.dgLt k) hcr
      have hok : k < o.length := by have := Ho.out; omega
      have q3 := hblk.cell hok
      have q4 := hblk.free k
      have hA' := hA.step hok he
      have hblk' := hblk.set k s
      have hLo' := hLo.set k s hs
      have hB' := hB.setCell (p := ⟨w.heap.size, k, none⟩) (Nat.le_refl _) (.int .u64 (s : Int))
      have Ho' : Hid ((o.set k s).length = l.length) := Lib.hid (by rw [List.length_set]; exact Ho.out)
      have hl64 := h.2.dgLt k
      have hm64 := h'.2.dgLt k
      by_cases hm : k < m.length
      · obtain ⟨ae, rfl, _, q2⟩ := (h'.below hB hP').at_ hm
        have hsub := fun w => sub64_at (dg l k) (dg m k) cr s cr' hcr hl64 hm64 hs he hcr' w
        clear he hA hblk hLo hB hl64 hm64
        go_wp2
        go_roundw
        case rel => exact ⟨k + 1, cr', o.set k s, by go_num, rfl, by omega, hcr', hA', Ho', hLo', hblk', hB'⟩
        case measure => simp [intOf]; omega
      · have hsub := fun w => sub64_at (dg l k) 0 cr s cr' hcr hl64 (by omega) hs (by rw [dg_none (by omega : m.length ≤ k)] at he; exact he) hcr' w
        simp only [Int.cast_ofNat_Int] at hsub
        clear he hA hblk hLo hB hl64 hm64
        go_wp2
        go_roundw
        case rel => exact ⟨k + 1, cr', o.set k s, by go_num, rfl, by omega, hcr', hA', Ho', hLo', hblk', hB'⟩
        case measure => simp [intOf]; omega
    · obtain rfl : k = l.length := by omega
      have hfin := hA.fin Ho.out hLo.1 rfl hml Hge.out
      rw [Hv.out] at hfin
      have hOB : OB wr w.heap.size (some ⟨w.heap.size, 0, none⟩) l.length o := OB.of_blk hblk (Nat.le_refl _) hLo (by have := Ho.out; omega) (by unfold maxLen; omega)
      have ht := trim_any _ _ _ _ _ hOB.rn
      have hOB' := hOB.trim
      rw [hfin, Ho.out] at ht
      rw [hfin] at hOB'
      have Ht := Lib.hid ht
      clear hA hblk hLo ht hfin hOB
      go_wp2_with fail
      refine Ht.out.mono ?_
      rintro e w1 ⟨rfl, rfl⟩
      go_wp2
      go_ret2
      exact ⟨_, _, rfl, hOB', hB⟩
end Go.Proofs.Ytnniellajmjmnaa
