/- ModBig: numbers of more than 4,096 bits are refused: the walk of the law. -/
import Derived.Test.YtnniellajmjmnaaModOps
import Derived.Test.YtnniellajmjmnaaMInvLaw
namespace Go.Proofs.Ytnniellajmjmnaa
open Go.RowKit

theorem pow64_val (m : Nat) : val 18446744073709551616 ((List.replicate (m + 1) 0).set m 1) = 18446744073709551616 ^ m := by
  have e : (List.replicate (m + 1) 0).set m 1 = List.replicate m 0 ++ [1] := by
    rw [List.replicate_succ', List.set_append_right _ _ (by simp)]
    simp
  rw [e, val_append, val_replicate]
  simp
theorem pow64_nbits (m : Nat) : nbits (18446744073709551616 ^ m) = 64 * m + 1 := by
  have e : (18446744073709551616 : Nat) ^ m = 2 ^ (64 * m) := by rw [Nat.pow_mul]
  rw [e]
  exact nbits_eq (k := 64 * m) (Nat.le_refl _) (Nat.pow_lt_pow_right (by omega) (by omega))
theorem pow64_even {m : Nat} (h : 0 < m) : 18446744073709551616 ^ m % 2 = 0 ∧ 2 ≤ 18446744073709551616 ^ m := by
  obtain ⟨k, rfl⟩ : ∃ k, m = k + 1 := ⟨m - 1, by omega⟩
  have h1 := Nat.pow_pos (n := k) (show 0 < 18446744073709551616 by omega)
  rw [Nat.pow_succ]
  omega
theorem nbits_three : nbits 3 = 2 := nbits_eq (k := 1) (by decide) (by decide)

theorem big_mod {A B : Option Addr} {c d : Nat} {L : List Nat} {x : Nat} {big : Bool} {w : World} (ra : RU w A c L) (rb : RU w B d [3]) (hx : val 18446744073709551616 L = x) (hL : L.length < 40000) (hb : big = true ↔ 4096 < nbits x) :
    Calls Try.prog 51 #[.slice A L.length c, .slice B 1 d] w fun e w' => Below w.heap.size w w' ∧ ∃ v, e = .returned (.tuple #[v, .bool (!big)]) := by
  have h3 := nbits_three
  refine (mod_any A B c d L [3] x 3 w ra rb hx (by simp) (by omega) (by simp)).mono ?_
  rintro e w' ⟨hB, ⟨hno, rfl⟩ | ⟨_, hx1, _, A1, c1, rfl, _⟩⟩
  · have : big = true := hb.2 (by omega)
    rw [this]
    exact ⟨hB, _, rfl⟩
  · have : big = false := by cases big <;> simp at hb ⊢; omega
    rw [this]
    exact ⟨hB, _, rfl⟩
theorem big_exp {A B : Option Addr} {c d : Nat} {L : List Nat} {x : Nat} {big : Bool} {w : World} (ra : RU w A c L) (rb : RU w B d [3]) (hx : val 18446744073709551616 L = x) (hL : L.length < 40000) (hb : big = true ↔ 4096 < nbits x) (hev : x % 2 = 0) (h2x : 2 ≤ x) :
    Calls Try.prog 52 #[.slice B 1 d, .slice B 1 d, .slice A L.length c] w fun e w' => Below w.heap.size w w' ∧ ∃ v, e = .returned (.tuple #[v, .bool (!big)]) := by
  have h3 := nbits_three
  cases big
  · have hm : nbits x ≤ 4096 := by simp at hb; omega
    refine (exp_even _ _ _ B B A d d c [3] [3] L 3 3 x w rb rb ra lt_self lt_self lt_self (by simp) (by simp) hx (by omega) (.inl hev) (by simp) hL ⟨by omega, by omega, hm⟩).mono ?_
    rintro e w' ⟨A1, c1, rfl, _, hB⟩
    exact ⟨hB, _, rfl⟩
  · have hm : 4096 < nbits x := by simpa using hb
    refine (exp_no B B A d d c [3] [3] L 3 3 x w rb rb ra (by simp) (by simp) hx (by omega)).mono ?_
    rintro e w' ⟨rfl, hB⟩
    exact ⟨hB, _, rfl⟩
theorem big_inv {A B : Option Addr} {c d : Nat} {L : List Nat} {x : Nat} {big : Bool} {w : World} (ra : RU w A c L) (rb : RU w B d [3]) (hx : val 18446744073709551616 L = x) (hL : L.length < 40000) (hb : big = true ↔ 4096 < nbits x) (h2x : 2 ≤ x) :
    Calls Try.prog 44 #[.slice B 1 d, .slice A L.length c] w fun e w' => Below w.heap.size w w' ∧ ∃ v b, e = .returned (.tuple #[v, .bool b]) ∧ (!big || !b) = true := by
  have h3 := nbits_three
  cases big
  · have hm : nbits x ≤ 4096 := by simp at hb; omega
    refine (inverse_yes _ _ B A d c [3] L 3 x w rb ra lt_self lt_self (by simp) hx h2x (by simp) hL ⟨by omega, hm⟩).mono ?_
    rintro e w' ⟨A1, c1, rfl, _, hB⟩
    exact ⟨hB, _, _, rfl, rfl⟩
  · have hm : 4096 < nbits x := by simpa using hb
    refine (inverse_no B A d c [3] L 3 x w rb ra (by simp) hx h2x (by omega)).mono ?_
    rintro e w' ⟨rfl, hB⟩
    exact ⟨hB, _, _, rfl, rfl⟩

set_option maxRecDepth 100000 in
set_option maxHeartbeats 4000000 in
theorem modBig_any (n : Int) (w : World) :
    Calls Try.prog 11 #[.int .i64 n] w fun e w' => e = .returned (.bool true) ∧ Below w.heap.size w w' := by
  by_cases h60 : n < 60
  · go_enter Try.func11, Try.ntmps11
    go_wp2_with fail
    refine (begun2_any _).mono ?_
    rintro e w1 ⟨rfl, hB1⟩
    go_wp2
    go_ret
    exact ⟨by simp, hB1⟩
  by_cases h70 : 70 < n
  · go_enter Try.func11, Try.ntmps11
    go_wp2_with fail
    refine (begun2_any _).mono ?_
    rintro e w1 ⟨rfl, hB1⟩
    go_wp2
    go_ret
    exact ⟨by simp, hB1⟩
  obtain ⟨m, rfl⟩ : ∃ m : Nat, n = (m : Int) + 1 := ⟨(n - 1).toNat, by omega⟩
  have hm1 : 59 ≤ m := by omega
  have hm2 : m ≤ 69 := by omega
  have hv := pow64_val m
  have hnb := pow64_nbits m
  obtain ⟨hev, h2x⟩ := pow64_even (m := m) (by omega)
  obtain ⟨x, hx⟩ : ∃ x, 18446744073709551616 ^ m = x := ⟨_, rfl⟩
  rw [hx] at hv hnb hev h2x
  have hmk := run_make_row' (P := Try.prog) 23 54 (.int .u64 0) 8 Try.underlying23 info64 rfl .i64 .i64 (m + 1) (by omega) (by omega)
  simp only [Int.natCast_add, Int.cast_ofNat_Int] at hmk
  have Hev := Lib.hid hev
  have Hnb := Lib.hid hnb
  have H2x := Lib.hid h2x
  have Hv := Lib.hid hv
  clear hx hev hnb h2x hv
  go_enter Try.func11, Try.ntmps11
  go_wp2_with fail
  refine (begun2_any _).mono ?_
  rintro e w1 ⟨rfl, hB1⟩
  have hblk := Blk.made w1 (m + 1)
  have q3 := hblk.cell (i := m) (by simp)
  have q4 := hblk.free m
  have hblk' := hblk.set m 1
  rw [set_made] at hblk'
  obtain ⟨L, hL⟩ : ∃ L, (List.replicate (m + 1) 0).set m 1 = L := ⟨_, rfl⟩
  have hLl : L.length = m + 1 := by rw [← hL]; simp
  have hLb : ∀ y ∈ L, y < 18446744073709551616 := by rw [← hL]; exact set_lt (by simp) (by omega)
  rw [hL] at hblk' Hv
  have hw2 : Below w1.heap.size w1 (w1.alloc (.cells ((madeCells #[.int .u64 0] (m + 1)).setIfInBounds m (.int .u64 ((1 : Nat) : Int))) 54)) := (Below.refl _ w1).alloc (Nat.le_refl _) _
  have r3 := RN.one (w1.alloc (.cells ((madeCells #[.int .u64 0] (m + 1)).setIfInBounds m (.int .u64 ((1 : Nat) : Int))) 54)) 3 (by omega)
  rw [World.size_alloc] at r3
  have hw3 : Below w1.heap.size (w1.alloc (.cells ((madeCells #[.int .u64 0] (m + 1)).setIfInBounds m (.int .u64 ((1 : Nat) : Int))) 54)) ((w1.alloc (.cells ((madeCells #[.int .u64 0] (m + 1)).setIfInBounds m (.int .u64 ((1 : Nat) : Int))) 54)).alloc (.cells #[.int .u64 ((3 : Nat) : Int)] 54)) := (Below.refl _ _).alloc (by simp) _
  have hsz : ((w1.alloc (.cells ((madeCells #[.int .u64 0] (m + 1)).setIfInBounds m (.int .u64 ((1 : Nat) : Int))) 54)).alloc (.cells #[.int .u64 ((3 : Nat) : Int)] 54)).heap.size = w1.heap.size + 2 := by simp
  have ra : RU ((w1.alloc (.cells ((madeCells #[.int .u64 0] (m + 1)).setIfInBounds m (.int .u64 ((1 : Nat) : Int))) 54)).alloc (.cells #[.int .u64 ((3 : Nat) : Int)] 54)) (some ⟨w1.heap.size, 0, none⟩) (m + 1) L :=
    ((OB.of_blk (c := m + 1) hblk' (Nat.le_refl _) ⟨hLb, by omega⟩ (by omega) (by unfold maxLen; omega)).below ((Below.refl _ _).alloc (Nat.le_refl _) _) (Nat.le_refl _)).ru
  have rb : RU ((w1.alloc (.cells ((madeCells #[.int .u64 0] (m + 1)).setIfInBounds m (.int .u64 ((1 : Nat) : Int))) 54)).alloc (.cells #[.int .u64 ((3 : Nat) : Int)] 54)) (some ⟨w1.heap.size + 1, 0, none⟩) 1 [3] := r3.mono fun b hb => by rw [hsz]; exact hb.2
  have hB2 := hB1.trans ((hw2.trans hw3).mono hB1.size)
  have hv3 : val 18446744073709551616 [3] = 3 := by simp
  have HL := Lib.hid hLl
  have HLb : Hid (L.length < 40000) := Lib.hid (by omega)
  obtain ⟨big, hbig⟩ : ∃ big, decide ((64 : Int) < (m : Int) + 1) = big := ⟨_, rfl⟩
  have Hbig := Lib.hid hbig
  have hb64 : big = true ↔ 4096 < nbits x := by rw [← hbig, Hnb.out]; simp; omega
  have Hb64 := Lib.hid hb64
  clear hw2 hw3 hblk hblk' r3 hL hLb hsz hbig hb64 hB1
  go_wp2_with fail
  generalize ((w1.alloc (.cells ((madeCells #[.int .u64 0] (m + 1)).setIfInBounds m (.int .u64 ((1 : Nat) : Int))) 54)).alloc (.cells #[.int .u64 ((3 : Nat) : Int)] 54)) = w2 at *
  have Hmo := Lib.hid (big_mod ra rb Hv.out HLb.out Hb64.out)
  rw [HL.out] at Hmo
  clear hmk q3 q4 hv3
  refine Hmo.out.mono ?_
  rintro e w4 ⟨hB4, v4, rfl⟩
  have hw4 := hB2.trans (hB4.mono hB2.size)
  replace ra := ra.up hB4
  replace rb := rb.up hB4
  have Hex := Lib.hid (big_exp ra rb Hv.out HLb.out Hb64.out Hev.out H2x.out)
  rw [HL.out] at Hex
  clear Hmo hB2 hB4
  go_wp2_with fail
  refine Hex.out.mono ?_
  rintro e w5 ⟨hB5, v5, rfl⟩
  have hw5 := hw4.trans (hB5.mono hw4.size)
  replace ra := ra.up hB5
  replace rb := rb.up hB5
  have Hin := Lib.hid (big_inv ra rb Hv.out HLb.out Hb64.out H2x.out)
  rw [HL.out] at Hin
  clear Hex hw4 hB5
  go_wp2_with fail
  refine Hin.out.mono ?_
  rintro e w6 ⟨hB6, v6, b6, rfl, hb6⟩
  have hw6 := hw5.trans (hB6.mono hw5.size)
  clear ra rb Hin hw5 hB6
  rw [Hbig.out]
  cases big
  · go_wp2
    go_ret
    exact ⟨by simp, hw6⟩
  · cases b6
    · go_wp2
      go_ret
      exact ⟨by simp, hw6⟩
    · cases hb6
end Go.Proofs.Ytnniellajmjmnaa
