/- What the reference's Bits, Bit and Bytes compute. -/
import Derived.Test.YtnniellajmjmnaaFrom
namespace Go.Proofs.Ytnniellajmjmnaa
open Go.RowKit

theorem dg_last_pos32 {x : Nat} (hx : 0 < x) : 0 < dg (digs 4294967296 x) ((digs 4294967296 x).length - 1) := by
  have hne : digs 4294967296 x ≠ [] := by rw [digs_pos (by omega) hx]; simp
  have h := digs_last (B := 4294967296) (by omega) x hne
  have hpos := List.length_pos_iff.2 hne
  rw [List.getLast_eq_getElem] at h
  rw [dg, getD_eq' (by omega)]
  omega
theorem half_step (t k : Nat) : t / 2 ^ k / 2 = t / 2 ^ (k + 1) := by rw [Nat.div_div_eq_div_mul, Nat.pow_succ]

set_option maxRecDepth 100000 in
set_option maxHeartbeats 1000000 in
theorem refBits_any (P : Nat → Prop) (A : Option Addr) (c : Nat) (x : Nat) (w : World) (h : RN w P A c (digs 4294967296 x)) :
    Calls Try.prog 25 #[.slice A (digs 4294967296 x).length c] w fun e w' => e = .returned (.int .i64 (nbits x : Int)) ∧ w = w' := by
  rcases Nat.eq_zero_or_pos x with rfl | hx
  · rw [digs_zero]
    go_enter Try.func25, Try.ntmps25
    go_wp2
    go_ret
    exact ⟨rfl, rfl⟩
  · have htop := fun k hk h1 h2 => nbits_top (m := 32) (by omega) hx (k := k) hk h1 h2
    have hpos := dg_last_pos32 hx
    have hD := Dig.digs x
    obtain ⟨h1, h2, h3⟩ := h.cap
    have hne : 0 < (digs 4294967296 x).length := by rw [digs_pos (by omega) hx]; simp
    rw [show (2 : Nat) ^ 32 = 4294967296 by decide] at htop
    generalize digs 4294967296 x = l at *
    obtain ⟨n, hn⟩ : ∃ n, l.length = n + 1 := ⟨l.length - 1, by omega⟩
    obtain ⟨ad, rfl, _, q1⟩ := h.at_ (i := n) (by omega)
    rw [hn, Nat.add_sub_cancel] at htop hpos
    have hl := hD.dgLt n
    generalize dg l n = t at *
    rw [hn] at h1 h3 ⊢
    have Htop := Lib.hid htop
    have Hpos := Lib.hid hpos
    clear htop hpos hx hn hne h hD
    have Hl := Lib.hid hl
    clear hl
    go_enter Try.func25, Try.ntmps25
    go_wp2
    go_loop [4, 5] (fun kv tv => ∃ k z : Nat, kv = .int .i64 (k : Int) ∧ tv = .int .u64 (z : Int) ∧ Hid (z = t / 2 ^ k) ∧ Hid (z < 4294967296) ∧ k ≤ 32 ∧ (k = 0 ∨ 2 ^ (k - 1) ≤ t)) (fun kv _ => (33 - intOf kv).toNat)
    case atStart => exact ⟨0, t, rfl, rfl, Lib.hid (by simp), Hl, by omega, .inl rfl⟩
    case round =>
      obtain ⟨k, z, rfl, rfl, hz, hzl, hk, hor⟩ := hrel
      have Hor := Lib.hid hor
      clear hor
      by_cases h0 : z = 0
      · have hfin : nbits x = 32 * n + k := by
          have e := hz.out
          rw [h0] at e
          have hlt : t < 2 ^ k := by
            rcases Nat.lt_or_ge t (2 ^ k) with h | h
            · exact h
            · have := Nat.div_pos h (Nat.pow_pos (by omega)); omega
          have hk0 : 0 < k := by
            rcases Nat.eq_zero_or_pos k with rfl | h
            · have := Hpos.out; simp at hlt; omega
            · exact h
          rcases Hor.out with h | h
          · omega
          · exact Htop.out k hk0 h hlt
        have Hfin := Lib.hid hfin
        subst h0
        clear hfin
        go_wp2
        go_ret
        exact ⟨ret_int (by rw [Hfin.out]; simp), rfl⟩
      · have hk' : k < 32 := by
          rcases Nat.lt_or_ge k 32 with h | h
          · exact h
          · exfalso
            apply h0
            rw [hz.out]
            exact Nat.div_eq_of_lt (Nat.lt_of_lt_of_le Hl.out (by rw [show (4294967296 : Nat) = 2 ^ 32 by decide]; exact Nat.pow_le_pow_right (by omega) h))
        have hge : 2 ^ k ≤ t := by
          rcases Nat.lt_or_ge t (2 ^ k) with h | h
          · exfalso; apply h0; rw [hz.out]; exact Nat.div_eq_of_lt h
          · exact h
        have Hge := Lib.hid hge
        obtain ⟨z', hz', e1⟩ : ∃ z' : Nat, z / 2 = z' ∧ (z : Int) / 2 = (z' : Int) := ⟨z / 2, rfl, by omega⟩
        have hzz : Hid (z' = t / 2 ^ (k + 1)) := Lib.hid (by rw [← hz', hz.out, half_step])
        have hzl' : Hid (z' < 4294967296) := Lib.hid (by have := hzl.out; omega)
        have p1 : (0 : Int) < (z : Int) := by omega
        clear hge hz' h0
        go_wp2
        go_round
        case rel => exact ⟨k + 1, z', by go_num, by first | rfl | exact congrArg (Value.int .u64) (IntWalk.u64_in _ (by have := hzl'.out; omega)), hzz, hzl', by omega, .inr (by rw [Nat.add_sub_cancel]; exact Hge.out)⟩
        case measure => simp [intOf]; omega

theorem tmod2 (d j : Nat) : ((d : Int) / 2 ^ j).tmod 2 = ((d / 2 ^ j % 2 : Nat) : Int) := by
  rw [show (d : Int) / 2 ^ j = ((d / 2 ^ j : Nat) : Int) by simp]
  generalize d / 2 ^ j = z
  rw [Int.tmod_eq_emod_of_nonneg (by omega)]
  omega
theorem mod2 (d j : Nat) : IntKind.u64.wrap ((d : Int) / 2 ^ j % 2) = ((d / 2 ^ j % 2 : Nat) : Int) := by
  rw [show (d : Int) / 2 ^ j % 2 = ((d / 2 ^ j % 2 : Nat) : Int) by simp]
  generalize d / 2 ^ j = z
  exact IntWalk.u64_in _ (by omega)

set_option maxRecDepth 100000 in
set_option maxHeartbeats 1000000 in
theorem refBit_any (P : Nat → Prop) (A : Option Addr) (c : Nat) (x : Nat) (i : Int) (w : World) (h : RN w P A c (digs 4294967296 x)) (hi : i ≤ 9223372036854775807) :
    Calls Try.prog 27 #[.slice A (digs 4294967296 x).length c, .int .i64 i] w fun e w' => e = .returned (.int .u64 (bitOf x i : Int)) ∧ w = w' := by
  obtain ⟨h1, h2, h3⟩ := h.cap
  have hv := val_digs (B := 4294967296) (by omega) x
  have hD := Dig.digs x
  generalize digs 4294967296 x = a at *
  by_cases h0 : i < 0
  · have hb := Lib.hid (show bitOf x i = 0 by simp [bitOf, h0])
    go_enter Try.func27, Try.ntmps27
    go_wp2
    go_ret
    rw [hb.out]
    exact ⟨rfl, rfl⟩
  · obtain ⟨n, rfl⟩ : ∃ n : Nat, i = (n : Int) := ⟨i.toNat, by omega⟩
    obtain ⟨k, j, hj, hn⟩ : ∃ k j, j < 32 ∧ n = 32 * k + j := ⟨n / 32, n % 32, by omega, by omega⟩
    have hb : bitOf x (n : Int) = dg a k / 2 ^ j % 2 := by
      have := val_bit (m := 32) a hD k j hj
      rw [show (2 : Nat) ^ 32 = 4294967296 by decide, hv] at this
      rw [bitOf, if_neg h0, Int.toNat_natCast, hn]
      exact this
    have e1 : (n : Int) / 32 = (k : Int) := by omega
    have e2 : (n : Int) % 32 = (j : Int) := by omega
    have e4 : IntKind.i64.wrap ((n : Int) / 32) = (k : Int) := by rw [e1]; exact IntWalk.i64_in _ (by omega)
    by_cases hk : k < a.length
    · obtain ⟨ad, rfl, _, q1⟩ := h.at_ hk
      have hd := h.2.dgLt k
      have e3 := mod2 (dg a k) j
      have hj' : (j : Int) < 32 := by omega
      have hk' : (k : Int) < (a.length : Int) := by omega
      have Hb := Lib.hid hb
      clear hb hn hd h hi hD
      go_enter Try.func27, Try.ntmps27
      go_wp2
      go_ret
      exact ⟨ret_int (by rw [Hb.out]; exact tmod2 _ _), rfl⟩
    · have hd : dg a k = 0 := dg_none (by omega)
      rw [hd, Nat.zero_div] at hb
      have Hb := Lib.hid hb
      have hk' : ¬ (k : Int) < (a.length : Int) := by omega
      have hk2 : (a.length : Int) ≤ (k : Int) := by omega
      have hkb : (k : Int) ≤ 288230376151711743 := by omega
      clear hb hn hd h hi hD
      go_enter Try.func27, Try.ntmps27
      go_wp2
      go_ret
      rw [Hb.out]
      exact ⟨rfl, rfl⟩

set_option maxRecDepth 100000 in
set_option maxHeartbeats 1000000 in
theorem refBytes_no (P : Nat → Prop) (A : Option Addr) (c : Nat) (x : Nat) (n : Int) (w : World) (h : RN w P A c (digs 4294967296 x)) (hn : n < 0 ∨ 65536 < n ∨ 8 * n < (nbits x : Int)) :
    Calls Try.prog 31 #[.slice A (digs 4294967296 x).length c, .int .i64 n] w fun e w' => e = .returned (.tuple #[.slice none 0 0, .bool false]) ∧ w = w' := by
  by_cases h0 : n < 0
  · go_enter Try.func31, Try.ntmps31
    go_wp2
    go_ret2
    exact ⟨rfl, rfl⟩
  · by_cases h1 : 65536 < n
    · go_enter Try.func31, Try.ntmps31
      go_wp2
      go_ret2
      exact ⟨rfl, rfl⟩
    · have h2 : 8 * n < (nbits x : Int) := by omega
      have hb := Lib.hid (refBits_any P A c x w h)
      generalize nbits x = k at *
      generalize digs 4294967296 x = a at *
      clear hn h
      go_enter Try.func31, Try.ntmps31
      go_wp2_with fail
      refine hb.out.mono ?_
      rintro e w1 ⟨rfl, rfl⟩
      go_wp2
      go_ret2
      exact ⟨rfl, rfl⟩

/-- Behind k rounds of the reference's Bytes: the k lowest bytes are laid, from the end. -/
def BackAt (x n : Nat) (o : List Nat) (k : Nat) : Prop := o.length = n ∧ (∀ j, j < n → n - 1 - j < k → dg o j = x / 2 ^ (8 * (n - 1 - j)) % 256) ∧ (∀ j, k ≤ n - 1 - j → dg o j = 0) ∧ ∀ b ∈ o, b < 256
theorem BackAt.zero (x n : Nat) : BackAt x n (List.replicate n 0) 0 := by
  refine ⟨by simp, fun j _ hj => by omega, fun j _ => ?_, fun b hb => by simp at hb; omega⟩
  rw [dg, List.getD_eq_getElem?_getD, List.getElem?_replicate]
  split <;> rfl
theorem BackAt.step {x n : Nat} {o : List Nat} {k b : Nat} (h : BackAt x n o k) (hk : k < n) (hb : x / 2 ^ (8 * k) % 256 = b) : BackAt x n (o.set (n - 1 - k) b) (k + 1) := by
  obtain ⟨h1, h2, h3, h4⟩ := h
  refine ⟨by simpa using h1, fun j hjn hj => ?_, fun j hj => by rw [getD_set_ne (by omega)]; exact h3 j (by omega), set_lt h4 (by omega)⟩
  rcases Nat.lt_or_ge (n - 1 - j) k with h | h
  · rw [getD_set_ne (by omega)]; exact h2 j hjn h
  · obtain rfl : j = n - 1 - k := by omega
    rw [getD_set_eq (by omega), show n - 1 - (n - 1 - k) = k by omega]; exact hb.symm
theorem BackAt.fin {x n : Nat} {o : List Nat} {k : Nat} (h : BackAt x n o k) (hk : ∀ j, k ≤ j → j < n → x / 2 ^ (8 * j) % 256 = 0) : o = bytesOf x n := by
  obtain ⟨h1, h2, h3, _⟩ := h
  apply List.ext_getElem (by rw [h1, bytesOf_length])
  intro i h4 h5
  have e : dg o i = x / 2 ^ (8 * (n - 1 - i)) % 256 := by
    rcases Nat.lt_or_ge (n - 1 - i) k with h | h
    · exact h2 i (by omega) h
    · rw [h3 i h, hk _ h (by omega)]
  rw [dg, getD_eq' h4] at e
  rw [e]
  simp [bytesOf]

set_option maxRecDepth 100000 in
set_option maxHeartbeats 1000000 in
theorem refBytes_yes (P : Nat → Prop) (A : Option Addr) (c : Nat) (x : Nat) (n : Nat) (w : World) (h : RN w P A c (digs 4294967296 x)) (hP : ∀ b, P b → b < w.heap.size) (hn : n ≤ 65536) (hn' : nbits x ≤ 8 * n) :
    Calls Try.prog 31 #[.slice A (digs 4294967296 x).length c, .int .i64 (n : Int)] w fun e w' => ∃ A1, e = .returned (.tuple #[.slice A1 n n, .bool true]) ∧
      RB w' (In w.heap.size w'.heap.size) A1 n (bytesOf x n) ∧ Below w.heap.size w w' := by
  obtain ⟨h1, h2, h3⟩ := h.cap
  have hb := Lib.hid (refBits_any P A c x w h)
  have hv := val_digs (B := 4294967296) (by omega) x
  have hD := Dig.digs x
  generalize digs 4294967296 x = a at *
  have hby := fun k j hj => val_byte (m := 32) a hD k j hj
  rw [show (2 : Nat) ^ 32 = 4294967296 by decide, hv] at hby
  generalize nbits x = k0 at *
  have hk0 : (k0 : Int) ≤ 8 * (n : Int) := by omega
  have Hby := Lib.hid hby
  clear hby hv hn' hD
  have hmk := run_make_row' (P := Try.prog) 47 5 (.int .u8 0) 1 Try.underlying47 info8 rfl .i64 .i64 n (by omega) (by omega)
  go_enter Try.func31, Try.ntmps31
  go_wp2_with fail
  refine hb.out.mono ?_
  rintro e w1 ⟨rfl, rfl⟩
  clear hb
  go_wp2
  go_loopw [7] (fun iv wr => ∃ (k : Nat) (o : List Nat), iv = .int .i64 (k : Int) ∧ k ≤ n ∧ BackAt x n o k ∧ Blk8 wr w.heap.size o ∧ Below w.heap.size w wr) (fun iv _ => n - (intOf iv).toNat)
  case atStart => exact ⟨0, List.replicate n 0, rfl, by omega, BackAt.zero x n, Blk8.made w n, (Below.refl _ w).alloc (Nat.le_refl _) _⟩
  case round =>
    obtain ⟨k, o, rfl, hk, hA, hblk, hB⟩ := hrel
    obtain ⟨q, r, hr, hkq⟩ : ∃ q r, r < 4 ∧ k = 4 * q + r := ⟨k / 4, k % 4, by omega, by omega⟩
    have e2 : (k : Int) / 4 = (q : Int) := by omega
    have e3 : (k : Int) % 4 = (r : Int) := by omega
    have hfin : (k = n ∨ a.length ≤ q) → RB wr (In w.heap.size wr.heap.size) (some ⟨w.heap.size, 0, none⟩) n (bytesOf x n) := fun hor => by
      have he : o = bytesOf x n := by
        refine hA.fin fun j hj hjn => ?_
        rcases hor with rfl | hor
        · omega
        · have := Hby.out (j / 4) (8 * (j % 4)) (by omega)
          rw [show 32 * (j / 4) + 8 * (j % 4) = 8 * j by omega, dg_none (by omega : a.length ≤ j / 4), Nat.zero_div] at this
          exact this
      have hrb := hblk.rb (P := In w.heap.size wr.heap.size) ⟨Nat.le_refl _, blk_lt hblk⟩ hA.2.2.2 (by have := hA.1; omega)
      rw [hA.1, he] at hrb
      exact hrb
    have Hfin := Lib.hid hfin
    clear hfin
    by_cases hlt : k < n
    · by_cases hq : q < a.length
      · obtain ⟨ad, rfl, had, q1⟩ := (h.below hB hP).at_ hq
        have hbv := Hby.out q (8 * r) (by omega)
        rw [show 32 * q + 8 * r = 8 * k by omega] at hbv
        obtain ⟨b, hbb⟩ : ∃ b, dg a q / 2 ^ (8 * r) % 256 = b := ⟨_, rfl⟩
        rw [hbb] at hbv
        have e4 := byte_wrap (dg a q) (8 * r)
        rw [hbb] at e4
        have hA' := hA.step hlt hbv
        obtain ⟨m, hm, e1⟩ : ∃ m, n - 1 - k = m ∧ (n : Int) - 1 - (k : Int) = (m : Int) := ⟨n - 1 - k, rfl, by omega⟩
        rw [hm] at hA'
        have q3 := hblk.cell (i := m) (by rw [hA.1]; omega)
        have q4 := hblk.free m
        have hblk' := hblk.set m b
        have hB' := hB.setCell (p := ⟨w.heap.size, m, none⟩) (Nat.le_refl _) (.int .u8 (b : Int))
        have k2 : (q : Int) < (a.length : Int) := by omega
        have k3 : (r : Int) < 4 := by omega
        have k1 : (m : Int) < (n : Int) := by omega
        clear hbb hbv hA hblk hB hkq hm Hfin
        go_wp2
        go_roundw
        case rel => exact ⟨k + 1, o.set m b, by go_num, by omega, hA', hblk', hB'⟩
        case measure => simp [intOf]; omega
      · have hrb := Hfin.out (.inr (by omega))
        have k2 : ¬ (q : Int) < (a.length : Int) := by omega
        clear hA hblk hkq Hfin
        go_wp2
        go_ret2
        exact ⟨_, rfl, hrb, hB⟩
    · have hrb := Hfin.out (.inl (by omega))
      clear hA hblk hkq Hfin
      go_wp2
      go_ret2
      exact ⟨_, rfl, hrb, hB⟩
end Go.Proofs.Ytnniellajmjmnaa
