/- What limb.Bytes computes. -/
import Derived.Test.YtnniellajmjmnaaBits
namespace Go.Proofs.Ytnniellajmjmnaa
open Go.RowKit

theorem info8 : (Try.prog.info? 5).map (fun i => (i.zero, i.size, i.bytes)) = some (some (.int .u8 0), 1, 1) := by kernel_rfl
/-- The block is known whole: these bytes. -/
def Blk8 (w : World) (g : Nat) (l : List Nat) : Prop := w.heap[g]? = some (.cells (bys l).toArray 5 (0, 0))
section
variable {w w' : World} {g : Nat} {l : List Nat}
theorem bys_get {l : List Nat} {i : Nat} (h : i < l.length) : (bys l)[i]? = some (.int .u8 (dg l i : Int)) := by
  rw [dg, getD_eq' h]; simp [bys, List.getElem?_eq_getElem h]
theorem Blk8.cell (h : Blk8 w g l) {i : Nat} (hi : i < l.length) : w.cell? ⟨g, i, none⟩ = some (.int .u8 (dg l i : Int)) := by
  rw [blk_cell h i, List.getElem?_toArray, bys_get hi]
theorem Blk8.free (h : Blk8 w g l) (i : Nat) : w.frozen? ⟨g, i, none⟩ = false := blk_free h i
theorem Blk8.set (h : Blk8 w g l) (i : Nat) (x : Nat) : Blk8 (w.setCell ⟨g, i, none⟩ (.int .u8 (x : Int))) g (l.set i x) := by
  unfold Blk8 at *
  simp [World.setCell, Array.getElem?_modify, h, bys]
theorem Blk8.made (w : World) (n : Nat) : Blk8 (w.alloc (.cells (madeCells #[.int .u8 0] n) 5)) w.heap.size (List.replicate n 0) := by
  unfold Blk8
  rw [heap_alloc_new]
  congr 1
  congr 1
  apply Array.ext_getElem?
  intro i
  by_cases hi : i < n
  · have hs : i < (madeCells #[Value.int .u8 0] n).size := by rw [size_madeCells]; simpa using hi
    rw [Array.getElem?_eq_getElem hs]
    simp [madeCells, bys, hi, Nat.mod_one]
  · rw [Array.getElem?_eq_none (by rw [size_madeCells]; omega), Array.getElem?_eq_none (by simp [bys]; omega)]
theorem Blk8.rb {P : Nat → Prop} (h : Blk8 w g l) (hP : P g) (hl : ∀ b ∈ l, b < 256) (hn : l.length ≤ 1000000) : RB w P (some ⟨g, 0, none⟩) l.length l := by
  refine ⟨⟨Nat.le_refl _, by unfold maxLen; omega, by simp [bys], fun _ => ⟨_, rfl, hP, fun j u hu => ?_⟩⟩, hl, by omega⟩
  rw [add_blk, blk_cell h j, List.getElem?_toArray]
  exact hu
end
/-- Behind k rounds: the bytes that are laid; noughts beyond. -/
def BytesAt (x n : Nat) (o : List Nat) (k : Nat) : Prop := o.length = n ∧ (∀ j, j < k → dg o j = x / 2 ^ (8 * (n - 1 - j)) % 256) ∧ (∀ j, k ≤ j → dg o j = 0) ∧ ∀ b ∈ o, b < 256
theorem BytesAt.zero (x n : Nat) : BytesAt x n (List.replicate n 0) 0 := by
  refine ⟨by simp, fun j hj => by omega, fun j _ => ?_, fun b hb => by simp at hb; omega⟩
  rw [dg, List.getD_eq_getElem?_getD, List.getElem?_replicate]
  split <;> rfl
theorem BytesAt.step {x n : Nat} {o : List Nat} {k b : Nat} (h : BytesAt x n o k) (hk : k < n) (hb : x / 2 ^ (8 * (n - 1 - k)) % 256 = b) : BytesAt x n (o.set k b) (k + 1) := by
  obtain ⟨h1, h2, h3, h4⟩ := h
  refine ⟨by simpa using h1, fun j hj => ?_, fun j hj => by rw [getD_set_ne (by omega)]; exact h3 j (by omega), set_lt h4 (by omega)⟩
  rcases Nat.lt_or_ge j k with h | h
  · rw [getD_set_ne (by omega)]; exact h2 j h
  · obtain rfl : j = k := by omega
    rw [getD_set_eq (by omega)]; exact hb.symm
theorem BytesAt.skip {x n : Nat} {o : List Nat} {k : Nat} (h : BytesAt x n o k) (hb : x / 2 ^ (8 * (n - 1 - k)) % 256 = 0) : BytesAt x n o (k + 1) := by
  obtain ⟨h1, h2, h3, h4⟩ := h
  refine ⟨h1, fun j hj => ?_, fun j hj => h3 j (by omega), h4⟩
  rcases Nat.lt_or_ge j k with h | h
  · exact h2 j h
  · obtain rfl : j = k := by omega
    rw [hb]; exact h3 j h
theorem BytesAt.fin {x n : Nat} {o : List Nat} (h : BytesAt x n o n) : o = bytesOf x n := by
  obtain ⟨h1, h2, _⟩ := h
  apply List.ext_getElem (by rw [h1, bytesOf_length])
  intro i h3 h4
  have := h2 i (by omega)
  rw [dg, getD_eq' h3] at this
  rw [this]
  simp [bytesOf]
theorem byte_wrap (d j : Nat) : IntKind.u8.wrap ((d : Int) / 2 ^ j) = ((d / 2 ^ j % 256 : Nat) : Int) := by
  rw [show (d : Int) / 2 ^ j = ((d / 2 ^ j : Nat) : Int) by simp]
  generalize d / 2 ^ j = z
  simp [IntKind.wrap, IntKind.bits, IntKind.signed]

set_option maxRecDepth 100000 in
set_option maxHeartbeats 1000000 in
theorem bytes_no (P : Nat → Prop) (A : Option Addr) (c : Nat) (a : List Nat) (n : Int) (w : World) (h : RN w P A c a) (hn : n < 0 ∨ 65536 < n ∨ 8 * n < (nbits (val 18446744073709551616 a) : Int)) :
    Calls Try.prog 30 #[.slice A a.length c, .int .i64 n] w fun e w' => e = .returned (.tuple #[.slice none 0 0, .bool false]) ∧ w = w' := by
  by_cases h0 : n < 0
  · go_enter Try.func30, Try.ntmps30
    go_wp2
    go_ret2
    exact ⟨rfl, rfl⟩
  · by_cases h1 : 65536 < n
    · go_enter Try.func30, Try.ntmps30
      go_wp2
      go_ret2
      exact ⟨rfl, rfl⟩
    · have h2 : 8 * n < (nbits (val 18446744073709551616 a) : Int) := by omega
      have hb := Lib.hid (bits_any P A c a w h)
      generalize nbits (val 18446744073709551616 a) = k at *
      clear hn h
      go_enter Try.func30, Try.ntmps30
      go_wp2_with fail
      refine hb.out.mono ?_
      rintro e w1 ⟨rfl, rfl⟩
      go_wp2
      go_ret2
      exact ⟨rfl, rfl⟩

set_option maxRecDepth 100000 in
set_option maxHeartbeats 1000000 in
theorem bytes_yes (P : Nat → Prop) (A : Option Addr) (c : Nat) (a : List Nat) (n : Nat) (w : World) (h : RN w P A c a) (hP : ∀ b, P b → b < w.heap.size) (hn : n ≤ 65536) (hn' : nbits (val 18446744073709551616 a) ≤ 8 * n) :
    Calls Try.prog 30 #[.slice A a.length c, .int .i64 (n : Int)] w fun e w' => ∃ A1, e = .returned (.tuple #[.slice A1 n n, .bool true]) ∧
      RB w' (In w.heap.size w'.heap.size) A1 n (bytesOf (val 18446744073709551616 a) n) ∧ Below w.heap.size w w' := by
  obtain ⟨h1, h2, h3⟩ := h.cap
  have hb := Lib.hid (bits_any P A c a w h)
  have hby := fun k j hj => val_byte (m := 64) a h.2.1 k j hj
  rw [show (2 : Nat) ^ 64 = 18446744073709551616 by decide] at hby
  generalize hX : val 18446744073709551616 a = x at *
  generalize nbits x = k0 at *
  have hk0 : (k0 : Int) ≤ 8 * (n : Int) := by omega
  have Hby := Lib.hid hby
  clear hby hX hn'
  have hmk := run_make_row' (P := Try.prog) 47 5 (.int .u8 0) 1 Try.underlying47 info8 rfl .i64 .i64 n (by omega) (by omega)
  go_enter Try.func30, Try.ntmps30
  go_wp2_with fail
  refine hb.out.mono ?_
  rintro e w1 ⟨rfl, rfl⟩
  clear hb
  go_wp2
  go_loopw [26] (fun iv wr => ∃ (k : Nat) (o : List Nat), iv = .int .i64 (k : Int) ∧ k ≤ n ∧ BytesAt x n o k ∧ Blk8 wr w.heap.size o ∧ Below w.heap.size w wr) (fun iv _ => n - (intOf iv).toNat)
  case atStart => exact ⟨0, List.replicate n 0, rfl, by omega, BytesAt.zero x n, Blk8.made w n, (Below.refl _ w).alloc (Nat.le_refl _) _⟩
  case round =>
    obtain ⟨k, o, rfl, hk, hA, hblk, hB⟩ := hrel
    by_cases hlt : k < n
    · obtain ⟨m, q, r, hm, hr, hmq⟩ : ∃ m q r, m = n - 1 - k ∧ r < 8 ∧ m = 8 * q + r := ⟨n - 1 - k, (n - 1 - k) / 8, (n - 1 - k) % 8, rfl, by omega, by omega⟩
      have hbv := Hby.out q (r * 8) (by omega)
      rw [show 64 * q + r * 8 = 8 * m by omega, hm] at hbv
      have e1 : (n : Int) - 1 - (k : Int) = (m : Int) := by omega
      have e2 : (m : Int) / 8 = (q : Int) := by omega
      have e3 : (m : Int) % 8 = (r : Int) := by omega
      have k1 : (m : Int) < (n : Int) := by omega
      by_cases hq : q < a.length
      · obtain ⟨ad, rfl, had, q1⟩ := (h.below hB hP).at_ hq
        obtain ⟨b, hbb⟩ : ∃ b, dg a q / 2 ^ (r * 8) % 256 = b := ⟨_, rfl⟩
        rw [hbb] at hbv
        have e4 := byte_wrap (dg a q) (r * 8)
        rw [hbb] at e4
        have hA' := hA.step hlt hbv
        have q3 := hblk.cell (i := k) (by rw [hA.1]; exact hlt)
        have q4 := hblk.free k
        have hblk' := hblk.set k b
        have hB' := hB.setCell (p := ⟨w.heap.size, k, none⟩) (Nat.le_refl _) (.int .u8 (b : Int))
        have k2 : (q : Int) < (a.length : Int) := by omega
        have k3 : (r : Int) < 8 := by omega
        clear hbb hbv hA hblk hB hmq hm
        go_wp2
        go_roundw
        case rel => exact ⟨k + 1, o.set k b, by go_num, by omega, hA', hblk', hB'⟩
        case measure => simp [intOf]; omega
      · rw [dg_none (by omega : a.length ≤ q), Nat.zero_div, Nat.zero_mod] at hbv
        have hA' := hA.skip hbv
        have k2 : ¬ (q : Int) < (a.length : Int) := by omega
        clear hbv hA hmq hm
        go_wp2
        go_roundw
        case rel => exact ⟨k + 1, o, by go_num, by omega, hA', hblk, hB⟩
        case measure => simp [intOf]; omega
    · obtain rfl : k = n := by omega
      have he := hA.fin
      have hl4 := hA.2.2.2
      have hlen := hA.1
      have hrb := hblk.rb (P := In w.heap.size wr.heap.size) ⟨Nat.le_refl _, blk_lt hblk⟩ hl4 (by omega)
      rw [hlen] at hrb
      rw [he] at hrb
      clear hA he hl4 hlen hblk
      go_wp2
      go_ret2
      exact ⟨_, rfl, hrb, hB⟩
end Go.Proofs.Ytnniellajmjmnaa
