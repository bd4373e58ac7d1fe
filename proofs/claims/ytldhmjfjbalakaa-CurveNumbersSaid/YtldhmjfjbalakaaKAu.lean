/- What limb.Bytes computes. What limb.Each hands back: an iterator over the bits, the highest first. A range over an iterator that hands over a known row of values: what the iterator owes, what the statement gives. Nothing here speaks of the program. limb.Each's iterator, in the words of a known row of values. The rule for regions (LPar) in the body of a range over a function. Nothing here speaks of the program. -/
import Derived.Test.YtldhmjfjbalakaaKAl
import Derived.RangeFuncNested
import Derived.RangeFuncBound
import Derived.RangeFuncCalls
import Derived.RangeFuncLeaves
import Derived.Shelf.Abstract
import Derived.Shelf.RegionOpen
import Derived.OwnWalkIn
import Derived.TacticsInMore
import Derived.LoopNIn
import Derived.LoopIn
import Derived.RangeFuncFrom
import Derived.Deep.Draws
import Derived.Test.YtldhmjfjbalakaaPar
import Derived.OrdersIn
import Derived.ControlIn
namespace Go.Proofs.Ytldhmjfjbalakaa
open Go.RowKit

theorem info8 : (Try.prog.info? 5).map (fun i => (i.zero, i.size, i.bytes)) = some (some (.int .u8 0), 1, 1) := by kernel_rfl
/-- The block is known whole: these bytes. -/
def Blk8 (w : World) (g : Nat) (l : List Nat) : Prop := w.heap[g]? = some (.cells (bys l).toArray 5 (0, 0))
section
variable {w w' : World} {g : Nat} {l : List Nat}
theorem bys_get {l : List Nat} {i : Nat} (h : i < l.length) : (bys l)[i]? = some (.int .u8 (dg l i : Int)) := by
  rw [dg, getD_eq' h]; simp [bys, List.getElem?_eq_getElem h]
theorem Blk8.cell (h : Blk8 w g l) {i : Nat} (hi : i < l.length) : w.cell? ⟨g, i, none⟩ = some (.int .u8 (dg l i : Int)) := by
  rw [blk_cell h i, List.getElem?_toArray, bys_get hi]
theorem Blk8.free (h : Blk8 w g l) (i : Nat) : w.frozen? ⟨g, i, none⟩ = false := blk_free h i
theorem Blk8.set (h : Blk8 w g l) (i : Nat) (x : Nat) : Blk8 (w.setCell ⟨g, i, none⟩ (.int .u8 (x : Int))) g (l.set i x) := by
  unfold Blk8 at *
  simp [World.setCell, Array.getElem?_modify, h, bys]
theorem Blk8.made (w : World) (n : Nat) : Blk8 (w.alloc (.cells (madeCells #[.int .u8 0] n) 5)) w.heap.size (List.replicate n 0) := by
  unfold Blk8
  rw [heap_alloc_new]
  congr 1
  congr 1
  apply Array.ext_getElem?
  intro i
  by_cases hi : i < n
  · have hs : i < (madeCells #[Value.int .u8 0] n).size := by rw [size_madeCells]; simpa using hi
    rw [Array.getElem?_eq_getElem hs]
    simp [madeCells, bys, hi, Nat.mod_one]
  · rw [Array.getElem?_eq_none (by rw [size_madeCells]; omega), Array.getElem?_eq_none (by simp [bys]; omega)]
theorem Blk8.rb {P : Nat → Prop} (h : Blk8 w g l) (hP : P g) (hl : ∀ b ∈ l, b < 256) (hn : l.length ≤ 1000000) : RB w P (some ⟨g, 0, none⟩) l.length l := by
  refine ⟨⟨Nat.le_refl _, by unfold maxLen; omega, by simp [bys], fun _ => ⟨_, rfl, hP, fun j u hu => ?_⟩⟩, hl, by omega⟩
  rw [add_blk, blk_cell h j, List.getElem?_toArray]
  exact hu
end
/-- Behind k rounds: the bytes that are laid; noughts beyond. -/
def BytesAt (x n : Nat) (o : List Nat) (k : Nat) : Prop := o.length = n ∧ (∀ j, j < k → dg o j = x / 2 ^ (8 * (n - 1 - j)) % 256) ∧ (∀ j, k ≤ j → dg o j = 0) ∧ ∀ b ∈ o, b < 256
theorem BytesAt.zero (x n : Nat) : BytesAt x n (List.replicate n 0) 0 := by
  refine ⟨by simp, fun j hj => by omega, fun j _ => ?_, fun b hb => by simp at hb; omega⟩
  rw [dg, List.getD_eq_getElem?_getD, List.getElem?_replicate]
  split <;> rfl
theorem BytesAt.step {x n : Nat} {o : List Nat} {k b : Nat} (h : BytesAt x n o k) (hk : k < n) (hb : x / 2 ^ (8 * (n - 1 - k)) % 256 = b) : BytesAt x n (o.set k b) (k + 1) := by
  obtain ⟨h1, h2, h3, h4⟩ := h
  refine ⟨by simpa using h1, fun j hj => ?_, fun j hj => by rw [getD_set_ne (by omega)]; exact h3 j (by omega), set_lt h4 (by omega)⟩
  rcases Nat.lt_or_ge j k with h | h
  · rw [getD_set_ne (by omega)]; exact h2 j h
  · obtain rfl : j = k := by omega
    rw [getD_set_eq (by omega)]; exact hb.symm
theorem BytesAt.skip {x n : Nat} {o : List Nat} {k : Nat} (h : BytesAt x n o k) (hb : x / 2 ^ (8 * (n - 1 - k)) % 256 = 0) : BytesAt x n o (k + 1) := by
  obtain ⟨h1, h2, h3, h4⟩ := h
  refine ⟨h1, fun j hj => ?_, fun j hj => h3 j (by omega), h4⟩
  rcases Nat.lt_or_ge j k with h | h
  · exact h2 j h
  · obtain rfl : j = k := by omega
    rw [hb]; exact h3 j h
theorem BytesAt.fin {x n : Nat} {o : List Nat} (h : BytesAt x n o n) : o = bytesOf x n := by
  obtain ⟨h1, h2, _⟩ := h
  apply List.ext_getElem (by rw [h1, bytesOf_length])
  intro i h3 h4
  have := h2 i (by omega)
  rw [dg, getD_eq' h3] at this
  rw [this]
  simp [bytesOf]
theorem byte_wrap (d j : Nat) : IntKind.u8.wrap ((d : Int) / 2 ^ j) = ((d / 2 ^ j % 256 : Nat) : Int) := by
  rw [show (d : Int) / 2 ^ j = ((d / 2 ^ j : Nat) : Int) by simp]
  generalize d / 2 ^ j = z
  simp [IntKind.wrap, IntKind.bits, IntKind.signed]

set_option maxRecDepth 100000 in
set_option maxHeartbeats 1000000 in
theorem bytes_no (P : Nat → Prop) (A : Option Addr) (c : Nat) (a : List Nat) (n : Int) (w : World) (h : RN w P A c a) (hn : n < 0 ∨ 65536 < n ∨ 8 * n < (nbits (val 18446744073709551616 a) : Int)) :
    Calls Try.prog 61 #[.slice A a.length c, .int .i64 n] w fun e w' => e = .returned (.tuple #[.slice none 0 0, .bool false]) ∧ w = w' := by
  by_cases h0 : n < 0
  · go_enter Try.func61, Try.ntmps61
    go_wp2
    go_ret2
    exact ⟨rfl, rfl⟩
  · by_cases h1 : 65536 < n
    · go_enter Try.func61, Try.ntmps61
      go_wp2
      go_ret2
      exact ⟨rfl, rfl⟩
    · have h2 : 8 * n < (nbits (val 18446744073709551616 a) : Int) := by omega
      have hb := Lib.hid (bits_any P A c a w h)
      generalize nbits (val 18446744073709551616 a) = k at *
      clear hn h
      go_enter Try.func61, Try.ntmps61
      go_wp2_with fail
      refine hb.out.mono ?_
      rintro e w1 ⟨rfl, rfl⟩
      go_wp2
      go_ret2
      exact ⟨rfl, rfl⟩

set_option maxRecDepth 100000 in
set_option maxHeartbeats 1000000 in
theorem bytes_yes (P : Nat → Prop) (A : Option Addr) (c : Nat) (a : List Nat) (n : Nat) (w : World) (h : RN w P A c a) (hP : ∀ b, P b → b < w.heap.size) (hn : n ≤ 65536) (hn' : nbits (val 18446744073709551616 a) ≤ 8 * n) :
    Calls Try.prog 61 #[.slice A a.length c, .int .i64 (n : Int)] w fun e w' => ∃ A1, e = .returned (.tuple #[.slice A1 n n, .bool true]) ∧
      RB w' (In w.heap.size w'.heap.size) A1 n (bytesOf (val 18446744073709551616 a) n) ∧ Below w.heap.size w w' := by
  obtain ⟨h1, h2, h3⟩ := h.cap
  have hb := Lib.hid (bits_any P A c a w h)
  have hby := fun k j hj => val_byte (m := 64) a h.2.1 k j hj
  rw [show (2 : Nat) ^ 64 = 18446744073709551616 by decide] at hby
  generalize hX : val 18446744073709551616 a = x at *
  generalize nbits x = k0 at *
  have hk0 : (k0 : Int) ≤ 8 * (n : Int) := by omega
  have Hby := Lib.hid hby
  clear hby hX hn'
  have hmk := run_make_row' (P := Try.prog) 49 5 (.int .u8 0) 1 Try.underlying49 info8 rfl .i64 .i64 n (by omega) (by omega)
  go_enter Try.func61, Try.ntmps61
  go_wp2_with fail
  refine hb.out.mono ?_
  rintro e w1 ⟨rfl, rfl⟩
  clear hb
  go_wp2
  go_loopw [26] (fun iv wr => ∃ (k : Nat) (o : List Nat), iv = .int .i64 (k : Int) ∧ k ≤ n ∧ BytesAt x n o k ∧ Blk8 wr w.heap.size o ∧ Below w.heap.size w wr) (fun iv _ => n - (intOf iv).toNat)
  case atStart => exact ⟨0, List.replicate n 0, rfl, by omega, BytesAt.zero x n, Blk8.made w n, (Below.refl _ w).alloc (Nat.le_refl _) _⟩
  case round =>
    obtain ⟨k, o, rfl, hk, hA, hblk, hB⟩ := hrel
    by_cases hlt : k < n
    · obtain ⟨m, q, r, hm, hr, hmq⟩ : ∃ m q r, m = n - 1 - k ∧ r < 8 ∧ m = 8 * q + r := ⟨n - 1 - k, (n - 1 - k) / 8, (n - 1 - k) % 8, rfl, by omega, by omega⟩
      have hbv := Hby.out q (r * 8) (by omega)
      rw [show 64 * q + r * 8 = 8 * m by omega, hm] at hbv
      have e1 : (n : Int) - 1 - (k : Int) = (m : Int) := by omega
      have e2 : (m : Int) / 8 = (q : Int) := by omega
      have e3 : (m : Int) % 8 = (r : Int) := by omega
      have k1 : (m : Int) < (n : Int) := by omega
      by_cases hq : q < a.length
      · obtain ⟨ad, rfl, had, q1⟩ := (h.below hB hP).at_ hq
        obtain ⟨b, hbb⟩ : ∃ b, dg a q / 2 ^ (r * 8) % 256 = b := ⟨_, rfl⟩
        rw [hbb] at hbv
        have e4 := byte_wrap (dg a q) (r * 8)
        rw [hbb] at e4
        have hA' := hA.step hlt hbv
        have q3 := hblk.cell (i := k) (by rw [hA.1]; exact hlt)
        have q4 := hblk.free k
        have hblk' := hblk.set k b
        have hB' := hB.setCell (p := ⟨w.heap.size, k, none⟩) (Nat.le_refl _) (.int .u8 (b : Int))
        have k2 : (q : Int) < (a.length : Int) := by omega
        have k3 : (r : Int) < 8 := by omega
        clear hbb hbv hA hblk hB hmq hm
        go_wp2
        go_roundw
        case rel => exact ⟨k + 1, o.set k b, by go_num, by omega, hA', hblk', hB'⟩
        case measure => simp [intOf]; omega
      · rw [dg_none (by omega : a.length ≤ q), Nat.zero_div, Nat.zero_mod] at hbv
        have hA' := hA.skip hbv
        have k2 : ¬ (q : Int) < (a.length : Int) := by omega
        clear hbv hA hmq hm
        go_wp2
        go_roundw
        case rel => exact ⟨k + 1, o, by go_num, by omega, hA', hblk, hB⟩
        case measure => simp [intOf]; omega
    · obtain rfl : k = n := by omega
      have he := hA.fin
      have hl4 := hA.2.2.2
      have hlen := hA.1
      have hrb := hblk.rb (P := In w.heap.size wr.heap.size) ⟨Nat.le_refl _, blk_lt hblk⟩ hl4 (by omega)
      rw [hlen] at hrb
      rw [he] at hrb
      clear hA he hl4 hlen hblk
      go_wp2
      go_ret2
      exact ⟨_, rfl, hrb, hB⟩
end Go.Proofs.Ytldhmjfjbalakaa

namespace Go.Proofs.Ytldhmjfjbalakaa
open Go.RowKit Go.Shelf

attribute [local go_sem] Oper.semAt_some

/-- What has come behind k rounds. -/
def upTo {α : Type} (f : Nat → α) (k : Nat) : List α := (List.range k).map f
theorem upTo_succ {α : Type} (f : Nat → α) (k : Nat) : upTo f (k + 1) = upTo f k ++ [f k] := by simp [upTo, List.range_succ]
theorem upTo_length {α : Type} (f : Nat → α) (k : Nat) : (upTo f k).length = k := by simp [upTo]
/-- Bit number j from the highest down: its place, and it. -/
def bitAt (x : Nat) (j : Nat) : Nat × Nat := (nbits x - 1 - j, x / 2 ^ (nbits x - 1 - j) % 2)

set_option maxRecDepth 100000 in
set_option maxHeartbeats 1000000 in
theorem each_any (P : Nat → Prop) (A : Option Addr) (c : Nat) (a : List Nat) (w : World) (h : RN w P A c a) (hP : ∀ b, P b → b < w.heap.size) :
    Calls Try.prog 48 #[.slice A a.length c] w fun e w' => ∃ A1 c1, e = .returned (.func (.func 81) #[] #[.pointer (some ⟨w.heap.size, 0, none⟩)]) ∧
      w'.heap[w.heap.size]? = some (.cells #[.slice A1 (digs 18446744073709551616 (val 18446744073709551616 a)).length c1] 23 (0, 0)) ∧ OB w' w.heap.size A1 c1 (digs 18446744073709551616 (val 18446744073709551616 a)) ∧ Below w.heap.size w w' := by
  have hm := Lib.hid (fun w h => made_any P A c a w h)
  have hR : RN (w.alloc (.cells #[.slice A a.length c] 23)) P A c a := h.below ((Below.refl _ w).alloc (Nat.le_refl _) _) hP
  generalize digs 18446744073709551616 (val 18446744073709551616 a) = l at *
  go_enter Try.func48, Try.ntmps48
  go_wp2_with fail
  refine (hm.out _ hR).mono ?_
  rintro e w1 ⟨A1, c1, rfl, hO, hB⟩
  have hb := (hB.block w.heap.size (by simp)).trans (heap_alloc_new w _)
  have f0 := blk_free hb 0
  have c0 := blk_cell hb 0
  simp at c0
  go_wp2
  go_ret
  refine ⟨A1, c1, rfl, ?_, ?_, (((Below.refl _ w).alloc (Nat.le_refl _) _).trans (hB.mono (by simp))).setCell (p := ⟨w.heap.size, 0, none⟩) (Nat.le_refl _) _⟩
  · simp [World.setCell, Array.getElem?_modify, hb]
  · obtain ⟨h1, h2, h3, h4⟩ := hO
    refine ⟨h1, h2, h3, fun hn => ?_⟩
    obtain ⟨g, cur, e, hg, hh, hc⟩ := h4 hn
    simp at hg
    exact ⟨g, cur, e, by omega, (Below.heap_setCell _ _ _ _ (by show g ≠ w.heap.size; omega)).trans hh, hc⟩

set_option maxRecDepth 100000 in
set_option maxHeartbeats 2000000 in
theorem each1_in (n l Bs n₀ : Nat) (hn : 1 ≤ n) (P : Nat → Prop) (A : Option Addr) (c : Nat) (a : List Nat) (hP : ∀ b, P b → b < n₀) (hBs : Bs < n₀) (J Jx : List (Nat × Nat) → World → Prop)
    (hY : ∀ pre x W, J pre W → pre.length < nbits (val 18446744073709551616 a) → YieldAt Fence.wide (n - 1) Try.prog l #[.int .i64 (x.1 : Int), .int .u64 (x.2 : Int)] W fun e W' =>
      (e = .returned (.bool true) ∧ J (pre ++ [x]) W' ∧ Below n₀ W W') ∨ (e = .returned (.bool false) ∧ Jx (pre ++ [x]) W'))
    (W : World) (hc : W.cell? ⟨Bs, 0, none⟩ = some (.slice A a.length c)) (hR : RN W P A c a) (h0 : J [] W) :
    CallsIn Fence.wide n Try.prog 81 #[.func (.yield l) #[] #[], .pointer (some ⟨Bs, 0, none⟩)] W fun e W' => (∃ v, e = .returned v) ∧
      ((∃ ys, ys = upTo (bitAt (val 18446744073709551616 a)) (nbits (val 18446744073709551616 a)) ∧ J ys W') ∨ (∃ pre, (∃ k, 0 < k ∧ k ≤ nbits (val 18446744073709551616 a) ∧ pre = upTo (bitAt (val 18446744073709551616 a)) k) ∧ Jx pre W')) := by
  have hbits := Lib.hid (fun W (h : RN W P A c a) => (callsIn_wide (n := n - 1)).2 (bits_any P A c a W h))
  have hbit := Lib.hid (fun i W (h : RN W P A c a) (hi : i ≤ 9223372036854775807) => (callsIn_wide (n := n - 1)).2 (bit_any P A c a i W h hi))
  have hcap := hR.cap
  have hnb : nbits (val 18446744073709551616 a) ≤ 64 * a.length := by
    apply nbits_le
    have := val_lt hR.2.1
    rwa [show (18446744073709551616 : Nat) = 2 ^ 64 by decide, ← Nat.pow_mul] at this
  have hbv := fun k => (show bitOf (val 18446744073709551616 a) ((k : Nat) : Int) = val 18446744073709551616 a / 2 ^ k % 2 by simp [bitOf, show ¬ (k : Int) < 0 by omega])
  have Hbv := Lib.hid hbv
  clear hbv
  generalize hx : val 18446744073709551616 a = x at *
  have hba := Lib.hid (fun k => (show bitAt x k = (nbits x - 1 - k, x / 2 ^ (nbits x - 1 - k) % 2) by rfl))
  obtain ⟨nb, hnb'⟩ : ∃ nb, nbits x = nb := ⟨_, rfl⟩
  rw [hnb'] at hbits hba hnb hY ⊢
  clear hx hnb'
  have hnb1 : nb ≤ 64000000 := by have := hcap.2.2; omega
  clear hnb
  refine callsIn_of_wp Try.func81 rfl trivial ?_ rfl
  simp only [Try.ntmps81, List.size_toArray, List.length_cons, List.length_nil, Nat.reduceAdd, Nat.reduceSub, Array.replicate_succ, Array.replicate_zero, List.push_toArray, List.append_toArray, List.nil_append, List.cons_append]
  gi_wp2
  refine ⟨trivial, (hbits.out _ hR).mono ?_⟩
  rintro e w' ⟨rfl, rfl⟩
  have Hst := Lib.hid (Below1.start nb)
  gi_wp2
  gi_loopw [3] (fun i wr => ∃ (k : Nat) (z : Int), k ≤ nb ∧ Below1 (nb - k) z ∧ i = .int .i64 z ∧ J (upTo (bitAt x) k) wr ∧ Below n₀ W wr)
    (fun i _ => (intOf i + 1).toNat)
  case atStart => exact ⟨0, _, Nat.zero_le _, Hst.out, rfl, h0, Below.refl _ _⟩
  case round =>
    obtain ⟨k, z, hk, hz, rfl, hJs, hnx⟩ := hrel
    have hcx := (hnx.cell (p := ⟨Bs, 0, none⟩) hBs).trans hc
    have hRx := hR.below hnx hP
    rcases hz with ⟨hk0, rfl⟩ | ⟨j, hj, rfl⟩
    · obtain rfl : k = nb := by omega
      gi_wp2
      go_end0
      exact ⟨⟨_, rfl⟩, .inl ⟨_, rfl, hJs⟩⟩
    · obtain ⟨fn, tmps, assign, body, hy, hRo⟩ := hY _ (bitAt x k) wr hJs (by rw [upTo_length]; omega)
      have hb1 := hba.out k
      rw [show nb - 1 - k = j by omega] at hb1
      have hbj := hbit.out (j : Int) wr hRx (by omega)
      rw [Hbv.out j] at hbj
      rw [hb1] at hy hRo
      obtain ⟨bb, hbb⟩ : ∃ bb, x / 2 ^ j % 2 = bb := ⟨_, rfl⟩
      rw [hbb] at hy hRo hb1 hbj
      dsimp only at hy
      have Hbj := Lib.hid hbj
      have Hb1 := Lib.hid hb1
      clear hb1 hbj hbb
      gi_wp2
      refine ⟨trivial, Hbj.out.mono ?_⟩
      rintro e w' ⟨rfl, rfl⟩
      gi_wp2
      refine hRo.mono ?_
      rintro e W3 (⟨rfl, hJ3, hk3⟩ | ⟨rfl, hJx3⟩)
      · gi_wp2
        go_roundw
        case rel => exact ⟨k + 1, _, by omega, by rw [show nb - (k + 1) = j by omega]; exact Below1.start j, rfl, by rw [upTo_succ, Hb1.out]; exact hJ3, hnx.trans hk3⟩
        case measure => simp [intOf]
      · gi_wp2
        refine bodyPost_ret (results_none rfl _ _ _) rfl ?_
        exact ⟨⟨_, rfl⟩, .inr ⟨_, ⟨k + 1, by omega, by omega, by rw [upTo_succ, Hb1.out]⟩, hJx3⟩⟩

/-- What Each hands back goes over the bits, the highest first, or over the first of them. -/
theorem each_stops (n Bs n₀ : Nat) (hn : 1 ≤ n) (P : Nat → Prop) (A : Option Addr) (c : Nat) (a : List Nat) (w : World) (hP : ∀ b, P b → b < n₀) (hBs : Bs < n₀) (hn₀ : n₀ ≤ w.heap.size) (hc : w.cell? ⟨Bs, 0, none⟩ = some (.slice A a.length c)) (hR : RN w P A c a) :
    SeqStopsK Fence.wide n Try.prog 81 #[.pointer (some ⟨Bs, 0, none⟩)] (fun x : Nat × Nat => #[Value.int .i64 (x.1 : Int), Value.int .u64 (x.2 : Int)]) (Below n₀)
      (fun ys => ys = upTo (bitAt (val 18446744073709551616 a)) (nbits (val 18446744073709551616 a))) (fun pre => ∃ k, 0 < k ∧ k ≤ nbits (val 18446744073709551616 a) ∧ pre = upTo (bitAt (val 18446744073709551616 a)) k) (nbits (val 18446744073709551616 a)) w := fun l J Jx W hW _ _ hY h0 =>
  each1_in n l Bs n₀ hn P A c a hP hBs J Jx hY W ((hW.cell (p := ⟨Bs, 0, none⟩) (Nat.lt_of_lt_of_le hBs hn₀)).trans hc) (hR.below hW fun b hb => Nat.lt_of_lt_of_le (hP b hb) hn₀) h0
end Go.Proofs.Ytldhmjfjbalakaa

namespace Go.Proofs.Ytldhmjfjbalakaa
open Go.RowKit

/-- What is no cells and lies from block B on, and the m blocks from C on, lie as they lay. -/
structure Keeps (B C m : Nat) (W W' : World) : Prop where
  size : W.heap.size ≤ W'.heap.size
  others : ∀ (k : Nat) (o : Obj), B ≤ k → W.heap[k]? = some o → o.isCells = false → W'.heap[k]? = some o
  cells : ∀ k, C ≤ k → k < C + m → k < W.heap.size → W'.heap[k]? = W.heap[k]?
theorem Keeps.refl (B C m : Nat) (W : World) : Keeps B C m W W := ⟨Nat.le_refl _, fun _ _ _ h _ => h, fun _ _ _ _ => rfl⟩
theorem Keeps.trans {B C m : Nat} {W W' W'' : World} (h : Keeps B C m W W') (k : Keeps B C m W' W'') : Keeps B C m W W'' :=
  ⟨Nat.le_trans h.size k.size, fun i o hb hi ho => k.others i o hb (h.others i o hb hi ho) ho, fun i hc hm hi => (k.cells i hc hm (Nat.lt_of_lt_of_le hi h.size)).trans (h.cells i hc hm hi)⟩
theorem Keeps.mono {B B' C C' m m' : Nat} {W W' : World} (h : Keeps B C m W W') (hB : B ≤ B') (hC : C ≤ C') (hm : C' + m' ≤ C + m) : Keeps B' C' m' W W' :=
  ⟨h.size, fun k o hb => h.others k o (Nat.le_trans hB hb), fun k hc hk => h.cells k (Nat.le_trans hC hc) (Nat.lt_of_lt_of_le hk hm)⟩
theorem Keeps.none {B C C' m : Nat} {W W' : World} (h : Keeps B C m W W') : Keeps B C' 0 W W' := ⟨h.size, h.others, fun k h1 h2 => absurd h2 (by omega)⟩
theorem Keeps.setCell (B C m : Nat) (W : World) {a : Addr} (ha : a.block < C ∨ C + m ≤ a.block) (v : Value) : Keeps B C m W (W.setCell a v) :=
  ⟨(KeepsOthers.setCell W a v).size, fun k o _ => (KeepsOthers.setCell W a v).same k o, fun k h1 h2 _ => Below.heap_setCell W a v k (by omega)⟩
theorem Keeps.alloc (B C m : Nat) (W : World) (o : Obj) : Keeps B C m W (W.alloc o) := ⟨by simp, fun k o' _ => (KeepsOthers.alloc W o).same k o', fun k _ _ hk => Below.heap_alloc W o k hk⟩
theorem Keeps.drew (B C m : Nat) (W : World) : Keeps B C m W W.drew := ⟨Nat.le_refl _, fun _ _ _ h _ => h, fun _ _ _ _ => rfl⟩
theorem Keeps.drewN (B C m : Nat) (W : World) (n : Nat) : Keeps B C m W (W.drewN n) := ⟨Nat.le_refl _, fun _ _ _ h _ => h, fun _ _ _ _ => rfl⟩
theorem Keeps.below {B C m D : Nat} {W W' : World} (h : Below D W W') (hD : W.heap.size ≤ D) : Keeps B C m W W' :=
  ⟨h.size, fun k _ _ hk _ => (h.block k (Nat.lt_of_lt_of_le (Array.getElem?_eq_some_iff.1 hk).1 hD)).trans hk, fun k _ _ hk => h.block k (Nat.lt_of_lt_of_le hk hD)⟩
theorem Keeps.putObj {B C m : Nat} {W : World} {l : Nat} {o : Obj} (hl : l < B) (hC : l < C) : Keeps B C m W (W.putObj l o) :=
  ⟨by simp, fun k _ hb hk _ => (World.putObj_heap_other (by omega)).trans hk, fun k hc _ _ => World.putObj_heap_other (by omega)⟩

/-- An iterator that hands over xs 0, xs 1 and so on, N of them; before the k-th, and behind the last, it may do T to the world (B: how many blocks there were when it began).
    Between two rounds the caller holds J, at a round's head J', where a round has left Jx. Nd: what the iterator needs of the world then. Kp: what a round that goes on must keep; m: how many blocks, the first that it lays, are the iterator's own. 'fin' false: it has no end of its own before N. -/
def SeqAt (P : Program) (g : Nat) (lb : Array Value) (xs : Nat → Array Value) (Nd : Nat → World → Prop) (T : Nat → Nat → World → World → Prop) (Kp : World → World → Prop) (m N : Nat) (fin : Bool) (w : World) : Prop :=
  ∀ (n l : Nat) (J J' Jx : Nat → World → Prop) (W : World), 1 ≤ n → Below w.heap.size w W → l < W.heap.size → OwnFrom W.heap.size J → OwnFrom W.heap.size J' → OwnFrom W.heap.size Jx →
    (∀ k W1, k ≤ N → J k W1 → Nd k W1) → (∀ k W1 W2, k ≤ N → J k W1 → T W.heap.size k W1 W2 → J' k W2) → (fin = false → ∀ W', ¬ J' N W') →
    (∀ k W1, J' k W1 → k < N → W.heap.size + m ≤ W1.heap.size → YieldAt Fence.wide (n - 1) P l (xs k) W1 fun e W' =>
      (e = .returned (.bool true) ∧ J (k + 1) W' ∧ Kp W1 W' ∧ Keeps W.heap.size W.heap.size m W1 W') ∨ (e = .returned (.bool false) ∧ Jx (k + 1) W' ∧ Keeps W.heap.size W.heap.size m W1 W')) →
    J 0 W →
    CallsIn Fence.wide n P g (#[.func (.yield l) #[] #[]] ++ lb) W fun e W' => (∃ v, e = .returned v) ∧ (J' N W' ∨ ∃ k, 0 < k ∧ k ≤ N ∧ Jx k W')

/-- An iterator that needs nothing of its caller. -/
def NoNeed (_ : Nat) (_ : World) : Prop := True
/-- An iterator that of itself makes memory at most. -/
def TPlain (_B _k : Nat) (W W' : World) : Prop := W.grownBy W' none

/-- How the body of a round may be left. -/
def iterPost (B m : Nat) (Kp : World → World → Prop) (I : Nat → World → Prop) (Ix : Code → Nat → World → Prop) (k : Nat) (W : World) : Exit → Act → World → Prop
  | .normal, _, W' => Keeps B (B + 2) m W W' ∧ Kp W W' ∧ I k W'
  | .ret, _, W' => Keeps B (B + 2) m W W' ∧ Ix .ret k W'
  | .exit id, _, W' => Keeps B (B + 2) m W W' ∧ Ix (.exit id) k W'
  | .goto t, _, W' => Keeps B (B + 2) m W W' ∧ Ix (.goto t) k W'
  | .panic _, _, _ => False
  | .outgrown, _, _ => False

theorem ownFrom_mono {β : Type} {B C : Nat} {I : β → World → Prop} (h : OwnFrom B I) (hc : B ≤ C) : OwnFrom C I :=
  fun s W W' row hs hg hr => h s W W' row hs hg fun r e => ⟨Nat.le_trans hc (hr r e).1, (hr r e).2⟩
/-- The record of a loop that was laid before abides. -/
theorem ownFrom_block {β : Type} {B g : Nat} (o : Obj) (hg : g < B) : OwnFrom B (fun (_ : β) W => g < W.heap.size ∧ W.heap[g]? = some o) := fun _ W W' row hs hw hr =>
  ⟨Nat.lt_of_lt_of_le hs.1 hw.size, (hw.block g hs.1 fun e => by have := (hr g e.symm).1; omega).trans hs.2⟩

theorem wpIn_iter {n : Nat} {P : Program} {g : Operand} {ps : Array Tmp} {assign body : Code} {Q : Exit → Act → World → Prop} {a : Act} {w : World}
    (h2 : 2 ≤ n) {gf : Nat} {lb : Array Value} (hg : a.eval g = .func (.func gf) #[] lb) (eg : ∀ args w, (callFunc gf args).run P w = .ok (.enter gf args) w)
    {xs : Nat → Array Value} {Nd : Nat → World → Prop} {T : Nat → Nat → World → World → Prop} {Kp : World → World → Prop} {m N : Nat} {fin : Bool} {w0 : World} (hseq : SeqAt P gf lb xs Nd T Kp m N fin w0)
    (hKt : ∀ {A B C : World}, Kp A B → Kp B C → Kp A C) (hKb : ∀ (W : World) (l : Nat) (o o' : Obj), w.heap.size ≤ l → W.heap[l]? = some o → o.isCells = false → o.isWalk = false → Kp W (W.putObj l o'))
    (hT : ∀ B k W1 W2, T B k W1 W2 → W1.heap.size ≤ W2.heap.size ∧ ∀ b o, b < B → W1.heap[b]? = some o → o.isCells = false → W2.heap[b]? = some o)
    (hb0 : Below w0.heap.size w0 w) (hps : ∀ k, (xs k).size = ps.size)
    (I I' : Nat → World → Prop) (Ix : Code → Nat → World → Prop) (hI : OwnFrom w.heap.size I) (hI' : OwnFrom w.heap.size I') (hIx : ∀ c, OwnFrom w.heap.size (Ix c))
    (hNd : ∀ k W, k ≤ N → I k W → Nd k W) (hIT : ∀ B k W1 W2, w.heap.size ≤ B → k ≤ N → I k W1 → T B k W1 W2 → I' k W2) (hfin : fin = false → ∀ W', ¬ I' N W') (h0 : I 0 w) (a₁ : Nat → Act)
    (hassign : ∀ (l k : Nat) (W : World) (K : Act → World → Prop), K (a₁ k) W →
      assign.wpIn (Fence.wide.inRound l) (n - 1 - 1) P (Exit.then K (fun _ _ _ => False)) { tmps := (ps.zip (xs k)).foldl (fun t (p, v) => t.setIfInBounds p v) a.tmps, defers := [] } W)
    (hbody : ∀ (l k : Nat) (W : World), I' k W → k < N → w.heap.size + 2 + m ≤ W.heap.size → body.wpIn (Fence.wide.inRound l) (n - 1 - 1) P (iterPost w.heap.size m Kp I Ix (k + 1) W) (a₁ k) W)
    (hdone : ∀ (D : Nat) (W : World), w.heap.size ≤ D → I' N W → W.heap[D]? = some (.deferred (some [])) → Q .normal { a with defers := { target := .collected D, args := #[] } :: a.defers } W)
    (hstop : ∀ (D : Nat) (c : Code) (k : Nat) (W : World), w.heap.size ≤ D → 0 < k → k ≤ N → Ix c k W → W.heap[D]? = some (.deferred (some [])) → c.wpIn Fence.wide n P Q { a with defers := { target := .collected D, args := #[] } :: a.defers } W) :
    (Code.rangeFunc g ps assign body).wpIn Fence.wide n P Q a w := by
  refine wpIn_rangeFunc ?_
  intro fn hfn
  obtain ⟨rc, hrc⟩ : ∃ rc : LoopState → Option Code → Loop, rc = fun st pe => { state := st, pending := pe, fn, tmps := a.tmps, params := ps, assign, body, defers := w.heap.size } := ⟨_, rfl⟩
  obtain ⟨L, hL⟩ : ∃ L, w.heap.size + 1 = L := ⟨_, rfl⟩
  obtain ⟨D, hD⟩ : ∃ D, w.heap.size = D := ⟨_, rfl⟩
  obtain ⟨W1, hW1⟩ : ∃ W1, (w.alloc (.deferred (some []))).alloc (.loop (rc .ready none)) = W1 := ⟨_, rfl⟩
  have hz1 : W1.heap.size = D + 2 := by rw [← hW1, ← hD]; simp
  have hl1 : W1.heap[L]? = some (.loop (rc .ready none)) := by
    rw [← hW1, ← hL]; have := World.alloc_heap_new (w.alloc (.deferred (some []))) (.loop (rc .ready none)); rwa [World.size_alloc] at this
  have hd1 : W1.heap[D]? = some (.deferred (some [])) := by
    rw [← hW1, ← hD]; exact (Below.heap_alloc _ _ _ (by simp)).trans (World.alloc_heap_new w _)
  have hi1 : I 0 W1 := by rw [← hW1]; exact hI.alloc _ (hI.alloc _ h0)
  have hb1 : Below w0.heap.size w0 W1 := by rw [← hW1]; exact hb0.trans ((((Below.refl _ w).alloc (Nat.le_refl _) _).alloc (by simp) _).mono hb0.size)
  have hlD : L = D + 1 := by omega
  refine ⟨L, [{ target := .collected D, args := #[] }], W1, { target := .fn (.func gf) lb, args := #[.func (.yield L) #[] #[]] }, W1, gf,
    #[.func (.yield L) #[] #[]] ++ lb, W1, ?_, ?_, ?_, ?_, fun _ => by omega, ?_⟩
  · rw [← hW1, hrc, ← hL, ← hD]; exact run_enterLoop_outer _ _ _ _ _
  · simp only [resolve, hg]
    simp [go_sem]
  · exact fun _ _ => trivial
  · simp [invoke, go_sem, eg]
  -- the record's two blocks, beside what the caller holds
  have recs : ∀ (st : LoopState) (pe : Option Code), OwnFrom W1.heap.size (fun (_ : Nat) (W : World) => (L < W.heap.size ∧ W.heap[L]? = some (.loop (rc st pe))) ∧ D < W.heap.size ∧ W.heap[D]? = some (.deferred (some []))) := fun st pe =>
    OwnFrom.and (ownFrom_block _ (by omega)) (ownFrom_block _ (by omega))
  have lt : ∀ {W : World} {b : Nat} {o : Obj}, W.heap[b]? = some o → b < W.heap.size := fun h => (Array.getElem?_eq_some_iff.1 h).1
  refine (hseq (n - 1) L
    (fun k W => I k W ∧ (L < W.heap.size ∧ W.heap[L]? = some (.loop (rc .ready none))) ∧ D < W.heap.size ∧ W.heap[D]? = some (.deferred (some [])))
    (fun k W => I' k W ∧ (L < W.heap.size ∧ W.heap[L]? = some (.loop (rc .ready none))) ∧ D < W.heap.size ∧ W.heap[D]? = some (.deferred (some [])))
    (fun k W => ∃ c, Ix c k W ∧ (L < W.heap.size ∧ W.heap[L]? = some (.loop (rc .done (some c)))) ∧ D < W.heap.size ∧ W.heap[D]? = some (.deferred (some [])))
    W1 (by omega) hb1 (by omega) (OwnFrom.and (ownFrom_mono hI (by omega)) (recs _ _)) (OwnFrom.and (ownFrom_mono hI' (by omega)) (recs _ _))
    (fun k A B row hs hg' hr => by obtain ⟨c, hc, hr2⟩ := hs; exact ⟨c, ownFrom_mono (hIx c) (by omega) k A B row hc hg' hr, recs _ _ k A B row hr2 hg' hr⟩)
    (fun k A hk hs => hNd k A hk hs.1) ?_ (fun hf W' hs => hfin hf W' hs.1) ?_ ⟨hi1, ⟨lt hl1, hl1⟩, lt hd1, hd1⟩).mono ?_
  · rintro k A B hk ⟨hi, ⟨_, hl⟩, _, hd⟩ ht
    have hl' := (hT _ _ _ _ ht).2 L _ (by omega) hl rfl
    have hd' := (hT _ _ _ _ ht).2 D _ (by omega) hd rfl
    exact ⟨hIT _ k A B (by omega) hk hi ht, ⟨lt hl', hl'⟩, lt hd', hd'⟩
  · -- one round
    rintro k W ⟨hi, ⟨_, hl⟩, _, hd⟩ hlen hm
    have hlt : L < W.heap.size := lt hl
    have hy := run_yield (P := P) (args := xs k) hl (by rw [hrc]; exact hps k)
    rw [hrc] at hy
    refine ⟨fn, _, assign, body, hy, roundIn_of_wpIn hfn (hassign _ k W _ ⟨_, run_beginRound hl (by rw [hrc]), ?_⟩)⟩
    have hl2 : (W.putObj L (.loop { rc .ready none with state := .busy })).heap[L]? = some (.loop { rc .ready none with state := .busy }) := World.putObj_heap_same hlt
    have hd2 : (W.putObj L (.loop { rc .ready none with state := .busy })).heap[D]? = some (.deferred (some [])) := (World.putObj_heap_other (by omega)).trans hd
    have hw2 : Kp W (W.putObj L (.loop { rc .ready none with state := .busy })) := hKb _ _ _ _ (by omega) hl rfl rfl
    have hk2 : Keeps W1.heap.size W1.heap.size m W (W.putObj L (.loop { rc .ready none with state := .busy })) := Keeps.putObj (by omega) (by omega)
    refine wpIn_mono (hbody _ k _ (hI'.putObj _ hi (by omega) hl rfl) hlen (by simp; omega)) ?_
    have fin : ∀ (jump : Option Code) (W3 : World), Keeps w.heap.size (w.heap.size + 2) m (W.putObj L (.loop { rc .ready none with state := .busy })) W3 →
        (Instr.endRound L jump).run P W3 = .ok (.bool jump.isNone) (W3.putObj L (.loop (rc (if jump.isNone then .ready else .done) jump))) ∧
        W3.heap[L]? = some (.loop { rc .ready none with state := .busy }) ∧
        (W3.putObj L (.loop (rc (if jump.isNone then .ready else .done) jump))).heap[L]? = some (.loop (rc (if jump.isNone then .ready else .done) jump)) ∧
        (W3.putObj L (.loop (rc (if jump.isNone then .ready else .done) jump))).heap[D]? = some (.deferred (some [])) ∧
        Keeps W1.heap.size W1.heap.size m W (W3.putObj L (.loop (rc (if jump.isNone then .ready else .done) jump))) := fun jump W3 hk3 => by
      have hl3 := hk3.others L _ (by omega) hl2 rfl
      have hd3 := hk3.others D _ (by omega) hd2 rfl
      have := run_endRound (P := P) jump hl3
      rw [hrc] at this ⊢
      exact ⟨this, by rw [hrc] at hl3; exact hl3, World.putObj_heap_same (lt hl3), (World.putObj_heap_other (by omega)).trans hd3, by rw [hrc] at hk2 hk3; exact hk2.trans ((hk3.mono (by omega) (by omega) (by omega)).trans (Keeps.putObj (by omega) (by omega)))⟩
    rintro e a3 W3 hp
    cases e with
    | normal =>
      obtain ⟨hk3, hkp3, hi3⟩ := hp
      obtain ⟨hr, hl3, hl4, hd4, hk4⟩ := fin none W3 hk3
      exact ⟨_, _, hr, .inl ⟨rfl, ⟨hI.putObj _ hi3 (by omega) hl3 rfl, ⟨lt hl4, hl4⟩, lt hd4, hd4⟩, hKt (hKt hw2 hkp3) (hKb _ _ _ _ (by omega) hl3 rfl rfl), hk4⟩⟩
    | ret =>
      obtain ⟨hk3, hi3⟩ := hp
      obtain ⟨hr, hl3, hl4, hd4, hk4⟩ := fin (some .ret) W3 hk3
      exact ⟨_, _, hr, .inr ⟨rfl, ⟨.ret, (hIx _).putObj _ hi3 (by omega) hl3 rfl, ⟨lt hl4, hl4⟩, lt hd4, hd4⟩, hk4⟩⟩
    | exit id =>
      obtain ⟨hk3, hi3⟩ := hp
      obtain ⟨hr, hl3, hl4, hd4, hk4⟩ := fin (some (.exit id)) W3 hk3
      exact ⟨_, _, hr, .inr ⟨rfl, ⟨.exit id, (hIx _).putObj _ hi3 (by omega) hl3 rfl, ⟨lt hl4, hl4⟩, lt hd4, hd4⟩, hk4⟩⟩
    | goto t =>
      obtain ⟨hk3, hi3⟩ := hp
      obtain ⟨hr, hl3, hl4, hd4, hk4⟩ := fin (some (.goto t)) W3 hk3
      exact ⟨_, _, hr, .inr ⟨rfl, ⟨.goto t, (hIx _).putObj _ hi3 (by omega) hl3 rfl, ⟨lt hl4, hl4⟩, lt hd4, hd4⟩, hk4⟩⟩
    | panic ch => exact hp.elim
    | outgrown => exact hp.elim
  · -- behind the iterator
    rintro e W2 ⟨⟨v, rfl⟩, (⟨hi, ⟨_, hl⟩, _, hd⟩ | ⟨k, hk0, hk, c, hi, ⟨_, hl⟩, _, hd⟩)⟩
    · exact ⟨none, _, by have := run_endLoop (P := P) hl (by rw [hrc]; simp); rw [hrc] at this; exact this, hdone _ _ (by omega) (hI'.putObj _ hi (by omega) hl rfl) ((World.putObj_heap_other (by omega)).trans hd)⟩
    · exact ⟨some c, _, by have := run_endLoop (P := P) hl (by rw [hrc]; simp); rw [hrc] at this; exact this, hstop _ c k _ (by omega) hk0 hk ((hIx c).putObj _ hi (by omega) hl rfl) ((World.putObj_heap_other (by omega)).trans hd)⟩

theorem tplain_keeps : ∀ B k W1 W2, TPlain B k W1 W2 → W1.heap.size ≤ W2.heap.size ∧ ∀ b o, b < B → W1.heap[b]? = some o → o.isCells = false → W2.heap[b]? = some o := fun _ _ _ _ h =>
  ⟨h.size, fun b o _ hb _ => (h.block b (Array.getElem?_eq_some_iff.1 hb).1 (by simp)).trans hb⟩
/-- The law where the iterator of itself makes memory at most: one invariant. -/
theorem ownFrom_plain {B : Nat} {I : Nat → World → Prop} (h : OwnFrom B I) {C k : Nat} {W1 W2 : World} (hi : I k W1) (ht : TPlain C k W1 W2) : I k W2 := h k W1 W2 none hi ht (fun r e => by cases e)
/-- A round's own call of the yield that a caller handed over, in whatever frame and at whatever room. -/
theorem roundIn_any {n m l l' : Nat} {P : Program} {f : FuncId} {tmps : Array Value} {assign body : Code} {w : World} {R : Ending → World → Prop} (h : RoundIn Fence.wide n P l f tmps assign body w R) :
    RoundIn (Fence.wide.inRound l') m P l f tmps assign body w R :=
  ⟨trivial, fun c cs _ => h.2 c cs (room_wide _)⟩
end Go.Proofs.Ytldhmjfjbalakaa

namespace Go.Proofs.Ytldhmjfjbalakaa
open Go.RowKit Go.Shelf

attribute [local go_sem] Oper.semAt_some

/-- Blocks lo to hi lie as they lay. -/
def Stay (lo hi : Nat) (W W' : World) : Prop := W.heap.size ≤ W'.heap.size ∧ ∀ k, lo ≤ k → k < hi → W'.heap[k]? = W.heap[k]?
theorem Stay.trans {lo hi : Nat} {a b c : World} (h : Stay lo hi a b) (k : Stay lo hi b c) : Stay lo hi a c := ⟨Nat.le_trans h.1 k.1, fun i h1 h2 => (k.2 i h1 h2).trans (h.2 i h1 h2)⟩
theorem Stay.refl (lo hi : Nat) (w : World) : Stay lo hi w w := ⟨Nat.le_refl _, fun _ _ _ => rfl⟩

set_option maxRecDepth 100000 in
set_option maxHeartbeats 2000000 in
theorem each_seq (Bs lo n₀ : Nat) (P : Nat → Prop) (A : Option Addr) (c : Nat) (a : List Nat) (w : World) (hP : ∀ b, P b → lo ≤ b ∧ b < n₀) (hlo : lo ≤ Bs) (hBs : Bs < n₀) (hn₀ : n₀ ≤ w.heap.size) (hc0 : w.cell? ⟨Bs, 0, none⟩ = some (.slice A a.length c)) (hR0 : RN w P A c a) :
    SeqAt Try.prog 81 #[.pointer (some ⟨Bs, 0, none⟩)] (fun k => #[.int .i64 ((bitAt (val 18446744073709551616 a) k).1 : Int), .int .u64 ((bitAt (val 18446744073709551616 a) k).2 : Int)]) NoNeed TPlain (Stay lo n₀) 0 (nbits (val 18446744073709551616 a)) true w := by
  intro n l' J J' Jx W hn hW _ _ _ _ _ hT _ hY h0
  have hc := (hW.cell (p := ⟨Bs, 0, none⟩) (Nat.lt_of_lt_of_le hBs hn₀)).trans hc0
  have hR := hR0.below hW fun b hb => Nat.lt_of_lt_of_le (hP b hb).2 hn₀
  have zW := hW.size
  clear hc0 hR0
  have hbits := Lib.hid (fun W (h : RN W P A c a) => (callsIn_wide (n := n - 1)).2 (bits_any P A c a W h))
  have hbit := Lib.hid (fun i W (h : RN W P A c a) (hi : i ≤ 9223372036854775807) => (callsIn_wide (n := n - 1)).2 (bit_any P A c a i W h hi))
  have hcap := hR.cap
  have hnb : nbits (val 18446744073709551616 a) ≤ 64 * a.length := by
    apply nbits_le
    have := val_lt hR.2.1
    rwa [show (18446744073709551616 : Nat) = 2 ^ 64 by decide, ← Nat.pow_mul] at this
  have hbv := fun k => (show bitOf (val 18446744073709551616 a) ((k : Nat) : Int) = val 18446744073709551616 a / 2 ^ k % 2 by simp [bitOf, show ¬ (k : Int) < 0 by omega])
  have Hbv := Lib.hid hbv
  clear hbv
  generalize hx : val 18446744073709551616 a = x at *
  have hba := Lib.hid (fun k => (show bitAt x k = (nbits x - 1 - k, x / 2 ^ (nbits x - 1 - k) % 2) by rfl))
  obtain ⟨nb, hnb'⟩ : ∃ nb, nbits x = nb := ⟨_, rfl⟩
  rw [hnb'] at hbits hba hnb hY hT ⊢
  have HT := Lib.hid hT
  have HY := Lib.hid hY
  clear hT hY
  clear hx hnb'
  have hnb1 : nb ≤ 64000000 := by have := hcap.2.2; omega
  clear hnb
  refine callsIn_of_wp Try.func81 rfl trivial ?_ rfl
  simp only [Try.ntmps81, List.size_toArray, List.length_cons, List.length_nil, Nat.reduceAdd, Nat.reduceSub, Array.replicate_succ, Array.replicate_zero, List.push_toArray, List.append_toArray, List.nil_append, List.cons_append]
  gi_wp2
  refine ⟨trivial, (hbits.out _ hR).mono ?_⟩
  rintro e w' ⟨rfl, rfl⟩
  have Hst := Lib.hid (Below1.start nb)
  gi_wp2
  gi_loopw [3] (fun i wr => ∃ (k : Nat) (z : Int), k ≤ nb ∧ Below1 (nb - k) z ∧ i = .int .i64 z ∧ J k wr ∧ Stay lo n₀ W wr)
    (fun i _ => (intOf i + 1).toNat)
  case atStart => exact ⟨0, _, Nat.zero_le _, Hst.out, rfl, h0, Stay.refl _ _ _⟩
  case round =>
    obtain ⟨k, z, hk, hz, rfl, hJs, hnx⟩ := hrel
    have hcx := (World.cell?_of_block (w' := wr) (a := ⟨Bs, 0, none⟩) (hnx.2 Bs hlo hBs)).trans hc
    have hRx := hR.keep (w' := wr) fun p hp => World.cell?_of_block (hnx.2 _ (hP _ hp).1 (hP _ hp).2)
    rcases hz with ⟨hk0, rfl⟩ | ⟨j, hj, rfl⟩
    · obtain rfl : k = nb := by omega
      have hjn := HT.out k _ _ (Nat.le_refl _) hJs (World.grownBy.refl wr none)
      gi_wp2
      go_end0
      exact ⟨⟨_, rfl⟩, .inl hjn⟩
    · obtain ⟨fn, tmps, assign, body, hy, hRo⟩ := HY.out k wr (HT.out k _ _ hk hJs (World.grownBy.refl wr none)) (by omega) (by have := hnx.1; omega)
      have hb1 := hba.out k
      rw [show nb - 1 - k = j by omega] at hb1
      have hbj := hbit.out (j : Int) wr hRx (by omega)
      rw [Hbv.out j] at hbj
      rw [hb1] at hy
      obtain ⟨bb, hbb⟩ : ∃ bb, x / 2 ^ j % 2 = bb := ⟨_, rfl⟩
      rw [hbb] at hy hb1 hbj
      dsimp only at hy
      have Hbj := Lib.hid hbj
      have Hb1 := Lib.hid hb1
      clear hb1 hbj hbb
      gi_wp2
      refine ⟨trivial, Hbj.out.mono ?_⟩
      rintro e w' ⟨rfl, rfl⟩
      gi_wp2
      refine hRo.mono ?_
      rintro e W3 (⟨rfl, hJ3, hk3, _⟩ | ⟨rfl, hJx3, _⟩)
      · gi_wp2
        go_roundw
        case rel => exact ⟨k + 1, _, by omega, by rw [show nb - (k + 1) = j by omega]; exact Below1.start j, rfl, hJ3, hnx.trans hk3⟩
        case measure => simp [intOf]
      · gi_wp2
        refine bodyPost_ret (results_none rfl _ _ _) rfl ?_
        exact ⟨⟨_, rfl⟩, .inr ⟨k + 1, by omega, by omega, hJx3⟩⟩
end Go.Proofs.Ytldhmjfjbalakaa

namespace Go.Proofs.Ytldhmjfjbalakaa
open Go
namespace Par
/-- No operation is a defer statement. -/
def noDefer (o : Oper) : Bool := match o.op with | .defer _ => false | _ => true
theorem noDefer_spec {o : Oper} (h : noDefer o = true) (c : Call) : o.op ≠ .defer c := fun e => by simp [noDefer, e] at h
def noOut (Q : Exit → Act → World → Prop) : Exit → Act → World → Prop := fun e a w => e ≠ .outgrown ∧ Q e a w
section
variable {P : Program} {ops : Array Oper} {Q : Exit → Act → World → Prop} {md : Region.Mode} {l n : Nat}
theorem not_lets : ¬ LetsOut (noOut Q) := fun ⟨_, _, h, _⟩ => h rfl
theorem oper_round {o : Oper} {a : Act} {w : World} {K : Act → World → Prop} (hd : noDefer o = true) (hh : o.wp P a w K Q) : o.wpIn (Fence.wide.inRound l) n P a w K Q := by
  refine ⟨fun _ _ => trivial, ?_⟩
  rw [Oper.semAt_eq _ _ _ (noDefer_spec hd)]
  unfold Oper.wp at hh
  generalize (execOp a.eval o).run P w = r at *
  cases r with
  | ok x w' =>
    cases x <;> simp only [Oper.upon, Oper.uponIn] at hh ⊢
    case enter f args => exact ⟨(fun h => by cases h), (callsIn_wide (n := n - 1)).2 hh⟩
    case row r args => exact ⟨(fun h => by cases h), fun c cs _ => let ⟨v, w'', r, s⟩ := hh c cs; ⟨v, w'', r, stepsIn_wide.2 s⟩⟩
    all_goals first | exact hh | exact hh.elim
  | halt x w' => cases x <;> simp only [Oper.upon, Oper.uponIn] at hh ⊢ <;> exact hh
theorem op_round (hd : ∀ (i : Nat) o, ops[i]? = some o → noDefer o = true) (hq : ¬ LetsOut Q) {i : Nat} {K K' : Act → World → Prop} (hK : ∀ a w, K a w → K' a w) {a : Act} {w : World} (hh : wpOp P ops Q i K a w) :
    wpOpIn (Fence.wide.inRound l) n P ops Q i K' a w := by
  unfold wpOp at hh
  unfold wpOpIn
  split
  · rename_i h
    simp only [h] at hh
    exact hK _ _ hh
  · rename_i o h
    simp only [h] at hh
    split
    · rename_i hw
      simp only [hw, if_true] at hh
      rcases hh with hh | hh
      · exact Oper.wpIn_mono hK (oper_round (hd _ _ h) hh)
      · exact absurd hh.2 hq
    · rename_i hw
      simp only [hw] at hh
      exact ⟨fun _ _ => trivial, hK _ _ hh⟩
theorem any_round (hd : ∀ (i : Nat) o, ops[i]? = some o → noDefer o = true) (hq : ¬ LetsOut Q) : ∀ (fuel : Nat) (listed : Array Bool) (a : Act) (w : World), wpAny P md ops Q fuel listed a w → wpAnyIn (Fence.wide.inRound l) n P md ops Q fuel listed a w
  | 0, _, _, _, h => h
  | fuel + 1, _, _, _, h => ⟨h.1, fun i hi => op_round hd hq (fun a' w' h' => any_round hd hq fuel _ a' w' h') (h.2 i hi)⟩
theorem ops_round (hd : ∀ (i : Nat) o, ops[i]? = some o → noDefer o = true) (hq : ¬ LetsOut Q) : ∀ (k : List Nat) (a : Act) (w : World), wpOps P ops Q k a w → wpOpsIn (Fence.wide.inRound l) n P ops Q k a w
  | [], _, _, h => h
  | i :: k, a, w, h => by
    rw [wpOpsIn_cons]
    refine op_round (K := wpOps P ops Q k) hd hq (fun a' w' h' => ops_round hd hq k a' w' h') ?_
    unfold wpOps at h
    unfold wpOp
    exact h
theorem all_noDefer {ol : List Oper} (h : ol.all noDefer = true) (i : Nat) (o : Oper) (ho : ol.toArray[i]? = some o) : noDefer o = true := by
  rw [List.getElem?_toArray] at ho
  exact List.all_eq_true.1 h o (List.mem_of_getElem? ho)
theorem drop_out {c : Code} {a : Act} {w : World} (h : c.wpIn (Fence.wide.inRound l) n P (noOut Q) a w) : c.wpIn (Fence.wide.inRound l) n P Q a w := wpIn_mono h fun _ _ _ h => h.2
theorem region_ext_in {ol : List Oper} {id : Nat} {a : Act} {w : World} (hm : P.follows .mixedOrders = true) (m : Nat) (L AL : List Nat) (R : Nat → (Nat → Value) → World → Prop) (hok : ok ol.toArray (fun i => L.getD i 0) m = true) (pl : List (Nat × Nat)) (hpl : sel ol.toArray (fun _ => true) (List.range m) = pl) (hd : ol.all noDefer = true)
    (hstep : AllOps (StepO P ol (noOut Q) Ext m L AL R a w) (Fin P ol (noOut Q) Ext m L AL R pl a w) 0 m ol) : (Code.region id ol.toArray true).wpIn (Fence.wide.inRound l) n P Q a w :=
  drop_out (wpIn_region_any hm (any_round (all_noDefer hd) not_lets _ _ _ _ (any_all Ext.refl (fun _ _ _ => Ext.trans) (fun _ _ => Ext.bsize) (Ext.drew w) m L AL R hok pl hpl hstep)))
theorem region_txt_in {ol : List Oper} {id : Nat} {a : Act} {w : World} (m : Nat) (L AL : List Nat) (R : Nat → (Nat → Value) → World → Prop) (hok : ok ol.toArray (fun i => L.getD i 0) m = true) (pl : List (Nat × Nat)) (hpl : sel ol.toArray (fun _ => true) (List.range m) = pl) (hd : ol.all noDefer = true)
    (hstep : AllOps (StepO P ol (noOut Q) Ext m L AL R a w) (Fin P ol (noOut Q) Ext m L AL R pl a w) 0 m ol) : (Code.region id ol.toArray false).wpIn (Fence.wide.inRound l) n P Q a w := by
  refine drop_out (wpIn_region (ops_round (all_noDefer hd) not_lets _ _ _ ?_))
  have h := any_all Ext.refl (fun _ _ _ => Ext.trans) (fun _ _ => Ext.bsize) (Ext.refl w) m L AL R hok pl hpl hstep
  rw [upto_zero] at h
  rw [List.range_eq_range']
  exact any_text (ok.form hok) _ 0 a w (by omega) h
end
end Par
end Go.Proofs.Ytldhmjfjbalakaa
