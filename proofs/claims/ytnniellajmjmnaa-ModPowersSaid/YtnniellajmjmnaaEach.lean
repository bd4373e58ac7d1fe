/- What limb.Each hands back: an iterator over the bits, the highest first. -/
import Derived.Test.YtnniellajmjmnaaBytes
import Derived.RangeFuncNested
import Derived.RangeFuncBound
import Derived.RangeFuncCalls
import Derived.RangeFuncLeaves
import Derived.Shelf.Abstract
import Derived.Shelf.RegionOpen
import Derived.OwnWalkIn
import Derived.TacticsInMore
import Derived.LoopNIn
import Derived.LoopIn
namespace Go.Proofs.Ytnniellajmjmnaa
open Go.RowKit Go.Shelf

attribute [local go_sem] Oper.semAt_some

/-- What has come behind k rounds. -/
def upTo {α : Type} (f : Nat → α) (k : Nat) : List α := (List.range k).map f
theorem upTo_succ {α : Type} (f : Nat → α) (k : Nat) : upTo f (k + 1) = upTo f k ++ [f k] := by simp [upTo, List.range_succ]
theorem upTo_length {α : Type} (f : Nat → α) (k : Nat) : (upTo f k).length = k := by simp [upTo]
/-- Bit number j from the highest down: its place, and it. -/
def bitAt (x : Nat) (j : Nat) : Nat × Nat := (nbits x - 1 - j, x / 2 ^ (nbits x - 1 - j) % 2)

set_option maxRecDepth 100000 in
set_option maxHeartbeats 1000000 in
theorem each_any (P : Nat → Prop) (A : Option Addr) (c : Nat) (a : List Nat) (w : World) (h : RN w P A c a) (hP : ∀ b, P b → b < w.heap.size) :
    Calls Try.prog 26 #[.slice A a.length c] w fun e w' => ∃ A1 c1, e = .returned (.func (.func 71) #[] #[.pointer (some ⟨w.heap.size, 0, none⟩)]) ∧
      w'.heap[w.heap.size]? = some (.cells #[.slice A1 (digs 18446744073709551616 (val 18446744073709551616 a)).length c1] 23 (0, 0)) ∧ OB w' w.heap.size A1 c1 (digs 18446744073709551616 (val 18446744073709551616 a)) ∧ Below w.heap.size w w' := by
  have hm := Lib.hid (fun w h => made_any P A c a w h)
  have hR : RN (w.alloc (.cells #[.slice A a.length c] 23)) P A c a := h.below ((Below.refl _ w).alloc (Nat.le_refl _) _) hP
  generalize digs 18446744073709551616 (val 18446744073709551616 a) = l at *
  go_enter Try.func26, Try.ntmps26
  go_wp2_with fail
  refine (hm.out _ hR).mono ?_
  rintro e w1 ⟨A1, c1, rfl, hO, hB⟩
  have hb := (hB.block w.heap.size (by simp)).trans (heap_alloc_new w _)
  have f0 := blk_free hb 0
  have c0 := blk_cell hb 0
  simp at c0
  go_wp2
  go_ret
  refine ⟨A1, c1, rfl, ?_, ?_, (((Below.refl _ w).alloc (Nat.le_refl _) _).trans (hB.mono (by simp))).setCell (p := ⟨w.heap.size, 0, none⟩) (Nat.le_refl _) _⟩
  · simp [World.setCell, Array.getElem?_modify, hb]
  · obtain ⟨h1, h2, h3, h4⟩ := hO
    refine ⟨h1, h2, h3, fun hn => ?_⟩
    obtain ⟨g, cur, e, hg, hh, hc⟩ := h4 hn
    simp at hg
    exact ⟨g, cur, e, by omega, (Below.heap_setCell _ _ _ _ (by show g ≠ w.heap.size; omega)).trans hh, hc⟩

set_option maxRecDepth 100000 in
set_option maxHeartbeats 2000000 in
theorem each1_in (n l Bs n₀ : Nat) (hn : 1 ≤ n) (P : Nat → Prop) (A : Option Addr) (c : Nat) (a : List Nat) (hP : ∀ b, P b → b < n₀) (hBs : Bs < n₀) (J Jx : List (Nat × Nat) → World → Prop)
    (hY : ∀ pre x W, J pre W → pre.length < nbits (val 18446744073709551616 a) → YieldAt Fence.wide (n - 1) Try.prog l #[.int .i64 (x.1 : Int), .int .u64 (x.2 : Int)] W fun e W' =>
      (e = .returned (.bool true) ∧ J (pre ++ [x]) W' ∧ Below n₀ W W') ∨ (e = .returned (.bool false) ∧ Jx (pre ++ [x]) W'))
    (W : World) (hc : W.cell? ⟨Bs, 0, none⟩ = some (.slice A a.length c)) (hR : RN W P A c a) (h0 : J [] W) :
    CallsIn Fence.wide n Try.prog 71 #[.func (.yield l) #[] #[], .pointer (some ⟨Bs, 0, none⟩)] W fun e W' => (∃ v, e = .returned v) ∧
      ((∃ ys, ys = upTo (bitAt (val 18446744073709551616 a)) (nbits (val 18446744073709551616 a)) ∧ J ys W') ∨ (∃ pre, (∃ k, 0 < k ∧ k ≤ nbits (val 18446744073709551616 a) ∧ pre = upTo (bitAt (val 18446744073709551616 a)) k) ∧ Jx pre W')) := by
  have hbits := Lib.hid (fun W (h : RN W P A c a) => (callsIn_wide (n := n - 1)).2 (bits_any P A c a W h))
  have hbit := Lib.hid (fun i W (h : RN W P A c a) (hi : i ≤ 9223372036854775807) => (callsIn_wide (n := n - 1)).2 (bit_any P A c a i W h hi))
  have hcap := hR.cap
  have hnb : nbits (val 18446744073709551616 a) ≤ 64 * a.length := by
    apply nbits_le
    have := val_lt hR.2.1
    rwa [show (18446744073709551616 : Nat) = 2 ^ 64 by decide, ← Nat.pow_mul] at this
  have hbv := fun k => (show bitOf (val 18446744073709551616 a) ((k : Nat) : Int) = val 18446744073709551616 a / 2 ^ k % 2 by simp [bitOf, show ¬ (k : Int) < 0 by omega])
  have Hbv := Lib.hid hbv
  clear hbv
  generalize hx : val 18446744073709551616 a = x at *
  have hba := Lib.hid (fun k => (show bitAt x k = (nbits x - 1 - k, x / 2 ^ (nbits x - 1 - k) % 2) by rfl))
  obtain ⟨nb, hnb'⟩ : ∃ nb, nbits x = nb := ⟨_, rfl⟩
  rw [hnb'] at hbits hba hnb hY ⊢
  clear hx hnb'
  have hnb1 : nb ≤ 64000000 := by have := hcap.2.2; omega
  clear hnb
  refine callsIn_of_wp Try.func71 rfl trivial ?_ rfl
  simp only [Try.ntmps71, List.size_toArray, List.length_cons, List.length_nil, Nat.reduceAdd, Nat.reduceSub, Array.replicate_succ, Array.replicate_zero, List.push_toArray, List.append_toArray, List.nil_append, List.cons_append]
  gi_wp2
  refine ⟨trivial, (hbits.out _ hR).mono ?_⟩
  rintro e w' ⟨rfl, rfl⟩
  have Hst := Lib.hid (Below1.start nb)
  gi_wp2
  gi_loopw [3] (fun i wr => ∃ (k : Nat) (z : Int), k ≤ nb ∧ Below1 (nb - k) z ∧ i = .int .i64 z ∧ J (upTo (bitAt x) k) wr ∧ Below n₀ W wr)
    (fun i _ => (intOf i + 1).toNat)
  case atStart => exact ⟨0, _, Nat.zero_le _, Hst.out, rfl, h0, Below.refl _ _⟩
  case round =>
    obtain ⟨k, z, hk, hz, rfl, hJs, hnx⟩ := hrel
    have hcx := (hnx.cell (p := ⟨Bs, 0, none⟩) hBs).trans hc
    have hRx := hR.below hnx hP
    rcases hz with ⟨hk0, rfl⟩ | ⟨j, hj, rfl⟩
    · obtain rfl : k = nb := by omega
      gi_wp2
      go_end0
      exact ⟨⟨_, rfl⟩, .inl ⟨_, rfl, hJs⟩⟩
    · obtain ⟨fn, tmps, assign, body, hy, hRo⟩ := hY _ (bitAt x k) wr hJs (by rw [upTo_length]; omega)
      have hb1 := hba.out k
      rw [show nb - 1 - k = j by omega] at hb1
      have hbj := hbit.out (j : Int) wr hRx (by omega)
      rw [Hbv.out j] at hbj
      rw [hb1] at hy hRo
      obtain ⟨bb, hbb⟩ : ∃ bb, x / 2 ^ j % 2 = bb := ⟨_, rfl⟩
      rw [hbb] at hy hRo hb1 hbj
      dsimp only at hy
      have Hbj := Lib.hid hbj
      have Hb1 := Lib.hid hb1
      clear hb1 hbj hbb
      gi_wp2
      refine ⟨trivial, Hbj.out.mono ?_⟩
      rintro e w' ⟨rfl, rfl⟩
      gi_wp2
      refine hRo.mono ?_
      rintro e W3 (⟨rfl, hJ3, hk3⟩ | ⟨rfl, hJx3⟩)
      · gi_wp2
        go_roundw
        case rel => exact ⟨k + 1, _, by omega, by rw [show nb - (k + 1) = j by omega]; exact Below1.start j, rfl, by rw [upTo_succ, Hb1.out]; exact hJ3, hnx.trans hk3⟩
        case measure => simp [intOf]
      · gi_wp2
        refine bodyPost_ret (results_none rfl _ _ _) rfl ?_
        exact ⟨⟨_, rfl⟩, .inr ⟨_, ⟨k + 1, by omega, by omega, by rw [upTo_succ, Hb1.out]⟩, hJx3⟩⟩

/-- What Each hands back goes over the bits, the highest first, or over the first of them. -/
theorem each_stops (n Bs n₀ : Nat) (hn : 1 ≤ n) (P : Nat → Prop) (A : Option Addr) (c : Nat) (a : List Nat) (w : World) (hP : ∀ b, P b → b < n₀) (hBs : Bs < n₀) (hn₀ : n₀ ≤ w.heap.size) (hc : w.cell? ⟨Bs, 0, none⟩ = some (.slice A a.length c)) (hR : RN w P A c a) :
    SeqStopsK Fence.wide n Try.prog 71 #[.pointer (some ⟨Bs, 0, none⟩)] (fun x : Nat × Nat => #[Value.int .i64 (x.1 : Int), Value.int .u64 (x.2 : Int)]) (Below n₀)
      (fun ys => ys = upTo (bitAt (val 18446744073709551616 a)) (nbits (val 18446744073709551616 a))) (fun pre => ∃ k, 0 < k ∧ k ≤ nbits (val 18446744073709551616 a) ∧ pre = upTo (bitAt (val 18446744073709551616 a)) k) (nbits (val 18446744073709551616 a)) w := fun l J Jx W hW _ _ hY h0 =>
  each1_in n l Bs n₀ hn P A c a hP hBs J Jx hY W ((hW.cell (p := ⟨Bs, 0, none⟩) (Nat.lt_of_lt_of_le hBs hn₀)).trans hc) (hR.below hW fun b hb => Nat.lt_of_lt_of_le (hP b hb) hn₀) h0
end Go.Proofs.Ytnniellajmjmnaa
