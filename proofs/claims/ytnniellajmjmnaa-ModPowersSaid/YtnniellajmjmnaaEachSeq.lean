/- limb.Each's iterator, in the words of a known row of values. -/
import Derived.Test.YtnniellajmjmnaaEach
import Derived.Test.YtnniellajmjmnaaIter
namespace Go.Proofs.Ytnniellajmjmnaa
open Go.RowKit Go.Shelf

attribute [local go_sem] Oper.semAt_some

/-- Blocks lo to hi lie as they lay. -/
def Stay (lo hi : Nat) (W W' : World) : Prop := W.heap.size ≤ W'.heap.size ∧ ∀ k, lo ≤ k → k < hi → W'.heap[k]? = W.heap[k]?
theorem Stay.trans {lo hi : Nat} {a b c : World} (h : Stay lo hi a b) (k : Stay lo hi b c) : Stay lo hi a c := ⟨Nat.le_trans h.1 k.1, fun i h1 h2 => (k.2 i h1 h2).trans (h.2 i h1 h2)⟩
theorem Stay.refl (lo hi : Nat) (w : World) : Stay lo hi w w := ⟨Nat.le_refl _, fun _ _ _ => rfl⟩

set_option maxRecDepth 100000 in
set_option maxHeartbeats 2000000 in
theorem each_seq (Bs lo n₀ : Nat) (P : Nat → Prop) (A : Option Addr) (c : Nat) (a : List Nat) (w : World) (hP : ∀ b, P b → lo ≤ b ∧ b < n₀) (hlo : lo ≤ Bs) (hBs : Bs < n₀) (hn₀ : n₀ ≤ w.heap.size) (hc0 : w.cell? ⟨Bs, 0, none⟩ = some (.slice A a.length c)) (hR0 : RN w P A c a) :
    SeqAt Try.prog 71 #[.pointer (some ⟨Bs, 0, none⟩)] (fun k => #[.int .i64 ((bitAt (val 18446744073709551616 a) k).1 : Int), .int .u64 ((bitAt (val 18446744073709551616 a) k).2 : Int)]) NoNeed TPlain (Stay lo n₀) 0 (nbits (val 18446744073709551616 a)) true w := by
  intro n l' J J' Jx W hn hW _ _ _ _ _ hT _ hY h0
  have hc := (hW.cell (p := ⟨Bs, 0, none⟩) (Nat.lt_of_lt_of_le hBs hn₀)).trans hc0
  have hR := hR0.below hW fun b hb => Nat.lt_of_lt_of_le (hP b hb).2 hn₀
  have zW := hW.size
  clear hc0 hR0
  have hbits := Lib.hid (fun W (h : RN W P A c a) => (callsIn_wide (n := n - 1)).2 (bits_any P A c a W h))
  have hbit := Lib.hid (fun i W (h : RN W P A c a) (hi : i ≤ 9223372036854775807) => (callsIn_wide (n := n - 1)).2 (bit_any P A c a i W h hi))
  have hcap := hR.cap
  have hnb : nbits (val 18446744073709551616 a) ≤ 64 * a.length := by
    apply nbits_le
    have := val_lt hR.2.1
    rwa [show (18446744073709551616 : Nat) = 2 ^ 64 by decide, ← Nat.pow_mul] at this
  have hbv := fun k => (show bitOf (val 18446744073709551616 a) ((k : Nat) : Int) = val 18446744073709551616 a / 2 ^ k % 2 by simp [bitOf, show ¬ (k : Int) < 0 by omega])
  have Hbv := Lib.hid hbv
  clear hbv
  generalize hx : val 18446744073709551616 a = x at *
  have hba := Lib.hid (fun k => (show bitAt x k = (nbits x - 1 - k, x / 2 ^ (nbits x - 1 - k) % 2) by rfl))
  obtain ⟨nb, hnb'⟩ : ∃ nb, nbits x = nb := ⟨_, rfl⟩
  rw [hnb'] at hbits hba hnb hY hT ⊢
  have HT := Lib.hid hT
  have HY := Lib.hid hY
  clear hT hY
  clear hx hnb'
  have hnb1 : nb ≤ 64000000 := by have := hcap.2.2; omega
  clear hnb
  refine callsIn_of_wp Try.func71 rfl trivial ?_ rfl
  simp only [Try.ntmps71, List.size_toArray, List.length_cons, List.length_nil, Nat.reduceAdd, Nat.reduceSub, Array.replicate_succ, Array.replicate_zero, List.push_toArray, List.append_toArray, List.nil_append, List.cons_append]
  gi_wp2
  refine ⟨trivial, (hbits.out _ hR).mono ?_⟩
  rintro e w' ⟨rfl, rfl⟩
  have Hst := Lib.hid (Below1.start nb)
  gi_wp2
  gi_loopw [3] (fun i wr => ∃ (k : Nat) (z : Int), k ≤ nb ∧ Below1 (nb - k) z ∧ i = .int .i64 z ∧ J k wr ∧ Stay lo n₀ W wr)
    (fun i _ => (intOf i + 1).toNat)
  case atStart => exact ⟨0, _, Nat.zero_le _, Hst.out, rfl, h0, Stay.refl _ _ _⟩
  case round =>
    obtain ⟨k, z, hk, hz, rfl, hJs, hnx⟩ := hrel
    have hcx := (World.cell?_of_block (w' := wr) (a := ⟨Bs, 0, none⟩) (hnx.2 Bs hlo hBs)).trans hc
    have hRx := hR.keep (w' := wr) fun p hp => World.cell?_of_block (hnx.2 _ (hP _ hp).1 (hP _ hp).2)
    rcases hz with ⟨hk0, rfl⟩ | ⟨j, hj, rfl⟩
    · obtain rfl : k = nb := by omega
      have hjn := HT.out k _ _ (Nat.le_refl _) hJs (World.grownBy.refl wr none)
      gi_wp2
      go_end0
      exact ⟨⟨_, rfl⟩, .inl hjn⟩
    · obtain ⟨fn, tmps, assign, body, hy, hRo⟩ := HY.out k wr (HT.out k _ _ hk hJs (World.grownBy.refl wr none)) (by omega) (by have := hnx.1; omega)
      have hb1 := hba.out k
      rw [show nb - 1 - k = j by omega] at hb1
      have hbj := hbit.out (j : Int) wr hRx (by omega)
      rw [Hbv.out j] at hbj
      rw [hb1] at hy
      obtain ⟨bb, hbb⟩ : ∃ bb, x / 2 ^ j % 2 = bb := ⟨_, rfl⟩
      rw [hbb] at hy hb1 hbj
      dsimp only at hy
      have Hbj := Lib.hid hbj
      have Hb1 := Lib.hid hb1
      clear hb1 hbj hbb
      gi_wp2
      refine ⟨trivial, Hbj.out.mono ?_⟩
      rintro e w' ⟨rfl, rfl⟩
      gi_wp2
      refine hRo.mono ?_
      rintro e W3 (⟨rfl, hJ3, hk3, _⟩ | ⟨rfl, hJx3, _⟩)
      · gi_wp2
        go_roundw
        case rel => exact ⟨k + 1, _, by omega, by rw [show nb - (k + 1) = j by omega]; exact Below1.start j, rfl, hJ3, hnx.trans hk3⟩
        case measure => simp [intOf]
      · gi_wp2
        refine bodyPost_ret (results_none rfl _ _ _) rfl ?_
        exact ⟨⟨_, rfl⟩, .inr ⟨k + 1, by omega, by omega, hJx3⟩⟩
end Go.Proofs.Ytnniellajmjmnaa
