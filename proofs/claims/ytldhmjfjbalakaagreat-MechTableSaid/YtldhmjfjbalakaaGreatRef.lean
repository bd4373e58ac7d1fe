/- What the reference's From, Of, To and Is compute. -/
import Derived.Test.YtldhmjfjbalakaaGreatMul
namespace Go.Proofs.YtldhmjfjbalakaaGreat
open Go.RowKit

theorem OB.recap {w : World} {base : Nat} {A : Option Addr} {c c' : Nat} {l : List Nat} (h : OB w base A c l) (hc : l.length ≤ c') (hc' : c' ≤ maxLen) : OB w base A c' l := ⟨h.1, hc, hc', h.2.2.2⟩
theorem OB.trim32 {w : World} {base : Nat} {A : Option Addr} {c : Nat} {l : List Nat} (h : OB w base A c l) (hl : Dig l) : OB w base A (digs 4294967296 (val 4294967296 l)).length (digs 4294967296 (val 4294967296 l)) := by
  obtain ⟨n, _, e⟩ := hl.cut
  rw [← e]
  have := h.take n
  exact this.recap (Nat.le_refl _) (by have := this.cap; unfold maxLen; omega)
theorem Dig.set {l : List Nat} (h : Dig l) (i x : Nat) (hx : x < 4294967296) : Dig (l.set i x) := set_lt h hx
theorem Dig.dgLt {l : List Nat} (h : Dig l) (i : Nat) : dg l i < 4294967296 := getD_lt (by omega) h i
theorem Dig.digs (x : Nat) : Dig (Go.Proofs.YtldhmjfjbalakaaGreat.digs 4294967296 x) := digs_lt (by omega) x

/-- Behind i rounds of From. -/
def FromAt (l o : List Nat) (i : Nat) : Prop := o.length = 2 * l.length ∧ Dig o ∧ val 4294967296 (o.take (2 * i)) = val 18446744073709551616 (l.take i)
theorem pow_two_mul (i : Nat) : 4294967296 ^ (2 * i) = 18446744073709551616 ^ i := by
  rw [Nat.pow_mul]
theorem FromAt.zero (l : List Nat) : FromAt l (List.replicate (2 * l.length) 0) 0 := ⟨by simp, by intro x hx; simp at hx; omega, by simp⟩
theorem FromAt.step {l o : List Nat} {i p q : Nat} (h : FromAt l o i) (hi : i < l.length) (hp : p < 4294967296) (hq : q < 4294967296) (he : p + 4294967296 * q = dg l i) : FromAt l ((o.set (2 * i) p).set (2 * i + 1) q) (i + 1) := by
  obtain ⟨h1, h2, h3⟩ := h
  refine ⟨by simpa using h1, (h2.set _ _ hp).set _ _ hq, ?_⟩
  rw [show 2 * (i + 1) = 2 * i + 1 + 1 by omega, val_take_set _ (by simp; omega), val_take_set _ (by omega), h3, val_take_getD, ← he, Nat.pow_succ, pow_two_mul]
  simp only [Nat.mul_add, Nat.mul_assoc, Nat.add_assoc]
theorem FromAt.fin {l o : List Nat} (h : FromAt l o l.length) : val 4294967296 o = val 18446744073709551616 l := by
  obtain ⟨h1, _, h3⟩ := h
  rwa [List.take_of_length_le (by omega), List.take_length] at h3

set_option maxRecDepth 100000 in
set_option maxHeartbeats 1000000 in
theorem from_any (P : Nat → Prop) (A : Option Addr) (c : Nat) (l : List Nat) (w : World) (h : RN w P A c l) (hP : ∀ b, P b → b < w.heap.size) (hl : l.length < 100000) :
    Calls Tryz.prog 61 #[.slice A l.length c] w fun e w' => ∃ A1 c1, e = .returned (.slice A1 (digs 4294967296 (val 18446744073709551616 l)).length c1) ∧
      OB w' w.heap.size A1 c1 (digs 4294967296 (val 18446744073709551616 l)) ∧ Below w.heap.size w w' := by
  obtain ⟨h1, h2, h3⟩ := h.cap
  have hmk := run_make_row' (P := Tryz.prog) 47 90 (.int .u64 0) 8 Tryz.underlying47 info64 rfl .i64 .i64 (2 * l.length) (by omega) (by omega)
  simp only [Int.natCast_mul, Int.cast_ofNat_Int] at hmk
  go_enter Tryz.func61, Tryz.ntmps61
  go_wp2
  go_loopw [4] (fun iv wr => ∃ (i : Nat) (o : List Nat), iv = .int .i64 (i : Int) ∧ i ≤ l.length ∧ FromAt l o i ∧ Lim o ∧ Blk wr w.heap.size o ∧ Below w.heap.size w wr) (fun iv _ => l.length - (intOf iv).toNat)
  case atStart => exact ⟨0, List.replicate (2 * l.length) 0, rfl, by omega, FromAt.zero _, ⟨by simp, by simp; omega⟩, Blk.made w _, (Below.refl _ w).alloc (Nat.le_refl _) _⟩
  case round =>
    obtain ⟨i, o, rfl, hi, hF, hLo, hblk, hB⟩ := hrel
    by_cases hlt : i < l.length
    · obtain ⟨ad, rfl, had, q1⟩ := (h.below hB hP).at_ hlt
      have hol := hF.1
      have hxi := h.2.dgLt i
      obtain ⟨p, q, hp, hq, he, e1, e2⟩ : ∃ p q : Nat, p < 4294967296 ∧ q < 4294967296 ∧ p + 4294967296 * q = dg l i ∧ (dg l i : Int) % 4294967296 = (p : Int) ∧ (dg l i : Int) / 4294967296 = (q : Int) :=
        ⟨dg l i % 4294967296, dg l i / 4294967296, by omega, by omega, by omega, by omega, by omega⟩
      have q3 := hblk.cell (i := 2 * i) (by omega)
      have q4 := hblk.free (2 * i)
      have hblk1 := hblk.set (2 * i) p
      have q5 := hblk1.cell (i := 2 * i + 1) (by simp; omega)
      have q6 := hblk1.free (2 * i + 1)
      have hblk2 := hblk1.set (2 * i + 1) q
      have hLo' := (hLo.set (2 * i) p (by omega)).set (2 * i + 1) q (by omega)
      have hB1 := hB.setCell (p := ⟨w.heap.size, 2 * i, none⟩) (Nat.le_refl _) (.int .u64 (p : Int))
      have q7 := ((h.below hB1 hP).cells i hlt)
      have hB2 := hB1.setCell (p := ⟨w.heap.size, 2 * i + 1, none⟩) (Nat.le_refl _) (.int .u64 (q : Int))
      have hF' := hF.step hlt hp hq he
      have k1 : (2 : Int) * (i : Int) < 2 * (l.length : Int) := by omega
      have k2 : (2 : Int) * (i : Int) + 1 < 2 * (l.length : Int) := by omega
      clear hF hLo hblk hB hblk1 hB1 he hol hp hq
      go_wp2
      go_roundw
      case rel => exact ⟨i + 1, (o.set (2 * i) p).set (2 * i + 1) q, by go_num, by omega, hF', hLo', hblk2, hB2⟩
      case measure => simp [intOf]; omega
    · obtain rfl : i = l.length := by omega
      have hfin := hF.fin
      have hOB : OB wr w.heap.size (some ⟨w.heap.size, 0, none⟩) (2 * l.length) o := OB.of_blk hblk (Nat.le_refl _) hLo (by have := hF.1; omega) (by unfold maxLen; omega)
      have ht := refTrim_any _ _ _ _ _ hOB.rn hF.2.1
      have hOB' := hOB.trim32 hF.2.1
      rw [hfin, hF.1] at ht
      rw [hfin] at hOB'
      have Ht := Lib.hid ht
      clear hblk hLo ht hfin hOB hF
      go_wp2_with fail
      refine Ht.out.mono ?_
      rintro e w1 ⟨rfl, rfl⟩
      go_wp2
      go_ret
      exact ⟨_, _, rfl, hOB', hB⟩

set_option maxHeartbeats 400000 in
theorem refOf_any (x : Nat) (w : World) (hx : x < 18446744073709551616) :
    Calls Tryz.prog 72 #[.int .u64 (x : Int)] w fun e w' => ∃ A' c', e = .returned (.slice A' (digs 4294967296 x).length c') ∧ OB w' w.heap.size A' c' (digs 4294967296 x) ∧ Below w.heap.size w w' := by
  have hv : val 18446744073709551616 [x] = x := by simp
  have hm := fun P A c w h hP => from_any P A c [x] w h hP (by simp)
  rw [hv] at hm
  have Hm := Lib.hid hm
  clear hm hv
  go_enter Tryz.func72, Tryz.ntmps72
  go_wp2_with fail
  refine (Hm.out (In w.heap.size (w.heap.size + 1)) _ _ _ ⟨RS.fresh #[.int .u64 (x : Int)] 90 1 1 rfl (by unfold maxLen; omega) ⟨Nat.le_refl _, by omega⟩, by simpa [Lim] using hx⟩ (fun b hb => by have := hb.2; simp; omega)).mono ?_
  rintro e w1 ⟨A', c', rfl, hO, hB⟩
  go_wp2
  go_ret
  exact ⟨A', c', rfl, hO.mono (by simp), ((Below.refl _ w).alloc (Nat.le_refl _) _).trans (hB.mono (by simp))⟩

/-- Two digits to the base 2^32 make one to the base 2^64. -/
def pairs : List Nat → List Nat
  | [] => []
  | [a] => [a]
  | a :: b :: r => (a + 4294967296 * b) :: pairs r
theorem pairs_val : ∀ l : List Nat, val 18446744073709551616 (pairs l) = val 4294967296 l
  | [] => rfl
  | [a] => by simp [pairs]
  | a :: b :: r => by simp only [pairs, val_cons, pairs_val r]; omega
theorem pairs_lt : ∀ {l : List Nat}, Dig l → ∀ x ∈ pairs l, x < 18446744073709551616
  | [], _, x, hx => by cases hx
  | [a], h, x, hx => by
    have := h a (by simp)
    simp only [pairs, List.mem_singleton] at hx
    omega
  | a :: b :: r, h, x, hx => by
    have h1 := h a (by simp)
    have h2 := h b (by simp)
    simp only [pairs, List.mem_cons] at hx
    rcases hx with rfl | hx
    · omega
    · exact pairs_lt (fun y hy => h y (by simp [hy])) x hx
theorem pairs_ne : ∀ {l : List Nat}, l ≠ [] → pairs l ≠ []
  | [], h => absurd rfl h
  | [a], _ => by simp [pairs]
  | a :: b :: r, _ => by simp [pairs]
theorem pairs_last : ∀ {l : List Nat} (h : l ≠ []), l.getLast h ≠ 0 → ∀ h' : pairs l ≠ [], (pairs l).getLast h' ≠ 0
  | [], h, _, _ => absurd rfl h
  | [a], _, h, h' => by simpa [pairs] using h
  | [a, b], _, h, h' => by
    simp at h
    simp [pairs]
    omega
  | a :: b :: d :: r, _, h, h' => by
    have e : pairs (a :: b :: d :: r) = (a + 4294967296 * b) :: pairs (d :: r) := rfl
    have hne : pairs (d :: r) ≠ [] := pairs_ne (by simp)
    simp only [e, List.getLast_cons hne]
    exact pairs_last (by simp) (by simpa using h) hne
theorem pairs_digs (x : Nat) : pairs (digs 4294967296 x) = digs 18446744073709551616 x := by
  have h1 := pairs_val (digs 4294967296 x)
  rw [val_digs (by omega)] at h1
  have h2 := digs_val (B := 18446744073709551616) (by omega) (pairs_lt (Dig.digs x)) fun hne => by
    have hne' : digs 4294967296 x ≠ [] := by intro e; rw [e] at hne; exact hne rfl
    exact pairs_last hne' (digs_last (by omega) x hne') hne
  rw [h1] at h2
  exact h2.symm
theorem pairs_length : ∀ l : List Nat, (pairs l).length = (l.length + 1) / 2
  | [] => rfl
  | [a] => by simp [pairs]
  | a :: b :: r => by simp only [pairs, List.length_cons, pairs_length r]; omega
theorem dg_cons_zero (a : Nat) (l : List Nat) : dg (a :: l) 0 = a := rfl
theorem dg_cons_succ (a : Nat) (l : List Nat) (i : Nat) : dg (a :: l) (i + 1) = dg l i := rfl
theorem dg_nil (i : Nat) : dg [] i = 0 := rfl
theorem pairs_dg : ∀ (l : List Nat) (k : Nat), dg (pairs l) k = dg l (2 * k) + 4294967296 * dg l (2 * k + 1)
  | [], k => by simp [pairs, dg_nil]
  | [a], 0 => by simp [pairs, dg_cons_zero, dg_cons_succ, dg_nil]
  | [a], k + 1 => by rw [show 2 * (k + 1) = 2 * k + 1 + 1 by omega]; simp [pairs, dg_cons_succ, dg_nil]
  | a :: b :: r, 0 => by simp [pairs, dg_cons_zero, dg_cons_succ]
  | a :: b :: r, k + 1 => by
    rw [show 2 * (k + 1) = 2 * k + 1 + 1 by omega]
    simp only [pairs, dg_cons_succ, pairs_dg r k]
theorem take_succ_dg {l : List Nat} {k : Nat} (h : k < l.length) : l.take (k + 1) = l.take k ++ [dg l k] := by
  rw [List.take_succ_eq_append_getElem h, dg, getD_eq' h]

theorem own_block_le {w : World} {base n size : Nat} {e : TypeId} {v : Value} {xs : List Value} (h : w.ownsRow base e size v n xs) {j : Nat} (hj : v.ownBlock = some j) : base ≤ j := by
  obtain ⟨h0, ⟨rfl, _⟩ | ⟨g, cap, cur, rfl, hg, _⟩⟩ := h
  · simp [Value.ownBlock] at hj
  · simp [Value.ownBlock] at hj
    omega

end Go.Proofs.YtldhmjfjbalakaaGreat
