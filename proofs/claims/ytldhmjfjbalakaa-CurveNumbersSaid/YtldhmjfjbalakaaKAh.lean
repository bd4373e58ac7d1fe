/- Plain arithmetic of the reference's division: nothing of the program. What the reference's small and times compute. What the reference's less computes. -/
import Derived.Test.YtldhmjfjbalakaaQuoP
import Derived.Test.YtldhmjfjbalakaaKAc
import Derived.Test.YtldhmjfjbalakaaKAe
import Derived.Laws.CopyRow
namespace Go.Proofs.Ytldhmjfjbalakaa

theorem dg_drop (u : List Nat) (k i : Nat) : dg (u.drop k) i = dg u (k + i) := by
  simp [dg, List.getD_eq_getElem?_getD, List.getElem?_drop]
/-- Within 'less': i digits of u from k on, less g v, are worked out. -/
def LessAt (B : Nat) (u v W : List Nat) (k g i c b : Nat) : Prop := W.length = v.length + 1 ∧ val B (W.take i) + g * val B (v.take i) = val B ((u.drop k).take i) + B ^ i * (c + b)
section
variable {B k g i c b : Nat} {u v W : List Nat}
theorem LessAt.zero (h : W.length = v.length + 1) : LessAt B u v W k g 0 0 0 := ⟨h, by simp⟩
theorem LessAt.step {lo c' x b' : Nat} (h : LessAt B u v W k g i c b) (hi : i < W.length) (h1 : lo + B * c' = c + g * dg v i) (h2 : x + (lo + b) = dg u (k + i) + B * b') : LessAt B u v (W.set i x) k g (i + 1) c' b' := by
  obtain ⟨g1, g2⟩ := h
  refine ⟨by simpa using g1, ?_⟩
  rw [val_take_set B hi, val_take_getD, val_take_getD, dg_drop, Nat.pow_succ]
  have e1 : g * (B ^ i * dg v i) = B ^ i * (g * dg v i) := Nat.mul_left_comm _ _ _
  have e2 : B ^ i * (lo + B * c') = B ^ i * (c + g * dg v i) := by rw [h1]
  have e3 : B ^ i * (x + (lo + b)) = B ^ i * (dg u (k + i) + B * b') := by rw [h2]
  rw [Nat.mul_add g, e1, Nat.mul_assoc, Nat.mul_add B, Nat.mul_add (B ^ i) (B * c')]
  simp only [Nat.mul_add] at e2 e3 g2 ⊢
  generalize B ^ i * (B * c') = p1 at *
  generalize B ^ i * (B * b') = p2 at *
  generalize B ^ i * lo = p3 at *
  generalize B ^ i * (g * dg v i) = p4 at *
  generalize B ^ i * c = p5 at *
  generalize B ^ i * b = p6 at *
  generalize B ^ i * x = p7 at *
  generalize B ^ i * dg u (k + i) = p8 at *
  omega
/-- u, its digits from k on put in the place of W. -/
def putAt (u W : List Nat) (k : Nat) : List Nat := u.take k ++ W ++ u.drop (k + W.length)
theorem putAt_length (h : k + W.length ≤ u.length) : (putAt u W k).length = u.length := by simp [putAt]; omega
theorem val_parts (B : Nat) (h : k + W.length ≤ u.length) : ∃ r t : Nat, val B u = r + B ^ k * (val B ((u.drop k).take W.length) + B ^ W.length * t) ∧ val B (putAt u W k) = r + B ^ k * (val B W + B ^ W.length * t) := by
  refine ⟨val B (u.take k), val B (u.drop (k + W.length)), ?_, ?_⟩
  · rw [val_take_drop B u (n := k) (by omega), val_take_drop B (u.drop k) (n := W.length) (by simp; omega), List.drop_drop]
  · unfold putAt
    rw [val_append, val_append, List.length_append, List.length_take, Nat.min_eq_left (by omega), Nat.pow_add, Nat.mul_assoc, Nat.add_assoc, ← Nat.mul_add]
theorem LessAt.yes (h : LessAt B u v W k g W.length 0 0) (hk : k + W.length ≤ u.length) : val B (putAt u W k) + B ^ k * (g * val B v) = val B u := by
  obtain ⟨g1, g2⟩ := h
  obtain ⟨r, t, e1, e2⟩ := val_parts B (u := u) (W := W) hk
  rw [List.take_length, List.take_of_length_le (by omega : v.length ≤ W.length)] at g2
  simp only [Nat.add_zero, Nat.mul_zero] at g2
  rw [e1, e2, ← g2, Nat.mul_add, Nat.mul_add, Nat.mul_add]
  omega
/-- It was too much. -/
theorem LessAt.no (h : LessAt B u v W k g W.length 0 1) (hW : ∀ x ∈ W, x < B) (hu : ∀ x ∈ u, x < B) (hz : ∀ j, k + W.length ≤ j → dg u j = 0) (hk : k + W.length ≤ u.length) : val B u / (B ^ k * val B v) < g := by
  obtain ⟨g1, g2⟩ := h
  rw [List.take_length, List.take_of_length_le (by omega : v.length ≤ W.length)] at g2
  simp only [Nat.zero_add, Nat.mul_one] at g2
  have h1 := val_lt hW
  have e1 := val_take_drop B u (n := k) (by omega)
  have e2 := val_take_drop B (u.drop k) (n := W.length) (by simp; omega)
  have h0 : val B ((u.drop k).drop W.length) = 0 := by
    apply val_zeros
    intro x hx
    rw [List.drop_drop] at hx
    obtain ⟨i, hi, rfl⟩ := List.getElem_of_mem hx
    rw [List.getElem_drop]
    have := hz (k + W.length + i) (by omega)
    rwa [dg, getD_eq' (by simp at hi; omega)] at this
  rw [h0, Nat.mul_zero, Nat.add_zero] at e2
  have h2 : val B (u.take k) < B ^ k := by
    have := val_lt (B := B) (l := u.take k) fun x hx => hu x (List.mem_of_mem_take hx)
    rwa [List.length_take, Nat.min_eq_left (by omega)] at this
  apply Nat.div_lt_of_lt_mul
  rw [e1, e2]
  have h3 : val B ((u.drop k).take W.length) + 1 ≤ g * val B v := by omega
  have h4 : B ^ k * (val B ((u.drop k).take W.length) + 1) ≤ B ^ k * (g * val B v) := Nat.mul_le_mul_left _ h3
  rw [Nat.mul_add, Nat.mul_one] at h4
  rw [Nat.mul_assoc, Nat.mul_comm (val B v)]
  omega
/-- The first guess: of two digits by one; not too small. -/
theorem guess2_ge {n n1 : Nat} (hn : n1 + 1 = n) (hu : ∀ x ∈ u, x < B) (hv : ∀ x ∈ v, x < B) (hvn : v.length = n) (hlen : k + n < u.length) (htop : 0 < dg v n1) (hV : val B u < B ^ (k + 1) * val B v) :
    (∀ i, k + n + 1 ≤ i → dg u i = 0) ∧ val B u / (B ^ k * val B v) < B ∧ val B u / (B ^ k * val B v) ≤ (dg u (k + n) * B + dg u (k + n1)) / dg v n1 := by
  subst hn
  have hB : 0 < B := Nat.lt_of_le_of_lt (Nat.zero_le _) (hu _ (List.getElem_mem (by omega : k < u.length)))
  have hdl := val_lt hv
  rw [hvn] at hdl
  have hz : ∀ i, k + (n1 + 1) + 1 ≤ i → dg u i = 0 := fun i hi => zero_of_val_lt hu (m := k + (n1 + 1) + 1) (Nat.lt_trans hV (by
    rw [show k + (n1 + 1) + 1 = (k + 1) + (n1 + 1) by omega, Nat.pow_add _ (k + 1)]
    exact Nat.mul_lt_mul_of_pos_left hdl (Nat.pow_pos hB))) hi
  refine ⟨hz, ?_, ?_⟩
  · apply Nat.div_lt_of_lt_mul
    rw [Nat.pow_succ, Nat.mul_right_comm] at hV
    exact hV
  · rw [Nat.le_div_iff_mul_le htop]
    have e := val_take_drop B u (n := k + n1 + 2) (by omega)
    have hd : val B (u.drop (k + n1 + 2)) = 0 := by
      apply val_zeros
      intro x hx
      obtain ⟨i, hi, rfl⟩ := List.getElem_of_mem hx
      rw [List.getElem_drop]
      have := hz (k + n1 + 2 + i) (by omega)
      rwa [dg, getD_eq' (by simp at hi; omega)] at this
    rw [hd, Nat.mul_zero, Nat.add_zero, val_take_getD, val_take_getD, Nat.pow_succ] at e
    have hr := val_lt (B := B) (l := u.take (k + n1)) fun x hx => hu x (List.mem_of_mem_take hx)
    rw [List.length_take, Nat.min_eq_left (by omega)] at hr
    have ev : val B v = val B (v.take n1) + B ^ n1 * dg v n1 := by rw [← val_take_getD, ← hvn, List.take_length]
    refine quo_three (B := B) (t := k + n1) (DB := B ^ k * val B v) (rd := B ^ k * val B (v.take n1)) (V := val B u) (rv := val B (u.take (k + n1))) (Nat.div_mul_le_self _ _) ?_ ?_ hr
    · rw [ev, Nat.mul_add, ← Nat.mul_assoc, ← Nat.pow_add]
    · rw [e, Nat.mul_assoc, Nat.mul_comm B, Nat.mul_add, show k + (n1 + 1) = k + n1 + 1 by omega]
      omega
/-- Within 'times'. -/
def TimesAt (B : Nat) (a o : List Nat) (m i c : Nat) : Prop := o.length = a.length + 1 ∧ val B (o.take i) + B ^ i * c = m * val B (a.take i)
theorem TimesAt.step {a o : List Nat} {m x c' : Nat} (h : TimesAt B a o m i c) (hi : i < o.length) (h1 : x + B * c' = c + dg a i * m) : TimesAt B a (o.set i x) m (i + 1) c' := by
  obtain ⟨g1, g2⟩ := h
  refine ⟨by simpa using g1, ?_⟩
  rw [val_take_set B hi, val_take_getD, Nat.mul_add, ← g2, Nat.pow_succ, Nat.mul_assoc]
  have e1 : m * (B ^ i * dg a i) = B ^ i * (dg a i * m) := by rw [Nat.mul_left_comm, Nat.mul_comm m]
  have e2 : B ^ i * (x + B * c') = B ^ i * (c + dg a i * m) := by rw [h1]
  rw [e1]
  simp only [Nat.mul_add] at e2
  omega
theorem TimesAt.fin {a o : List Nat} {m : Nat} (h : TimesAt B a o m a.length c) : val B (o.set a.length c) = m * val B a := by
  obtain ⟨g1, g2⟩ := h
  have e : (o.set a.length c).length = a.length + 1 := by simpa using g1
  have e2 : val B (o.set a.length c) = val B ((o.set a.length c).take (a.length + 1)) := by rw [← e, List.take_length]
  rw [e2, val_take_set B (by omega), g2, List.take_length]
end
end Go.Proofs.Ytldhmjfjbalakaa

namespace Go.Proofs.Ytldhmjfjbalakaa
open Go.RowKit

set_option maxRecDepth 100000 in
set_option maxHeartbeats 1000000 in
theorem refTimes_any (P : Nat → Prop) (A : Option Addr) (c : Nat) (l : List Nat) (d : Nat) (w : World) (h : RN w P A c l) (hP : ∀ b, P b → b < w.heap.size) (hD : Dig l) (hl : l.length < 100000) (hd' : d < 4294967296) :
    Calls Try.prog 101 #[.slice A l.length c, .int .u64 (d : Int)] w fun e w' => ∃ o, e = .returned (.slice (some ⟨w.heap.size, 0, none⟩) (l.length + 1) (l.length + 1)) ∧ Blk w' w.heap.size o ∧ o.length = l.length + 1 ∧ Dig o ∧ val 4294967296 o = d * val 4294967296 l ∧ Below w.heap.size w w' := by
  obtain ⟨h1, h2, h3⟩ := h.cap
  have hmk := run_make_row' (P := Try.prog) 29 72 (.int .u64 0) 8 Try.underlying29 info64 rfl .i64 .i64 (l.length + 1) (by omega) (by omega)
  simp only [Int.natCast_add, Int.cast_ofNat_Int] at hmk
  go_enter Try.func101, Try.ntmps101
  go_wp2
  go_loopw [6, 7] (fun cv iv wr => ∃ (i cr : Nat) (o : List Nat), iv = .int .i64 (i : Int) ∧ cv = .int .u64 (cr : Int) ∧ i ≤ l.length ∧ cr < 4294967296 ∧ TimesAt 4294967296 l o d i cr ∧ Dig o ∧ Blk wr w.heap.size o ∧ Below w.heap.size w wr) (fun _ iv _ => l.length - (intOf iv).toNat)
  case atStart => exact ⟨0, 0, List.replicate (l.length + 1) 0, rfl, rfl, by omega, by omega, ⟨by simp, by simp⟩, by intro x hx; simp at hx; omega, Blk.made w _, (Below.refl _ w).alloc (Nat.le_refl _) _⟩
  case round =>
    obtain ⟨i, cr, o, rfl, rfl, hi, hcr, hT, hDo, hblk, hB⟩ := hrel
    have hol := hT.1
    by_cases hlt : i < l.length
    · obtain ⟨ad, rfl, had, q1⟩ := (h.below hB hP).at_ hlt
      have hb := mul_bound (hD.dgLt i) hd' hcr (show 0 < 4294967296 by omega)
      obtain ⟨pr, hpr⟩ : ∃ pr, dg l i * d = pr := ⟨_, rfl⟩
      have Hpr := Lib.hid (show (dg l i : Int) * (d : Int) = (pr : Int) by rw [← hpr, Int.natCast_mul])
      rw [hpr] at hb
      obtain ⟨s, cr', hs, hcr', he⟩ : ∃ s c' : Nat, s < 4294967296 ∧ c' < 4294967296 ∧ s + 4294967296 * c' = cr + pr := ⟨(cr + pr) % 4294967296, (cr + pr) / 4294967296, by omega, by omega, by omega⟩
      have e1 : ((cr : Int) + (pr : Int)) % 4294967296 = (s : Int) := by omega
      have e2 : ((cr : Int) + (pr : Int)) / 4294967296 = (cr' : Int) := by omega
      have q3 := hblk.cell (i := i) (by omega)
      have q4 := hblk.free i
      have hT' := hT.step (by omega) (by rw [hpr]; exact he)
      have hblk' := hblk.set i s
      have hD' := hDo.set i s hs
      have hB' := hB.setCell (p := ⟨w.heap.size, i, none⟩) (Nat.le_refl _) (.int .u64 (s : Int))
      have k1 : (i : Int) < (l.length : Int) + 1 := by omega
      have k3 : (pr : Int) < 18446744073709551616 := by omega
      have k4 : (cr : Int) + (pr : Int) < 18446744073709551616 := by omega
      clear he hT hblk hDo hB hb hpr hol
      have hpr := Hpr.out
      go_wp2
      go_roundw
      case rel => exact ⟨i + 1, cr', o.set i s, by go_num, (by first | rfl | exact congrArg (Value.int .u64) e2), by omega, hcr', hT', hD', hblk', hB'⟩
      case measure => simp [intOf]; omega
    · obtain rfl : i = l.length := by omega
      have q3 := hblk.cell (i := l.length) (by omega)
      have q4 := hblk.free l.length
      have hfin := hT.fin
      have hblk' := hblk.set l.length cr
      have hD' := hDo.set l.length cr hcr
      have hB' := hB.setCell (p := ⟨w.heap.size, l.length, none⟩) (Nat.le_refl _) (.int .u64 (cr : Int))
      have k1 : (l.length : Int) < (l.length : Int) + 1 := by omega
      have Hf := Lib.hid hfin
      have Hol := Lib.hid (show (o.set l.length cr).length = l.length + 1 by simpa using hol)
      clear hT hblk hDo hB hfin hol
      go_wp2
      go_ret
      exact ⟨o.set l.length cr, rfl, hblk', Hol.out, hD', Hf.out, hB'⟩

set_option maxRecDepth 100000 in
set_option maxHeartbeats 1000000 in
theorem refSmall_any (P : Nat → Prop) (A : Option Addr) (c : Nat) (l : List Nat) (d : Nat) (w : World) (h : RN w P A c l) (hP : ∀ b, P b → b < w.heap.size) (hDl : Dig l) (hl : l.length < 100000) (hd : 0 < d) (hd' : d < 4294967297) :
    Calls Try.prog 100 #[.slice A l.length c, .int .u64 (d : Int)] w fun e w' => ∃ A1 c1, e = .returned (.tuple #[.slice A1 (digs 4294967296 (val 4294967296 l / d)).length c1, .int .u64 ((val 4294967296 l % d : Nat) : Int)]) ∧
      OB w' w.heap.size A1 c1 (digs 4294967296 (val 4294967296 l / d)) ∧ Below w.heap.size w w' := by
  obtain ⟨h1, h2, h3⟩ := h.cap
  have hmk := run_make_row' (P := Try.prog) 29 72 (.int .u64 0) 8 Try.underlying29 info64 rfl .i64 .i64 l.length (by omega) (by omega)
  have Hs := Lib.hid (Below1.start l.length)
  have n0 : ((d : Int) == 0) = false := eqB (by omega)
  have n1 : ¬ d = 0 := by omega
  go_enter Try.func100, Try.ntmps100
  go_wp2
  go_loopw [7, 8] (fun rv iv wr => ∃ (k r : Nat) (z : Int) (o : List Nat), iv = .int .i64 z ∧ Below1 k z ∧ rv = .int .u64 (r : Int) ∧ k ≤ l.length ∧ r < d ∧ SmallAt 4294967296 l o d k r ∧ Dig o ∧ Blk wr w.heap.size o ∧ Below w.heap.size w wr) (fun _ iv _ => (intOf iv + 1).toNat)
  case atStart => exact ⟨l.length, 0, _, List.replicate l.length 0, rfl, Hs.out, rfl, by omega, by omega, SmallAt.start d (by simp), by intro x hx; simp at hx; omega, Blk.made w _, (Below.refl _ w).alloc (Nat.le_refl _) _⟩
  case round =>
    obtain ⟨k, r, z, o, rfl, hz, rfl, hk, hr, hS, hDo, hblk, hB⟩ := hrel
    rcases hz with ⟨rfl, rfl⟩ | ⟨j, rfl, rfl⟩
    · obtain ⟨hv, hrem⟩ := hS.fin hr
      have hLo : Lim o := ⟨fun x hx => by have := hDo x hx; omega, by have := hS.1; omega⟩
      have hOB : OB wr w.heap.size (some ⟨w.heap.size, 0, none⟩) l.length o := OB.of_blk hblk (Nat.le_refl _) hLo (by have := hS.1; omega) (by unfold maxLen; omega)
      have ht := refTrim_any _ _ _ _ _ hOB.rn hDo
      have hOB' := hOB.trim32 hDo
      rw [hv, hS.1] at ht
      rw [hv] at hOB'
      have Ht := Lib.hid ht
      have Hrem := Lib.hid hrem
      clear hblk hLo ht hv hrem hOB hS hDo
      go_wp2_with fail
      refine Ht.out.mono ?_
      rintro e w1 ⟨rfl, rfl⟩
      go_wp2
      go_ret2
      exact ⟨_, _, by rw [Hrem.out]; rfl, hOB', hB⟩
    · obtain ⟨ad, rfl, had, q1⟩ := (h.below hB hP).at_ (i := j) (by omega)
      have hol := hS.1
      have hlj := hDl.dgLt j
      have q3 := hblk.cell (i := j) (by omega)
      have q4 := hblk.free j
      obtain ⟨t, ht⟩ : ∃ t, r * 4294967296 + dg l j = t := ⟨_, rfl⟩
      obtain ⟨q, r', hr', he, hq⟩ : ∃ q r' : Nat, r' < d ∧ t = d * q + r' ∧ q < 4294967296 := by
        refine ⟨t / d, t % d, Nat.mod_lt _ hd, (Nat.div_add_mod _ d).symm, ?_⟩
        apply Nat.div_lt_of_lt_mul
        have : (r + 1) * 4294967296 ≤ d * 4294967296 := Nat.mul_le_mul_right _ hr
        omega
      have htb : (t : Int) < 18446744073709551616 := by omega
      have f0 : (r : Int) * 4294967296 + (dg l j : Int) = (t : Int) := by omega
      have f1 : (t : Int) / (d : Int) = (q : Int) := by
        rw [← Int.natCast_ediv, he, Nat.mul_add_div hd, Nat.div_eq_of_lt hr', Nat.add_zero]
      have f2 : (t : Int) % (d : Int) = (r' : Int) := by
        rw [← Int.natCast_emod, he, Nat.mul_add_mod, Nat.mod_eq_of_lt hr']
      have f1' : (t : Int).tdiv (d : Int) = (q : Int) := by rw [Int.tdiv_eq_ediv_of_nonneg (by omega)]; exact f1
      have f2' : (t : Int).tmod (d : Int) = (r' : Int) := by rw [Int.tmod_eq_emod_of_nonneg (by omega)]; exact f2
      have hS' := hS.step (by omega) (by rw [ht]; exact he)
      have hblk' := hblk.set j q
      have hD' := hDo.set j q hq
      have hB' := hB.setCell (p := ⟨w.heap.size, j, none⟩) (Nat.le_refl _) (.int .u64 (q : Int))
      have k1 : (j : Int) < (l.length : Int) := by omega
      have k2 : (r : Int) * 4294967296 < 18446744073709551616 := by omega
      have k3 : (q : Int) < 18446744073709551616 := by omega
      have k4 : (r' : Int) < 18446744073709551616 := by omega
      have Hs' := Lib.hid (Below1.start j)
      clear he hS hblk hDo hB hol ht
      go_wp2
      go_roundw
      case rel => exact ⟨j, r', _, o.set j q, rfl, Hs'.out, by go_num, by omega, hr', hS', hD', hblk', hB'⟩
      case measure => simp [intOf]
end Go.Proofs.Ytldhmjfjbalakaa

namespace Go.Proofs.Ytldhmjfjbalakaa
open Go.RowKit

theorem wp_copy_eq {P : Program} (w : World) {o : Oper} {a : Act} {K : Act → World → Prop} {Q : Exit → Act → World → Prop} (d s : Operand) (t t' : TypeId)
    (ho : o.op = .call { callee := .builtin .copy, args := #[d, s], argTypes := #[t, t'] }) (v u : Value) (hd : a.eval d = v) (hs : a.eval s = u) {v' : Value} {w' : World}
    (hr : (Builtin.copy_ #[t, t'] o.type #[v, u]).run P w = .ok v' w') (h : K (a.put o.dst v') w') : o.wp P a w K Q := by
  unfold Oper.wp execOp
  simp only [ho, resolve, invoke, builtin, Sem.run_bind, Sem.run_pure, Result.andThen_ok, List.map_toArray, List.map_cons, List.map_nil, hd, hs, hr]
  exact h
theorem wpList_copy_eq {P : Program} (w : World) {ops : Array Oper} {rest : List Oper} {o : Oper} {a : Act} {Q : Exit → Act → World → Prop} (hgd : o.guard = none) (d s : Operand) (t t' : TypeId)
    (ho : o.op = .call { callee := .builtin .copy, args := #[d, s], argTypes := #[t, t'] }) (v u : Value) (hd : a.eval d = v) (hs : a.eval s = u) {v' : Value} {w' : World}
    (hr : (Builtin.copy_ #[t, t'] o.type #[v, u]).run P w = .ok v' w') (h : wpList P ops Q rest (a.put o.dst v') w') : wpList P ops Q (o :: rest) a w :=
  wpList_plain hgd fun _ hK => wp_copy_eq w d s t t' ho v u hd hs hr (hK _ _ h)
theorem info64size : (Try.prog.info? 72).map (·.size) = some 1 := by kernel_rfl
theorem putAt_dig {u W : List Nat} {k : Nat} (hu : Dig u) (hW : Dig W) : Dig (putAt u W k) := by
  intro x hx
  rcases List.mem_append.1 hx with h | h
  · rcases List.mem_append.1 h with h | h
    · exact hu x (List.mem_of_mem_take h)
    · exact hW x h
  · exact hu x (List.mem_of_mem_drop h)
theorem nts_put (u W : List Nat) (k : Nat) : (((nts u).toArray.toList.take k ++ nts W ++ (nts u).toArray.toList.drop (k + (nts W).length)).toArray) = (nts (putAt u W k)).toArray := by
  simp [nts, putAt, List.map_take, List.map_drop]
/-- The digits of W are copied into u, from k on. -/
theorem copy_put (w : World) (g gw k n m cw : Nat) (u W : List Nat) (ty : TypeId) (hu : Blk w g u) (hw : Blk w gw W) (hn : W.length = n) (hk : k + n ≤ u.length) (hm : u.length - k = m) :
    (Builtin.copy_ #[29, 29] ty #[.slice (some ⟨g, k, none⟩) m m, .slice (some ⟨gw, 0, none⟩) n cw]).run Try.prog w = .ok (goInt n) (w.setRow g (nts (putAt u W k)).toArray) := by
  have h := run_copy_row (P := Try.prog) w 29 29 ty 72 g k m m ⟨gw, 0, none⟩ n cw (nts u).toArray 72 (nts W) Try.underlying29 info64size hu
    (by rw [nts_length, hn]; exact (Nat.min_eq_left (by omega)).symm) (fun j v hj => by rw [add_blk, blk_cell hw j, List.getElem?_toArray]; exact hj) (by rw [nts_length, hn]; simp [nts]; omega) (oneCell_nts W)
  rw [nts_put, nts_length, hn] at h
  exact h
theorem Blk.put {w : World} {g : Nat} {u : List Nat} (h : Blk w g u) (v : List Nat) : Blk (w.setRow g (nts v).toArray) g v := setRow_heap w g _ _ _ _ h
theorem Only.put {w w' : World} {g : Nat} (h : Only g w w') (v : Array Value) : Only g w (w'.setRow g v) :=
  ⟨h.os, h.tape, h.output, by have : (w'.setRow g v).heap.size = w'.heap.size := by simp [World.setRow]
                              exact this.trans h.size, fun k hk => by
    have : (w'.setRow g v).heap[k]? = w'.heap[k]? := by simp [World.setRow, Array.getElem?_modify, Ne.symm hk]
    exact this.trans (h.block k hk)⟩
/-- Nothing but the blocks g and g' is touched. -/
structure Two (g g' : Nat) (w w' : World) : Prop where
  os : w'.os = w.os
  tape : w'.tape = w.tape
  output : w'.output = w.output
  size : w'.heap.size = w.heap.size
  block : ∀ k, k ≠ g → k ≠ g' → w'.heap[k]? = w.heap[k]?
theorem Two.below {g g' B : Nat} {w w' : World} (h : Two g g' w w') (hg : B ≤ g) (hg' : B ≤ g') : Below B w w' := ⟨h.os, h.tape, h.output, Nat.le_of_eq h.size.symm, fun k hk => h.block k (by omega) (by omega)⟩
theorem Only.two {g g' : Nat} {w w' w'' : World} (h : Only g' w w') (k : Only g w' w'') : Two g g' w w'' := ⟨k.os.trans h.os, k.tape.trans h.tape, k.output.trans h.output, k.size.trans h.size, fun i hi hi' => (k.block i hi).trans (h.block i hi')⟩
theorem RN.two {g g' : Nat} {w w' : World} {P : Nat → Prop} {A : Option Addr} {c : Nat} {l : List Nat} (h : RN w P A c l) (ho : Two g g' w w') (hP : ∀ b, P b → b ≠ g ∧ b ≠ g') : RN w' P A c l := h.keep fun q hq => World.cell?_of_block (w := w) (ho.block q.block (hP _ hq).1 (hP _ hq).2)

/-- What one round of 'less' works out. -/
theorem less_round (g v c b x : Nat) (hg : g < 4294967296) (hv : v < 4294967296) (hc : c < 4294967296) (hb : b ≤ 1) (hx : x < 4294967296) :
    ∃ pr lo c' off y b' : Nat, g * v = pr ∧ pr < 18446744073709551616 ∧ c + pr < 18446744073709551616 ∧ lo + 4294967296 * c' = c + pr ∧ (c + pr) % 4294967296 = lo ∧ (c + pr) / 4294967296 = c' ∧ c' < 4294967296 ∧ off = lo + b ∧ off ≤ 4294967296 ∧ y < 4294967296 ∧ b' ≤ 1 ∧ y + (lo + b) = x + 4294967296 * b' ∧ (b' = 0 ↔ ¬ x < off) := by
  have hm := mul_bound hg hv hc (show 0 < 4294967296 by omega)
  obtain ⟨pr, hpr⟩ : ∃ pr, g * v = pr := ⟨_, rfl⟩
  rw [hpr] at hm
  by_cases h : x < (c + pr) % 4294967296 + b
  · exact ⟨pr, (c + pr) % 4294967296, (c + pr) / 4294967296, (c + pr) % 4294967296 + b, x + 4294967296 - ((c + pr) % 4294967296 + b), 1, hpr, by omega, by omega, by omega, rfl, rfl, by omega, rfl, by omega, by omega, by omega, by omega, by simp [h]⟩
  · exact ⟨pr, (c + pr) % 4294967296, (c + pr) / 4294967296, (c + pr) % 4294967296 + b, x - ((c + pr) % 4294967296 + b), 0, hpr, by omega, by omega, by omega, rfl, rfl, by omega, rfl, by omega, by omega, by omega, by omega, by simp [h]⟩

set_option maxRecDepth 100000 in
set_option maxHeartbeats 2000000 in
theorem less_any (g gw k n m G : Nat) (P : Nat → Prop) (A : Option Addr) (c : Nat) (U V W : List Nat) (w : World) (hU : Blk w g U) (hW : Blk w gw W) (h : RN w P A c V) (hgg : g ≠ gw) (hP : ∀ b, P b → b ≠ gw) (hDU : Dig U) (hDV : Dig V) (hUm : U.length = m) (hVn : V.length = n) (hWn : W.length = n + 1) (hk : k + n + 1 ≤ m) (hm : m ≤ 100000) (hG : G < 4294967296) (hz : ∀ j, k + n + 1 ≤ j → dg U j = 0) :
    Calls Try.prog 102 #[.slice (some ⟨g, 0, none⟩) m m, .slice A n c, .slice (some ⟨gw, 0, none⟩) (n + 1) (n + 1), .int .i64 (k : Int), .int .u64 (G : Int)] w fun e w' => ∃ U' W', Blk w' g U' ∧ Dig U' ∧ U'.length = m ∧ Blk w' gw W' ∧ W'.length = n + 1 ∧ Two g gw w w' ∧
      ((e = .returned (.bool true) ∧ val 4294967296 U' + 4294967296 ^ k * (G * val 4294967296 V) = val 4294967296 U) ∨ (e = .returned (.bool false) ∧ U' = U ∧ val 4294967296 U / (4294967296 ^ k * val 4294967296 V) < G)) := by
  obtain ⟨h1, h2, h3⟩ := h.cap
  have hnc : n ≤ c := by omega
  have Hz := Lib.hid hz
  have HVn := Lib.hid hVn
  have HUm := Lib.hid hUm
  have Hgg := Lib.hid hgg
  have HG := Lib.hid hG
  have hn1 : n ≤ 100000 := by omega
  clear h1 h2 h3 hz hVn hUm hgg hG
  go_enter Try.func102, Try.ntmps102
  go_wp2
  go_loopw [12, 13, 14] (fun cv bv iv wr => ∃ (i cr b : Nat) (o : List Nat), iv = .int .i64 (i : Int) ∧ cv = .int .u64 (cr : Int) ∧ bv = .int .u64 (b : Int) ∧ i ≤ n + 1 ∧ cr < 4294967296 ∧ b ≤ 1 ∧ (n < i → cr = 0) ∧ LessAt 4294967296 U V o k G i cr b ∧ Dig (o.take i) ∧ Blk wr gw o ∧ Only gw w wr) (fun _ _ iv _ => n + 1 - (intOf iv).toNat)
  case atStart => exact ⟨0, 0, 0, W, rfl, rfl, rfl, by omega, by omega, by omega, by omega, LessAt.zero (by rw [HVn.out]; exact hWn), by intro x hx; simp at hx, hW, Only.refl _ _⟩
  case round =>
    obtain ⟨i, cr, b, o, rfl, rfl, rfl, hi, hcr, hb, hc0, hS, hDo, hbw, ho⟩ := hrel
    have hol := hS.1
    rw [HVn.out] at hol
    have hbu : Blk _ g U := (ho.block g Hgg.out).trans hU
    by_cases hle : i ≤ n
    · have hxU := hDU.dgLt (k + i)
      have q1 := hbu.cell (i := k + i) (by rw [HUm.out]; omega)
      have q3 := hbw.cell (i := i) (by omega)
      have q4 := hbw.free i
      have k0 : (k : Int) + (i : Int) < (m : Int) := by omega
      have k1 : (i : Int) < (n : Int) + 1 := by omega
      obtain ⟨pr, lo, c', off, y, b', b1, b2, b3, b4, b5, b6, b7, b8, b9, b10, b11, b12, b13⟩ := less_round G (dg V i) cr b (dg U (k + i)) HG.out (hDV.dgLt i) hcr hb hxU
      have hS' := hS.step (x := y) (c' := c') (b' := b') (lo := lo) (by omega) (by rw [b1]; exact b4) b12
      have hblk' := hbw.set i y
      have hD' : Dig ((o.set i y).take (i + 1)) := by
        rw [take_succ_dg (by simpa using (by omega : i < o.length)), getD_set_eq (by omega), List.take_set_of_le (by omega)]
        intro x hx
        rcases List.mem_append.1 hx with h | h
        · exact hDo x h
        · rw [List.mem_singleton.1 h]; exact b10
      have ho' := ho.setCell (p := ⟨gw, 0, none⟩) (f := 0) rfl i (.int .u64 (y : Int))
      rw [add_blk] at ho'
      have e3 : (lo : Int) + (b : Int) = (off : Int) := by omega
      have kx : (dg U (k + i) : Int) < 4294967296 := by omega
      have kp : (pr : Int) < 18446744073709551616 := by omega
      have kc : (cr : Int) + (pr : Int) < 18446744073709551616 := by omega
      have ko : (off : Int) ≤ 4294967296 := by omega
      have hc' : n < i + 1 → c' = 0 := by
        intro hni
        have hin : i = n := by omega
        have : dg V i = 0 := dg_none (by rw [HVn.out]; omega)
        rw [this, Nat.mul_zero] at b1
        omega
      have e1 : ((cr : Int) + (pr : Int)) % 4294967296 = (lo : Int) := by omega
      have e2 : ((cr : Int) + (pr : Int)) / 4294967296 = (c' : Int) := by omega
      have Hb7 := Lib.hid b7
      have Hhc := Lib.hid hc'
      by_cases hlt : i < n
      · obtain ⟨ad, rfl, _, q2⟩ := (h.only ho hP).at_ (i := i) (by rw [HVn.out]; exact hlt)
        have hpr : (dg V i : Int) * (G : Int) = (pr : Int) := by rw [← Int.natCast_mul, Nat.mul_comm, b1]
        rcases Nat.eq_zero_or_pos b' with h0 | h0
        · have hxo := b13.1 h0
          have e4 : (dg U (k + i) : Int) - (off : Int) = (y : Int) := by omega
          subst h0
          clear b1 b2 b3 b4 b5 b6 b7 b8 b9 b10 b12 b13 hS hDo hbw ho hol hbu hxU hcr hc' hc0
          go_wp2
          go_roundw
          case rel => exact ⟨i + 1, c', 0, o.set i y, by go_num, by go_num, rfl, by omega, Hb7.out, by omega, Hhc.out, hS', hD', hblk', ho'⟩
          case measure => simp [intOf]; omega
        · have h01 : b' = 1 := by omega
          have hxo : dg U (k + i) < off := by
            rcases Nat.lt_or_ge (dg U (k + i)) off with h | h
            · exact h
            · have := b13.2 (by omega); omega
          have e4 : (dg U (k + i) : Int) + 4294967296 - (off : Int) = (y : Int) := by omega
          subst h01
          clear b1 b2 b3 b4 b5 b6 b7 b8 b9 b10 b12 b13 hS hDo hbw ho hol hbu hxU hcr hc' hc0
          go_wp2
          go_roundw
          case rel => exact ⟨i + 1, c', 1, o.set i y, by go_num, by go_num, rfl, by omega, Hb7.out, by omega, Hhc.out, hS', hD', hblk', ho'⟩
          case measure => simp [intOf]; omega
      · have hin : i = n := by omega
        have hv0 : dg V i = 0 := dg_none (by rw [HVn.out]; omega)
        rw [hv0, Nat.mul_zero] at b1
        have e1' : (cr : Int) % 4294967296 = (lo : Int) := by omega
        have e2' : (cr : Int) / 4294967296 = (c' : Int) := by omega
        subst hin
        rcases Nat.eq_zero_or_pos b' with h0 | h0
        · have hxo := b13.1 h0
          have e4 : (dg U (k + i) : Int) - (off : Int) = (y : Int) := by omega
          subst h0
          clear b1 b2 b3 b4 b5 b6 b7 b8 b9 b10 b12 b13 hS hDo hbw ho hol hbu hxU hcr hc' hc0 hv0 e1 e2
          go_wp2
          go_roundw
          case rel => exact ⟨i + 1, c', 0, o.set i y, by go_num, by go_num, rfl, by omega, Hb7.out, by omega, Hhc.out, hS', hD', hblk', ho'⟩
          case measure => simp [intOf]
        · have h01 : b' = 1 := by omega
          have hxo : dg U (k + i) < off := by
            rcases Nat.lt_or_ge (dg U (k + i)) off with h | h
            · exact h
            · have := b13.2 (by omega); omega
          have e4 : (dg U (k + i) : Int) + 4294967296 - (off : Int) = (y : Int) := by omega
          subst h01
          clear b1 b2 b3 b4 b5 b6 b7 b8 b9 b10 b12 b13 hS hDo hbw ho hol hbu hxU hcr hc' hc0 hv0 e1 e2
          go_wp2
          go_roundw
          case rel => exact ⟨i + 1, c', 1, o.set i y, by go_num, by go_num, rfl, by omega, Hb7.out, by omega, Hhc.out, hS', hD', hblk', ho'⟩
          case measure => simp [intOf]
    · have hin : i = n + 1 := by omega
      have hcz := hc0 (by omega)
      subst hin hcz
      have hDo' : Dig o := by rwa [List.take_of_length_le (by omega)] at hDo
      rw [← hol] at hS
      have hkl : k + o.length ≤ U.length := by rw [HUm.out]; omega
      have hle' : ¬ (n : Int) + 1 ≤ (n : Int) := by omega
      rcases Nat.eq_zero_or_pos b with h0 | h0
      · subst h0
        have hy := Lib.hid (hS.yes hkl)
        have hcp := copy_put _ g gw k (n + 1) (m - k) (n + 1) U o 3 hbu hbw hol (by rw [HUm.out]; omega) (by rw [HUm.out])
        have Hol := Lib.hid hol
        have Hkl := Lib.hid hkl
        clear hol hkl hS hDo
        have hbu2 := hbu.put (putAt U o k)
        have hbw2 : Blk (World.setRow _ g (nts (putAt U o k)).toArray) gw o := ((Only.refl g _).put _ |>.block gw (Ne.symm Hgg.out)).trans hbw
        have htwo := ho.two ((Only.refl g _).put (nts (putAt U o k)).toArray)
        go_wp2
        go_ret
        exact ⟨putAt U o k, hbu2, putAt_dig hDU hDo', (putAt_length Hkl.out).trans HUm.out, o, hbw2, Hol.out, htwo, .inl ⟨rfl, hy.out⟩⟩
      · have hb1 : b = 1 := by omega
        subst hb1
        have hno := Lib.hid (hS.no hDo' hDU (fun j hj => Hz.out j (by omega)) hkl)
        have Hol := Lib.hid hol
        clear hS hDo hol hkl
        go_wp2
        go_ret
        exact ⟨U, hbu, hDU, HUm.out, o, hbw, Hol.out, (Only.refl g _ |> fun r => ho.two r), .inr ⟨rfl, rfl, hno.out⟩⟩
end Go.Proofs.Ytldhmjfjbalakaa
