/- What limb.small and the easy cases of limb.Quo compute. -/
import Derived.Test.YtldhmjfjbalakaaKAe
namespace Go.Proofs.Ytldhmjfjbalakaa
open Go.RowKit

theorem div64_any (hi lo y : Nat) (w : World) (hlo : lo < 18446744073709551616) (hhi : hi < y) (hy' : y < 18446744073709551616) (q r : Nat) (hr : r < y) (he : hi * 18446744073709551616 + lo = y * q + r) :
    Calls Try.prog 103 #[.int .u64 (hi : Int), .int .u64 (lo : Int), .int .u64 (y : Int)] w fun e w' => e = .returned (.tuple #[.int .u64 (q : Int), .int .u64 (r : Int)]) ∧ ∃ n, w' = w.drewN n := by
  have e1 : (hi * 18446744073709551616 + lo) / y = q := by rw [he, Nat.mul_add_div (by omega), Nat.div_eq_of_lt hr]; omega
  have e2 : (hi * 18446744073709551616 + lo) % y = r := by rw [he, Nat.mul_add_mod, Nat.mod_eq_of_lt hr]
  rcases Nat.eq_zero_or_pos hi with rfl | h0
  · rw [Nat.zero_mul, Nat.zero_add] at e1 e2
    have h := div64_zero lo y w hlo (by omega) hy'
    rw [e1, e2] at h
    exact h
  · have h := div64_pos hi lo y w hlo h0 hhi hy'
    rw [e1, e2] at h
    exact h
/-- A place below: what a round that goes down has as its index. -/
def Below1 (k : Nat) (i : Int) : Prop := (k = 0 ∧ i = -1) ∨ ∃ j : Nat, k = j + 1 ∧ i = (j : Int)
theorem Below1.start (n : Nat) : Below1 n ((n : Int) - 1) := by
  rcases n with _ | n
  · exact .inl ⟨rfl, by simp⟩
  · exact .inr ⟨n, rfl, by omega⟩
/-- Behind the rounds of a division by one digit, from the highest down to k. -/
def SmallAt (B : Nat) (l o : List Nat) (d k r : Nat) : Prop := o.length = l.length ∧ val B (l.drop k) = d * val B (o.drop k) + r
theorem SmallAt.start {B : Nat} {l o : List Nat} (d : Nat) (h : o.length = l.length) : SmallAt B l o d l.length 0 := by
  refine ⟨h, ?_⟩
  rw [List.drop_length, ← h, List.drop_length]
  simp
theorem drop_dg {l : List Nat} {k : Nat} (h : k < l.length) : l.drop k = dg l k :: l.drop (k + 1) := by
  rw [List.drop_eq_getElem_cons h, dg, getD_eq' h]
theorem drop_set {l : List Nat} {k x : Nat} (h : k < l.length) : (l.set k x).drop k = x :: l.drop (k + 1) := by
  rw [List.drop_set, if_neg (Nat.lt_irrefl _), drop_dg h, Nat.sub_self, List.set_cons_zero]
theorem SmallAt.step {B : Nat} {l o : List Nat} {d k r q r' : Nat} (h : SmallAt B l o d (k + 1) r) (hk : k < l.length) (he : r * B + dg l k = d * q + r') : SmallAt B l (o.set k q) d k r' := by
  obtain ⟨h1, h2⟩ := h
  refine ⟨by simpa using h1, ?_⟩
  rw [drop_dg hk, drop_set (by omega), val_cons, val_cons, h2]
  have e : B * (d * val B (o.drop (k + 1)) + r) = d * (B * val B (o.drop (k + 1))) + r * B := by
    rw [Nat.mul_add, Nat.mul_left_comm, Nat.mul_comm B r]
  rw [e, Nat.mul_add]
  omega
theorem SmallAt.fin {B : Nat} {l o : List Nat} {d r : Nat} (h : SmallAt B l o d 0 r) (hr : r < d) : val B o = val B l / d ∧ r = val B l % d := by
  have := h.2
  simp only [List.drop_zero] at this
  rw [this]
  refine ⟨?_, ?_⟩
  · rw [Nat.mul_add_div (by omega), Nat.div_eq_of_lt hr, Nat.add_zero]
  · rw [Nat.mul_add_mod, Nat.mod_eq_of_lt hr]

set_option maxRecDepth 100000 in
set_option maxHeartbeats 1000000 in
theorem small_any (P : Nat → Prop) (A : Option Addr) (c : Nat) (l : List Nat) (d : Nat) (w : World) (h : RN w P A c l) (hP : ∀ b, P b → b < w.heap.size) (hl : l.length < 100000) (hd : 0 < d) (hd' : d < 18446744073709551616) :
    Calls Try.prog 89 #[.slice A l.length c, .int .u64 (d : Int)] w fun e w' => ∃ A1 c1, e = .returned (.tuple #[.slice A1 (digs 18446744073709551616 (val 18446744073709551616 l / d)).length c1, .int .u64 ((val 18446744073709551616 l % d : Nat) : Int)]) ∧
      OB w' w.heap.size A1 c1 (digs 18446744073709551616 (val 18446744073709551616 l / d)) ∧ Below w.heap.size w w' := by
  obtain ⟨h1, h2, h3⟩ := h.cap
  have hmk := run_make_row' (P := Try.prog) 23 72 (.int .u64 0) 8 Try.underlying23 info64 rfl .i64 .i64 l.length (by omega) (by omega)
  have Hs := Lib.hid (Below1.start l.length)
  go_enter Try.func89, Try.ntmps89
  go_wp2
  go_loopw [7, 8] (fun rv iv wr => ∃ (k r : Nat) (z : Int) (o : List Nat), iv = .int .i64 z ∧ Below1 k z ∧ rv = .int .u64 (r : Int) ∧ k ≤ l.length ∧ r < d ∧ SmallAt 18446744073709551616 l o d k r ∧ Lim o ∧ Blk wr w.heap.size o ∧ Below w.heap.size w wr) (fun _ iv _ => (intOf iv + 1).toNat)
  case atStart => exact ⟨l.length, 0, _, List.replicate l.length 0, rfl, Hs.out, rfl, by omega, by omega, SmallAt.start d (by simp), ⟨by simp, by simp; omega⟩, Blk.made w _, (Below.refl _ w).alloc (Nat.le_refl _) _⟩
  case round =>
    obtain ⟨k, r, z, o, rfl, hz, rfl, hk, hr, hS, hLo, hblk, hB⟩ := hrel
    rcases hz with ⟨rfl, rfl⟩ | ⟨j, rfl, rfl⟩
    · obtain ⟨hv, hrem⟩ := hS.fin hr
      have hOB : OB wr w.heap.size (some ⟨w.heap.size, 0, none⟩) l.length o := OB.of_blk hblk (Nat.le_refl _) hLo (by have := hS.1; omega) (by unfold maxLen; omega)
      have ht := trim_any _ _ _ _ _ hOB.rn
      have hOB' := hOB.trim
      rw [hv, hS.1] at ht
      rw [hv] at hOB'
      have Ht := Lib.hid ht
      have Hrem := Lib.hid hrem
      clear hblk hLo ht hv hrem hOB hS
      go_wp2_with fail
      refine Ht.out.mono ?_
      rintro e w1 ⟨rfl, rfl⟩
      go_wp2
      go_ret2
      exact ⟨_, _, by rw [Hrem.out]; rfl, hOB', hB⟩
    · obtain ⟨ad, rfl, had, q1⟩ := (h.below hB hP).at_ (i := j) (by omega)
      have hol := hS.1
      have hlj := h.2.dgLt j
      have q3 := hblk.cell (i := j) (by omega)
      have q4 := hblk.free j
      obtain ⟨q, r', hr', he, hq⟩ : ∃ q r' : Nat, r' < d ∧ r * 18446744073709551616 + dg l j = d * q + r' ∧ q < 18446744073709551616 := by
        refine ⟨(r * 18446744073709551616 + dg l j) / d, (r * 18446744073709551616 + dg l j) % d, Nat.mod_lt _ hd, (Nat.div_add_mod _ d).symm, ?_⟩
        apply Nat.div_lt_of_lt_mul
        have : (r + 1) * 18446744073709551616 ≤ d * 18446744073709551616 := Nat.mul_le_mul_right _ hr
        omega
      have hdv := Lib.hid (fun w => div64_any r (dg l j) d w hlj hr hd' q r' hr' he)
      have hS' := hS.step (by omega) he
      have hblk' := hblk.set j q
      have hLo' := hLo.set j q hq
      have hB' := hB.setCell (p := ⟨w.heap.size, j, none⟩) (Nat.le_refl _) (.int .u64 (q : Int))
      have k1 : (j : Int) < (l.length : Int) := by omega
      have Hs' := Lib.hid (Below1.start j)
      clear he hS hblk hLo hB hol
      go_wp2_with fail
      refine (hdv.out _).mono ?_
      rintro e w1 ⟨rfl, n, rfl⟩
      go_wp2
      go_roundw
      case rel => exact ⟨j, r', _, o.set j q, rfl, Hs'.out, rfl, by omega, hr', hS', hLo', hblk', below_drewN hB' _⟩
      case measure => simp [intOf]

theorem digs_one_length {d : Nat} (h0 : 0 < d) (h : d < 18446744073709551616) : digs 18446744073709551616 d = [d] := by
  rw [digs_pos (by omega) h0, Nat.mod_eq_of_lt h, Nat.div_eq_of_lt h, digs_zero]

set_option maxRecDepth 100000 in
set_option maxHeartbeats 1000000 in
/-- Nothing is divided by 0. -/
theorem quo_zero (P P' : Nat → Prop) (A A' : Option Addr) (c c' : Nat) (a b : List Nat) (w : World) (h : RN w P A c a) (h' : RN w P' A' c' b) (hb : val 18446744073709551616 b = 0) :
    Calls Try.prog 67 #[.slice A a.length c, .slice A' b.length c'] w fun e w' => e = .returned (.tuple #[.slice none 0 0, .slice none 0 0, .bool false]) ∧ w = w' := by
  have ta := Lib.hid (trim_any P A c a w h)
  have tb := trim_any P' A' c' b w h'
  rw [hb, digs_zero] at tb
  have Tb := Lib.hid tb
  clear tb hb
  go_enter Try.func67, Try.ntmps67
  go_wp2_with fail
  refine ta.out.mono ?_
  rintro e w1 ⟨rfl, rfl⟩
  go_wp2_with fail
  refine Tb.out.mono ?_
  rintro e w1 ⟨rfl, rfl⟩
  go_wp2
  go_ret3
  exact ⟨rfl, rfl⟩

set_option maxRecDepth 100000 in
set_option maxHeartbeats 1000000 in
/-- What is below the divisor is the rest. -/
theorem quo_lt (P P' : Nat → Prop) (A A' : Option Addr) (c c' : Nat) (a b : List Nat) (w : World) (h : RN w P A c a) (h' : RN w P' A' c' b) (hlt : val 18446744073709551616 a < val 18446744073709551616 b) :
    Calls Try.prog 67 #[.slice A a.length c, .slice A' b.length c'] w fun e w' => ∃ A1 c1, e = .returned (.tuple #[.slice none 0 0, .slice A1 (digs 18446744073709551616 (val 18446744073709551616 a)).length c1, .bool true]) ∧
      OB w' w.heap.size A1 c1 (digs 18446744073709551616 (val 18446744073709551616 a)) ∧ Below w.heap.size w w' := by
  have ta := Lib.hid (trim_any P A c a w h)
  have tb := Lib.hid (trim_any P' A' c' b w h')
  have tc := cmp_any P P' A A' c c' _ _ w h.trim h'.trim
  have tm := fun n => made_any P A c _ (World.drewN w n) (h.trim.drewN n)
  rw [val_digs (by omega), val_digs (by omega), cmpV_lt hlt] at tc
  rw [val_digs (by omega)] at tm
  have Tc := Lib.hid tc
  have Tm := Lib.hid tm
  have hne : 0 < (digs 18446744073709551616 (val 18446744073709551616 b)).length := by
    rw [digs_pos (by omega) (by omega)]; simp
  clear tc tm h h' hlt
  generalize digs 18446744073709551616 (val 18446744073709551616 a) = l at *
  generalize digs 18446744073709551616 (val 18446744073709551616 b) = m at *
  have hne' : ((m.length : Int) == 0) = false := eqB (by omega)
  clear hne
  go_enter Try.func67, Try.ntmps67
  go_wp2_with fail
  refine ta.out.mono ?_
  rintro e w1 ⟨rfl, rfl⟩
  go_wp2_with fail
  refine tb.out.mono ?_
  rintro e w1 ⟨rfl, rfl⟩
  go_wp2_with fail
  refine Tc.out.mono ?_
  rintro e w1 ⟨rfl, n, rfl⟩
  go_wp2_with fail
  refine (Tm.out n).mono ?_
  rintro e w1 ⟨A1, c1, rfl, hO, hB⟩
  go_wp2
  go_ret3
  exact ⟨A1, c1, rfl, hO, ⟨hB.os, hB.tape, hB.output, hB.size, hB.block⟩⟩

set_option maxRecDepth 100000 in
set_option maxHeartbeats 1000000 in
/-- By a number of one limb. -/
theorem quo_one (P P' : Nat → Prop) (A A' : Option Addr) (c c' : Nat) (a b : List Nat) (w : World) (h : RN w P A c a) (h' : RN w P' A' c' b) (hP : ∀ b, P b → b < w.heap.size) (hl : a.length < 100000) (hge : val 18446744073709551616 b ≤ val 18446744073709551616 a)
    (h0 : 0 < val 18446744073709551616 b) (h1 : val 18446744073709551616 b < 18446744073709551616) :
    Calls Try.prog 67 #[.slice A a.length c, .slice A' b.length c'] w fun e w' => ∃ A1 c1 A2 c2, e = .returned (.tuple #[.slice A1 (digs 18446744073709551616 (val 18446744073709551616 a / val 18446744073709551616 b)).length c1, .slice A2 (digs 18446744073709551616 (val 18446744073709551616 a % val 18446744073709551616 b)).length c2, .bool true]) ∧
      OB w' w.heap.size A1 c1 (digs 18446744073709551616 (val 18446744073709551616 a / val 18446744073709551616 b)) ∧ OB w' w.heap.size A2 c2 (digs 18446744073709551616 (val 18446744073709551616 a % val 18446744073709551616 b)) ∧ Below w.heap.size w w' := by
  have ta := Lib.hid (trim_any P A c a w h)
  have tb := Lib.hid (trim_any P' A' c' b w h')
  have tc := cmp_any P P' A A' c c' _ _ w h.trim h'.trim
  have la := digs_length_le (B := 18446744073709551616) (by omega) h.2.1
  have ts := fun n => small_any P A c _ (val 18446744073709551616 b) (World.drewN w n) (h.trim.drewN n) hP (by omega) h0 h1
  rw [val_digs (by omega), val_digs (by omega)] at tc
  rw [val_digs (by omega)] at ts
  replace h := h.trim
  replace h' := h'.trim
  generalize val 18446744073709551616 a = x at *
  generalize val 18446744073709551616 b = y at *
  have hcv : 0 ≤ cmpV x y := by rcases cmpV_cases x y with h | h | h <;> omega
  generalize cmpV x y = v at tc hcv
  have hof := Lib.hid (fun w => of_any (x % y) w (by have := Nat.mod_lt x h0; omega))
  have hm1 := digs_one_length h0 h1
  rw [hm1] at tb tc h'
  have Tc := Lib.hid tc
  have Ts := Lib.hid ts
  obtain ⟨ae, rfl, hae, q1⟩ := h'.at_ (i := 0) (by simp)
  rw [dg_cons_zero] at q1
  clear tc ts hm1 hge la hl
  obtain ⟨g1, g2, g3⟩ := h.cap
  generalize digs 18446744073709551616 x = l at *
  clear h h' h0 h1
  have q2 : Hid (w.cell? ae = some (.int .u64 (y : Int))) := Lib.hid (by simpa [Addr.add] using q1)
  clear q1
  go_enter Try.func67, Try.ntmps67
  go_wp2_with fail
  refine ta.out.mono ?_
  rintro e w1 ⟨rfl, rfl⟩
  go_wp2_with fail
  refine tb.out.mono ?_
  rintro e w1 ⟨rfl, rfl⟩
  go_wp2_with fail
  refine Tc.out.mono ?_
  rintro e w1 ⟨rfl, n, rfl⟩
  have q3 := q2.out
  clear hP g1 g2 g3
  go_wp2_with fail
  refine (Ts.out n).mono ?_
  rintro e w1 ⟨A1, c1, rfl, hO, hB⟩
  go_wp2_with fail
  refine (hof.out _).mono ?_
  rintro e w2 ⟨A2, c2, rfl, hO2, hB2⟩
  go_wp2
  go_ret3
  exact ⟨A1, c1, A2, c2, rfl, hO.below hB2 (Nat.le_refl _), hO2.mono hB.size, Below.trans ⟨hB.os, hB.tape, hB.output, hB.size, hB.block⟩ (hB2.mono hB.size)⟩
end Go.Proofs.Ytldhmjfjbalakaa
