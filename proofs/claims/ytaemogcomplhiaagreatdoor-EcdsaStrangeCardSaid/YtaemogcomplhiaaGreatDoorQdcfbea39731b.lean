/- What limb.small and the easy cases of limb.Quo compute. Plain arithmetic of the rounds of a long division: nothing of the program. What limb.guess computes. What limb.takes and limb.gives compute. Plain arithmetic of one limb of a long division: nothing of the program. Plain arithmetic of the reference's division: nothing of the program. What the reference's small and times compute. What the reference's less computes. What Montgomery's product needs: worlds in which one block alone may turn, plain laws. Blocks of the call's own that are read and laid whole, one store, what it leaves alone. zfield: an element; Zero. Montgomery's product on a row of fixed length: plain law. -/
import Derived.Test.YtaemogcomplhiaaGreatDoorQb66293bfaa45
import Derived.WalkMore
import Derived.Laws.CopyRow
import Derived.Laws.IdiomCopy
import Derived.Deep.MidRow
import Derived.ChangeKeysEq
import Derived.Laws.StructEq
namespace Go.Proofs.YtaemogcomplhiaaGreatDoor
open Go.RowKit

theorem div64_any (hi lo y : Nat) (w : World) (hlo : lo < 18446744073709551616) (hhi : hi < y) (hy' : y < 18446744073709551616) (q r : Nat) (hr : r < y) (he : hi * 18446744073709551616 + lo = y * q + r) :
 Calls Tryz.prog 133 #[.int .u64 (hi : Int), .int .u64 (lo : Int), .int .u64 (y : Int)] w fun e w' => e = .returned (.tuple #[.int .u64 (q : Int), .int .u64 (r : Int)]) ∧ ∃ n, w' = w.drewN n := by
 have e1 : (hi * 18446744073709551616 + lo) / y = q := by rw [he, Nat.mul_add_div (by omega), Nat.div_eq_of_lt hr]; omega
 have e2 : (hi * 18446744073709551616 + lo) % y = r := by rw [he, Nat.mul_add_mod, Nat.mod_eq_of_lt hr]
 rcases Nat.eq_zero_or_pos hi with rfl | h0
 · rw [Nat.zero_mul, Nat.zero_add] at e1 e2
   have h := div64_zero lo y w hlo (by omega) hy'
   rw [e1, e2] at h
   exact h
 · have h := div64_pos hi lo y w hlo h0 hhi hy'
   rw [e1, e2] at h
   exact h
def Below1 (k : Nat) (i : Int) : Prop := (k = 0 ∧ i = -1) ∨ ∃ j : Nat, k = j + 1 ∧ i = (j : Int)
theorem Below1.start (n : Nat) : Below1 n ((n : Int) - 1) := by
 rcases n with _ | n
 · exact .inl ⟨rfl, by simp⟩
 · exact .inr ⟨n, rfl, by omega⟩
def SmallAt (B : Nat) (l o : List Nat) (d k r : Nat) : Prop := o.length = l.length ∧ val B (l.drop k) = d * val B (o.drop k) + r
theorem SmallAt.start {B : Nat} {l o : List Nat} (d : Nat) (h : o.length = l.length) : SmallAt B l o d l.length 0 := by
 refine ⟨h, ?_⟩
 rw [List.drop_length, ← h, List.drop_length]
 simp
theorem drop_dg {l : List Nat} {k : Nat} (h : k < l.length) : l.drop k = dg l k :: l.drop (k + 1) := by
 rw [List.drop_eq_getElem_cons h, dg, getD_eq' h]
theorem drop_set {l : List Nat} {k x : Nat} (h : k < l.length) : (l.set k x).drop k = x :: l.drop (k + 1) := by
 rw [List.drop_set, if_neg (Nat.lt_irrefl _), drop_dg h, Nat.sub_self, List.set_cons_zero]
theorem SmallAt.step {B : Nat} {l o : List Nat} {d k r q r' : Nat} (h : SmallAt B l o d (k + 1) r) (hk : k < l.length) (he : r * B + dg l k = d * q + r') : SmallAt B l (o.set k q) d k r' := by
 obtain ⟨h1, h2⟩ := h
 refine ⟨by simpa using h1, ?_⟩
 rw [drop_dg hk, drop_set (by omega), val_cons, val_cons, h2]
 have e : B * (d * val B (o.drop (k + 1)) + r) = d * (B * val B (o.drop (k + 1))) + r * B := by
  rw [Nat.mul_add, Nat.mul_left_comm, Nat.mul_comm B r]
 rw [e, Nat.mul_add]
 omega
theorem SmallAt.fin {B : Nat} {l o : List Nat} {d r : Nat} (h : SmallAt B l o d 0 r) (hr : r < d) : val B o = val B l / d ∧ r = val B l % d := by
 have := h.2
 simp only [List.drop_zero] at this
 rw [this]
 refine ⟨?_, ?_⟩
 · rw [Nat.mul_add_div (by omega), Nat.div_eq_of_lt hr, Nat.add_zero]
 · rw [Nat.mul_add_mod, Nat.mod_eq_of_lt hr]

set_option maxRecDepth 100000 in
set_option maxHeartbeats 1000000 in
theorem small_any (P : Nat → Prop) (A : Option Addr) (c : Nat) (l : List Nat) (d : Nat) (w : World) (h : RN w P A c l) (hP : ∀ b, P b → b < w.heap.size) (hl : l.length < 100000) (hd : 0 < d) (hd' : d < 18446744073709551616) :
 Calls Tryz.prog 120 #[.slice A l.length c, .int .u64 (d : Int)] w fun e w' => ∃ A1 c1, e = .returned (.tuple #[.slice A1 (digs 18446744073709551616 (val 18446744073709551616 l / d)).length c1, .int .u64 ((val 18446744073709551616 l % d : Nat) : Int)]) ∧
  OB w' w.heap.size A1 c1 (digs 18446744073709551616 (val 18446744073709551616 l / d)) ∧ Below w.heap.size w w' := by
 obtain ⟨h1, h2, h3⟩ := h.cap
 have hmk := run_make_row' (P := Tryz.prog) 24 65 (.int .u64 0) 8 Tryz.underlying24 info64 rfl .i64 .i64 l.length (by omega) (by omega)
 have Hs := Lib.hid (Below1.start l.length)
 go_enter Tryz.func120, Tryz.ntmps120
 go_wp2
 go_loopw [7, 8] (fun rv iv wr => ∃ (k r : Nat) (z : Int) (o : List Nat), iv = .int .i64 z ∧ Below1 k z ∧ rv = .int .u64 (r : Int) ∧ k ≤ l.length ∧ r < d ∧ SmallAt 18446744073709551616 l o d k r ∧ Lim o ∧ Blk wr w.heap.size o ∧ Below w.heap.size w wr) (fun _ iv _ => (intOf iv + 1).toNat)
 case atStart => exact ⟨l.length, 0, _, List.replicate l.length 0, rfl, Hs.out, rfl, by omega, by omega, SmallAt.start d (by simp), ⟨by simp, by simp; omega⟩, Blk.made w _, (Below.refl _ w).alloc (Nat.le_refl _) _⟩
 case round =>
  obtain ⟨k, r, z, o, rfl, hz, rfl, hk, hr, hS, hLo, hblk, hB⟩ := hrel
  rcases hz with ⟨rfl, rfl⟩ | ⟨j, rfl, rfl⟩
  · obtain ⟨hv, hrem⟩ := hS.fin hr
    have hOB : OB wr w.heap.size (some ⟨w.heap.size, 0, none⟩) l.length o := OB.of_blk hblk (Nat.le_refl _) hLo (by have := hS.1; omega) (by unfold maxLen; omega)
    have ht := trim_any _ _ _ _ _ hOB.rn
    have hOB' := hOB.trim
    rw [hv, hS.1] at ht
    rw [hv] at hOB'
    have Ht := Lib.hid ht
    have Hrem := Lib.hid hrem
    clear hblk hLo ht hv hrem hOB hS
    go_wp2_with fail
    refine Ht.out.mono ?_
    rintro e w1 ⟨rfl, rfl⟩
    go_wp2
    go_ret2
    exact ⟨_, _, by rw [Hrem.out]; rfl, hOB', hB⟩
  · obtain ⟨ad, rfl, had, q1⟩ := (h.below hB hP).at_ (i := j) (by omega)
    have hol := hS.1
    have hlj := h.2.dgLt j
    have q3 := hblk.cell (i := j) (by omega)
    have q4 := hblk.free j
    obtain ⟨q, r', hr', he, hq⟩ : ∃ q r' : Nat, r' < d ∧ r * 18446744073709551616 + dg l j = d * q + r' ∧ q < 18446744073709551616 := by
     refine ⟨(r * 18446744073709551616 + dg l j) / d, (r * 18446744073709551616 + dg l j) % d, Nat.mod_lt _ hd, (Nat.div_add_mod _ d).symm, ?_⟩
     apply Nat.div_lt_of_lt_mul
     have : (r + 1) * 18446744073709551616 ≤ d * 18446744073709551616 := Nat.mul_le_mul_right _ hr
     omega
    have hdv := Lib.hid (fun w => div64_any r (dg l j) d w hlj hr hd' q r' hr' he)
    have hS' := hS.step (by omega) he
    have hblk' := hblk.set j q
    have hLo' := hLo.set j q hq
    have hB' := hB.setCell (p := ⟨w.heap.size, j, none⟩) (Nat.le_refl _) (.int .u64 (q : Int))
    have k1 : (j : Int) < (l.length : Int) := by omega
    have Hs' := Lib.hid (Below1.start j)
    clear he hS hblk hLo hB hol
    go_wp2_with fail
    refine (hdv.out _).mono ?_
    rintro e w1 ⟨rfl, n, rfl⟩
    go_wp2
    go_roundw
    case rel => exact ⟨j, r', _, o.set j q, rfl, Hs'.out, rfl, by omega, hr', hS', hLo', hblk', below_drewN hB' _⟩
    case measure => simp [intOf]

theorem digs_one_length {d : Nat} (h0 : 0 < d) (h : d < 18446744073709551616) : digs 18446744073709551616 d = [d] := by
 rw [digs_pos (by omega) h0, Nat.mod_eq_of_lt h, Nat.div_eq_of_lt h, digs_zero]

set_option maxRecDepth 100000 in
set_option maxHeartbeats 1000000 in
theorem quo_lt (P P' : Nat → Prop) (A A' : Option Addr) (c c' : Nat) (a b : List Nat) (w : World) (h : RN w P A c a) (h' : RN w P' A' c' b) (hlt : val 18446744073709551616 a < val 18446744073709551616 b) :
 Calls Tryz.prog 95 #[.slice A a.length c, .slice A' b.length c'] w fun e w' => ∃ A1 c1, e = .returned (.tuple #[.slice none 0 0, .slice A1 (digs 18446744073709551616 (val 18446744073709551616 a)).length c1, .bool true]) ∧
  OB w' w.heap.size A1 c1 (digs 18446744073709551616 (val 18446744073709551616 a)) ∧ Below w.heap.size w w' := by
 have ta := Lib.hid (trim_any P A c a w h)
 have tb := Lib.hid (trim_any P' A' c' b w h')
 have tc := cmp_any P P' A A' c c' _ _ w h.trim h'.trim
 have tm := fun n => made_any P A c _ (World.drewN w n) (h.trim.drewN n)
 rw [val_digs (by omega), val_digs (by omega), cmpV_lt hlt] at tc
 rw [val_digs (by omega)] at tm
 have Tc := Lib.hid tc
 have Tm := Lib.hid tm
 have hne : 0 < (digs 18446744073709551616 (val 18446744073709551616 b)).length := by
  rw [digs_pos (by omega) (by omega)]; simp
 clear tc tm h h' hlt
 generalize digs 18446744073709551616 (val 18446744073709551616 a) = l at *
 generalize digs 18446744073709551616 (val 18446744073709551616 b) = m at *
 have hne' : ((m.length : Int) == 0) = false := eqB (by omega)
 clear hne
 go_enter Tryz.func95, Tryz.ntmps95
 go_wp2_with fail
 refine ta.out.mono ?_
 rintro e w1 ⟨rfl, rfl⟩
 go_wp2_with fail
 refine tb.out.mono ?_
 rintro e w1 ⟨rfl, rfl⟩
 go_wp2_with fail
 refine Tc.out.mono ?_
 rintro e w1 ⟨rfl, n, rfl⟩
 go_wp2_with fail
 refine (Tm.out n).mono ?_
 rintro e w1 ⟨A1, c1, rfl, hO, hB⟩
 go_wp2
 go_ret3
 exact ⟨A1, c1, rfl, hO, ⟨hB.os, hB.tape, hB.output, hB.size, hB.block⟩⟩

set_option maxRecDepth 100000 in
set_option maxHeartbeats 1000000 in
theorem quo_one (P P' : Nat → Prop) (A A' : Option Addr) (c c' : Nat) (a b : List Nat) (w : World) (h : RN w P A c a) (h' : RN w P' A' c' b) (hP : ∀ b, P b → b < w.heap.size) (hl : a.length < 100000) (hge : val 18446744073709551616 b ≤ val 18446744073709551616 a)
 (h0 : 0 < val 18446744073709551616 b) (h1 : val 18446744073709551616 b < 18446744073709551616) :
 Calls Tryz.prog 95 #[.slice A a.length c, .slice A' b.length c'] w fun e w' => ∃ A1 c1 A2 c2, e = .returned (.tuple #[.slice A1 (digs 18446744073709551616 (val 18446744073709551616 a / val 18446744073709551616 b)).length c1, .slice A2 (digs 18446744073709551616 (val 18446744073709551616 a % val 18446744073709551616 b)).length c2, .bool true]) ∧
  OB w' w.heap.size A1 c1 (digs 18446744073709551616 (val 18446744073709551616 a / val 18446744073709551616 b)) ∧ OB w' w.heap.size A2 c2 (digs 18446744073709551616 (val 18446744073709551616 a % val 18446744073709551616 b)) ∧ Below w.heap.size w w' := by
 have ta := Lib.hid (trim_any P A c a w h)
 have tb := Lib.hid (trim_any P' A' c' b w h')
 have tc := cmp_any P P' A A' c c' _ _ w h.trim h'.trim
 have la := digs_length_le (B := 18446744073709551616) (by omega) h.2.1
 have ts := fun n => small_any P A c _ (val 18446744073709551616 b) (World.drewN w n) (h.trim.drewN n) hP (by omega) h0 h1
 rw [val_digs (by omega), val_digs (by omega)] at tc
 rw [val_digs (by omega)] at ts
 replace h := h.trim
 replace h' := h'.trim
 generalize val 18446744073709551616 a = x at *
 generalize val 18446744073709551616 b = y at *
 have hcv : 0 ≤ cmpV x y := by rcases cmpV_cases x y with h | h | h <;> omega
 generalize cmpV x y = v at tc hcv
 have hof := Lib.hid (fun w => of_any (x % y) w (by have := Nat.mod_lt x h0; omega))
 have hm1 := digs_one_length h0 h1
 rw [hm1] at tb tc h'
 have Tc := Lib.hid tc
 have Ts := Lib.hid ts
 obtain ⟨ae, rfl, hae, q1⟩ := h'.at_ (i := 0) (by simp)
 rw [dg_cons_zero] at q1
 clear tc ts hm1 hge la hl
 obtain ⟨g1, g2, g3⟩ := h.cap
 generalize digs 18446744073709551616 x = l at *
 clear h h' h0 h1
 have q2 : Hid (w.cell? ae = some (.int .u64 (y : Int))) := Lib.hid (by simpa [Addr.add] using q1)
 clear q1
 go_enter Tryz.func95, Tryz.ntmps95
 go_wp2_with fail
 refine ta.out.mono ?_
 rintro e w1 ⟨rfl, rfl⟩
 go_wp2_with fail
 refine tb.out.mono ?_
 rintro e w1 ⟨rfl, rfl⟩
 go_wp2_with fail
 refine Tc.out.mono ?_
 rintro e w1 ⟨rfl, n, rfl⟩
 have q3 := q2.out
 clear hP g1 g2 g3
 go_wp2_with fail
 refine (Ts.out n).mono ?_
 rintro e w1 ⟨A1, c1, rfl, hO, hB⟩
 go_wp2_with fail
 refine (hof.out _).mono ?_
 rintro e w2 ⟨A2, c2, rfl, hO2, hB2⟩
 go_wp2
 go_ret3
 exact ⟨A1, c1, A2, c2, rfl, hO.below hB2 (Nat.le_refl _), hO2.mono hB.size, Below.trans ⟨hB.os, hB.tape, hB.output, hB.size, hB.block⟩ (hB2.mono hB.size)⟩
end Go.Proofs.YtaemogcomplhiaaGreatDoor

namespace Go.Proofs.YtaemogcomplhiaaGreatDoor

def TakesAt (B : Nat) (L0 y : List Nat) (q f : Nat) (L : List Nat) (j c b : Nat) : Prop :=
 L.length = L0.length ∧ val B L + B ^ f * (q * val B (y.take j)) = val B L0 + B ^ (f + j) * (c + b) ∧ ∀ i, f + j ≤ i → dg L i = dg L0 i
theorem TakesAt.zero (B : Nat) (L y : List Nat) (q f : Nat) : TakesAt B L y q f L 0 0 0 := by simp [TakesAt]
theorem TakesAt.step {B : Nat} {L0 y L : List Nat} {q f j c b lo c' x b' : Nat} (h : TakesAt B L0 y q f L j c b) (hL : f + j < L.length) (h1 : lo + B * c' = q * dg y j + c) (h2 : x + lo + b = dg L (f + j) + B * b') :
 TakesAt B L0 y q f (L.set (f + j) x) (j + 1) c' b' := by
 obtain ⟨g1, g2, g3⟩ := h
 refine ⟨by simpa using g1, ?_, fun i hi => by rw [getD_set_ne (by omega)]; exact g3 i (by omega)⟩
 have hs := val_set' B hL x
 rw [val_take_getD, Nat.mul_add, Nat.mul_add, ← Nat.add_assoc f j 1, Nat.pow_succ]
 have e1 : B ^ f * (q * (B ^ j * dg y j)) = B ^ (f + j) * (q * dg y j) := by
  rw [Nat.pow_add, Nat.mul_left_comm q, ← Nat.mul_assoc]
 have e2 : B ^ (f + j) * (lo + B * c') = B ^ (f + j) * (q * dg y j + c) := by rw [h1]
 have e3 : B ^ (f + j) * (x + lo + b) = B ^ (f + j) * (dg L (f + j) + B * b') := by rw [h2]
 rw [e1, Nat.mul_assoc, Nat.mul_add]
 rw [Nat.mul_add] at g2
 simp only [Nat.mul_add] at e2 e3 ⊢
 generalize B ^ (f + j) * (B * c') = p1 at *
 generalize B ^ (f + j) * (B * b') = p2 at *
 generalize B ^ (f + j) * lo = p3 at *
 generalize B ^ (f + j) * (q * dg y j) = p4 at *
 generalize B ^ (f + j) * c = p5 at *
 generalize B ^ (f + j) * b = p6 at *
 generalize B ^ (f + j) * x = p7 at *
 generalize B ^ (f + j) * dg L (f + j) = p8 at *
 generalize B ^ f * (q * val B (y.take j)) = p9 at *
 generalize val B (L.set (f + j) x) = p10 at *
 generalize val B L = p11 at *
 generalize val B L0 = p12 at *
 omega
theorem TakesAt.fin {B : Nat} {L0 y L : List Nat} {q f n c b x b' : Nat} (h : TakesAt B L0 y q f L n c b) (hn : y.length = n) (hL : f + n < L.length) (h2 : x + c + b = dg L (f + n) + B * b') :
 (L.set (f + n) x).length = L0.length ∧ val B (L.set (f + n) x) + B ^ f * (q * val B y) = val B L0 + B ^ (f + n + 1) * b' ∧ ∀ i, f + n + 1 ≤ i → dg (L.set (f + n) x) i = dg L0 i := by
 obtain ⟨g1, g2, g3⟩ := h
 refine ⟨by simpa using g1, ?_, fun i hi => by rw [getD_set_ne (by omega)]; exact g3 i (by omega)⟩
 rw [List.take_of_length_le (by omega)] at g2
 have hs := val_set' B hL x
 have e3 : B ^ (f + n) * (x + c + b) = B ^ (f + n) * (dg L (f + n) + B * b') := by rw [h2]
 rw [Nat.pow_succ, Nat.mul_assoc]
 simp only [Nat.mul_add] at e3 g2
 generalize B ^ (f + n) * (B * b') = p2 at *
 generalize B ^ (f + n) * c = p5 at *
 generalize B ^ (f + n) * b = p6 at *
 generalize B ^ (f + n) * x = p7 at *
 generalize B ^ (f + n) * dg L (f + n) = p8 at *
 generalize B ^ f * (q * val B y) = p9 at *
 generalize val B (L.set (f + n) x) = p10 at *
 generalize val B L = p11 at *
 generalize val B L0 = p12 at *
 omega
def GivesAt (B : Nat) (L0 y : List Nat) (f : Nat) (L : List Nat) (j c : Nat) : Prop :=
 L.length = L0.length ∧ val B L + B ^ (f + j) * c = val B L0 + B ^ f * val B (y.take j) ∧ ∀ i, f + j ≤ i → dg L i = dg L0 i
theorem GivesAt.zero (B : Nat) (L y : List Nat) (f : Nat) : GivesAt B L y f L 0 0 := by simp [GivesAt]
theorem GivesAt.step {B : Nat} {L0 y L : List Nat} {f j c x c' : Nat} (h : GivesAt B L0 y f L j c) (hL : f + j < L.length) (h1 : x + B * c' = dg L (f + j) + dg y j + c) : GivesAt B L0 y f (L.set (f + j) x) (j + 1) c' := by
 obtain ⟨g1, g2, g3⟩ := h
 refine ⟨by simpa using g1, ?_, fun i hi => by rw [getD_set_ne (by omega)]; exact g3 i (by omega)⟩
 have hs := val_set' B hL x
 rw [val_take_getD, Nat.mul_add, ← Nat.mul_assoc, ← Nat.pow_add, ← Nat.add_assoc f j 1, Nat.pow_succ, Nat.mul_assoc]
 have e2 : B ^ (f + j) * (x + B * c') = B ^ (f + j) * (dg L (f + j) + dg y j + c) := by rw [h1]
 simp only [Nat.mul_add] at e2 ⊢
 generalize B ^ (f + j) * (B * c') = p1 at *
 generalize B ^ (f + j) * dg y j = p4 at *
 generalize B ^ (f + j) * c = p5 at *
 generalize B ^ (f + j) * x = p7 at *
 generalize B ^ (f + j) * dg L (f + j) = p8 at *
 generalize B ^ f * val B (y.take j) = p9 at *
 generalize val B (L.set (f + j) x) = p10 at *
 generalize val B L = p11 at *
 generalize val B L0 = p12 at *
 omega
theorem GivesAt.fin {B : Nat} {L0 y L : List Nat} {f n c x c' : Nat} (h : GivesAt B L0 y f L n c) (hn : y.length = n) (hL : f + n < L.length) (h1 : x + B * c' = dg L (f + n) + c) :
 (L.set (f + n) x).length = L0.length ∧ val B (L.set (f + n) x) + B ^ (f + n + 1) * c' = val B L0 + B ^ f * val B y ∧ ∀ i, f + n + 1 ≤ i → dg (L.set (f + n) x) i = dg L0 i := by
 obtain ⟨g1, g2, g3⟩ := h
 refine ⟨by simpa using g1, ?_, fun i hi => by rw [getD_set_ne (by omega)]; exact g3 i (by omega)⟩
 rw [List.take_of_length_le (by omega)] at g2
 have hs := val_set' B hL x
 have e3 : B ^ (f + n) * (x + B * c') = B ^ (f + n) * (dg L (f + n) + c) := by rw [h1]
 rw [Nat.pow_succ, Nat.mul_assoc]
 simp only [Nat.mul_add] at e3
 generalize B ^ (f + n) * (B * c') = p2 at *
 generalize B ^ (f + n) * c = p5 at *
 generalize B ^ (f + n) * x = p7 at *
 generalize B ^ (f + n) * dg L (f + n) = p8 at *
 generalize B ^ f * val B y = p9 at *
 generalize val B (L.set (f + n) x) = p10 at *
 generalize val B L = p11 at *
 generalize val B L0 = p12 at *
 omega
theorem val_lt_of_zero {B : Nat} (hB : 0 < B) {L : List Nat} (h : ∀ x ∈ L, x < B) {m : Nat} (hz : ∀ i, m ≤ i → dg L i = 0) : val B L < B ^ m := by
 rcases Nat.lt_or_ge L.length m with h1 | h1
 · exact Nat.lt_of_lt_of_le (val_lt h) (Nat.pow_le_pow_right hB (by omega))
 · have e := val_take_drop B L h1
   have hd : val B (L.drop m) = 0 := by
    apply val_zeros
    intro x hx
    obtain ⟨i, hi, rfl⟩ := List.getElem_of_mem hx
    rw [List.getElem_drop]
    have := hz (m + i) (by omega)
    rwa [dg, getD_eq' (by simp at hi; omega)] at this
   rw [hd, Nat.mul_zero, Nat.add_zero] at e
   rw [e]
   have := val_lt (B := B) (l := L.take m) fun x hx => h x (List.mem_of_mem_take hx)
   rwa [List.length_take, Nat.min_eq_left h1] at this
theorem dg_of_val {B : Nat} {L : List Nat} (h : ∀ x ∈ L, x < B) (i : Nat) (hi : i < L.length) : dg L i = val B L / B ^ i % B := by
 have hB : 0 < B := Nat.lt_of_le_of_lt (Nat.zero_le _) (h _ (List.getElem_mem hi))
 have e := val_take_drop B L (Nat.le_of_lt hi)
 have h2 := val_lt (B := B) (l := L.take i) fun x hx => h x (List.mem_of_mem_take hx)
 rw [List.length_take, Nat.min_eq_left (by omega)] at h2
 rw [List.drop_eq_getElem_cons hi, val_cons] at e
 rw [e, Nat.add_mul_div_left _ _ (Nat.pow_pos hB), Nat.div_eq_of_lt h2, Nat.zero_add, Nat.add_mul_mod_self_left, dg, getD_eq' hi, Nat.mod_eq_of_lt (h _ (List.getElem_mem hi))]
theorem zero_of_val_lt {B : Nat} {L : List Nat} (h : ∀ x ∈ L, x < B) {m : Nat} (hm : val B L < B ^ m) {i : Nat} (hi : m ≤ i) : dg L i = 0 := by
 rcases Nat.lt_or_ge i L.length with h1 | h1
 · have hB : 0 < B := Nat.lt_of_le_of_lt (Nat.zero_le _) (h _ (List.getElem_mem h1))
   rw [dg_of_val h i h1, Nat.div_eq_of_lt (Nat.lt_of_lt_of_le hm (Nat.pow_le_pow_right hB hi)), Nat.zero_mod]
 · rw [dg, List.getD_eq_getElem?_getD, List.getElem?_eq_none h1]; rfl
end Go.Proofs.YtaemogcomplhiaaGreatDoor

namespace Go.Proofs.YtaemogcomplhiaaGreatDoor
open Go.RowKit

def Guessed (u u1 y1 y0 G : Nat) : Prop := G < 18446744073709551616 ∧ ∀ q, q < 18446744073709551616 → q * (y1 * 18446744073709551616 + y0) ≤ u * 18446744073709551616 + u1 → q ≤ G
theorem Guessed.top (u u1 y1 y0 : Nat) : Guessed u u1 y1 y0 18446744073709551615 := ⟨by omega, fun q hq _ => by omega⟩
theorem Guessed.of_eq {u u1 y1 y0 G : Nat} (h : GuessOk 18446744073709551616 u u1 y1 y0) (he : G = (u * 18446744073709551616 + u1) / (y1 * 18446744073709551616 + y0)) : Guessed u u1 y1 y0 G := by
 refine ⟨by rw [he]; exact h.quo_lt, fun q _ hle => ?_⟩
 rw [he]
 refine (Nat.le_div_iff_mul_le ?_).2 hle
 have := h.hy
 omega
theorem two_le {hi lo r x p : Nat} (h : lo + 18446744073709551616 * hi = p) (hlo : lo < 18446744073709551616) (hx : x < 18446744073709551616) : (hi < r ∨ hi = r ∧ lo ≤ x) ↔ p ≤ 18446744073709551616 * r + x := by
 subst h
 rcases Nat.lt_trichotomy hi r with h1 | h1 | h1
 · refine ⟨fun _ => ?_, fun _ => .inl h1⟩
   omega
 · subst h1
   exact ⟨fun h => by omega, fun h => by omega⟩
 · exact ⟨fun h => by omega, fun h => by omega⟩

theorem top_quo {B x2 x1 y1 : Nat} (h1 : x1 < B) (h : x2 < y1) : (x2 * B + x1) / y1 < B := by
 apply Nat.div_lt_of_lt_mul
 have : (x2 + 1) * B ≤ y1 * B := Nat.mul_le_mul_right _ h
 rw [Nat.add_mul, Nat.one_mul] at this
 omega

theorem ret_u {a b : Int} (h : a = b) : Ending.returned (.int .u64 a) = .returned (.int .u64 b) := by rw [h]
def guessF (x2 x1 x0 y1 y0 : Nat) : Nat := if y1 ≤ x2 then 18446744073709551615 else ((x2 * 18446744073709551616 + x1) * 18446744073709551616 + x0) / (y1 * 18446744073709551616 + y0)
theorem guessF_ok {x2 x1 x0 y1 y0 : Nat} (h1 : x1 < 18446744073709551616) (h0 : x0 < 18446744073709551616) (g1 : y1 < 18446744073709551616) (g0 : y0 < 18446744073709551616) (gt : 18446744073709551616 ≤ 2 * y1) :
 Guessed (x2 * 18446744073709551616 + x1) x0 y1 y0 (guessF x2 x1 x0 y1 y0) := by
 unfold guessF
 split
 · exact Guessed.top _ _ _ _
 · have hu : x2 * 18446744073709551616 + x1 < y1 * 18446744073709551616 + y0 := by omega
   exact Guessed.of_eq ⟨by omega, gt, g1, g0, h0, hu⟩ rfl

set_option maxRecDepth 100000 in
set_option maxHeartbeats 2000000 in
theorem guess_any (x2 x1 x0 y1 y0 : Nat) (w : World) (h1 : x1 < 18446744073709551616) (h0 : x0 < 18446744073709551616) (g1 : y1 < 18446744073709551616) (g0 : y0 < 18446744073709551616) (gt : 18446744073709551616 ≤ 2 * y1) :
 Calls Tryz.prog 123 #[.int .u64 (x2 : Int), .int .u64 (x1 : Int), .int .u64 (x0 : Int), .int .u64 (y1 : Int), .int .u64 (y0 : Int)] w fun e w' => e = .returned (.int .u64 (guessF x2 x1 x0 y1 y0 : Int)) ∧ ∃ n, w' = w.drewN n := by
 by_cases hge : y1 ≤ x2
 · have k1 : y1 ≤ x2 := hge
   have ht : guessF x2 x1 x0 y1 y0 = 18446744073709551615 := if_pos hge
   have Ht := Lib.hid ht
   clear h1 h0 g1 g0 gt hge ht
   go_enter Tryz.func123, Tryz.ntmps123
   go_wp2
   go_step3
   go_wp2
   try rw [Exit.noGoto_ret]
   go_ret
   exact ⟨by rw [Ht.out]; rfl, 0, rfl⟩
 · have k1 : ¬ y1 ≤ x2 := hge
   have hlt : x2 < y1 := by omega
   have hu : x2 * 18446744073709551616 + x1 < y1 * 18446744073709551616 + y0 := by omega
   have hq := top_quo h1 hlt
   have hdv := fun q r (hr : r < y1) (he : _ = y1 * q + r) => div64_any x2 x1 y1 w h1 hlt g1 q r hr he
   have hF : guessF x2 x1 x0 y1 y0 = ((x2 * 18446744073709551616 + x1) * 18446744073709551616 + x0) / (y1 * 18446744073709551616 + y0) := if_neg hge
   obtain ⟨u, hu'⟩ : ∃ u, x2 * 18446744073709551616 + x1 = u := ⟨_, rfl⟩
   rw [hu'] at hu hq hdv hF
   have G := (⟨by omega, gt, g1, g0, h0, hu⟩ : GuessOk 18446744073709551616 u x0 y1 y0)
   obtain ⟨hg, hr, hp⟩ := G.start
   have hrr : u - u / y1 * y1 < y1 := (rest_of (by omega)).2
   have HG : Hid (∀ g, g = (u * 18446744073709551616 + x0) / (y1 * 18446744073709551616 + y0) → g = guessF x2 x1 x0 y1 y0) := Lib.hid fun g he => he.trans hF.symm
   clear hF
   clear hu hu'
   obtain ⟨q, hq'⟩ : ∃ q, u / y1 = q := ⟨_, rfl⟩
   rw [hq'] at hg hr hp hrr hq
   obtain ⟨p, hp'⟩ : ∃ p, q * y1 = p := ⟨_, rfl⟩
   rw [hp'] at hg hr hp hrr
   obtain ⟨r, hr'⟩ : ∃ r, u - p = r := ⟨_, rfl⟩
   rw [hr'] at hg hr hrr
   have Hdv := Lib.hid (hdv q r hrr (by rw [Nat.mul_comm, hp']; omega))
   have HGk := Lib.hid G
   clear hdv hq' hp' hr' hp hrr hge hlt h1 G gt
   go_enter Tryz.func123, Tryz.ntmps123
   go_wp2
   go_step3
   go_wp2_with fail
   refine Hdv.out.mono ?_
   rintro e w1 ⟨rfl, n, rfl⟩
   go_wp2
   go_step3
   go_wp2
   go_loop [11, 12] (fun qv rv => ∃ q r : Nat, qv = .int .u64 (q : Int) ∧ rv = .int .u64 (r : Int) ∧ GuessAt 18446744073709551616 u x0 y1 y0 q r ∧ r < 18446744073709551616 ∧ q < 18446744073709551616) (fun qv _ => (intOf qv).toNat)
   case atStart => exact ⟨q, r, rfl, rfl, hg, hr, hq⟩
   case round =>
    clear hg hr hq
    obtain ⟨q, r, rfl, rfl, hg, hr, hq⟩ := hrel
    obtain ⟨hi', lo, b1, b2⟩ : ∃ hi' lo : Nat, lo < 18446744073709551616 ∧ lo + 18446744073709551616 * hi' = q * y0 := ⟨q * y0 / 18446744073709551616, q * y0 % 18446744073709551616, by omega, by omega⟩
    have hmul := Lib.hid (fun w => mul64_at q y0 hi' lo hq g0 b1 b2 w)
    have hle := two_le (r := r) b2 b1 h0
    by_cases hc : q * y0 ≤ 18446744073709551616 * r + x0
    · have hQ := Lib.hid (HG.out _ (hg.le HGk.out hc))
      have hc' := hle.2 hc
      clear hle hc hg hr hq b1 b2 g0 g1 h0
      rcases hc' with hc' | ⟨rfl, hc'⟩
      · have i1 : hi' < r := by omega
        clear hc'
        go_wp2_with fail
        refine (hmul.out _).mono ?_
        rintro e w1 ⟨rfl, rfl⟩
        go_wp2
        try rw [Exit.noGoto_ret]
        go_ret
        exact ⟨by rw [← hQ.out]; rfl, _, rfl⟩
      · have i1 : ¬ hi' < hi' := by omega
        have i2 : lo ≤ x0 := by omega
        clear hc'
        go_wp2_with fail
        refine (hmul.out _).mono ?_
        rintro e w1 ⟨rfl, rfl⟩
        go_wp2
        try rw [Exit.noGoto_ret]
        go_ret
        exact ⟨by rw [← hQ.out]; rfl, _, rfl⟩
    · obtain ⟨hg', hq1⟩ := hg.step HGk.out (.inr (by omega))
      obtain ⟨m, rfl⟩ : ∃ m, q = m + 1 := ⟨q - 1, by omega⟩
      rw [Nat.add_sub_cancel] at hg'
      have hmB : m < 18446744073709551616 := by omega
      obtain ⟨s, cc, s1, s2, s3⟩ : ∃ s cc : Nat, s < 18446744073709551616 ∧ cc ≤ 1 ∧ s + 18446744073709551616 * cc = r + y1 + 0 := ⟨(r + y1) % 18446744073709551616, (r + y1) / 18446744073709551616, by omega, by omega, by omega⟩
      have hadd := fun w => add64_at r y1 0 s cc (by omega) s1 s3 w
      simp only [Int.cast_ofNat_Int] at hadd
      have hn : ¬ (hi' < r ∨ hi' = r ∧ lo ≤ x0) := fun h => hc (hle.1 h)
      have hmi : (m : Int) < 18446744073709551616 := by omega
      rcases Nat.eq_zero_or_pos cc with rfl | hcc
      · have hs : s = r + y1 := by omega
        rw [← hs] at hg'
        have Hs1 := Lib.hid s1
        have Hmb := Lib.hid hmB
        clear s1 s2 s3 hs hg hle hc b1 b2 hq hr hq1 hmB
        by_cases hi : hi' = r
        · subst hi
          have i1 : ¬ hi' < hi' := by omega
          have i2 : ¬ lo ≤ x0 := by omega
          clear hn
          go_wp2_with fail
          refine (hmul.out _).mono ?_
          rintro e w1 ⟨rfl, rfl⟩
          go_wp2
          go_round
          case rel => exact ⟨m, s, by go_num, rfl, hg', Hs1.out, Hmb.out⟩
          case measure => simp [intOf]
        · have i1 : ¬ hi' < r := by omega
          have i2 : ((hi' : Int) == (r : Int)) = false := eqB (by omega)
          clear hn hi
          go_wp2_with fail
          refine (hmul.out _).mono ?_
          rintro e w1 ⟨rfl, rfl⟩
          go_wp2
          go_round
          case rel => exact ⟨m, s, by go_num, rfl, hg', Hs1.out, Hmb.out⟩
          case measure => simp [intOf]
      · obtain rfl : cc = 1 := by omega
        have hQ := Lib.hid (HG.out _ (hg'.out HGk.out (by omega) (by omega)))
        clear s1 s2 s3 hg hg' hle hc b1 b2 hq hr hq1 hmB
        simp only [Int.cast_ofNat_Int] at hadd
        by_cases hi : hi' = r
        · subst hi
          have i1 : ¬ hi' < hi' := by omega
          have i2 : ¬ lo ≤ x0 := by omega
          clear hn
          go_wp2_with fail
          refine (hmul.out _).mono ?_
          rintro e w1 ⟨rfl, rfl⟩
          go_wp2
          try rw [Exit.noGoto_ret]
          go_ret
          exact ⟨by rw [← hQ.out]; exact ret_u (by simp), _, rfl⟩
        · have i1 : ¬ hi' < r := by omega
          have i2 : ((hi' : Int) == (r : Int)) = false := eqB (by omega)
          clear hn hi
          go_wp2_with fail
          refine (hmul.out _).mono ?_
          rintro e w1 ⟨rfl, rfl⟩
          go_wp2
          try rw [Exit.noGoto_ret]
          go_ret
          exact ⟨by rw [← hQ.out]; exact ret_u (by simp), _, rfl⟩
end Go.Proofs.YtaemogcomplhiaaGreatDoor

namespace Go.Proofs.YtaemogcomplhiaaGreatDoor
open Go.RowKit

def Row (w : World) (g : Nat) (l : List Nat) : Prop := ∃ cur, w.heap[g]? = some (.cells cur 65 (0, 0)) ∧ ∀ (j : Nat) u, (nts l)[j]? = some u → cur[j]? = some u
section
variable {w w' w'' : World} {g f : Nat} {l : List Nat} {p : Addr}
theorem add_off (g f j : Nat) : (⟨g, f, none⟩ : Addr).add j = ⟨g, f + j, none⟩ := by
 rcases Nat.eq_zero_or_pos j with h | h
 · subst h; rfl
 · simp [Addr.add, Nat.pos_iff_ne_zero.1 h]
theorem Row.cell (h : Row w g l) (hp : p = ⟨g, f, none⟩) {j : Nat} (hj : f + j < l.length) : w.cell? (p.add j) = some (.int .u64 (dg l (f + j) : Int)) := by
 obtain ⟨cur, h1, h2⟩ := h
 rw [hp, add_off, blk_cell h1, h2 _ _ (nts_get hj)]
theorem Row.free (h : Row w g l) (hp : p = ⟨g, f, none⟩) (j : Nat) : w.frozen? (p.add j) = false := by
 obtain ⟨cur, h1, h2⟩ := h
 rw [hp, add_off, blk_free h1]
theorem Row.set (h : Row w g l) (hp : p = ⟨g, f, none⟩) (j x : Nat) : Row (w.setCell (p.add j) (.int .u64 (x : Int))) g (l.set (f + j) x) := by
 obtain ⟨cur, h1, h2⟩ := h
 rw [hp, add_off]
 refine ⟨cur.setIfInBounds (f + j) (.int .u64 (x : Int)), by simp [World.setCell, Array.getElem?_modify, h1], fun i u hu => ?_⟩
 rw [nts, List.map_set, List.getElem?_set] at hu
 rw [Array.getElem?_setIfInBounds]
 by_cases e : f + j = i
 · rw [if_pos e] at hu ⊢
   split at hu
   · rename_i hl
     have := h2 i _ (nts_get (by rw [← e]; simpa using hl))
     have hi := (Array.getElem?_eq_some_iff.1 this).1
     rw [if_pos (by omega)]
     exact hu
   · cases hu
 · rw [if_neg e] at hu ⊢
   exact h2 i u hu
theorem Row.lt (h : Row w g l) : g < w.heap.size := by obtain ⟨cur, h1, h2⟩ := h; exact blk_lt h1
theorem Row.drewN (h : Row w g l) (n : Nat) : Row (w.drewN n) g l := h
theorem Row.of_heap (h : Row w g l) (he : w'.heap[g]? = w.heap[g]?) : Row w' g l := by
 obtain ⟨cur, h1, h2⟩ := h
 exact ⟨cur, he.trans h1, h2⟩
theorem Row.below {B : Nat} (h : Row w g l) (hb : Below B w w') (hg : g < B) : Row w' g l := h.of_heap (hb.block g hg)
theorem Row.ob (h : Row w g l) {base c : Nat} (hg : base ≤ g) (hl : Lim l) (hc : l.length ≤ c) (hc' : c ≤ maxLen) : OB w base (some ⟨g, 0, none⟩) c l := by
 obtain ⟨cur, h1, h2⟩ := h
 exact ⟨hl, hc, hc', fun _ => ⟨g, cur, rfl, hg, h1, h2⟩⟩
theorem OB.row {base c : Nat} {A : Option Addr} (h : OB w base A c l) (h0 : 0 < l.length) : ∃ g, A = some ⟨g, 0, none⟩ ∧ base ≤ g ∧ Row w g l := by
 obtain ⟨h1, h2, h3, h4⟩ := h
 obtain ⟨g, cur, e, hg, h5, h6⟩ := h4 h0
 exact ⟨g, e, hg, cur, h5, h6⟩
theorem Row.blk (h : Blk w g l) : Row w g l := ⟨_, h, fun j u hu => by rw [List.getElem?_toArray]; exact hu⟩
structure Only (g : Nat) (w w' : World) : Prop where
 os : w'.os = w.os
 tape : w'.tape = w.tape
 output : w'.output = w.output
 size : w'.heap.size = w.heap.size
 block : ∀ k, k ≠ g → w'.heap[k]? = w.heap[k]?
theorem Only.refl (g : Nat) (w : World) : Only g w w := ⟨rfl, rfl, rfl, rfl, fun _ _ => rfl⟩
theorem Only.trans (h : Only g w w') (k : Only g w' w'') : Only g w w'' := ⟨k.os.trans h.os, k.tape.trans h.tape, k.output.trans h.output, k.size.trans h.size, fun i hi => (k.block i hi).trans (h.block i hi)⟩
theorem Only.setCell (h : Only g w w') (hp : p = ⟨g, f, none⟩) (j : Nat) (v : Value) : Only g w (w'.setCell (p.add j) v) := by
 have e : (p.add j).block = g := by rw [hp, add_off]
 refine ⟨h.os, h.tape, h.output, ?_, fun k hk => (Below.heap_setCell _ _ _ _ (by rw [e]; exact hk)).trans (h.block k hk)⟩
 have : (w'.setCell (p.add j) v).heap.size = w'.heap.size := by unfold World.setCell; split <;> simp
 exact this.trans h.size
theorem Only.drewN (h : Only g w w') (n : Nat) : Only g w (w'.drewN n) := ⟨h.os, h.tape, h.output, h.size, h.block⟩
theorem Only.below {B : Nat} (h : Only g w w') (hB : B ≤ g) : Below B w w' := ⟨h.os, h.tape, h.output, Nat.le_of_eq h.size.symm, fun k hk => h.block k (by omega)⟩
theorem RN.only {P : Nat → Prop} {A : Option Addr} {c : Nat} (h : RN w P A c l) (ho : Only g w w') (hP : ∀ b, P b → b ≠ g) : RN w' P A c l := h.keep fun q hq => World.cell?_of_block (w := w) (ho.block q.block (hP _ hq))
theorem Row.only {g' : Nat} (h : Row w g' l) (ho : Only g w w') (hg : g' ≠ g) : Row w' g' l := h.of_heap (ho.block g' hg)
end
theorem takes_round (q v c x b : Nat) (hq : q < 18446744073709551616) (hv : v < 18446744073709551616) (hc : c < 18446744073709551616) (hx : x < 18446744073709551616) (hb : b ≤ 1) :
    ∃ hi lo s c1 t b' : Nat, lo < 18446744073709551616 ∧ lo + 18446744073709551616 * hi = q * v ∧ s < 18446744073709551616 ∧ s + 18446744073709551616 * c1 = lo + c + 0 ∧ hi + c1 < 18446744073709551616 ∧ s + 18446744073709551616 * (hi + c1) = q * v + c ∧
      t < 18446744073709551616 ∧ b' ≤ 1 ∧ t + s + b = x + 18446744073709551616 * b' := by
  have hm := mul_bound hq hv hc (show 0 < 18446744073709551616 by omega)
  refine ⟨q * v / 18446744073709551616, q * v % 18446744073709551616, (q * v % 18446744073709551616 + c) % 18446744073709551616, (q * v % 18446744073709551616 + c) / 18446744073709551616, ?_⟩
  obtain ⟨t, b', h1, h2, h3⟩ := borrow_of x ((q * v % 18446744073709551616 + c) % 18446744073709551616) b hx (Nat.mod_lt _ (by omega)) hb
  refine ⟨t, b', ?_⟩
  generalize q * v = p at *
  omega

set_option maxRecDepth 100000 in
set_option maxHeartbeats 2000000 in
theorem takes_any (g f : Nat) (p : Addr) (hp : p = ⟨g, f, none⟩) (P : Nat → Prop) (A : Option Addr) (c cx n q : Nat) (L y : List Nat) (w : World) (hr : Row w g L) (hL : Lim L) (h : RN w P A c y) (hP : ∀ b, P b → b ≠ g) (hn : y.length = n) (hf : f + n < L.length) (hq : q < 18446744073709551616) :
 Calls Tryz.prog 124 #[.slice (some p) (n + 1) cx, .slice A n c, .int .u64 (q : Int)] w fun e w' => ∃ (L' : List Nat) (b : Nat), e = .returned (.bool (decide (0 < b))) ∧ Row w' g L' ∧ Lim L' ∧ Only g w w' ∧
  L'.length = L.length ∧ val 18446744073709551616 L' + 18446744073709551616 ^ f * (q * val 18446744073709551616 y) = val 18446744073709551616 L + 18446744073709551616 ^ (f + n + 1) * b ∧ ∀ i, f + n + 1 ≤ i → dg L' i = dg L i := by
 obtain ⟨h1, h2, h3⟩ := h.cap
 have hn1 : n ≤ 1000000 := by omega
 have hnc : n ≤ c := by omega
 have Hp := Lib.hid hp
 clear hp h1 h2 h3
 go_enter Tryz.func124, Tryz.ntmps124
 go_wp2
 go_loopw [7, 8, 16] (fun cv bv iv wr => ∃ (j cr b : Nat) (l : List Nat), iv = .int .i64 (j : Int) ∧ cv = .int .u64 (cr : Int) ∧ bv = .int .u64 (b : Int) ∧ j ≤ n ∧ cr < 18446744073709551616 ∧ b ≤ 1 ∧ TakesAt 18446744073709551616 L y q f l j cr b ∧ Lim l ∧ Row wr g l ∧ Only g w wr) (fun _ _ iv _ => n - (intOf iv).toNat)
 case atStart => exact ⟨0, 0, 0, L, rfl, rfl, rfl, by omega, by omega, by omega, TakesAt.zero _ _ _ _ _, hL, hr, Only.refl _ _⟩
 case round =>
  obtain ⟨j, cr, b, l, rfl, rfl, rfl, hj, hcr, hb, hT, hl, hw, ho⟩ := hrel
  have hll := hT.1
  by_cases hlt : j < n
  · obtain ⟨ad, rfl, _, q1⟩ := (h.only ho hP).at_ (i := j) (by omega)
    obtain ⟨hi', lo, s, c1, t, b', b1, b2, b3, b4, b5, b6, b7, b8, b9⟩ := takes_round q (dg y j) cr (dg l (f + j)) b hq (h.2.dgLt j) hcr (hl.dgLt _) hb
    have hmul := Lib.hid (fun w => mul64_at q (dg y j) hi' lo hq (h.2.dgLt j) b1 b2 w)
    have hadd := fun w => add64_at lo cr 0 s c1 (by omega) b3 b4 w
    simp only [Int.cast_ofNat_Int] at hadd
    have hsub := fun w => sub64_at (dg l (f + j)) s b t b' hb (hl.dgLt _) b3 b7 b9 b8 w
    have q3 := hw.cell Hp.out (j := j) (by omega)
    have q4 := hw.free Hp.out j
    have hT' := hT.step (by omega) b6 b9
    have hw' := hw.set Hp.out j t
    have hl' := hl.set (f + j) t b7
    have ho' := ho.setCell Hp.out j (.int .u64 (t : Int))
    have k1 : (j : Int) < (n : Int) + 1 := by omega
    clear hT hl hw ho b1 b2 b3 b4 b6 b7 b9 hll hq hcr
    go_wp2_with fail
    refine (hmul.out _).mono ?_
    rintro e w1 ⟨rfl, rfl⟩
    go_wp2
    go_roundw
    case rel => exact ⟨j + 1, hi' + c1, b', l.set (f + j) t, by go_num, by go_num, rfl, by omega, b5, b8, hT', hl', hw', ho'⟩
    case measure => simp [intOf]; omega
  · obtain rfl : j = n := by omega
    obtain ⟨t, b', b7, b8, b9⟩ := borrow_of (dg l (f + j)) cr b (hl.dgLt _) hcr hb
    have hsub := fun w => sub64_at (dg l (f + j)) cr b t b' hb (hl.dgLt _) hcr b7 b9 b8 w
    have q3 := hw.cell Hp.out (j := j) (by omega)
    have q4 := hw.free Hp.out j
    have hT' := Lib.hid (hT.fin hn (by omega) b9)
    have hw' := hw.set Hp.out j t
    have hl' := hl.set (f + j) t b7
    have ho' := ho.setCell Hp.out j (.int .u64 (t : Int))
    have k1 : (j : Int) < (j : Int) + 1 := by omega
    clear hT hl hw ho b7 b9 hll hq hcr
    go_wp2
    go_ret
    exact ⟨l.set (f + j) t, b', by simp, hw', hl', ho', hT'.out⟩

set_option maxRecDepth 100000 in
set_option maxHeartbeats 2000000 in
theorem gives_any (g f : Nat) (p : Addr) (hp : p = ⟨g, f, none⟩) (P : Nat → Prop) (A : Option Addr) (c cx n : Nat) (L y : List Nat) (w : World) (hr : Row w g L) (hL : Lim L) (h : RN w P A c y) (hP : ∀ b, P b → b ≠ g) (hn : y.length = n) (hf : f + n < L.length) :
 Calls Tryz.prog 125 #[.slice (some p) (n + 1) cx, .slice A n c] w fun e w' => ∃ (L' : List Nat) (b : Nat), e = .returned (.tuple #[]) ∧ Row w' g L' ∧ Lim L' ∧ Only g w w' ∧
  L'.length = L.length ∧ val 18446744073709551616 L' + 18446744073709551616 ^ (f + n + 1) * b = val 18446744073709551616 L + 18446744073709551616 ^ f * val 18446744073709551616 y ∧ ∀ i, f + n + 1 ≤ i → dg L' i = dg L i := by
 obtain ⟨h1, h2, h3⟩ := h.cap
 have hn1 : n ≤ 1000000 := by omega
 have hnc : n ≤ c := by omega
 have Hp := Lib.hid hp
 clear hp h1 h2 h3
 go_enter Tryz.func125, Tryz.ntmps125
 go_wp2
 go_loopw [4, 9] (fun cv iv wr => ∃ (j cr : Nat) (l : List Nat), iv = .int .i64 (j : Int) ∧ cv = .int .u64 (cr : Int) ∧ j ≤ n ∧ cr ≤ 1 ∧ GivesAt 18446744073709551616 L y f l j cr ∧ Lim l ∧ Row wr g l ∧ Only g w wr) (fun _ iv _ => n - (intOf iv).toNat)
 case atStart => exact ⟨0, 0, L, rfl, rfl, by omega, by omega, GivesAt.zero _ _ _ _, hL, hr, Only.refl _ _⟩
 case round =>
  obtain ⟨j, cr, l, rfl, rfl, hj, hcr, hT, hl, hw, ho⟩ := hrel
  have hll := hT.1
  by_cases hlt : j < n
  · obtain ⟨ad, rfl, _, q1⟩ := (h.only ho hP).at_ (i := j) (by omega)
    obtain ⟨s, c', b7, b8, b9⟩ := carry_of (dg l (f + j)) (dg y j) cr (hl.dgLt _) (h.2.dgLt j) hcr
    have hadd := fun w => add64_at (dg l (f + j)) (dg y j) cr s c' hcr b7 b9 w
    have q3 := hw.cell Hp.out (j := j) (by omega)
    have q4 := hw.free Hp.out j
    have hT' := hT.step (by omega) b9
    have hw' := hw.set Hp.out j s
    have hl' := hl.set (f + j) s b7
    have ho' := ho.setCell Hp.out j (.int .u64 (s : Int))
    have k1 : (j : Int) < (n : Int) + 1 := by omega
    clear hT hl hw ho b7 b9 hll hcr
    go_wp2
    go_roundw
    case rel => exact ⟨j + 1, c', l.set (f + j) s, by go_num, rfl, by omega, b8, hT', hl', hw', ho'⟩
    case measure => simp [intOf]; omega
  · obtain rfl : j = n := by omega
    obtain ⟨t, b', b7, b8, b9⟩ := carry_of (dg l (f + j)) 0 cr (hl.dgLt _) (by omega) hcr
    have he : IntKind.u64.wrap ((dg l (f + j) : Int) + (cr : Int)) = (t : Int) := by
     have : (dg l (f + j) : Int) + (cr : Int) = (t : Int) + 18446744073709551616 * (b' : Int) := by omega
     rw [this]
     simp [IntKind.wrap, IntKind.bits, IntKind.signed]
     omega
    have q3 := hw.cell Hp.out (j := j) (by omega)
    have q4 := hw.free Hp.out j
    have hT' := Lib.hid (hT.fin hn (by omega) (x := t) (c' := b') (by omega))
    have hw' := hw.set Hp.out j t
    have hl' := hl.set (f + j) t b7
    have ho' := ho.setCell Hp.out j (.int .u64 (t : Int))
    have k1 : (j : Int) < (j : Int) + 1 := by omega
    clear hT hl hw ho b7 b9 hll hcr
    go_wp2
    go_end0
    exact ⟨l.set (f + j) t, b', rfl, hw', hl', ho', hT'.out⟩
end Go.Proofs.YtaemogcomplhiaaGreatDoor

namespace Go.Proofs.YtaemogcomplhiaaGreatDoor

theorem val_three {B : Nat} {L : List Nat} {t : Nat} (h : ∀ x ∈ L, x < B) (ht : t + 3 ≤ L.length) (hz : ∀ j, t + 3 ≤ j → dg L j = 0) :
 ∃ r, r < B ^ t ∧ val B L = r + B ^ t * ((dg L (t + 2) * B + dg L (t + 1)) * B + dg L t) := by
 refine ⟨val B (L.take t), ?_, ?_⟩
 · have := val_lt (B := B) (l := L.take t) fun x hx => h x (List.mem_of_mem_take hx)
   rwa [List.length_take, Nat.min_eq_left (by omega)] at this
 · have e := val_take_drop B L ht
   have hd : val B (L.drop (t + 3)) = 0 := by
    apply val_zeros
    intro x hx
    obtain ⟨i, hi, rfl⟩ := List.getElem_of_mem hx
    rw [List.getElem_drop]
    have := hz (t + 3 + i) (by omega)
    rwa [dg, getD_eq' (by simp at hi; omega)] at this
   rw [hd, Nat.mul_zero, Nat.add_zero] at e
   rw [e, val_take_getD, val_take_getD, val_take_getD, show B ^ (t + 2) = B ^ t * B * B from by simp only [Nat.pow_succ], Nat.pow_succ]
   have e1 : B ^ t * B * B * dg L (t + 2) = B ^ t * (dg L (t + 2) * B * B) := by simp only [Nat.mul_assoc]; rw [Nat.mul_comm B (dg L (t + 2)), ← Nat.mul_assoc B, Nat.mul_comm B (dg L (t + 2)), Nat.mul_assoc]
   have e2 : B ^ t * B * dg L (t + 1) = B ^ t * (dg L (t + 1) * B) := by rw [Nat.mul_assoc, Nat.mul_comm B]
   rw [e1, e2, Nat.add_mul, Nat.mul_add, Nat.mul_add]
   omega
theorem val_two {B : Nat} {L : List Nat} {t : Nat} (ht : t + 2 = L.length) :
 ∃ r, val B L = r + B ^ t * (dg L (t + 1) * B + dg L t) := by
 refine ⟨val B (L.take t), ?_⟩
 have e : val B L = val B (L.take (t + 2)) := by rw [ht, List.take_length]
 rw [e, val_take_getD, val_take_getD, Nat.pow_succ]
 have e2 : B ^ t * B * dg L (t + 1) = B ^ t * (dg L (t + 1) * B) := by rw [Nat.mul_assoc, Nat.mul_comm B]
 rw [e2, Nat.mul_add]
 omega
theorem quo_three {B q DB V t D2 T rd rv : Nat} (hq : q * DB ≤ V) (hD : DB = rd + B ^ t * D2) (hV : V = rv + B ^ t * T) (hr : rv < B ^ t) : q * D2 ≤ T := by
 have h1 : q * (B ^ t * D2) ≤ q * DB := Nat.mul_le_mul_left _ (by omega)
 have h2 : q * (B ^ t * D2) = B ^ t * (q * D2) := by rw [Nat.mul_left_comm]
 have h3 : B ^ t * (q * D2) < B ^ t * (T + 1) := by rw [Nat.mul_add, Nat.mul_one]; omega
 exact Nat.le_of_lt_succ (Nat.lt_of_mul_lt_mul_left h3)

def FixAt (B V i n D : Nat) (L : List Nat) (g : Nat) (too : Bool) : Prop :=
 V / (B ^ i * D) ≤ g ∧ g < B ∧ (∀ j, i + n + 1 ≤ j → dg L j = 0) ∧ val B L + B ^ i * (g * D) = V + if too then B ^ (i + n + 1) else 0
section
variable {B V i n D g : Nat} {L L' : List Nat}
theorem FixAt.start {b : Nat} (hq : V / (B ^ i * D) ≤ g) (hg : g < B) (hz : ∀ j, i + n + 1 ≤ j → dg L' j = dg L j) (hz0 : ∀ j, i + n + 1 ≤ j → dg L j = 0) (he : val B L' + B ^ i * (g * D) = V + B ^ (i + n + 1) * b) (hL' : ∀ x ∈ L', x < B) (hB : 2 ≤ B) (hD : D < B ^ n) :
 FixAt B V i n D L' g (decide (0 < b)) := by
 have hz' : ∀ j, i + n + 1 ≤ j → dg L' j = 0 := fun j hj => (hz j hj).trans (hz0 j hj)
 refine ⟨hq, hg, hz', ?_⟩
 have h1 := val_lt_of_zero (by omega) hL' hz'
 rw [he]
 have h2 : B ^ i * (g * D) < B ^ (i + n + 1) := by
  rw [Nat.add_assoc, Nat.pow_add, Nat.pow_succ, Nat.mul_comm (B ^ n)]
  refine Nat.mul_lt_mul_of_pos_left ?_ (Nat.pow_pos (by omega))
  exact Nat.lt_of_le_of_lt (Nat.mul_le_mul_left g (Nat.le_of_lt hD)) (Nat.mul_lt_mul_of_pos_right hg (Nat.pow_pos (by omega)))
 rcases Nat.lt_or_ge b 2 with hb | hb
 · have : b = 0 ∨ b = 1 := by omega
   rcases this with rfl | rfl <;> simp
 · exfalso
   have h3 : B ^ (i + n + 1) * 2 ≤ B ^ (i + n + 1) * b := Nat.mul_le_mul_left _ hb
   omega
theorem FixAt.pos (h : FixAt B V i n D L g true) (hL : ∀ x ∈ L, x < B) (hB : 2 ≤ B) : V / (B ^ i * D) < g := by
 obtain ⟨h1, h2, h3, h4⟩ := h
 have h5 := val_lt_of_zero (by omega) hL h3
 apply Nat.div_lt_of_lt_mul
 simp only [if_true] at h4
 rw [Nat.mul_assoc, Nat.mul_comm D]
 omega
theorem FixAt.step {c : Nat} (h : FixAt B V i n D L (g + 1) true) (hL : ∀ x ∈ L, x < B) (hL' : ∀ x ∈ L', x < B) (hB : 2 ≤ B) (hD : 0 < D) (hDn : D < B ^ n)
 (he : val B L' + B ^ (i + n + 1) * c = val B L + B ^ i * D) (hz : ∀ j, i + n + 1 ≤ j → dg L' j = dg L j) : FixAt B V i n D L' g (decide (dg L' (i + n) ≠ 0)) := by
 have hp := h.pos hL hB
 obtain ⟨h1, h2, h3, h4⟩ := h
 have hz' : ∀ j, i + n + 1 ≤ j → dg L' j = 0 := fun j hj => (hz j hj).trans (h3 j hj)
 have h5 := val_lt_of_zero (by omega) hL h3
 have h6 := val_lt_of_zero (by omega) hL' hz'
 have hDi : B ^ i * D < B ^ (i + n) := by rw [Nat.pow_add]; exact Nat.mul_lt_mul_of_pos_left hDn (Nat.pow_pos (by omega))
 have hBB : B ^ (i + n + 1) = B ^ (i + n) * B := Nat.pow_succ _ _
 have hBB2 : B ^ (i + n) * 2 ≤ B ^ (i + n) * B := Nat.mul_le_mul_left _ hB
 have hV : V < B ^ i * D * (g + 1) := by
  have := Nat.lt_mul_div_succ V (show 0 < B ^ i * D from Nat.mul_pos (Nat.pow_pos (by omega)) hD)
  exact Nat.lt_of_lt_of_le this (Nat.mul_le_mul_left _ (by omega))
 simp only [if_true] at h4
 have e1 : B ^ i * ((g + 1) * D) = B ^ i * (g * D) + B ^ i * D := by rw [Nat.add_mul, Nat.one_mul, Nat.mul_add]
 have e2 : B ^ i * D * (g + 1) = B ^ i * (g * D) + B ^ i * D := by rw [← e1, Nat.mul_assoc, Nat.mul_comm D]
 have hgD : B ^ i * (g * D) + B ^ (i + n) * 2 ≤ B ^ (i + n + 1) + B ^ (i + n) := by
  obtain ⟨m, hm⟩ : ∃ m, B = m + 2 := ⟨B - 2, by omega⟩
  have k1 : g * D ≤ m * B ^ n := Nat.mul_le_mul (by omega) (Nat.le_of_lt hDn)
  have k2 : B ^ i * (g * D) ≤ B ^ i * (m * B ^ n) := Nat.mul_le_mul_left _ k1
  have k3 : B ^ i * (m * B ^ n) = B ^ (i + n) * m := by rw [Nat.mul_comm m, ← Nat.mul_assoc, ← Nat.pow_add]
  have k4 : B ^ (i + n) * B = B ^ (i + n) * m + B ^ (i + n) * 2 := by rw [← Nat.mul_add, ← hm]
  omega
 rw [e1] at h4
 rw [e2] at hV
 refine ⟨by omega, by omega, hz', ?_⟩
 rcases Nat.eq_zero_or_pos c with rfl | hc
 · rw [Nat.mul_zero, Nat.add_zero] at he
   have hbig : B ^ (i + n) ≤ val B L' := by omega
   have hne : dg L' (i + n) ≠ 0 := fun h0 => by
    have := val_lt_of_zero (B := B) (m := i + n) (by omega) hL' fun j hj => by
     rcases Nat.lt_or_ge (i + n) j with h | h
     · exact hz' j (by omega)
     · obtain rfl : j = i + n := by omega
       exact h0
    omega
   rw [decide_eq_true hne, if_pos rfl]
   omega
 · have hc1 : c = 1 := by
    rcases Nat.lt_or_ge c 2 with h | h
    · omega
    · have : B ^ (i + n + 1) * 2 ≤ B ^ (i + n + 1) * c := Nat.mul_le_mul_left _ h
      omega
   subst hc1
   rw [Nat.mul_one] at he
   have hsmall : val B L' < B ^ (i + n) := by omega
   have h0 := zero_of_val_lt hL' hsmall (Nat.le_refl _)
   rw [decide_eq_false (by simp [h0]), if_neg (by simp)]
   omega
theorem FixAt.fin (h : FixAt B V i n D L g false) (hB : 2 ≤ B) (hD : 0 < D) : val B L + B ^ i * (g * D) = V ∧ val B L < B ^ i * D := by
 obtain ⟨h1, h2, h3, h4⟩ := h
 simp only [Bool.false_eq_true, if_false, Nat.add_zero] at h4
 refine ⟨h4, ?_⟩
 have h5 := Nat.lt_mul_div_succ V (show 0 < B ^ i * D from Nat.mul_pos (Nat.pow_pos (by omega)) hD)
 have h6 : B ^ i * D * (V / (B ^ i * D) + 1) ≤ B ^ i * D * (g + 1) := Nat.mul_le_mul_left _ (by omega)
 have e : B ^ i * D * (g + 1) = B ^ i * (g * D) + B ^ i * D := by rw [Nat.mul_add, Nat.mul_one, Nat.mul_assoc, Nat.mul_comm D]
 omega
end
def QuoAt (B X D : Nat) (L qs : List Nat) (k : Nat) : Prop := val B L + D * (B ^ k * val B (qs.drop k)) = X ∧ val B L < B ^ k * D
theorem QuoAt.start {B D m : Nat} {L qs : List Nat} (hq : qs.length = m) (h : val B L < B ^ m * D) : QuoAt B (val B L) D L qs m := by
 refine ⟨?_, h⟩
 rw [← hq, List.drop_length]
 simp
theorem QuoAt.step {B X D k g : Nat} {L L' qs : List Nat} (h : QuoAt B X D L qs (k + 1)) (hk : k < qs.length) (h1 : val B L' + B ^ k * (g * D) = val B L) (h2 : val B L' < B ^ k * D) : QuoAt B X D L' (qs.set k g) k := by
 obtain ⟨g1, g2⟩ := h
 refine ⟨?_, h2⟩
 have e : (qs.set k g).drop k = g :: qs.drop (k + 1) := by
  rw [List.drop_set, if_neg (Nat.lt_irrefl _), List.drop_eq_getElem_cons hk, Nat.sub_self, List.set_cons_zero]
 rw [e, val_cons, Nat.mul_add, Nat.mul_add, ← g1, ← h1, Nat.pow_succ]
 have e1 : D * (B ^ k * g) = B ^ k * (g * D) := by rw [Nat.mul_left_comm, Nat.mul_comm D]
 rw [e1, Nat.mul_assoc (B ^ k)]
 omega
theorem QuoAt.fin {B X D : Nat} {L qs : List Nat} (h : QuoAt B X D L qs 0) : val B qs = X / D ∧ val B L = X % D := by
 obtain ⟨g1, g2⟩ := h
 simp only [Nat.pow_zero, Nat.one_mul, List.drop_zero] at g1 g2
 rw [← g1]
 refine ⟨?_, ?_⟩
 · rw [Nat.add_comm, Nat.mul_add_div (by omega), Nat.div_eq_of_lt g2, Nat.add_zero]
 · rw [Nat.add_comm, Nat.mul_add_mod, Nat.mod_eq_of_lt g2]
theorem norm_d {B p u y top n : Nat} (hB : 2 ≤ B) (he : B % 2 = 0) (hp : B = u * p) (hn : (digs B y).length = n + 1) (ht : dg (digs B y) n = top) (h1 : B ≤ 2 * (top * p)) (h2 : top * p < B) :
 (digs B (y * p)).length = n + 1 ∧ B ≤ 2 * dg (digs B (y * p)) n ∧ B ^ (n + 1) ≤ 2 * (y * p) := by
 have hBn : 0 < B ^ n := Nat.pow_pos (by omega)
 have hy : y = val B ((digs B y).take n) + B ^ n * top := by
  rw [← ht, ← val_take_getD, ← hn, List.take_length, val_digs hB]
 have hr : val B ((digs B y).take n) < B ^ n := by
  have := val_lt (B := B) (l := (digs B y).take n) fun x hx => digs_lt hB y x (List.mem_of_mem_take hx)
  rwa [List.length_take, Nat.min_eq_left (by omega)] at this
 generalize val B ((digs B y).take n) = r at *
 have hu : (top + 1) * p ≤ B := by
  have : top < u := by
   rw [hp] at h2
   exact Nat.lt_of_mul_lt_mul_right h2
  rw [hp]
  exact Nat.mul_le_mul_right _ this
 have hup : y * p < B ^ (n + 1) := by
  have k1 : y + 1 ≤ B ^ n * (top + 1) := by rw [Nat.mul_add, Nat.mul_one]; omega
  have hp0 : 0 < p := by
   rcases Nat.eq_zero_or_pos p with h | h
   · subst h; omega
   · exact h
  have k2 : y * p < (y + 1) * p := Nat.mul_lt_mul_of_pos_right (by omega) hp0
  have k3 : (y + 1) * p ≤ B ^ n * (top + 1) * p := Nat.mul_le_mul_right _ k1
  have k4 : B ^ n * (top + 1) * p ≤ B ^ n * B := by rw [Nat.mul_assoc]; exact Nat.mul_le_mul_left _ hu
  rw [Nat.pow_succ]
  omega
 have hlo : B ^ (n + 1) ≤ 2 * (y * p) := by
  have k1 : B ^ n * top * p ≤ y * p := Nat.mul_le_mul_right _ (by omega)
  have k2 : B ^ n * B ≤ B ^ n * (2 * (top * p)) := Nat.mul_le_mul_left _ h1
  have k3 : B ^ n * (2 * (top * p)) = 2 * (B ^ n * top * p) := by rw [Nat.mul_left_comm, Nat.mul_assoc]
  rw [Nat.pow_succ]
  omega
 have hBB : B ^ n * 2 ≤ B ^ n * B := Nat.mul_le_mul_left _ hB
 have hlen : (digs B (y * p)).length = n + 1 := by
  refine Nat.le_antisymm (digs_length_of_lt hB hup) ?_
  rcases Nat.lt_or_ge n (digs B (y * p)).length with h | h
  · exact h
  · have k1 := lt_pow_digs hB (y * p)
    have k2 : B ^ (digs B (y * p)).length ≤ B ^ n := Nat.pow_le_pow_right (by omega) h
    rw [Nat.pow_succ] at hlo
    omega
 refine ⟨hlen, ?_, hlo⟩
 have hD : y * p = val B ((digs B (y * p)).take n) + B ^ n * dg (digs B (y * p)) n := by
  rw [← val_take_getD, ← hlen, List.take_length, val_digs hB]
 have hr2 : val B ((digs B (y * p)).take n) < B ^ n := by
  have := val_lt (B := B) (l := (digs B (y * p)).take n) fun x hx => digs_lt hB (y * p) x (List.mem_of_mem_take hx)
  rwa [List.length_take, Nat.min_eq_left (by omega)] at this
 generalize dg (digs B (y * p)) n = z at *
 have k1 : B ^ n * B < B ^ n * (2 * (z + 1)) := by
  rw [Nat.pow_succ] at hlo
  have : B ^ n * (2 * (z + 1)) = 2 * (B ^ n * z + B ^ n) := by rw [Nat.mul_left_comm, Nat.mul_add, Nat.mul_one]
  omega
 have k2 := Nat.lt_of_mul_lt_mul_left k1
 omega
theorem norm_x {B x D n : Nat} (hB : 2 ≤ B) (hn : n ≤ (digs B x).length + 1) (hD : B ^ n ≤ 2 * D) : x < B ^ ((digs B x).length + 1 - n) * D := by
 have h1 := lt_pow_digs hB x
 generalize (digs B x).length = k at *
 have h2 : B ^ (k + 1 - n) * B ^ n ≤ B ^ (k + 1 - n) * (2 * D) := Nat.mul_le_mul_left _ hD
 rw [← Nat.pow_add, show k + 1 - n + n = k + 1 by omega, Nat.pow_succ, Nat.mul_left_comm] at h2
 have h3 : B ^ k * 2 ≤ B ^ k * B := Nat.mul_le_mul_left _ hB
 omega
end Go.Proofs.YtaemogcomplhiaaGreatDoor

namespace Go.Proofs.YtaemogcomplhiaaGreatDoor

theorem dg_drop (u : List Nat) (k i : Nat) : dg (u.drop k) i = dg u (k + i) := by
 simp [dg, List.getD_eq_getElem?_getD, List.getElem?_drop]
def LessAt (B : Nat) (u v W : List Nat) (k g i c b : Nat) : Prop := W.length = v.length + 1 ∧ val B (W.take i) + g * val B (v.take i) = val B ((u.drop k).take i) + B ^ i * (c + b)
section
variable {B k g i c b : Nat} {u v W : List Nat}
theorem LessAt.zero (h : W.length = v.length + 1) : LessAt B u v W k g 0 0 0 := ⟨h, by simp⟩
theorem LessAt.step {lo c' x b' : Nat} (h : LessAt B u v W k g i c b) (hi : i < W.length) (h1 : lo + B * c' = c + g * dg v i) (h2 : x + (lo + b) = dg u (k + i) + B * b') : LessAt B u v (W.set i x) k g (i + 1) c' b' := by
 obtain ⟨g1, g2⟩ := h
 refine ⟨by simpa using g1, ?_⟩
 rw [val_take_set B hi, val_take_getD, val_take_getD, dg_drop, Nat.pow_succ]
 have e1 : g * (B ^ i * dg v i) = B ^ i * (g * dg v i) := Nat.mul_left_comm _ _ _
 have e2 : B ^ i * (lo + B * c') = B ^ i * (c + g * dg v i) := by rw [h1]
 have e3 : B ^ i * (x + (lo + b)) = B ^ i * (dg u (k + i) + B * b') := by rw [h2]
 rw [Nat.mul_add g, e1, Nat.mul_assoc, Nat.mul_add B, Nat.mul_add (B ^ i) (B * c')]
 simp only [Nat.mul_add] at e2 e3 g2 ⊢
 generalize B ^ i * (B * c') = p1 at *
 generalize B ^ i * (B * b') = p2 at *
 generalize B ^ i * lo = p3 at *
 generalize B ^ i * (g * dg v i) = p4 at *
 generalize B ^ i * c = p5 at *
 generalize B ^ i * b = p6 at *
 generalize B ^ i * x = p7 at *
 generalize B ^ i * dg u (k + i) = p8 at *
 omega
def putAt (u W : List Nat) (k : Nat) : List Nat := u.take k ++ W ++ u.drop (k + W.length)
theorem putAt_length (h : k + W.length ≤ u.length) : (putAt u W k).length = u.length := by simp [putAt]; omega
theorem val_parts (B : Nat) (h : k + W.length ≤ u.length) : ∃ r t : Nat, val B u = r + B ^ k * (val B ((u.drop k).take W.length) + B ^ W.length * t) ∧ val B (putAt u W k) = r + B ^ k * (val B W + B ^ W.length * t) := by
 refine ⟨val B (u.take k), val B (u.drop (k + W.length)), ?_, ?_⟩
 · rw [val_take_drop B u (n := k) (by omega), val_take_drop B (u.drop k) (n := W.length) (by simp; omega), List.drop_drop]
 · unfold putAt
   rw [val_append, val_append, List.length_append, List.length_take, Nat.min_eq_left (by omega), Nat.pow_add, Nat.mul_assoc, Nat.add_assoc, ← Nat.mul_add]
theorem LessAt.yes (h : LessAt B u v W k g W.length 0 0) (hk : k + W.length ≤ u.length) : val B (putAt u W k) + B ^ k * (g * val B v) = val B u := by
 obtain ⟨g1, g2⟩ := h
 obtain ⟨r, t, e1, e2⟩ := val_parts B (u := u) (W := W) hk
 rw [List.take_length, List.take_of_length_le (by omega : v.length ≤ W.length)] at g2
 simp only [Nat.add_zero, Nat.mul_zero] at g2
 rw [e1, e2, ← g2, Nat.mul_add, Nat.mul_add, Nat.mul_add]
 omega
theorem LessAt.no (h : LessAt B u v W k g W.length 0 1) (hW : ∀ x ∈ W, x < B) (hu : ∀ x ∈ u, x < B) (hz : ∀ j, k + W.length ≤ j → dg u j = 0) (hk : k + W.length ≤ u.length) : val B u / (B ^ k * val B v) < g := by
 obtain ⟨g1, g2⟩ := h
 rw [List.take_length, List.take_of_length_le (by omega : v.length ≤ W.length)] at g2
 simp only [Nat.zero_add, Nat.mul_one] at g2
 have h1 := val_lt hW
 have e1 := val_take_drop B u (n := k) (by omega)
 have e2 := val_take_drop B (u.drop k) (n := W.length) (by simp; omega)
 have h0 : val B ((u.drop k).drop W.length) = 0 := by
  apply val_zeros
  intro x hx
  rw [List.drop_drop] at hx
  obtain ⟨i, hi, rfl⟩ := List.getElem_of_mem hx
  rw [List.getElem_drop]
  have := hz (k + W.length + i) (by omega)
  rwa [dg, getD_eq' (by simp at hi; omega)] at this
 rw [h0, Nat.mul_zero, Nat.add_zero] at e2
 have h2 : val B (u.take k) < B ^ k := by
  have := val_lt (B := B) (l := u.take k) fun x hx => hu x (List.mem_of_mem_take hx)
  rwa [List.length_take, Nat.min_eq_left (by omega)] at this
 apply Nat.div_lt_of_lt_mul
 rw [e1, e2]
 have h3 : val B ((u.drop k).take W.length) + 1 ≤ g * val B v := by omega
 have h4 : B ^ k * (val B ((u.drop k).take W.length) + 1) ≤ B ^ k * (g * val B v) := Nat.mul_le_mul_left _ h3
 rw [Nat.mul_add, Nat.mul_one] at h4
 rw [Nat.mul_assoc, Nat.mul_comm (val B v)]
 omega
theorem guess2_ge {n n1 : Nat} (hn : n1 + 1 = n) (hu : ∀ x ∈ u, x < B) (hv : ∀ x ∈ v, x < B) (hvn : v.length = n) (hlen : k + n < u.length) (htop : 0 < dg v n1) (hV : val B u < B ^ (k + 1) * val B v) :
 (∀ i, k + n + 1 ≤ i → dg u i = 0) ∧ val B u / (B ^ k * val B v) < B ∧ val B u / (B ^ k * val B v) ≤ (dg u (k + n) * B + dg u (k + n1)) / dg v n1 := by
 subst hn
 have hB : 0 < B := Nat.lt_of_le_of_lt (Nat.zero_le _) (hu _ (List.getElem_mem (by omega : k < u.length)))
 have hdl := val_lt hv
 rw [hvn] at hdl
 have hz : ∀ i, k + (n1 + 1) + 1 ≤ i → dg u i = 0 := fun i hi => zero_of_val_lt hu (m := k + (n1 + 1) + 1) (Nat.lt_trans hV (by
  rw [show k + (n1 + 1) + 1 = (k + 1) + (n1 + 1) by omega, Nat.pow_add _ (k + 1)]
  exact Nat.mul_lt_mul_of_pos_left hdl (Nat.pow_pos hB))) hi
 refine ⟨hz, ?_, ?_⟩
 · apply Nat.div_lt_of_lt_mul
   rw [Nat.pow_succ, Nat.mul_right_comm] at hV
   exact hV
 · rw [Nat.le_div_iff_mul_le htop]
   have e := val_take_drop B u (n := k + n1 + 2) (by omega)
   have hd : val B (u.drop (k + n1 + 2)) = 0 := by
    apply val_zeros
    intro x hx
    obtain ⟨i, hi, rfl⟩ := List.getElem_of_mem hx
    rw [List.getElem_drop]
    have := hz (k + n1 + 2 + i) (by omega)
    rwa [dg, getD_eq' (by simp at hi; omega)] at this
   rw [hd, Nat.mul_zero, Nat.add_zero, val_take_getD, val_take_getD, Nat.pow_succ] at e
   have hr := val_lt (B := B) (l := u.take (k + n1)) fun x hx => hu x (List.mem_of_mem_take hx)
   rw [List.length_take, Nat.min_eq_left (by omega)] at hr
   have ev : val B v = val B (v.take n1) + B ^ n1 * dg v n1 := by rw [← val_take_getD, ← hvn, List.take_length]
   refine quo_three (B := B) (t := k + n1) (DB := B ^ k * val B v) (rd := B ^ k * val B (v.take n1)) (V := val B u) (rv := val B (u.take (k + n1))) (Nat.div_mul_le_self _ _) ?_ ?_ hr
   · rw [ev, Nat.mul_add, ← Nat.mul_assoc, ← Nat.pow_add]
   · rw [e, Nat.mul_assoc, Nat.mul_comm B, Nat.mul_add, show k + (n1 + 1) = k + n1 + 1 by omega]
     omega
def TimesAt (B : Nat) (a o : List Nat) (m i c : Nat) : Prop := o.length = a.length + 1 ∧ val B (o.take i) + B ^ i * c = m * val B (a.take i)
theorem TimesAt.step {a o : List Nat} {m x c' : Nat} (h : TimesAt B a o m i c) (hi : i < o.length) (h1 : x + B * c' = c + dg a i * m) : TimesAt B a (o.set i x) m (i + 1) c' := by
 obtain ⟨g1, g2⟩ := h
 refine ⟨by simpa using g1, ?_⟩
 rw [val_take_set B hi, val_take_getD, Nat.mul_add, ← g2, Nat.pow_succ, Nat.mul_assoc]
 have e1 : m * (B ^ i * dg a i) = B ^ i * (dg a i * m) := by rw [Nat.mul_left_comm, Nat.mul_comm m]
 have e2 : B ^ i * (x + B * c') = B ^ i * (c + dg a i * m) := by rw [h1]
 rw [e1]
 simp only [Nat.mul_add] at e2
 omega
theorem TimesAt.fin {a o : List Nat} {m : Nat} (h : TimesAt B a o m a.length c) : val B (o.set a.length c) = m * val B a := by
 obtain ⟨g1, g2⟩ := h
 have e : (o.set a.length c).length = a.length + 1 := by simpa using g1
 have e2 : val B (o.set a.length c) = val B ((o.set a.length c).take (a.length + 1)) := by rw [← e, List.take_length]
 rw [e2, val_take_set B (by omega), g2, List.take_length]
end
end Go.Proofs.YtaemogcomplhiaaGreatDoor

namespace Go.Proofs.YtaemogcomplhiaaGreatDoor
open Go.RowKit

set_option maxRecDepth 100000 in
set_option maxHeartbeats 1000000 in
theorem refTimes_any (P : Nat → Prop) (A : Option Addr) (c : Nat) (l : List Nat) (d : Nat) (w : World) (h : RN w P A c l) (hP : ∀ b, P b → b < w.heap.size) (hD : Dig l) (hl : l.length < 100000) (hd' : d < 4294967296) :
 Calls Tryz.prog 111 #[.slice A l.length c, .int .u64 (d : Int)] w fun e w' => ∃ o, e = .returned (.slice (some ⟨w.heap.size, 0, none⟩) (l.length + 1) (l.length + 1)) ∧ Blk w' w.heap.size o ∧ o.length = l.length + 1 ∧ Dig o ∧ val 4294967296 o = d * val 4294967296 l ∧ Below w.heap.size w w' := by
 obtain ⟨h1, h2, h3⟩ := h.cap
 have hmk := run_make_row' (P := Tryz.prog) 28 65 (.int .u64 0) 8 Tryz.underlying28 info64 rfl .i64 .i64 (l.length + 1) (by omega) (by omega)
 simp only [Int.natCast_add, Int.cast_ofNat_Int] at hmk
 go_enter Tryz.func111, Tryz.ntmps111
 go_wp2
 go_loopw [6, 7] (fun cv iv wr => ∃ (i cr : Nat) (o : List Nat), iv = .int .i64 (i : Int) ∧ cv = .int .u64 (cr : Int) ∧ i ≤ l.length ∧ cr < 4294967296 ∧ TimesAt 4294967296 l o d i cr ∧ Dig o ∧ Blk wr w.heap.size o ∧ Below w.heap.size w wr) (fun _ iv _ => l.length - (intOf iv).toNat)
 case atStart => exact ⟨0, 0, List.replicate (l.length + 1) 0, rfl, rfl, by omega, by omega, ⟨by simp, by simp⟩, by intro x hx; simp at hx; omega, Blk.made w _, (Below.refl _ w).alloc (Nat.le_refl _) _⟩
 case round =>
  obtain ⟨i, cr, o, rfl, rfl, hi, hcr, hT, hDo, hblk, hB⟩ := hrel
  have hol := hT.1
  by_cases hlt : i < l.length
  · obtain ⟨ad, rfl, had, q1⟩ := (h.below hB hP).at_ hlt
    have hb := mul_bound (hD.dgLt i) hd' hcr (show 0 < 4294967296 by omega)
    obtain ⟨pr, hpr⟩ : ∃ pr, dg l i * d = pr := ⟨_, rfl⟩
    have Hpr := Lib.hid (show (dg l i : Int) * (d : Int) = (pr : Int) by rw [← hpr, Int.natCast_mul])
    rw [hpr] at hb
    obtain ⟨s, cr', hs, hcr', he⟩ : ∃ s c' : Nat, s < 4294967296 ∧ c' < 4294967296 ∧ s + 4294967296 * c' = cr + pr := ⟨(cr + pr) % 4294967296, (cr + pr) / 4294967296, by omega, by omega, by omega⟩
    have e1 : ((cr : Int) + (pr : Int)) % 4294967296 = (s : Int) := by omega
    have e2 : ((cr : Int) + (pr : Int)) / 4294967296 = (cr' : Int) := by omega
    have q3 := hblk.cell (i := i) (by omega)
    have q4 := hblk.free i
    have hT' := hT.step (by omega) (by rw [hpr]; exact he)
    have hblk' := hblk.set i s
    have hD' := hDo.set i s hs
    have hB' := hB.setCell (p := ⟨w.heap.size, i, none⟩) (Nat.le_refl _) (.int .u64 (s : Int))
    have k1 : (i : Int) < (l.length : Int) + 1 := by omega
    have k3 : (pr : Int) < 18446744073709551616 := by omega
    have k4 : (cr : Int) + (pr : Int) < 18446744073709551616 := by omega
    clear he hT hblk hDo hB hb hpr hol
    have hpr := Hpr.out
    go_wp2
    go_roundw
    case rel => exact ⟨i + 1, cr', o.set i s, by go_num, (by first | rfl | exact congrArg (Value.int .u64) e2), by omega, hcr', hT', hD', hblk', hB'⟩
    case measure => simp [intOf]; omega
  · obtain rfl : i = l.length := by omega
    have q3 := hblk.cell (i := l.length) (by omega)
    have q4 := hblk.free l.length
    have hfin := hT.fin
    have hblk' := hblk.set l.length cr
    have hD' := hDo.set l.length cr hcr
    have hB' := hB.setCell (p := ⟨w.heap.size, l.length, none⟩) (Nat.le_refl _) (.int .u64 (cr : Int))
    have k1 : (l.length : Int) < (l.length : Int) + 1 := by omega
    have Hf := Lib.hid hfin
    have Hol := Lib.hid (show (o.set l.length cr).length = l.length + 1 by simpa using hol)
    clear hT hblk hDo hB hfin hol
    go_wp2
    go_ret
    exact ⟨o.set l.length cr, rfl, hblk', Hol.out, hD', Hf.out, hB'⟩

set_option maxRecDepth 100000 in
set_option maxHeartbeats 1000000 in
theorem refSmall_any (P : Nat → Prop) (A : Option Addr) (c : Nat) (l : List Nat) (d : Nat) (w : World) (h : RN w P A c l) (hP : ∀ b, P b → b < w.heap.size) (hDl : Dig l) (hl : l.length < 100000) (hd : 0 < d) (hd' : d < 4294967297) :
 Calls Tryz.prog 110 #[.slice A l.length c, .int .u64 (d : Int)] w fun e w' => ∃ A1 c1, e = .returned (.tuple #[.slice A1 (digs 4294967296 (val 4294967296 l / d)).length c1, .int .u64 ((val 4294967296 l % d : Nat) : Int)]) ∧
  OB w' w.heap.size A1 c1 (digs 4294967296 (val 4294967296 l / d)) ∧ Below w.heap.size w w' := by
 obtain ⟨h1, h2, h3⟩ := h.cap
 have hmk := run_make_row' (P := Tryz.prog) 28 65 (.int .u64 0) 8 Tryz.underlying28 info64 rfl .i64 .i64 l.length (by omega) (by omega)
 have Hs := Lib.hid (Below1.start l.length)
 have n0 : ((d : Int) == 0) = false := eqB (by omega)
 have n1 : ¬ d = 0 := by omega
 go_enter Tryz.func110, Tryz.ntmps110
 go_wp2
 go_loopw [7, 8] (fun rv iv wr => ∃ (k r : Nat) (z : Int) (o : List Nat), iv = .int .i64 z ∧ Below1 k z ∧ rv = .int .u64 (r : Int) ∧ k ≤ l.length ∧ r < d ∧ SmallAt 4294967296 l o d k r ∧ Dig o ∧ Blk wr w.heap.size o ∧ Below w.heap.size w wr) (fun _ iv _ => (intOf iv + 1).toNat)
 case atStart => exact ⟨l.length, 0, _, List.replicate l.length 0, rfl, Hs.out, rfl, by omega, by omega, SmallAt.start d (by simp), by intro x hx; simp at hx; omega, Blk.made w _, (Below.refl _ w).alloc (Nat.le_refl _) _⟩
 case round =>
  obtain ⟨k, r, z, o, rfl, hz, rfl, hk, hr, hS, hDo, hblk, hB⟩ := hrel
  rcases hz with ⟨rfl, rfl⟩ | ⟨j, rfl, rfl⟩
  · obtain ⟨hv, hrem⟩ := hS.fin hr
    have hLo : Lim o := ⟨fun x hx => by have := hDo x hx; omega, by have := hS.1; omega⟩
    have hOB : OB wr w.heap.size (some ⟨w.heap.size, 0, none⟩) l.length o := OB.of_blk hblk (Nat.le_refl _) hLo (by have := hS.1; omega) (by unfold maxLen; omega)
    have ht := refTrim_any _ _ _ _ _ hOB.rn hDo
    have hOB' := hOB.trim32 hDo
    rw [hv, hS.1] at ht
    rw [hv] at hOB'
    have Ht := Lib.hid ht
    have Hrem := Lib.hid hrem
    clear hblk hLo ht hv hrem hOB hS hDo
    go_wp2_with fail
    refine Ht.out.mono ?_
    rintro e w1 ⟨rfl, rfl⟩
    go_wp2
    go_ret2
    exact ⟨_, _, by rw [Hrem.out]; rfl, hOB', hB⟩
  · obtain ⟨ad, rfl, had, q1⟩ := (h.below hB hP).at_ (i := j) (by omega)
    have hol := hS.1
    have hlj := hDl.dgLt j
    have q3 := hblk.cell (i := j) (by omega)
    have q4 := hblk.free j
    obtain ⟨t, ht⟩ : ∃ t, r * 4294967296 + dg l j = t := ⟨_, rfl⟩
    obtain ⟨q, r', hr', he, hq⟩ : ∃ q r' : Nat, r' < d ∧ t = d * q + r' ∧ q < 4294967296 := by
     refine ⟨t / d, t % d, Nat.mod_lt _ hd, (Nat.div_add_mod _ d).symm, ?_⟩
     apply Nat.div_lt_of_lt_mul
     have : (r + 1) * 4294967296 ≤ d * 4294967296 := Nat.mul_le_mul_right _ hr
     omega
    have htb : (t : Int) < 18446744073709551616 := by omega
    have f0 : (r : Int) * 4294967296 + (dg l j : Int) = (t : Int) := by omega
    have f1 : (t : Int) / (d : Int) = (q : Int) := by
     rw [← Int.natCast_ediv, he, Nat.mul_add_div hd, Nat.div_eq_of_lt hr', Nat.add_zero]
    have f2 : (t : Int) % (d : Int) = (r' : Int) := by
     rw [← Int.natCast_emod, he, Nat.mul_add_mod, Nat.mod_eq_of_lt hr']
    have f1' : (t : Int).tdiv (d : Int) = (q : Int) := by rw [Int.tdiv_eq_ediv_of_nonneg (by omega)]; exact f1
    have f2' : (t : Int).tmod (d : Int) = (r' : Int) := by rw [Int.tmod_eq_emod_of_nonneg (by omega)]; exact f2
    have hS' := hS.step (by omega) (by rw [ht]; exact he)
    have hblk' := hblk.set j q
    have hD' := hDo.set j q hq
    have hB' := hB.setCell (p := ⟨w.heap.size, j, none⟩) (Nat.le_refl _) (.int .u64 (q : Int))
    have k1 : (j : Int) < (l.length : Int) := by omega
    have k2 : (r : Int) * 4294967296 < 18446744073709551616 := by omega
    have k3 : (q : Int) < 18446744073709551616 := by omega
    have k4 : (r' : Int) < 18446744073709551616 := by omega
    have Hs' := Lib.hid (Below1.start j)
    clear he hS hblk hDo hB hol ht
    go_wp2
    go_roundw
    case rel => exact ⟨j, r', _, o.set j q, rfl, Hs'.out, by go_num, by omega, hr', hS', hD', hblk', hB'⟩
    case measure => simp [intOf]
end Go.Proofs.YtaemogcomplhiaaGreatDoor

namespace Go.Proofs.YtaemogcomplhiaaGreatDoor
open Go.RowKit

theorem info64size : (Tryz.prog.info? 65).map (·.size) = some 1 := by kernel_rfl
theorem putAt_dig {u W : List Nat} {k : Nat} (hu : Dig u) (hW : Dig W) : Dig (putAt u W k) := by
 intro x hx
 rcases List.mem_append.1 hx with h | h
 · rcases List.mem_append.1 h with h | h
   · exact hu x (List.mem_of_mem_take h)
   · exact hW x h
 · exact hu x (List.mem_of_mem_drop h)
theorem nts_put (u W : List Nat) (k : Nat) : (((nts u).toArray.toList.take k ++ nts W ++ (nts u).toArray.toList.drop (k + (nts W).length)).toArray) = (nts (putAt u W k)).toArray := by
 simp [nts, putAt, List.map_take, List.map_drop]
theorem copy_put (w : World) (g gw k n m cw : Nat) (u W : List Nat) (ty : TypeId) (hu : Blk w g u) (hw : Blk w gw W) (hn : W.length = n) (hk : k + n ≤ u.length) (hm : u.length - k = m) :
 (Builtin.copy_ #[28, 28] ty #[.slice (some ⟨g, k, none⟩) m m, .slice (some ⟨gw, 0, none⟩) n cw]).run Tryz.prog w = .ok (goInt n) (w.setRow g (nts (putAt u W k)).toArray) := by
 have h := run_copy_row (P := Tryz.prog) w 28 28 ty 65 g k m m ⟨gw, 0, none⟩ n cw (nts u).toArray 65 (nts W) Tryz.underlying28 info64size hu
  (by rw [nts_length, hn]; exact (Nat.min_eq_left (by omega)).symm) (fun j v hj => by rw [add_blk, blk_cell hw j, List.getElem?_toArray]; exact hj) (by rw [nts_length, hn]; simp [nts]; omega) (oneCell_nts W)
 rw [nts_put, nts_length, hn] at h
 exact h
theorem Blk.put {w : World} {g : Nat} {u : List Nat} (h : Blk w g u) (v : List Nat) : Blk (w.setRow g (nts v).toArray) g v := setRow_heap w g _ _ _ _ h
theorem Only.put {w w' : World} {g : Nat} (h : Only g w w') (v : Array Value) : Only g w (w'.setRow g v) :=
  ⟨h.os, h.tape, h.output, by have : (w'.setRow g v).heap.size = w'.heap.size := by simp [World.setRow]
                              exact this.trans h.size, fun k hk => by
    have : (w'.setRow g v).heap[k]? = w'.heap[k]? := by simp [World.setRow, Array.getElem?_modify, Ne.symm hk]
    exact this.trans (h.block k hk)⟩
structure Two (g g' : Nat) (w w' : World) : Prop where
 os : w'.os = w.os
 tape : w'.tape = w.tape
 output : w'.output = w.output
 size : w'.heap.size = w.heap.size
 block : ∀ k, k ≠ g → k ≠ g' → w'.heap[k]? = w.heap[k]?
theorem Two.below {g g' B : Nat} {w w' : World} (h : Two g g' w w') (hg : B ≤ g) (hg' : B ≤ g') : Below B w w' := ⟨h.os, h.tape, h.output, Nat.le_of_eq h.size.symm, fun k hk => h.block k (by omega) (by omega)⟩
theorem Only.two {g g' : Nat} {w w' w'' : World} (h : Only g' w w') (k : Only g w' w'') : Two g g' w w'' := ⟨k.os.trans h.os, k.tape.trans h.tape, k.output.trans h.output, k.size.trans h.size, fun i hi hi' => (k.block i hi).trans (h.block i hi')⟩
theorem RN.two {g g' : Nat} {w w' : World} {P : Nat → Prop} {A : Option Addr} {c : Nat} {l : List Nat} (h : RN w P A c l) (ho : Two g g' w w') (hP : ∀ b, P b → b ≠ g ∧ b ≠ g') : RN w' P A c l := h.keep fun q hq => World.cell?_of_block (w := w) (ho.block q.block (hP _ hq).1 (hP _ hq).2)

theorem less_round (g v c b x : Nat) (hg : g < 4294967296) (hv : v < 4294967296) (hc : c < 4294967296) (hb : b ≤ 1) (hx : x < 4294967296) :
 ∃ pr lo c' off y b' : Nat, g * v = pr ∧ pr < 18446744073709551616 ∧ c + pr < 18446744073709551616 ∧ lo + 4294967296 * c' = c + pr ∧ (c + pr) % 4294967296 = lo ∧ (c + pr) / 4294967296 = c' ∧ c' < 4294967296 ∧ off = lo + b ∧ off ≤ 4294967296 ∧ y < 4294967296 ∧ b' ≤ 1 ∧ y + (lo + b) = x + 4294967296 * b' ∧ (b' = 0 ↔ ¬ x < off) := by
 have hm := mul_bound hg hv hc (show 0 < 4294967296 by omega)
 obtain ⟨pr, hpr⟩ : ∃ pr, g * v = pr := ⟨_, rfl⟩
 rw [hpr] at hm
 by_cases h : x < (c + pr) % 4294967296 + b
 · exact ⟨pr, (c + pr) % 4294967296, (c + pr) / 4294967296, (c + pr) % 4294967296 + b, x + 4294967296 - ((c + pr) % 4294967296 + b), 1, hpr, by omega, by omega, by omega, rfl, rfl, by omega, rfl, by omega, by omega, by omega, by omega, by simp [h]⟩
 · exact ⟨pr, (c + pr) % 4294967296, (c + pr) / 4294967296, (c + pr) % 4294967296 + b, x - ((c + pr) % 4294967296 + b), 0, hpr, by omega, by omega, by omega, rfl, rfl, by omega, rfl, by omega, by omega, by omega, by omega, by simp [h]⟩

set_option maxRecDepth 100000 in
set_option maxHeartbeats 2000000 in
theorem less_any (g gw k n m G : Nat) (P : Nat → Prop) (A : Option Addr) (c : Nat) (U V W : List Nat) (w : World) (hU : Blk w g U) (hW : Blk w gw W) (h : RN w P A c V) (hgg : g ≠ gw) (hP : ∀ b, P b → b ≠ gw) (hDU : Dig U) (hDV : Dig V) (hUm : U.length = m) (hVn : V.length = n) (hWn : W.length = n + 1) (hk : k + n + 1 ≤ m) (hm : m ≤ 100000) (hG : G < 4294967296) (hz : ∀ j, k + n + 1 ≤ j → dg U j = 0) :
 Calls Tryz.prog 112 #[.slice (some ⟨g, 0, none⟩) m m, .slice A n c, .slice (some ⟨gw, 0, none⟩) (n + 1) (n + 1), .int .i64 (k : Int), .int .u64 (G : Int)] w fun e w' => ∃ U' W', Blk w' g U' ∧ Dig U' ∧ U'.length = m ∧ Blk w' gw W' ∧ W'.length = n + 1 ∧ Two g gw w w' ∧
  ((e = .returned (.bool true) ∧ val 4294967296 U' + 4294967296 ^ k * (G * val 4294967296 V) = val 4294967296 U) ∨ (e = .returned (.bool false) ∧ U' = U ∧ val 4294967296 U / (4294967296 ^ k * val 4294967296 V) < G)) := by
 obtain ⟨h1, h2, h3⟩ := h.cap
 have hnc : n ≤ c := by omega
 have Hz := Lib.hid hz
 have HVn := Lib.hid hVn
 have HUm := Lib.hid hUm
 have Hgg := Lib.hid hgg
 have HG := Lib.hid hG
 have hn1 : n ≤ 100000 := by omega
 clear h1 h2 h3 hz hVn hUm hgg hG
 go_enter Tryz.func112, Tryz.ntmps112
 go_wp2
 go_loopw [12, 13, 14] (fun cv bv iv wr => ∃ (i cr b : Nat) (o : List Nat), iv = .int .i64 (i : Int) ∧ cv = .int .u64 (cr : Int) ∧ bv = .int .u64 (b : Int) ∧ i ≤ n + 1 ∧ cr < 4294967296 ∧ b ≤ 1 ∧ (n < i → cr = 0) ∧ LessAt 4294967296 U V o k G i cr b ∧ Dig (o.take i) ∧ Blk wr gw o ∧ Only gw w wr) (fun _ _ iv _ => n + 1 - (intOf iv).toNat)
 case atStart => exact ⟨0, 0, 0, W, rfl, rfl, rfl, by omega, by omega, by omega, by omega, LessAt.zero (by rw [HVn.out]; exact hWn), by intro x hx; simp at hx, hW, Only.refl _ _⟩
 case round =>
  obtain ⟨i, cr, b, o, rfl, rfl, rfl, hi, hcr, hb, hc0, hS, hDo, hbw, ho⟩ := hrel
  have hol := hS.1
  rw [HVn.out] at hol
  have hbu : Blk _ g U := (ho.block g Hgg.out).trans hU
  by_cases hle : i ≤ n
  · have hxU := hDU.dgLt (k + i)
    have q1 := hbu.cell (i := k + i) (by rw [HUm.out]; omega)
    have q3 := hbw.cell (i := i) (by omega)
    have q4 := hbw.free i
    have k0 : (k : Int) + (i : Int) < (m : Int) := by omega
    have k1 : (i : Int) < (n : Int) + 1 := by omega
    obtain ⟨pr, lo, c', off, y, b', b1, b2, b3, b4, b5, b6, b7, b8, b9, b10, b11, b12, b13⟩ := less_round G (dg V i) cr b (dg U (k + i)) HG.out (hDV.dgLt i) hcr hb hxU
    have hS' := hS.step (x := y) (c' := c') (b' := b') (lo := lo) (by omega) (by rw [b1]; exact b4) b12
    have hblk' := hbw.set i y
    have hD' : Dig ((o.set i y).take (i + 1)) := by
     rw [take_succ_dg (by simpa using (by omega : i < o.length)), getD_set_eq (by omega), List.take_set_of_le (by omega)]
     intro x hx
     rcases List.mem_append.1 hx with h | h
     · exact hDo x h
     · rw [List.mem_singleton.1 h]; exact b10
    have ho' := ho.setCell (p := ⟨gw, 0, none⟩) (f := 0) rfl i (.int .u64 (y : Int))
    rw [add_blk] at ho'
    have e3 : (lo : Int) + (b : Int) = (off : Int) := by omega
    have kx : (dg U (k + i) : Int) < 4294967296 := by omega
    have kp : (pr : Int) < 18446744073709551616 := by omega
    have kc : (cr : Int) + (pr : Int) < 18446744073709551616 := by omega
    have ko : (off : Int) ≤ 4294967296 := by omega
    have hc' : n < i + 1 → c' = 0 := by
     intro hni
     have hin : i = n := by omega
     have : dg V i = 0 := dg_none (by rw [HVn.out]; omega)
     rw [this, Nat.mul_zero] at b1
     omega
    have e1 : ((cr : Int) + (pr : Int)) % 4294967296 = (lo : Int) := by omega
    have e2 : ((cr : Int) + (pr : Int)) / 4294967296 = (c' : Int) := by omega
    have Hb7 := Lib.hid b7
    have Hhc := Lib.hid hc'
    by_cases hlt : i < n
    · obtain ⟨ad, rfl, _, q2⟩ := (h.only ho hP).at_ (i := i) (by rw [HVn.out]; exact hlt)
      have hpr : (dg V i : Int) * (G : Int) = (pr : Int) := by rw [← Int.natCast_mul, Nat.mul_comm, b1]
      rcases Nat.eq_zero_or_pos b' with h0 | h0
      · have hxo := b13.1 h0
        have e4 : (dg U (k + i) : Int) - (off : Int) = (y : Int) := by omega
        subst h0
        clear b1 b2 b3 b4 b5 b6 b7 b8 b9 b10 b12 b13 hS hDo hbw ho hol hbu hxU hcr hc' hc0
        go_wp2
        go_roundw
        case rel => exact ⟨i + 1, c', 0, o.set i y, by go_num, by go_num, rfl, by omega, Hb7.out, by omega, Hhc.out, hS', hD', hblk', ho'⟩
        case measure => simp [intOf]; omega
      · have h01 : b' = 1 := by omega
        have hxo : dg U (k + i) < off := by
         rcases Nat.lt_or_ge (dg U (k + i)) off with h | h
         · exact h
         · have := b13.2 (by omega); omega
        have e4 : (dg U (k + i) : Int) + 4294967296 - (off : Int) = (y : Int) := by omega
        subst h01
        clear b1 b2 b3 b4 b5 b6 b7 b8 b9 b10 b12 b13 hS hDo hbw ho hol hbu hxU hcr hc' hc0
        go_wp2
        go_roundw
        case rel => exact ⟨i + 1, c', 1, o.set i y, by go_num, by go_num, rfl, by omega, Hb7.out, by omega, Hhc.out, hS', hD', hblk', ho'⟩
        case measure => simp [intOf]; omega
    · have hin : i = n := by omega
      have hv0 : dg V i = 0 := dg_none (by rw [HVn.out]; omega)
      rw [hv0, Nat.mul_zero] at b1
      have e1' : (cr : Int) % 4294967296 = (lo : Int) := by omega
      have e2' : (cr : Int) / 4294967296 = (c' : Int) := by omega
      subst hin
      rcases Nat.eq_zero_or_pos b' with h0 | h0
      · have hxo := b13.1 h0
        have e4 : (dg U (k + i) : Int) - (off : Int) = (y : Int) := by omega
        subst h0
        clear b1 b2 b3 b4 b5 b6 b7 b8 b9 b10 b12 b13 hS hDo hbw ho hol hbu hxU hcr hc' hc0 hv0 e1 e2
        go_wp2
        go_roundw
        case rel => exact ⟨i + 1, c', 0, o.set i y, by go_num, by go_num, rfl, by omega, Hb7.out, by omega, Hhc.out, hS', hD', hblk', ho'⟩
        case measure => simp [intOf]
      · have h01 : b' = 1 := by omega
        have hxo : dg U (k + i) < off := by
         rcases Nat.lt_or_ge (dg U (k + i)) off with h | h
         · exact h
         · have := b13.2 (by omega); omega
        have e4 : (dg U (k + i) : Int) + 4294967296 - (off : Int) = (y : Int) := by omega
        subst h01
        clear b1 b2 b3 b4 b5 b6 b7 b8 b9 b10 b12 b13 hS hDo hbw ho hol hbu hxU hcr hc' hc0 hv0 e1 e2
        go_wp2
        go_roundw
        case rel => exact ⟨i + 1, c', 1, o.set i y, by go_num, by go_num, rfl, by omega, Hb7.out, by omega, Hhc.out, hS', hD', hblk', ho'⟩
        case measure => simp [intOf]
  · have hin : i = n + 1 := by omega
    have hcz := hc0 (by omega)
    subst hin hcz
    have hDo' : Dig o := by rwa [List.take_of_length_le (by omega)] at hDo
    rw [← hol] at hS
    have hkl : k + o.length ≤ U.length := by rw [HUm.out]; omega
    have hle' : ¬ (n : Int) + 1 ≤ (n : Int) := by omega
    rcases Nat.eq_zero_or_pos b with h0 | h0
    · subst h0
      have hy := Lib.hid (hS.yes hkl)
      have hcp := copy_put _ g gw k (n + 1) (m - k) (n + 1) U o 3 hbu hbw hol (by rw [HUm.out]; omega) (by rw [HUm.out])
      have Hol := Lib.hid hol
      have Hkl := Lib.hid hkl
      clear hol hkl hS hDo
      have hbu2 := hbu.put (putAt U o k)
      have hbw2 : Blk (World.setRow _ g (nts (putAt U o k)).toArray) gw o := ((Only.refl g _).put _ |>.block gw (Ne.symm Hgg.out)).trans hbw
      have htwo := ho.two ((Only.refl g _).put (nts (putAt U o k)).toArray)
      go_wp2
      go_ret
      exact ⟨putAt U o k, hbu2, putAt_dig hDU hDo', (putAt_length Hkl.out).trans HUm.out, o, hbw2, Hol.out, htwo, .inl ⟨rfl, hy.out⟩⟩
    · have hb1 : b = 1 := by omega
      subst hb1
      have hno := Lib.hid (hS.no hDo' hDU (fun j hj => Hz.out j (by omega)) hkl)
      have Hol := Lib.hid hol
      clear hS hDo hol hkl
      go_wp2
      go_ret
      exact ⟨U, hbu, hDU, HUm.out, o, hbw, Hol.out, (Only.refl g _ |> fun r => ho.two r), .inr ⟨rfl, rfl, hno.out⟩⟩
end Go.Proofs.YtaemogcomplhiaaGreatDoor

namespace Go.Proofs.YtaemogcomplhiaaGreatDoor
open Go.RowKit

structure Just (g : Nat) (w w' : World) : Prop where
 os : w'.os = w.os
 tape : w'.tape = w.tape
 output : w'.output = w.output
 size : w.heap.size ≤ w'.heap.size
 block : ∀ b, b < w.heap.size → b ≠ g → w'.heap[b]? = w.heap[b]?
theorem Just.refl (g : Nat) (w : World) : Just g w w := ⟨rfl, rfl, rfl, Nat.le_refl _, fun _ _ _ => rfl⟩
theorem Just.trans {g : Nat} {a b c : World} (h : Just g a b) (k : Just g b c) : Just g a c :=
 ⟨k.os.trans h.os, k.tape.trans h.tape, k.output.trans h.output, Nat.le_trans h.size k.size, fun i hi hn => (k.block i (Nat.lt_of_lt_of_le hi h.size) hn).trans (h.block i hi hn)⟩
theorem Just.set {g : Nat} {a b : World} (h : Just g a b) (i : Nat) (v : Value) : Just g a (b.setCell ⟨g, i, none⟩ v) :=
 ⟨h.os, h.tape, h.output, by simpa [World.setCell] using h.size, fun j hj hn => (Below.heap_setCell _ _ _ _ (by exact hn)).trans (h.block j hj hn)⟩
theorem Just.drewN {g : Nat} {a b : World} (h : Just g a b) (n : Nat) : Just g a (b.drewN n) := ⟨h.os, h.tape, h.output, h.size, h.block⟩
theorem Just.cell {g : Nat} {w w' : World} (h : Just g w w') {p : Addr} (hp : p.block < w.heap.size) (hn : p.block ≠ g) : w'.cell? p = w.cell? p := World.cell?_of_block (h.block _ hp hn)
theorem Just.of_below {g B : Nat} {w w' : World} (h : Below B w w') (hB : w.heap.size ≤ B) : Just g w w' := ⟨h.os, h.tape, h.output, h.size, fun b hb _ => h.block b (Nat.lt_of_lt_of_le hb hB)⟩
theorem Just.below {g B : Nat} {w w' : World} (h : Just g w w') (hB : B ≤ g) (hw : B ≤ w.heap.size) : Below B w w' := ⟨h.os, h.tape, h.output, h.size, fun b hb => h.block b (Nat.lt_of_lt_of_le hb hw) (by omega)⟩
theorem RN.just {w w' : World} {g : Nat} {P : Nat → Prop} {A : Option Addr} {c : Nat} {l : List Nat} (h : RN w P A c l) (hj : Just g w w') (hP : ∀ b, P b → b < w.heap.size ∧ b ≠ g) : RN w' P A c l :=
 h.keep fun _ hp => hj.cell (hP _ hp).1 (hP _ hp).2

theorem setRow_below {B g : Nat} {w w' : World} (h : Below B w w') (hg : B ≤ g) (v : Array Value) : Below B w (w'.setRow g v) :=
  ⟨h.os, h.tape, h.output, by have : (w'.setRow g v).heap.size = w'.heap.size := by simp [World.setRow]
                              rw [this]; exact h.size, fun k hk => by
    have : (w'.setRow g v).heap[k]? = w'.heap[k]? := by simp [World.setRow, Array.getElem?_modify, show ¬ g = k by omega]
    exact this.trans (h.block k hk)⟩
def offM (v M : Nat) : Nat := if v < M then v else v - M

structure MontAt (B M : Nat) (a b t : List Nat) (i n : Nat) : Prop where
 len : t.length = n + 2
 top : dg t (n + 1) = 0
 bound : val B t < M + val B b
 cong : ∃ k, val B t * B ^ i = val B (a.take i) * val B b + k * M
theorem MontAt.zero {B M : Nat} (a b : List Nat) (n : Nat) (hM : 0 < M) : MontAt B M a b (List.replicate (n + 2) 0) 0 n :=
 ⟨by simp, by rw [dg, List.getD_eq_getElem?_getD, List.getElem?_replicate]; split <;> rfl, by rw [val_replicate]; omega, 0, by simp [val_replicate]⟩
theorem dg_zero_mod {B : Nat} {t : List Nat} (ht : ∀ x ∈ t, x < B) (_hB : 0 < B) : val B t % B = dg t 0 := by
 cases t with
 | nil => simp [dg]
 | cons x l => rw [val_cons, Nat.add_mul_mod_self_left, Nat.mod_eq_of_lt (ht x (by simp))]; rfl
/-! What a round does to the numbers. -/
theorem mont_low {B M inv d q v : Nat} (hi : (inv * M + 1) % B = 0) (hv : v % B = d) (hq : q = d * inv % B) : (v + q * M) % B = 0 := by
 have h1 : (v + q * M) % B = (d * (inv * M + 1)) % B := by
  subst hq hv
  rw [Nat.mul_add, Nat.mul_one, Nat.add_mod, Nat.mod_mul_mod, ← Nat.mul_assoc, Nat.add_comm (v % B * inv * M), Nat.add_mod_mod]
 rw [h1, Nat.mul_mod, hi]
 simp
theorem mont_eq {M t0 ai b q t2 Bi A A' k : Nat} (h2 : t2 = t0 + ai * b + q * M) (hk : t0 * Bi = A * b + k * M) (hA : A' = A + Bi * ai) : t2 * Bi = A' * b + (k + q * Bi) * M := by
 subst h2 hA
 rw [Nat.add_mul, Nat.add_mul, hk, Nat.add_mul, Nat.add_mul]
 have e1 : ai * b * Bi = Bi * ai * b := by rw [Nat.mul_comm Bi ai, Nat.mul_assoc, Nat.mul_assoc, Nat.mul_comm b Bi]
 have e2 : q * M * Bi = q * Bi * M := by rw [Nat.mul_assoc, Nat.mul_assoc, Nat.mul_comm M Bi]
 omega
theorem mont_bound {B M t0 ai b q t2 t4 : Nat} (hB : 0 < B) (h2 : t2 = t0 + ai * b + q * M) (hb : t0 < M + b) (ha : ai < B) (hq : q < B) (h4 : t2 = B * t4) : t4 < M + b := by
 have e1 : ai * b ≤ (B - 1) * b := Nat.mul_le_mul_right _ (by omega)
 have e2 : q * M ≤ (B - 1) * M := Nat.mul_le_mul_right _ (by omega)
 have e3 : (B - 1) * b + b = B * b := by rw [← Nat.succ_mul, Nat.succ_eq_add_one, Nat.sub_add_cancel hB]
 have e4 : (B - 1) * M + M = B * M := by rw [← Nat.succ_mul, Nat.succ_eq_add_one, Nat.sub_add_cancel hB]
 have e5 : B * t4 < B * (M + b) := by rw [Nat.mul_add, ← h4]; omega
 exact Nat.lt_of_mul_lt_mul_left e5
theorem MontAt.step {B M inv n i q : Nat} {a b t t2 : List Nat} (hB : 2 ≤ B) (h : MontAt B M a b t i n) (ha : dg a i < B) (hi : (inv * M + 1) % B = 0) (hl2 : t2.length = n + 2) (hlim : ∀ x ∈ t2, x < B)
 (hq : q = (val B t + dg a i * val B b) % B * inv % B) (hv2 : val B t2 = val B t + dg a i * val B b + q * M) : MontAt B M a b (t2.drop 1 ++ [0]) (i + 1) n := by
 have h0 : val B t2 % B = 0 := by rw [hv2]; exact mont_low hi rfl hq
 have hq' : q < B := by rw [hq]; exact Nat.mod_lt _ (by omega)
 obtain ⟨x, l, rfl⟩ : ∃ x l, t2 = x :: l := by
  cases t2 with
  | nil => simp at hl2
  | cons x l => exact ⟨x, l, rfl⟩
 rw [dg_zero_mod hlim (by omega)] at h0
 have hx : x = 0 := h0
 subst hx
 have hlen : l.length = n + 1 := by simpa using hl2
 have e4 : val B (0 :: l) = B * val B l := by rw [val_cons]; omega
 have e5 : val B ((0 :: l).drop 1 ++ [0]) = val B l := by simp [val_append]
 obtain ⟨k, hk⟩ := h.cong
 refine ⟨by simp [hlen], ?_, ?_, k + q * B ^ i, ?_⟩
 · simp [dg, List.getD_eq_getElem?_getD, hlen]
 · rw [e5]
   exact mont_bound (by omega) hv2 h.bound ha hq' e4
 · rw [e5, Nat.pow_succ, show val B l * (B ^ i * B) = (B * val B l) * B ^ i by rw [Nat.mul_comm (B ^ i), ← Nat.mul_assoc, Nat.mul_comm (val B l)], ← e4]
   exact mont_eq hv2 hk (val_take_getD B a i)
theorem offM_lt {v M : Nat} (h : v < 2 * M) : offM v M < M := by rw [offM]; split <;> omega
theorem offM_mod {v M R x k : Nat} (h : v * R = x + k * M) : offM v M * R % M = x % M := by
 have h1 : v * R % M = x % M := by rw [h, Nat.add_mul_mod_self_right]
 rw [offM]
 split
 · exact h1
 · rename_i hge
   rw [← h1]
   have : v * R = (v - M) * R + R * M := by rw [Nat.mul_comm R M, ← Nat.add_mul, Nat.sub_add_cancel (by omega)]
   rw [this, Nat.add_mul_mod_self_right]
theorem wrap_mul (x y : Nat) : IntKind.u64.wrap ((x : Int) * (y : Int)) = ((x * y % 18446744073709551616 : Nat) : Int) := by
 rw [IntKind.wrap_u64, ← Int.natCast_mul]
 omega
theorem cancelR {B M inv n a b : Nat} (hi : (inv * M + 1) % B = 0) (h : a * B ^ n % M = b * B ^ n % M) : a % M = b % M := by
  obtain ⟨u, hu⟩ : ∃ u, inv * M + 1 = B * u := ⟨(inv * M + 1) / B, by have := Nat.div_add_mod (inv * M + 1) B; omega⟩
  have h1 : ∀ x, x * (B * u) % M = x % M := fun x => by rw [← hu, Nat.mul_add, Nat.mul_one, ← Nat.mul_assoc, Nat.add_comm, Nat.add_mul_mod_self_right]
  have h2 : ∀ k x, x * B ^ k * u ^ k % M = x % M := by
    intro k
    induction k with
    | zero => intro x; simp
    | succ k ih =>
      intro x
      have e : x * B ^ (k + 1) * u ^ (k + 1) = (x * (B * u)) * B ^ k * u ^ k := by
        rw [Nat.pow_succ, Nat.pow_succ]
        simp only [Nat.mul_assoc, Nat.mul_comm, Nat.mul_left_comm]
      rw [e, ih, h1]
  rw [← h2 n a, ← h2 n b, Nat.mul_mod, h, ← Nat.mul_mod]

theorem newton {m y y' t z : Int} {k j : Nat} (hy : m * y = 1 + 2 ^ k * t) (h' : y' = y * (2 - m * y) + 18446744073709551616 * z) (hj : k + k + j = 64) : ∃ s, m * y' = 1 + 2 ^ (k + k) * s := by
 refine ⟨-(t * t) + m * 2 ^ j * z, ?_⟩
 have e1 : m * y' = m * y * (2 - m * y) + m * 18446744073709551616 * z := by rw [h', Int.mul_add, ← Int.mul_assoc, ← Int.mul_assoc]
 have e2 : (18446744073709551616 : Int) = 2 ^ (k + k) * 2 ^ j := by rw [← Int.pow_add, hj]; rfl
 rw [e1, hy, e2, Int.pow_add]
 generalize (2 : Int) ^ k = p
 generalize (2 : Int) ^ j = r
 grind
theorem newton_wrap {m y : Int} : ∃ z, (y * ((2 - m * y % 18446744073709551616) % 18446744073709551616)) % 18446744073709551616 = y * (2 - m * y) + 18446744073709551616 * z := by
 have e1 := Int.mul_ediv_add_emod (m * y) 18446744073709551616
 have e2 := Int.mul_ediv_add_emod (2 - m * y % 18446744073709551616) 18446744073709551616
 have e3 := Int.mul_ediv_add_emod (y * ((2 - m * y % 18446744073709551616) % 18446744073709551616)) 18446744073709551616
 generalize (2 - m * y % 18446744073709551616) / 18446744073709551616 = d2 at *
 generalize (y * ((2 - m * y % 18446744073709551616) % 18446744073709551616)) / 18446744073709551616 = d3 at *
 generalize (y * ((2 - m * y % 18446744073709551616) % 18446744073709551616)) % 18446744073709551616 = r3 at *
 generalize (2 - m * y % 18446744073709551616) % 18446744073709551616 = r2 at *
 generalize (m * y) / 18446744073709551616 = d1 at *
 generalize (m * y) % 18446744073709551616 = r1 at *
 refine ⟨y * d1 - y * d2 - d3, ?_⟩
 grind
theorem neg_inv {m0 M : Nat} {y : Int} {t : Int} (hm : M % 18446744073709551616 = m0) (h : (m0 : Int) * y = 1 + 18446744073709551616 * t) : ((((-y) % 18446744073709551616).toNat) * M + 1) % 18446744073709551616 = 0 := by
 have e1 := Int.mul_ediv_add_emod (-y) 18446744073709551616
 have h0 : 0 ≤ (-y) % 18446744073709551616 := Int.emod_nonneg _ (by decide)
 obtain ⟨v, hv⟩ : ∃ v : Nat, (-y) % 18446744073709551616 = (v : Int) := ⟨_, (Int.toNat_of_nonneg h0).symm⟩
 rw [hv] at e1 ⊢
 rw [Int.toNat_natCast]
 obtain ⟨q, hq⟩ : ∃ q, M = m0 + 18446744073709551616 * q := ⟨M / 18446744073709551616, by omega⟩
 have e2 : ((v * M + 1 : Nat) : Int) = 18446744073709551616 * ((v : Int) * q - t - (m0 : Int) * ((-y) / 18446744073709551616)) := by
  rw [hq]
  simp only [Int.natCast_add, Int.natCast_mul, Int.cast_ofNat_Int]
  generalize (-y) / 18446744073709551616 = d at *
  grind
 omega
def nl (M : Nat) : Nat := (digs 18446744073709551616 M).length
theorem val_pad (B : Nat) (a : List Nat) (k : Nat) : val B (a ++ List.replicate k 0) = val B a := by rw [val_append, val_replicate, Nat.mul_zero, Nat.add_zero]
theorem blk_set {w : World} {g : Nat} {t : TypeId} {cs : Array Value} (h : w.heap[g]? = some (.cells cs t (0, 0))) (i : Nat) (u : Value) : (w.setCell ⟨g, i, none⟩ u).heap[g]? = some (.cells (cs.setIfInBounds i u) t (0, 0)) := by
 simp [World.setCell, Array.getElem?_modify, h]
end Go.Proofs.YtaemogcomplhiaaGreatDoor

namespace Go.Proofs.YtaemogcomplhiaaGreatDoor
open Go.RowKit

theorem Ext.drewN (w : World) (n : Nat) : Ext w (w.drewN n) := below_drewN (Below.refl _ w) n
theorem wp_storeV {op : Oper} {a : Act} {X : World} {K : Act → World → Prop} {Q : Exit → Act → World → Prop} (ty : TypeId) (x y : Operand) (ho : op.op = .store ty x y) (hd : op.dst = none) {b : Nat} {cs cs' : Array Value} {t : TypeId}
 (hx : a.eval x = .pointer (some ⟨b, 0, none⟩)) (hy : a.eval y = .agg cs') (hg : X.heap[b]? = some (.cells cs t (0, 0))) (hi : (Tryz.prog.info? ty).map (·.size) = some cs'.size) (hold : cs.size = cs'.size) (h1 : cs'.all (·.oneCell') = true)
 (hK : ∀ Y, Y.heap[b]? = some (.cells cs' t (0, 0)) → Just b X Y → Y.heap.size = X.heap.size → K a Y) : op.wp Tryz.prog a X K Q := by
 refine wp_store_row ty x y ho b cs' hx hy t cs hg hi hold h1 ?_
 rw [hd]
 exact hK _ (Go.setRow_heap X b cs cs' t _ hg) ⟨rfl, rfl, rfl, by simp [World.setRow], fun k _ hk => Go.setRow_other X b k cs' hk⟩ (by simp [World.setRow])
theorem wp_loadV {op : Oper} {a : Act} {X : World} {K : Act → World → Prop} {Q : Exit → Act → World → Prop} (ty : TypeId) (x : Operand) (ho : op.op = .load ty x) {b : Nat} {cs : Array Value} {t : TypeId} {d : TypeDesc} (hx : a.eval x = .pointer (some ⟨b, 0, none⟩)) (hg : X.heap[b]? = some (.cells cs t (0, 0)))
 (hu : Tryz.prog.underlying ty = some d) (hd : d.isRow = true) (hi : (Tryz.prog.info? ty).map (·.size) = some cs.size) {v : Value} (hv : v = .agg cs) (hK : K (a.put op.dst v) X) : op.wp Tryz.prog a X K Q :=
 wp_load_row ty x ho b hx t cs (0, 0) d hg hu (by cases d <;> first | rfl | exact hd) hi (by rw [← hv]; exact hK)
theorem Just.ext {b : Nat} {w X Y : World} (h : Just b X Y) (hE : Ext w X) (hb : w.heap.size ≤ b) : Ext w Y := Below.trans hE (h.below hb hE.bsize)
theorem Just.at_ {b c : Nat} {X Y : World} {o : Obj} (h : Just b X Y) (hc : c ≠ b) (hx : X.heap[c]? = some o) : Y.heap[c]? = some o := (h.block c (blk_lt hx) hc).trans hx
section
variable {Q : Exit → Act → World → Prop} {ol : List Oper} {m : Nat} {L AL : List Nat} {R : Nat → (Nat → Value) → World → Prop} {a : Act} {w : World} {F : List Oper → Prop} {k n : Nat} {o : Oper} {l : List Oper} {u : Value}
theorem run_loadAtV {X : World} {b : Nat} {cs : Array Value} {t ty : TypeId} (hg : X.heap[b]? = some (.cells cs t (0, 0))) (hd : (Tryz.prog.underlying ty).any (·.isRow) = true) (hi : (Tryz.prog.info? ty).map (·.size) = some cs.size) : (Instr.loadAt ty (.pointer (some ⟨b, 0, none⟩))).run Tryz.prog X = .ok (.agg cs) X := by
 obtain ⟨d, hu, h2⟩ : ∃ d, Tryz.prog.underlying ty = some d ∧ d.isRow = true := by
  cases h : Tryz.prog.underlying ty with
  | none => rw [h] at hd; cases hd
  | some d => rw [h] at hd; exact ⟨d, rfl, hd⟩
 unfold Instr.loadAt
 simp only [Sem.run_bind]
 rw [show (Instr.sureAddr (.pointer (some ⟨b, 0, none⟩))).run Tryz.prog X = .ok ⟨b, 0, none⟩ X from rfl, Result.andThen_ok]
 exact run_loadVar_row X b t ty cs (0, 0) d hg hu (by cases d <;> first | rfl | exact h2) hi
theorem lV0 (k' n' : Nat) {b : Nat} {cs : Array Value} {t ty : TypeId} {x : Operand} (hg : w.heap[b]? = some (.cells cs t (0, 0))) (hi : (Tryz.prog.info? ty).map (·.size) = some cs.size) (hs : Par.AllOps (Par.StepO Tryz.prog ol Q Ext m L AL R a w) F k' n' l) (hR : ∀ f X, f k = .agg cs → R k (Par.mask (fun i => L.getD i 0) k f) X := by exact fun _ _ h => h) (hk : k + 1 = k' := by rfl) (hn : n' + 1 = n := by rfl) (ha : AL.contains k = false := by kernel_rfl)
 (hw : ∀ f, Region.wanted o (yielded ol.toArray (Par.put ol.toArray (Par.nd (fun i => L.getD i 0) k) f (List.range m) a).tmps) = true := by intro _; kernel_rfl)
 (ho : o.op = .load ty x := by rfl) (hx : ∀ f, (Par.put ol.toArray (Par.nd (fun i => L.getD i 0) k) f (List.range m) a).eval x = .pointer (some ⟨b, 0, none⟩) := by intro _; kernel_rfl) (hd : (Tryz.prog.underlying ty).any (·.isRow) = true := by kernel_rfl) : Par.AllOps (Par.StepO Tryz.prog ol Q Ext m L AL R a w) F k n (o :: l) :=
 Par.vx (fun f => f) hs (fun _ _ _ => rfl) hR hk hn ha hw (fun f X hX => by
  unfold execOp
  simp only [ho, Sem.run_bind, hx, run_loadAtV (hX.at_ hg) hd hi, Result.andThen_ok]
  rfl)
theorem lV1 (k' n' j : Nat) {b : Nat} {cs : Array Value} {t ty : TypeId} {x : Operand} (hg : w.heap[b]? = some (.cells cs t (0, 0))) (hi : (Tryz.prog.info? ty).map (·.size) = some cs.size) (hs : Par.AllOps (Par.StepO Tryz.prog ol Q Ext m L AL R a w) F k' n' l) (hr : ∀ f X, R j (Par.mask (fun i => L.getD i 0) j f) X → f j = u := by exact fun _ _ h => h) (hR : ∀ f X, f k = .agg cs → R k (Par.mask (fun i => L.getD i 0) k f) X := by exact fun _ _ h => h) (hk : k + 1 = k' := by rfl) (hn : n' + 1 = n := by rfl) (ha : AL.contains k = false := by kernel_rfl)
 (hj : (L.getD k 0).testBit j = true := by kernel_rfl)
 (hw : ∀ f, Region.wanted o (yielded ol.toArray (Par.put ol.toArray (Par.nd (fun i => L.getD i 0) k) (Par.upd f j u) (List.range m) a).tmps) = true := by intro _; kernel_rfl)
 (ho : o.op = .load ty x := by rfl) (hx : ∀ f, (Par.put ol.toArray (Par.nd (fun i => L.getD i 0) k) (Par.upd f j u) (List.range m) a).eval x = .pointer (some ⟨b, 0, none⟩) := by intro _; kernel_rfl) (hd : (Tryz.prog.underlying ty).any (·.isRow) = true := by kernel_rfl) : Par.AllOps (Par.StepO Tryz.prog ol Q Ext m L AL R a w) F k n (o :: l) :=
 Par.vx (fun f => Par.upd f j u) hs (fun f X h => Par.upd_self (hr f X (h j hj))) hR hk hn ha hw (fun f X hX => by
  unfold execOp
  simp only [ho, Sem.run_bind, hx, run_loadAtV (hX.at_ hg) hd hi, Result.andThen_ok]
  rfl)
end
end Go.Proofs.YtaemogcomplhiaaGreatDoor

namespace Go.Proofs.YtaemogcomplhiaaGreatDoor
open Go.RowKit

def EV (l : List Nat) : Value := .agg (nts l).toArray
theorem six {l : List Nat} (h : l.length = 6) : ∃ a b c d e f, l = [a, b, c, d, e, f] := by
 match l, h with
 | [a, b, c, d, e, f], _ => exact ⟨a, b, c, d, e, f, rfl⟩
set_option maxRecDepth 100000 in
theorem eql_zero (a b c d e f : Nat) (w : World) : (Op.equalIn 10000 109 (.agg #[.int .u64 (a : Int), .int .u64 (b : Int), .int .u64 (c : Int), .int .u64 (d : Int), .int .u64 (e : Int), .int .u64 (f : Int)]) (.agg #[.int .u64 0, .int .u64 0, .int .u64 0, .int .u64 0, .int .u64 0, .int .u64 0])).run Tryz.prog w =
 .ok (decide ([a, b, c, d, e, f] = [0, 0, 0, 0, 0, 0])) w := by
 obtain ⟨i0, hi, hz0, hz1, hz2⟩ := info_parts info64
 have hc : Tryz.prog.cellsOf 65 = 1 := by kernel_rfl
 rw [show (10000 : Nat) = 9999 + 1 by rfl, run_equalIn_array _ _ _ _ Tryz.underlying109 hi, hc]
 rw [show List.range 6 = [0, 1, 2, 3, 4, 5] by rfl]
 have he : ∀ x y : Int, (Op.equalIn 9999 65 (.int .u64 x) (.int .u64 y)).run Tryz.prog w = .ok (x == y) w := fun x y => run_equalIn_int w 9998 _ .u64 .u64 x y Tryz.underlying65
 have hp : ∀ (xs : Array Value) (j : Nat) (x : Value), xs[j]? = some x → (part 65 xs j).run Tryz.prog w = .ok x w := fun xs j x h => by
  simp [part, h, go_sem]
 have hs : ∀ (xs ys : Array Value) (j : Nat) (x y : Int) (is : List Nat), xs[j]? = some (.int .u64 x) → ys[j]? = some (.int .u64 y) →
  (Op.eqItems 9999 65 1 xs ys (j :: is)).run Tryz.prog w = if x = y then (Op.eqItems 9999 65 1 xs ys is).run Tryz.prog w else .ok false w := by
  intro xs ys j x y is h1 h2
  have p1 := hp xs j _ h1
  have p2 := hp ys j _ h2
  simp only [Op.eqItems, Sem.run_bind, Nat.mul_one, p1, p2, he, Result.andThen_ok]
  by_cases hxy : x = y
  · simp [hxy]
  · simp [hxy]
 rw [hs _ _ 0 a 0 _ rfl rfl, hs _ _ 1 b 0 _ rfl rfl, hs _ _ 2 c 0 _ rfl rfl, hs _ _ 3 d 0 _ rfl rfl, hs _ _ 4 e 0 _ rfl rfl, hs _ _ 5 f 0 _ rfl rfl]
 have hn : (Op.eqItems 9999 65 1 #[.int .u64 (a : Int), .int .u64 (b : Int), .int .u64 (c : Int), .int .u64 (d : Int), .int .u64 (e : Int), .int .u64 (f : Int)] #[.int .u64 0, .int .u64 0, .int .u64 0, .int .u64 0, .int .u64 0, .int .u64 0] []).run Tryz.prog w = .ok true w := by simp [Op.eqItems]
 rw [hn]
 have hd : decide ([a, b, c, d, e, f] = [0, 0, 0, 0, 0, 0]) = decide ((a : Int) = 0 ∧ (b : Int) = 0 ∧ (c : Int) = 0 ∧ (d : Int) = 0 ∧ (e : Int) = 0 ∧ (f : Int) = 0) := by
  rw [decide_eq_decide]; simp
 rw [hd]
 by_cases h1 : (a : Int) = 0 <;> by_cases h2 : (b : Int) = 0 <;> by_cases h3 : (c : Int) = 0 <;> by_cases h4 : (d : Int) = 0 <;> by_cases h5 : (e : Int) = 0 <;> by_cases h6 : (f : Int) = 0 <;> simp only [h1, h2, h3, h4, h5, h6, if_true, if_false, and_self, and_true, and_false, decide_true, decide_false]

set_option maxRecDepth 100000 in
set_option maxHeartbeats 1000000 in
theorem zero_any (l : List Nat) (w : World) (hl : l.length = 6) : Calls Tryz.prog 104 #[EV l] w fun e w' => e = .returned (.bool (decide (l = [0, 0, 0, 0, 0, 0]))) ∧ Below w.heap.size w w' := by
 obtain ⟨a, b, c, d, e, f, rfl⟩ := six hl
 simp only [EV, nts, List.map_cons, List.map_nil]
 have heq := eql_zero a b c d e f
 generalize decide ([a, b, c, d, e, f] = [0, 0, 0, 0, 0, 0]) = r at *
 go_enter Tryz.func104, Tryz.ntmps104
 go_wp2
 go_ret
 exact ⟨rfl, (Below.refl _ w).alloc (Nat.le_refl _) _⟩
end Go.Proofs.YtaemogcomplhiaaGreatDoor

namespace Go.Proofs.YtaemogcomplhiaaGreatDoor

def MontT (B M : Nat) (a b : List Nat) (T i : Nat) : Prop := T < M + val B b ∧ ∃ k, T * B ^ i = val B (a.take i) * val B b + k * M
theorem MontT.zero {B M : Nat} (a b : List Nat) (hM : 0 < M) : MontT B M a b 0 0 := ⟨by omega, 0, by simp⟩
theorem MontT.step {B M inv i q T T2 T4 : Nat} {a b : List Nat} (hB : 2 ≤ B) (h : MontT B M a b T i) (ha : dg a i < B) (hq : q = (T + dg a i * val B b) % B * inv % B) (h2 : T2 = T + dg a i * val B b + q * M) (h4 : T2 = B * T4) : MontT B M a b T4 (i + 1) := by
 have hq' : q < B := by rw [hq]; exact Nat.mod_lt _ (by omega)
 obtain ⟨hb, k, hk⟩ := h
 refine ⟨mont_bound (by omega) h2 hb ha hq' h4, k + q * B ^ i, ?_⟩
 rw [Nat.pow_succ, show T4 * (B ^ i * B) = (B * T4) * B ^ i by rw [Nat.mul_comm (B ^ i), ← Nat.mul_assoc, Nat.mul_comm T4], ← h4]
 exact mont_eq h2 hk (val_take_getD B a i)

def FirstAt (B : Nat) (t b o : List Nat) (f j c : Nat) : Prop := o.length = t.length ∧ (∀ p, j ≤ p → dg o p = dg t p) ∧ val B (o.take j) + B ^ j * c = val B (t.take j) + f * val B (b.take j)
theorem FirstAt.zero (B : Nat) (t b : List Nat) (f : Nat) : FirstAt B t b t f 0 0 := ⟨rfl, fun _ _ => rfl, by simp⟩
theorem FirstAt.step {B f j c s c' : Nat} {t b o : List Nat} (h : FirstAt B t b o f j c) (hj : j < t.length) (he : s + B * c' = dg o j + f * dg b j + c) : FirstAt B t b (o.set j s) f (j + 1) c' := by
 obtain ⟨h1, h2, h3⟩ := h
 refine ⟨by simpa using h1, fun p hp => by rw [getD_set_ne (by omega)]; exact h2 p (by omega), ?_⟩
 rw [val_take_set B (by omega), val_take_getD, val_take_getD, Nat.pow_succ, Nat.mul_assoc]
 have e := congrArg (fun z => B ^ j * z) he
 simp only [Nat.mul_add] at e
 rw [h2 j (Nat.le_refl _)] at e
 have e2 : B ^ j * (f * dg b j) = f * (B ^ j * dg b j) := Nat.mul_left_comm _ _ _
 rw [Nat.mul_add f]
 omega
theorem FirstAt.fin {B f n c s c' : Nat} {t b o : List Nat} (h : FirstAt B t b o f n c) (hn : n + 2 ≤ t.length) (hb : b.take n = b ∨ val B (b.take n) = val B b) (he : s + B * c' = dg o n + c) :
    ((o.set n s).set (n + 1) c').length = t.length ∧ val B (((o.set n s).set (n + 1) c').take (n + 2)) = val B (t.take (n + 1)) + f * val B b := by
  obtain ⟨h1, h2, h3⟩ := h
  have hb' : val B (b.take n) = val B b := by rcases hb with h | h; · rw [h]
                                              · exact h
  refine ⟨by simpa using h1, ?_⟩
  rw [val_take_set B (by simp; omega), val_take_set B (by omega), val_take_getD B t n, Nat.pow_succ]
  have e := congrArg (fun z => B ^ n * z) he
  simp only [Nat.mul_add] at e
  rw [h2 n (Nat.le_refl _), ← Nat.mul_assoc] at e
  rw [hb'] at h3
  omega

def ShiftAt (B : Nat) (t m o : List Nat) (u k c : Nat) : Prop := o.length = t.length ∧ (∀ p, k ≤ p → dg o p = dg t p) ∧ B * val B (o.take k) + B ^ (k + 1) * c = val B (t.take (k + 1)) + u * val B (m.take (k + 1))
theorem ShiftAt.zero {B u c : Nat} {t m : List Nat} (he : B * c = dg t 0 + u * dg m 0) : ShiftAt B t m t u 0 c := by
 refine ⟨rfl, fun _ _ => rfl, ?_⟩
 rw [val_take_getD, val_take_getD]
 simp
 exact he
theorem ShiftAt.step {B u k c s c' : Nat} {t m o : List Nat} (h : ShiftAt B t m o u k c) (hk : k < t.length) (he : s + B * c' = dg o (k + 1) + u * dg m (k + 1) + c) : ShiftAt B t m (o.set k s) u (k + 1) c' := by
 obtain ⟨h1, h2, h3⟩ := h
 refine ⟨by simpa using h1, fun p hp => by rw [getD_set_ne (by omega)]; exact h2 p (by omega), ?_⟩
 rw [val_take_set B (by omega), val_take_getD B t (k + 1), val_take_getD B m (k + 1)]
 have e := congrArg (fun z => B ^ (k + 1) * z) he
 simp only [Nat.mul_add] at e
 rw [h2 (k + 1) (by omega)] at e
 have e2 : B ^ (k + 1) * (u * dg m (k + 1)) = u * (B ^ (k + 1) * dg m (k + 1)) := Nat.mul_left_comm _ _ _
 have e3 : B ^ (k + 1) * (B * c') = B ^ (k + 1 + 1) * c' := by rw [← Nat.mul_assoc, ← Nat.pow_succ]
 have e4 : B * (B ^ k * s) = B ^ (k + 1) * s := by rw [← Nat.mul_assoc, Nat.mul_comm B, ← Nat.pow_succ]
 rw [Nat.mul_add B, Nat.mul_add u, e4]
 omega
theorem ShiftAt.fin {B u k c s c' : Nat} {t m o : List Nat} (h : ShiftAt B t m o u k c) (hn : k + 3 ≤ t.length) (hm : val B (m.take (k + 1)) = val B m) (he : s + B * c' = dg o (k + 1) + c) :
 ((o.set k s).set (k + 1) (dg o (k + 2) + c')).length = t.length ∧ B * val B (((o.set k s).set (k + 1) (dg o (k + 2) + c')).take (k + 2)) = val B (t.take (k + 3)) + u * val B m := by
 obtain ⟨h1, h2, h3⟩ := h
 refine ⟨by simpa using h1, ?_⟩
 rw [val_take_set B (by simp; omega), val_take_set B (by omega), val_take_getD B t (k + 2), val_take_getD B t (k + 1), h2 (k + 2) (by omega)]
 have e := congrArg (fun z => B ^ (k + 1) * z) he
 simp only [Nat.mul_add] at e
 rw [h2 (k + 1) (by omega)] at e
 rw [hm] at h3
 have e3 : B ^ (k + 1) * (B * c') = B ^ (k + 2) * c' := by rw [← Nat.mul_assoc, ← Nat.pow_succ]
 have e4 : B * (B ^ k * s) = B ^ (k + 1) * s := by rw [← Nat.mul_assoc, Nat.mul_comm B, ← Nat.pow_succ]
 have e5 : B * (B ^ (k + 1) * (dg t (k + 2) + c')) = B ^ (k + 2) * dg t (k + 2) + B ^ (k + 2) * c' := by rw [← Nat.mul_assoc, Nat.mul_comm B, ← Nat.pow_succ, Nat.mul_add]
 rw [Nat.mul_add B, Nat.mul_add B, e4, e5]
 omega
end Go.Proofs.YtaemogcomplhiaaGreatDoor
