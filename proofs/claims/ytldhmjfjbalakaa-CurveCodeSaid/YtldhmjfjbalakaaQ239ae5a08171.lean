/- What the reference's Bits, Bit and Bytes compute. The reference: a multiple of a point. The law's point: Point, of a curve. A polynomial is nothing if it is nothing at one point of great numbers (Kronecker): the addition law of a curve is associative, as an identity of polynomials. Nothing here speaks of the program. Primes: Fermat's little theorem, and that a number is prime by a prime part of its predecessor (Pocklington). Nothing here speaks of the program. The points of a curve y^2 = x^3 - 3 x + b over a field of p elements, with no point of order two, are a group under the sum by chord and tangent. Nothing here speaks of the program. The two curves' primes are prime. Nothing here speaks of the program. The fields of P-256 and P-384, and that their curves have no point of order two. Nothing here speaks of the program. Points by three numbers: doubling and adding them is the group's sum. Nothing here speaks of the program. -/
import Derived.Test.YtldhmjfjbalakaaQ5279198b4614
import Derived.RegionTactic
namespace Go.Proofs.Ytldhmjfjbalakaa
open Go.RowKit

theorem dg_last_pos32 {x : Nat} (hx : 0 < x) : 0 < dg (digs 4294967296 x) ((digs 4294967296 x).length - 1) := by
 have hne : digs 4294967296 x ≠ [] := by rw [digs_pos (by omega) hx]; simp
 have h := digs_last (B := 4294967296) (by omega) x hne
 have hpos := List.length_pos_iff.2 hne
 rw [List.getLast_eq_getElem] at h
 rw [dg, getD_eq' (by omega)]
 omega
theorem half_step (t k : Nat) : t / 2 ^ k / 2 = t / 2 ^ (k + 1) := by rw [Nat.div_div_eq_div_mul, Nat.pow_succ]

set_option maxRecDepth 100000 in
set_option maxHeartbeats 1000000 in
theorem refBits_any (P : Nat → Prop) (A : Option Addr) (c : Nat) (x : Nat) (w : World) (h : RN w P A c (digs 4294967296 x)) :
 Calls Try.prog 55 #[.slice A (digs 4294967296 x).length c] w fun e w' => e = .returned (.int .i64 (nbits x : Int)) ∧ w = w' := by
 rcases Nat.eq_zero_or_pos x with rfl | hx
 · rw [digs_zero]
   go_enter Try.func55, Try.ntmps55
   go_wp2
   go_ret
   exact ⟨rfl, rfl⟩
 · have htop := fun k hk h1 h2 => nbits_top (m := 32) (by omega) hx (k := k) hk h1 h2
   have hpos := dg_last_pos32 hx
   have hD := Dig.digs x
   obtain ⟨h1, h2, h3⟩ := h.cap
   have hne : 0 < (digs 4294967296 x).length := by rw [digs_pos (by omega) hx]; simp
   rw [show (2 : Nat) ^ 32 = 4294967296 by decide] at htop
   generalize digs 4294967296 x = l at *
   obtain ⟨n, hn⟩ : ∃ n, l.length = n + 1 := ⟨l.length - 1, by omega⟩
   obtain ⟨ad, rfl, _, q1⟩ := h.at_ (i := n) (by omega)
   rw [hn, Nat.add_sub_cancel] at htop hpos
   have hl := hD.dgLt n
   generalize dg l n = t at *
   rw [hn] at h1 h3 ⊢
   have Htop := Lib.hid htop
   have Hpos := Lib.hid hpos
   clear htop hpos hx hn hne h hD
   have Hl := Lib.hid hl
   clear hl
   go_enter Try.func55, Try.ntmps55
   go_wp2
   go_loop [4, 5] (fun kv tv => ∃ k z : Nat, kv = .int .i64 (k : Int) ∧ tv = .int .u64 (z : Int) ∧ Hid (z = t / 2 ^ k) ∧ Hid (z < 4294967296) ∧ k ≤ 32 ∧ (k = 0 ∨ 2 ^ (k - 1) ≤ t)) (fun kv _ => (33 - intOf kv).toNat)
   case atStart => exact ⟨0, t, rfl, rfl, Lib.hid (by simp), Hl, by omega, .inl rfl⟩
   case round =>
    obtain ⟨k, z, rfl, rfl, hz, hzl, hk, hor⟩ := hrel
    have Hor := Lib.hid hor
    clear hor
    by_cases h0 : z = 0
    · have hfin : nbits x = 32 * n + k := by
       have e := hz.out
       rw [h0] at e
       have hlt : t < 2 ^ k := by
        rcases Nat.lt_or_ge t (2 ^ k) with h | h
        · exact h
        · have := Nat.div_pos h (Nat.pow_pos (by omega)); omega
       have hk0 : 0 < k := by
        rcases Nat.eq_zero_or_pos k with rfl | h
        · have := Hpos.out; simp at hlt; omega
        · exact h
       rcases Hor.out with h | h
       · omega
       · exact Htop.out k hk0 h hlt
      have Hfin := Lib.hid hfin
      subst h0
      clear hfin
      go_wp2
      go_ret
      exact ⟨ret_int (by rw [Hfin.out]; simp), rfl⟩
    · have hk' : k < 32 := by
       rcases Nat.lt_or_ge k 32 with h | h
       · exact h
       · exfalso
         apply h0
         rw [hz.out]
         exact Nat.div_eq_of_lt (Nat.lt_of_lt_of_le Hl.out (by rw [show (4294967296 : Nat) = 2 ^ 32 by decide]; exact Nat.pow_le_pow_right (by omega) h))
      have hge : 2 ^ k ≤ t := by
       rcases Nat.lt_or_ge t (2 ^ k) with h | h
       · exfalso; apply h0; rw [hz.out]; exact Nat.div_eq_of_lt h
       · exact h
      have Hge := Lib.hid hge
      obtain ⟨z', hz', e1⟩ : ∃ z' : Nat, z / 2 = z' ∧ (z : Int) / 2 = (z' : Int) := ⟨z / 2, rfl, by omega⟩
      have hzz : Hid (z' = t / 2 ^ (k + 1)) := Lib.hid (by rw [← hz', hz.out, half_step])
      have hzl' : Hid (z' < 4294967296) := Lib.hid (by have := hzl.out; omega)
      have p1 : (0 : Int) < (z : Int) := by omega
      clear hge hz' h0
      go_wp2
      go_round
      case rel => exact ⟨k + 1, z', by go_num, by first | rfl | exact congrArg (Value.int .u64) (IntWalk.u64_in _ (by have := hzl'.out; omega)), hzz, hzl', by omega, .inr (by rw [Nat.add_sub_cancel]; exact Hge.out)⟩
      case measure => simp [intOf]; omega

theorem tmod2 (d j : Nat) : ((d : Int) / 2 ^ j).tmod 2 = ((d / 2 ^ j % 2 : Nat) : Int) := by
 rw [show (d : Int) / 2 ^ j = ((d / 2 ^ j : Nat) : Int) by simp]
 generalize d / 2 ^ j = z
 rw [Int.tmod_eq_emod_of_nonneg (by omega)]
 omega
theorem mod2 (d j : Nat) : IntKind.u64.wrap ((d : Int) / 2 ^ j % 2) = ((d / 2 ^ j % 2 : Nat) : Int) := by
 rw [show (d : Int) / 2 ^ j % 2 = ((d / 2 ^ j % 2 : Nat) : Int) by simp]
 generalize d / 2 ^ j = z
 exact IntWalk.u64_in _ (by omega)

set_option maxRecDepth 100000 in
set_option maxHeartbeats 1000000 in
theorem refBit_any (P : Nat → Prop) (A : Option Addr) (c : Nat) (x : Nat) (i : Int) (w : World) (h : RN w P A c (digs 4294967296 x)) (hi : i ≤ 9223372036854775807) :
 Calls Try.prog 57 #[.slice A (digs 4294967296 x).length c, .int .i64 i] w fun e w' => e = .returned (.int .u64 (bitOf x i : Int)) ∧ w = w' := by
 obtain ⟨h1, h2, h3⟩ := h.cap
 have hv := val_digs (B := 4294967296) (by omega) x
 have hD := Dig.digs x
 generalize digs 4294967296 x = a at *
 by_cases h0 : i < 0
 · have hb := Lib.hid (show bitOf x i = 0 by simp [bitOf, h0])
   go_enter Try.func57, Try.ntmps57
   go_wp2
   go_ret
   rw [hb.out]
   exact ⟨rfl, rfl⟩
 · obtain ⟨n, rfl⟩ : ∃ n : Nat, i = (n : Int) := ⟨i.toNat, by omega⟩
   obtain ⟨k, j, hj, hn⟩ : ∃ k j, j < 32 ∧ n = 32 * k + j := ⟨n / 32, n % 32, by omega, by omega⟩
   have hb : bitOf x (n : Int) = dg a k / 2 ^ j % 2 := by
    have := val_bit (m := 32) a hD k j hj
    rw [show (2 : Nat) ^ 32 = 4294967296 by decide, hv] at this
    rw [bitOf, if_neg h0, Int.toNat_natCast, hn]
    exact this
   have e1 : (n : Int) / 32 = (k : Int) := by omega
   have e2 : (n : Int) % 32 = (j : Int) := by omega
   have e4 : IntKind.i64.wrap ((n : Int) / 32) = (k : Int) := by rw [e1]; exact IntWalk.i64_in _ (by omega)
   by_cases hk : k < a.length
   · obtain ⟨ad, rfl, _, q1⟩ := h.at_ hk
     have hd := h.2.dgLt k
     have e3 := mod2 (dg a k) j
     have hj' : (j : Int) < 32 := by omega
     have hk' : (k : Int) < (a.length : Int) := by omega
     have Hb := Lib.hid hb
     clear hb hn hd h hi hD
     go_enter Try.func57, Try.ntmps57
     go_wp2
     go_ret
     exact ⟨ret_int (by rw [Hb.out]; exact tmod2 _ _), rfl⟩
   · have hd : dg a k = 0 := dg_none (by omega)
     rw [hd, Nat.zero_div] at hb
     have Hb := Lib.hid hb
     have hk' : ¬ (k : Int) < (a.length : Int) := by omega
     have hk2 : (a.length : Int) ≤ (k : Int) := by omega
     have hkb : (k : Int) ≤ 288230376151711743 := by omega
     clear hb hn hd h hi hD
     go_enter Try.func57, Try.ntmps57
     go_wp2
     go_ret
     rw [Hb.out]
     exact ⟨rfl, rfl⟩

def BackAt (x n : Nat) (o : List Nat) (k : Nat) : Prop := o.length = n ∧ (∀ j, j < n → n - 1 - j < k → dg o j = x / 2 ^ (8 * (n - 1 - j)) % 256) ∧ (∀ j, k ≤ n - 1 - j → dg o j = 0) ∧ ∀ b ∈ o, b < 256
theorem BackAt.zero (x n : Nat) : BackAt x n (List.replicate n 0) 0 := by
 refine ⟨by simp, fun j _ hj => by omega, fun j _ => ?_, fun b hb => by simp at hb; omega⟩
 rw [dg, List.getD_eq_getElem?_getD, List.getElem?_replicate]
 split <;> rfl
theorem BackAt.step {x n : Nat} {o : List Nat} {k b : Nat} (h : BackAt x n o k) (hk : k < n) (hb : x / 2 ^ (8 * k) % 256 = b) : BackAt x n (o.set (n - 1 - k) b) (k + 1) := by
 obtain ⟨h1, h2, h3, h4⟩ := h
 refine ⟨by simpa using h1, fun j hjn hj => ?_, fun j hj => by rw [getD_set_ne (by omega)]; exact h3 j (by omega), set_lt h4 (by omega)⟩
 rcases Nat.lt_or_ge (n - 1 - j) k with h | h
 · rw [getD_set_ne (by omega)]; exact h2 j hjn h
 · obtain rfl : j = n - 1 - k := by omega
   rw [getD_set_eq (by omega), show n - 1 - (n - 1 - k) = k by omega]; exact hb.symm
theorem BackAt.fin {x n : Nat} {o : List Nat} {k : Nat} (h : BackAt x n o k) (hk : ∀ j, k ≤ j → j < n → x / 2 ^ (8 * j) % 256 = 0) : o = bytesOf x n := by
 obtain ⟨h1, h2, h3, _⟩ := h
 apply List.ext_getElem (by rw [h1, bytesOf_length])
 intro i h4 h5
 have e : dg o i = x / 2 ^ (8 * (n - 1 - i)) % 256 := by
  rcases Nat.lt_or_ge (n - 1 - i) k with h | h
  · exact h2 i (by omega) h
  · rw [h3 i h, hk _ h (by omega)]
 rw [dg, getD_eq' h4] at e
 rw [e]
 simp [bytesOf]

set_option maxRecDepth 100000 in
set_option maxHeartbeats 1000000 in
theorem refBytes_yes (P : Nat → Prop) (A : Option Addr) (c : Nat) (x : Nat) (n : Nat) (w : World) (h : RN w P A c (digs 4294967296 x)) (hP : ∀ b, P b → b < w.heap.size) (hn : n ≤ 65536) (hn' : nbits x ≤ 8 * n) :
 Calls Try.prog 64 #[.slice A (digs 4294967296 x).length c, .int .i64 (n : Int)] w fun e w' => ∃ A1, e = .returned (.tuple #[.slice A1 n n, .bool true]) ∧
  RB w' (In w.heap.size w'.heap.size) A1 n (bytesOf x n) ∧ Below w.heap.size w w' := by
 obtain ⟨h1, h2, h3⟩ := h.cap
 have hb := Lib.hid (refBits_any P A c x w h)
 have hv := val_digs (B := 4294967296) (by omega) x
 have hD := Dig.digs x
 generalize digs 4294967296 x = a at *
 have hby := fun k j hj => val_byte (m := 32) a hD k j hj
 rw [show (2 : Nat) ^ 32 = 4294967296 by decide, hv] at hby
 generalize nbits x = k0 at *
 have hk0 : (k0 : Int) ≤ 8 * (n : Int) := by omega
 have Hby := Lib.hid hby
 clear hby hv hn' hD
 have hmk := run_make_row' (P := Try.prog) 49 5 (.int .u8 0) 1 Try.underlying49 info8 rfl .i64 .i64 n (by omega) (by omega)
 go_enter Try.func64, Try.ntmps64
 go_wp2_with fail
 refine hb.out.mono ?_
 rintro e w1 ⟨rfl, rfl⟩
 clear hb
 go_wp2
 go_loopw [7] (fun iv wr => ∃ (k : Nat) (o : List Nat), iv = .int .i64 (k : Int) ∧ k ≤ n ∧ BackAt x n o k ∧ Blk8 wr w.heap.size o ∧ Below w.heap.size w wr) (fun iv _ => n - (intOf iv).toNat)
 case atStart => exact ⟨0, List.replicate n 0, rfl, by omega, BackAt.zero x n, Blk8.made w n, (Below.refl _ w).alloc (Nat.le_refl _) _⟩
 case round =>
  obtain ⟨k, o, rfl, hk, hA, hblk, hB⟩ := hrel
  obtain ⟨q, r, hr, hkq⟩ : ∃ q r, r < 4 ∧ k = 4 * q + r := ⟨k / 4, k % 4, by omega, by omega⟩
  have e2 : (k : Int) / 4 = (q : Int) := by omega
  have e3 : (k : Int) % 4 = (r : Int) := by omega
  have hfin : (k = n ∨ a.length ≤ q) → RB wr (In w.heap.size wr.heap.size) (some ⟨w.heap.size, 0, none⟩) n (bytesOf x n) := fun hor => by
   have he : o = bytesOf x n := by
    refine hA.fin fun j hj hjn => ?_
    rcases hor with rfl | hor
    · omega
    · have := Hby.out (j / 4) (8 * (j % 4)) (by omega)
      rw [show 32 * (j / 4) + 8 * (j % 4) = 8 * j by omega, dg_none (by omega : a.length ≤ j / 4), Nat.zero_div] at this
      exact this
   have hrb := hblk.rb (P := In w.heap.size wr.heap.size) ⟨Nat.le_refl _, blk_lt hblk⟩ hA.2.2.2 (by have := hA.1; omega)
   rw [hA.1, he] at hrb
   exact hrb
  have Hfin := Lib.hid hfin
  clear hfin
  by_cases hlt : k < n
  · by_cases hq : q < a.length
    · obtain ⟨ad, rfl, had, q1⟩ := (h.below hB hP).at_ hq
      have hbv := Hby.out q (8 * r) (by omega)
      rw [show 32 * q + 8 * r = 8 * k by omega] at hbv
      obtain ⟨b, hbb⟩ : ∃ b, dg a q / 2 ^ (8 * r) % 256 = b := ⟨_, rfl⟩
      rw [hbb] at hbv
      have e4 := byte_wrap (dg a q) (8 * r)
      rw [hbb] at e4
      have hA' := hA.step hlt hbv
      obtain ⟨m, hm, e1⟩ : ∃ m, n - 1 - k = m ∧ (n : Int) - 1 - (k : Int) = (m : Int) := ⟨n - 1 - k, rfl, by omega⟩
      rw [hm] at hA'
      have q3 := hblk.cell (i := m) (by rw [hA.1]; omega)
      have q4 := hblk.free m
      have hblk' := hblk.set m b
      have hB' := hB.setCell (p := ⟨w.heap.size, m, none⟩) (Nat.le_refl _) (.int .u8 (b : Int))
      have k2 : (q : Int) < (a.length : Int) := by omega
      have k3 : (r : Int) < 4 := by omega
      have k1 : (m : Int) < (n : Int) := by omega
      clear hbb hbv hA hblk hB hkq hm Hfin
      go_wp2
      go_roundw
      case rel => exact ⟨k + 1, o.set m b, by go_num, by omega, hA', hblk', hB'⟩
      case measure => simp [intOf]; omega
    · have hrb := Hfin.out (.inr (by omega))
      have k2 : ¬ (q : Int) < (a.length : Int) := by omega
      clear hA hblk hkq Hfin
      go_wp2
      go_ret2
      exact ⟨_, rfl, hrb, hB⟩
  · have hrb := Hfin.out (.inl (by omega))
    clear hA hblk hkq Hfin
    go_wp2
    go_ret2
    exact ⟨_, rfl, hrb, hB⟩
end Go.Proofs.Ytldhmjfjbalakaa

namespace Go.Proofs.Ytldhmjfjbalakaa
open Go.RowKit

def rmS (M qx qy E : Nat) : Nat → Nat × Nat × Nat
 | 0 => (0, 0, 0)
 | k + 1 => if (bitAt E k).2 = 1 then mixP M (twP M (rmS M qx qy E k).1 (rmS M qx qy E k).2.1 (rmS M qx qy E k).2.2).1 (twP M (rmS M qx qy E k).1 (rmS M qx qy E k).2.1 (rmS M qx qy E k).2.2).2.1 (twP M (rmS M qx qy E k).1 (rmS M qx qy E k).2.1 (rmS M qx qy E k).2.2).2.2 qx qy else twP M (rmS M qx qy E k).1 (rmS M qx qy E k).2.1 (rmS M qx qy E k).2.2
def rdown (M x y z : Nat) : Option (Nat × Nat) := if z = 0 then none else let iv := (invNum z M).1; let u1 := mm M iv iv; some (mm M x u1, mm M y (mm M u1 iv))
def rmulP (M : Nat) (bi : Bool) (qx qy E : Nat) : Option (Nat × Nat) := if bi then none else rdown M (rmS M qx qy E (nbits E)).1 (rmS M qx qy E (nbits E)).2.1 (rmS M qx qy E (nbits E)).2.2
theorem invLoop_lt {m : Nat} : ∀ (n s : Nat), s ≤ n → ∀ r t u, t < m → u < m → (invLoop m r s t u).2 < m := by
 intro n
 induction n with
 | zero =>
  intro s hs r t u ht hu
  obtain rfl : s = 0 := by omega
  rw [invLoop_zero]
  exact ht
 | succ n ih =>
  intro s hs r t u ht hu
  rcases Nat.eq_zero_or_pos s with rfl | h0
  · rw [invLoop_zero]; exact ht
  · rw [invLoop_step (by omega)]
    exact ih (r % s) (by have := Nat.mod_lt r h0; omega) s u _ hu (Nat.mod_lt _ (by omega))
theorem invNum_lt {x m : Nat} (hm : 2 ≤ m) : (invNum x m).1 < m := by
 unfold invNum
 split
 · exact invLoop_lt (x % m) _ (Nat.le_refl _) _ _ _ (by omega) (by omega)
 · show 0 < m
   omega
def RJB (C : Crv) (X : World) (b : Nat) (p : Nat × Nat × Nat) : Prop := ∃ (A1 A2 A3 : Option Addr) (c1 c2 c3 : Nat), X.heap[b]? = some (.cells #[.slice A1 (digs 4294967296 p.1).length c1, .slice A2 (digs 4294967296 p.2.1).length c2, .slice A3 (digs 4294967296 p.2.2).length c3] 95 (0, 0)) ∧
 RU X A1 c1 (digs 4294967296 p.1) ∧ RU X A2 c2 (digs 4294967296 p.2.1) ∧ RU X A3 c3 (digs 4294967296 p.2.2) ∧ p.1 < C.M ∧ p.2.1 < C.M ∧ p.2.2 < C.M
set_option maxRecDepth 100000 in
set_option maxHeartbeats 16000000 in
theorem rmul_n {C : Crv} {ccs : Array Value} {An1 : Option Addr} {cn1 E : Nat} {bi : Bool} {B1 B2 : Option Addr} {m1 m2 qx qy : Nat} (hF : C.Fine) (h8 : 8 < C.M) (w : World) (hc : RC w C (.agg ccs)) (hn : RU w An1 cn1 (digs 4294967296 E)) (hq1 : RU w B1 m1 (digs 4294967296 qx)) (hq2 : RU w B2 m2 (digs 4294967296 qy)) (hqx : bi = false → qx < C.M ∧ qy < C.M) :
 Calls Try.prog 18 #[.agg ccs, .slice An1 (digs 4294967296 E).length cn1, .agg #[.bool bi, .slice B1 (digs 4294967296 qx).length m1, .slice B2 (digs 4294967296 qy).length m2]] w fun e w' => ∃ o, e = .returned o ∧ RPU w' o (rmulP C.M bi qx qy E) ∧ Ext w w' := by
 obtain ⟨Ap, An, Ab, Ax, Ay, cp, cn, cb, cx, cy, hccs, hP, hN, hB, hX1, hY1⟩ := hc
 injection hccs with hccs
 have hRC0 : RC w C (.agg ccs) := ⟨Ap, An, Ab, Ax, Ay, cp, cn, cb, cx, cy, by rw [hccs], hP, hN, hB, hX1, hY1⟩
 obtain ⟨W0, hW0⟩ : ∃ W0, W0 = ((w.alloc (.cells ccs 31)).alloc (.cells #[.bool bi, .slice B1 (digs 4294967296 qx).length m1, .slice B2 (digs 4294967296 qy).length m2] 34)).alloc (.cells #[.bool false, .slice none 0 0, .slice none 0 0] 34) := ⟨_, rfl⟩
 obtain ⟨q, hq⟩ : ∃ q, w.heap.size = q := ⟨_, rfl⟩
 have hE0 : Ext w W0 := by rw [hW0]; exact ((Ext.alloc _ _).trans (Ext.alloc _ _)).trans (Ext.alloc _ _)
 obtain ⟨hcb, hqb, hrb, hz0⟩ := three_w w (.cells ccs 31) (.cells #[.bool bi, .slice B1 (digs 4294967296 qx).length m1, .slice B2 (digs 4294967296 qy).length m2] 34) (.cells #[.bool false, .slice none 0 0, .slice none 0 0] 34)
 rw [← hW0, hq] at hcb hqb hrb hz0
 have t0 := blk_cell hqb 0
 have cP := blk_cell hcb 0
 rw [hccs] at cP
 simp only [List.getElem?_toArray, List.getElem?_cons_zero] at t0 cP
 have hRC := Lib.hid (hRC0.ext hE0)
 have Hccs := Lib.hid (show ccs.size = 6 by rw [hccs]; rfl)
 have HRP := Lib.hid (RN.up hP hE0)
 have HX4 := Lib.hid (RN.up hq1 hE0)
 have HX5 := Lib.hid (RN.up hq2 hE0)
 have HN := Lib.hid (RN.up hn hE0)
 have HF := Lib.hid hF
 have H8 := Lib.hid h8
 have hM0 : 0 < C.M := by omega
 have HE0 := Lib.hid hE0
 have Hz0 := Lib.hid hz0
 clear hRC0 hccs hP hN hB hX1 hY1 hF h8 hE0 hz0 hq1 hq2 hn
 cases bi
 case true =>
  rw [show rmulP C.M true qx qy E = none from rfl]
  go_enter Try.func18, Try.ntmps18
  go_upto_region 1 with fail
  rw [← hW0]
  have Hq := Lib.hid hq
  clear hW0 hq
  obtain ⟨z0, z1, z2, f0, f1, f2⟩ := pt_facts hrb
  go_wp2
  exact end_rpt rfl rfl rfl (pt_set hrb _ _ _) ⟨_, rfl, rfl, pt_ext HE0.out (by have := Hq.out; omega) _ _ _⟩
 case false =>
  obtain ⟨hqx1, hqy1⟩ := hqx rfl
  have hqxl := Lib.hid hqx1
  have hqyl := Lib.hid hqy1
  clear hqx1 hqy1 hqx
  obtain ⟨nb, hnb⟩ : ∃ n, nbits E = n := ⟨_, rfl⟩
  rw [show rmulP C.M false qx qy E = rdown C.M (rmS C.M qx qy E nb).1 (rmS C.M qx qy E nb).2.1 (rmS C.M qx qy E nb).2.2 by rw [← hnb]; rfl]
  have hnb2 : nb ≤ 64000000 := by
   have h1 := HN.out.cap
   rw [← hnb]
   refine Nat.le_trans (nbits_le (k := 32 * (digs 4294967296 E).length) ?_) (by omega)
   have := val_lt (digs_lt (B := 4294967296) (by omega) E)
   rw [val_digs (by omega)] at this
   rw [Nat.pow_mul]
   exact this
  obtain ⟨res, hres0⟩ : ∃ r, rdown C.M (rmS C.M qx qy E nb).1 (rmS C.M qx qy E nb).2.1 (rmS C.M qx qy E nb).2.2 = r := ⟨_, rfl⟩
  rw [hres0]
  have Hres := Lib.hid hres0
  have Hnb := Lib.hid hnb
  clear hnb hres0
  go_enter Try.func18, Try.ntmps18
  go_upto_region 1 with fail
  rw [← hW0]
  have Hq := Lib.hid hq
  have HW0 := Lib.hid hW0
  clear hW0 hq
  obtain ⟨b7, hb7⟩ : ∃ b, W0.heap.size = b := ⟨_, rfl⟩
  have g7 := heap_alloc_new W0 (.cells #[.slice none 0 0, .slice none 0 0, .slice none 0 0] 95)
  have hA7 := Ext.alloc W0 (.cells #[.slice none 0 0, .slice none 0 0, .slice none 0 0] 95)
  rw [hb7] at g7
  have hz7 : (W0.alloc (.cells #[.slice none 0 0, .slice none 0 0, .slice none 0 0] 95)).heap.size = b7 + 1 := by rw [World.size_alloc, hb7]
  go_upto_region 4 with fail
  clear t0
  generalize hW5 : W0.alloc (.cells #[.slice none 0 0, .slice none 0 0, .slice none 0 0] 95) = W5 at *
  have hbits := refBits_any _ An1 cn1 E W5 (RN.up HN.out hA7)
  rw [Hnb.out] at hbits
  have Hbits := Lib.hid hbits
  have hq7 : q + 3 ≤ b7 := by have := Hz0.out; omega
  have HE5 := Lib.hid (HE0.out.trans hA7)
  have HA7 := Lib.hid hA7
  have Hb7 := Lib.hid hb7
  have hJ0 : RJB C W5 b7 (rmS C.M qx qy E 0) := ⟨none, none, none, 0, 0, 0, by rw [show rmS C.M qx qy E 0 = (0, 0, 0) from rfl, digs_zero]; exact g7, RN.nil0 _, RN.nil0 _, RN.nil0 _, hM0, hM0, hM0⟩
  have hw0 : IntKind.i64.wrap ((nb : Int) - 1) = (nb : Int) - 1 := IntWalk.i64_in _ (by omega)
  clear hbits hA7 hW5 g7 hb7
  have Hcb := Lib.hid hcb
  have HcP := Lib.hid cP
  have Hqb := Lib.hid hqb
  have Hrb := Lib.hid hrb
  clear cP
  go_wp2_with (go_at_call 55; refine Hbits.out.mono ?_; rintro e w5 ⟨rfl, rfl⟩)
  clear hw0
  go_loopw [8] (fun iv wr => ∃ (k : Nat) (z : Int), k ≤ nb ∧ iv = .int .i64 z ∧ z = (nb : Int) - 1 - (k : Int) ∧ RJB C wr b7 (rmS C.M qx qy E k) ∧ Below b7 W5 wr) (fun iv _ => (intOf iv + 1).toNat)
  case atStart => exact ⟨0, _, by omega, rfl, by omega, hJ0, Below.refl _ _⟩
  case round =>
   obtain ⟨k, z, hk, rfl, hz, hJ, hBr⟩ := hrel
   have hWr : Ext W0 wr := Below.trans HA7.out (Below.mono hBr (Nat.le_of_eq Hb7.out))
   have HWr := Lib.hid hWr
   have hcw := hWr.at_ hcb
   have hqw := hWr.at_ hqb
   have hrw := hWr.at_ hrb
   have hRCw := Lib.hid (hRC.out.ext hWr)
   have HBr := Lib.hid hBr
   clear hWr
   obtain ⟨E1, E2, E3, d1, d2, d3, hbl, g1, g2, g3, g4, g5, g6⟩ := hJ
   have hzr := blk_lt hbl
   by_cases hlt : k < nb
   · have k1 : (0 : Int) ≤ z := by omega
     obtain ⟨so, hso⟩ : ∃ s, rmS C.M qx qy E k = s := ⟨_, rfl⟩
     have hstep : rmS C.M qx qy E (k + 1) = if (bitAt E k).2 = 1 then mixP C.M (twP C.M so.1 so.2.1 so.2.2).1 (twP C.M so.1 so.2.1 so.2.2).2.1 (twP C.M so.1 so.2.1 so.2.2).2.2 qx qy else twP C.M so.1 so.2.1 so.2.2 := by rw [← hso]; rfl
     have hbo : (bitOf E z : Nat) = (bitAt E k).2 := by
      rw [bitOf, if_neg (by omega), bitAt, Hnb.out, show z.toNat = nb - 1 - k by omega]
     have hbt2 : (bitAt E k).2 < 2 := Nat.mod_lt _ (by omega)
     rw [hso] at hbl g1 g2 g3 g4 g5 g6
     obtain ⟨bt, hbt⟩ : ∃ b, (bitAt E k).2 = b := ⟨_, rfl⟩
     rw [hbt] at hstep hbo hbt2
     have Hstep := Lib.hid hstep
     have Hbo := Lib.hid hbo
     have G1 := Lib.hid g1
     have G2 := Lib.hid g2
     have G3 := Lib.hid g3
     have G4 := Lib.hid g4
     have G5 := Lib.hid g5
     have G6 := Lib.hid g6
     have hzz : IntKind.i64.wrap (z - 1) = z - 1 := IntWalk.i64_in _ (by omega)
     have Hzz := Lib.hid hzz
     have Hz := Lib.hid hz
     clear hstep hbo g1 g2 g3 g4 g5 g6 hso hbt hz hBr hzz hcb hqb hrb hrw
     go_upto_region 7 with fail
     refine Par.region_txt 3 [0, 0, 3, 7] [] (fun j f X => match j with
      | 0 => f 0 = .agg ccs
      | 1 => f 1 = .agg #[.slice E1 (digs 4294967296 so.1).length d1, .slice E2 (digs 4294967296 so.2.1).length d2, .slice E3 (digs 4294967296 so.2.2).length d3]
      | 2 => ∃ o, f 2 = o ∧ JN X C o (twP C.M so.1 so.2.1 so.2.2)
      | _ => True) (by kernel_rfl) [(22, 0), (23, 1), (24, 2)] (by kernel_rfl) ?_
     refine lV0 1 2 hcw (by rw [Hccs.out]; exact infoRC) ?_
     refine lV0 2 1 hbl infoRJ ?_
     refine Par.c0 3 0 (fun f => #[f 0, f 1]) (F' := 56) (fun f X hX hR => ?_) ?_
     · have e0 : f 0 = _ := hR.out 0 rfl
       have e1 : f 1 = _ := hR.out 1 rfl
       simp only [e0, e1]
       refine (twice_n (p := so) HF.out H8.out X (hRCw.out.ext hX) ⟨E1, E2, E3, d1, d2, d3, rfl, RN.up G1.out hX, RN.up G2.out hX, RN.up G3.out hX, G4.out, G5.out, G6.out⟩).mono ?_
       rintro e w2 ⟨o, rfl, hj, hB⟩
       exact ⟨o, rfl, hB, fun Y hY => ⟨_, rfl, hj.ext hY⟩⟩
     refine Par.AllOps.fin ⟨fun f X hX hR hal hap => ?_⟩
     obtain ⟨vo, (e2 : f 2 = _), jo⟩ := hR 2 (by decide)
     simp only [yA, yB, yD, yE, e2]
     clear hR hal hap e2
     obtain ⟨D1, D2, D3, c1, c2, c3, ev, f1, f2, f3, f4, f5, f6⟩ := jo
     subst ev
     refine Par.Chain.next (fun K hK => ⟨Par.want (by kernel_rfl) (wp_storeV (cs' := #[.slice D1 (digs 4294967296 (twP C.M so.1 so.2.1 so.2.2).1).length c1, .slice D2 (digs 4294967296 (twP C.M so.1 so.2.1 so.2.2).2.1).length c2, .slice D3 (digs 4294967296 (twP C.M so.1 so.2.1 so.2.2).2.2).length c3]) (t := 95) 95 (.tmp 7) (.tmp 24) rfl rfl rfl rfl (hX.at_ hbl) infoRJ rfl (sl_one _ _ _ _ _ _ _ _ _) (fun Y hY1 hY2 hY3 => hK.out _ _ ?_))⟩)
     refine Par.Chain.done ?_
     obtain ⟨tw, htw⟩ : ∃ t, twP C.M so.1 so.2.1 so.2.2 = t := ⟨_, rfl⟩
     rw [htw] at Hstep hY1 f1 f2 f3 f4 f5 f6
     have F1 := Lib.hid (f1.offJ hY2 (hX.at_ hbl) (by kernel_rfl))
     have F2 := Lib.hid (f2.offJ hY2 (hX.at_ hbl) (by kernel_rfl))
     have F3 := Lib.hid (f3.offJ hY2 (hX.at_ hbl) (by kernel_rfl))
     have F4 := Lib.hid f4
     have F5 := Lib.hid f5
     have F6 := Lib.hid f6
     have HB2 := Lib.hid ((HBr.out.trans (Below.mono hX (by omega))).trans (hY2.below (Nat.le_refl _) (by have := hX.bsize; omega)))
     have hW2 : Ext W0 Y := Below.trans HA7.out (Below.mono HB2.out (Nat.le_of_eq Hb7.out))
     have hbY := hY1
     have zY := blk_lt hY1
     have HW2 := Lib.hid hW2
     have hbitY := refBit_any _ An1 cn1 E z Y (RN.up HN.out hW2) (by have := Hz.out; omega)
     rw [Hbo.out] at hbitY
     have HbitY := Lib.hid hbitY
     clear f1 f2 f3 f4 f5 f6 hX hY1 hY2 hY3 hbl hcw hqw hW2 hbitY htw
     rename World => V
     by_cases hb1 : bt = 1
     · have hst := Lib.hid (show rmS C.M qx qy E (k + 1) = mixP C.M tw.1 tw.2.1 tw.2.2 qx qy by rw [Hstep.out, if_pos hb1])
       subst hb1
       have hcV := HW2.out.at_ (show W0.heap[q]? = some (.cells ccs 31 (0, 0)) from Hcb.out)
       have hqV := HW2.out.at_ (show W0.heap[q + 1]? = some (.cells #[.bool false, .slice B1 (digs 4294967296 qx).length m1, .slice B2 (digs 4294967296 qy).length m2] 34 (0, 0)) from Hqb.out)
       go_upto_region 9 with (go_at_call 57; refine HbitY.out.mono ?_; rintro e w5 ⟨rfl, rfl⟩)
       refine Par.region_txt 4 [0, 0, 0, 7, 15] [] (fun j f X => match j with
        | 0 => f 0 = .agg ccs
        | 1 => f 1 = .agg #[.slice D1 (digs 4294967296 tw.1).length c1, .slice D2 (digs 4294967296 tw.2.1).length c2, .slice D3 (digs 4294967296 tw.2.2).length c3]
        | 2 => f 2 = .agg #[.bool false, .slice B1 (digs 4294967296 qx).length m1, .slice B2 (digs 4294967296 qy).length m2]
        | 3 => ∃ o, f 3 = o ∧ JN X C o (mixP C.M tw.1 tw.2.1 tw.2.2 qx qy)
        | _ => True) (by kernel_rfl) [(29, 0), (30, 1), (31, 2), (32, 3)] (by kernel_rfl) ?_
       refine lV0 1 3 hcV (by rw [Hccs.out]; exact infoRC) ?_
       refine lV0 2 2 hbY infoRJ ?_
       refine lV0 3 1 hqV infoRP ?_
       refine Par.c0 4 0 (fun f => #[f 0, f 1, f 2]) (F' := 58) (fun f X hX hR => ?_) ?_
       · have e0 : f 0 = _ := hR.out 0 rfl
         have e1 : f 1 = _ := hR.out 1 rfl
         have e2 : f 2 = _ := hR.out 2 rfl
         simp only [e0, e1, e2]
         refine (mixed_n (p := tw) HF.out H8.out X (hRC.out.ext (HW2.out.trans hX)) ⟨D1, D2, D3, c1, c2, c3, rfl, RN.up F1.out hX, RN.up F2.out hX, RN.up F3.out hX, F4.out, F5.out, F6.out⟩ (RN.up HX4.out (HW2.out.trans hX)) (RN.up HX5.out (HW2.out.trans hX)) hqxl.out hqyl.out).mono ?_
         rintro e w2 ⟨o, rfl, hj, hB⟩
         exact ⟨o, rfl, hB, fun Y hY => ⟨_, rfl, hj.ext hY⟩⟩
       refine Par.AllOps.fin ⟨fun f X hX hR hal hap => ?_⟩
       obtain ⟨vo, (e3 : f 3 = _), jo⟩ := hR 3 (by decide)
       simp only [yA, yB, yD, yE, e3]
       clear hR hal hap e3
       obtain ⟨H1, H2, H3, i1, i2, i3, ev, f1, f2, f3, f4, f5, f6⟩ := jo
       subst ev
       refine Par.Chain.next (fun K hK => ⟨Par.want (by kernel_rfl) (wp_storeV (cs' := #[.slice H1 (digs 4294967296 (mixP C.M tw.1 tw.2.1 tw.2.2 qx qy).1).length i1, .slice H2 (digs 4294967296 (mixP C.M tw.1 tw.2.1 tw.2.2 qx qy).2.1).length i2, .slice H3 (digs 4294967296 (mixP C.M tw.1 tw.2.1 tw.2.2 qx qy).2.2).length i3]) (t := 95) 95 (.tmp 7) (.tmp 32) rfl rfl rfl rfl (hX.at_ hbY) infoRJ rfl (sl_one _ _ _ _ _ _ _ _ _) (fun Y hY1 hY2 hY3 => hK.out _ _ ?_))⟩)
       refine Par.Chain.done ?_
       have hR2 : RJB C Y b7 (rmS C.M qx qy E (k + 1)) := by rw [hst.out]; exact ⟨H1, H2, H3, i1, i2, i3, hY1, f1.offJ hY2 (hX.at_ hbY) (by kernel_rfl), f2.offJ hY2 (hX.at_ hbY) (by kernel_rfl), f3.offJ hY2 (hX.at_ hbY) (by kernel_rfl), f4, f5, f6⟩
       have HR2 := Lib.hid hR2
       have HB3 := Lib.hid ((HB2.out.trans (Below.mono hX (by omega))).trans (hY2.below (Nat.le_refl _) (by have := hX.bsize; omega)))
       clear hR2 f1 f2 f3 f4 f5 f6 hX hY1 hY2 hY3 hbY hcV hqV
       have hzz := Hzz.out
       go_wp2
       refine ⟨⟨k + 1, z - 1, by omega, rfl, by have := Hz.out; omega, HR2.out, HB3.out⟩, ?_⟩
       simp [intOf]
       omega
     · obtain rfl : bt = 0 := by omega
       have hst := Lib.hid (show rmS C.M qx qy E (k + 1) = tw by rw [Hstep.out, if_neg hb1])
       have hzz := Hzz.out
       go_wp2_with (go_at_call 57; refine HbitY.out.mono ?_; rintro e w5 ⟨rfl, rfl⟩)
       refine ⟨⟨k + 1, z - 1, by omega, rfl, by have := Hz.out; omega, by rw [hst.out]; exact ⟨D1, D2, D3, c1, c2, c3, hbY, F1.out, F2.out, F3.out, F4.out, F5.out, F6.out⟩, HB2.out⟩, ?_⟩
       simp [intOf]
       omega
   · obtain rfl : k = nb := by omega
     have k1 : ¬ (0 : Int) ≤ z := by omega
     obtain ⟨so, hso⟩ : ∃ s, rmS C.M qx qy E k = s := ⟨_, rfl⟩
     obtain ⟨sx, sy, sz⟩ := so
     rw [hso] at hbl g1 g2 g3 g4 g5 g6
     simp only at hbl g1 g2 g3 g4 g5 g6
     have Hr := Lib.hid (show rdown C.M sx sy sz = res by rw [← Hres.out, hso])
     have s0 := blk_cell hbl 0
     have s1 := blk_cell hbl 1
     have s2 := blk_cell hbl 2
     have cPw := HWr.out.cell HcP.out
     simp only [List.getElem?_toArray, List.getElem?_cons_zero, List.getElem?_cons_succ] at s0 s1 s2
     have HS1 := Lib.hid g1
     have HS2 := Lib.hid g2
     have HS3 := Lib.hid g3
     have hsx := Lib.hid g4
     have hsy := Lib.hid g5
     have hsz := Lib.hid g6
     have HEw := Lib.hid (HE0.out.trans HWr.out)
     replace HRP := Lib.hid (RN.up HRP.out HWr.out)
     replace hRC := hRCw
     have hE := Ext.refl wr
     clear g1 g2 g3 g4 g5 g6 hbl hso hz hBr hcb hqb hrb hqw
     by_cases hz0 : sz = 0
     · obtain rfl : res = none := by rw [← Hr.out, rdown, if_pos hz0]
       replace hz0 := Lib.hid hz0
       go_upto_region 10 with fail
       refine Par.region_txt 4 [0, 1, 3, 7] [] (fun j f X => match j with
        | 0 => f 0 = .pointer (some ⟨b7, 2, none⟩)
        | 1 => f 1 = .slice E3 (digs 4294967296 sz).length d3
        | 2 => f 2 = .int .i64 ((digs 4294967296 sz).length : Int)
        | 3 => f 3 = .bool true
        | _ => True) (by kernel_rfl) [(33, 0), (34, 1), (35, 2), (36, 3)] (by kernel_rfl) ?_
       refine Par.v0 1 3 ?_
       refine Par.ld1 2 2 0 (hE.cell s2) ?_
       refine Par.S 3 1 [(33, 0), (34, 1)] (fun f X hX hR K hK => ?_) ?_
       · have e1 : f 1 = _ := hR.out 1 rfl
         simp only [yA, yB, yC, yD, yE, e1]
         refine ⟨?_⟩
         go_simp
         exact Par.k hK (s := by simp only [yA, yB, yC, yD, yE, e1])
       refine Par.S 4 0 [(33, 0), (34, 1), (35, 2)] (fun f X hX hR K hK => ?_) ?_
       · have e2 : f 2 = _ := hR.out 2 rfl
         have hz1 : decide (((digs 4294967296 sz).length : Int) = 0) = true := zdec_true hz0.out
         have hz2 : decide ((digs 4294967296 sz).length = 0) = true := zden_true hz0.out
         have hz4 : ((((digs 4294967296 sz).length : Nat) : Int) == 0) = true := zbeq_true hz0.out
         simp only [yA, yB, yC, yD, yE, e2]
         refine ⟨?_⟩
         go_simp
         exact Par.k hK (s := by simp only [yA, yB, yC, yD, yE, e2])
       refine Par.AllOps.fin ⟨fun f X hX hR hal hap => ?_⟩
       have e3 : f 3 = _ := hR 3 (by decide)
       simp only [yA, yB, yD, yE, e3]
       clear hR hal hap e3
       refine Par.Chain.done ?_
       replace hE := hE.trans hX
       clear hX  
       rename World => X10_k
       have hb1 := hE.at_ hrw
       obtain ⟨z0, z1, z2, f0, f1, f2⟩ := pt_facts hb1
       go_wp2
       exact end_rpt rfl rfl rfl (pt_set hb1 _ _ _) ⟨_, rfl, rfl, pt_ext (HEw.out.trans hE) (by have := Hq.out; omega) _ _ _⟩
     · obtain ⟨iv, hiv⟩ : ∃ v, (invNum sz C.M).1 = v := ⟨_, rfl⟩
       obtain ⟨ib, hib⟩ : ∃ v, (invNum sz C.M).2 = v := ⟨_, rfl⟩
       have hivl := Lib.hid (show iv < C.M by rw [← hiv]; exact invNum_lt (by have := HF.out.three; omega))
       have Hiv := Lib.hid hiv
       have Hib := Lib.hid hib
       obtain ⟨u1, e_u1⟩ : ∃ v, mm C.M iv iv = v := ⟨_, rfl⟩
       have L_u1 := Lib.hid (show u1 < C.M by rw [← e_u1]; exact mm_lt hM0 _ _)
       have E_u1 := Lib.hid e_u1
       clear e_u1
       obtain ⟨u2, e_u2⟩ : ∃ v, mm C.M sx u1 = v := ⟨_, rfl⟩
       have L_u2 := Lib.hid (show u2 < C.M by rw [← e_u2]; exact mm_lt hM0 _ _)
       have E_u2 := Lib.hid e_u2
       clear e_u2
       obtain ⟨u3, e_u3⟩ : ∃ v, mm C.M u1 iv = v := ⟨_, rfl⟩
       have L_u3 := Lib.hid (show u3 < C.M by rw [← e_u3]; exact mm_lt hM0 _ _)
       have E_u3 := Lib.hid e_u3
       clear e_u3
       obtain ⟨u4, e_u4⟩ : ∃ v, mm C.M sy u3 = v := ⟨_, rfl⟩
       have L_u4 := Lib.hid (show u4 < C.M by rw [← e_u4]; exact mm_lt hM0 _ _)
       have E_u4 := Lib.hid e_u4
       clear e_u4
       obtain rfl : res = some (u2, u4) := by rw [← Hr.out, rdown, if_neg hz0]; simp only [Hiv.out, E_u1.out, E_u2.out, E_u3.out, E_u4.out]
       clear hiv hib
       replace hz0 := Lib.hid hz0
       go_upto_region 10 with fail
       refine Par.region_txt 4 [0, 1, 3, 7] [] (fun j f X => match j with
        | 0 => f 0 = .pointer (some ⟨b7, 2, none⟩)
        | 1 => f 1 = .slice E3 (digs 4294967296 sz).length d3
        | 2 => f 2 = .int .i64 ((digs 4294967296 sz).length : Int)
        | 3 => f 3 = .bool false
        | _ => True) (by kernel_rfl) [(33, 0), (34, 1), (35, 2), (36, 3)] (by kernel_rfl) ?_
       refine Par.v0 1 3 ?_
       refine Par.ld1 2 2 0 (hE.cell s2) ?_
       refine Par.S 3 1 [(33, 0), (34, 1)] (fun f X hX hR K hK => ?_) ?_
       · have e1 : f 1 = _ := hR.out 1 rfl
         simp only [yA, yB, yC, yD, yE, e1]
         refine ⟨?_⟩
         go_simp
         exact Par.k hK (s := by simp only [yA, yB, yC, yD, yE, e1])
       refine Par.S 4 0 [(33, 0), (34, 1), (35, 2)] (fun f X hX hR K hK => ?_) ?_
       · have e2 : f 2 = _ := hR.out 2 rfl
         have hz1 : decide (((digs 4294967296 sz).length : Int) = 0) = false := zdec_false hz0.out
         have hz2 : decide ((digs 4294967296 sz).length = 0) = false := zden_false hz0.out
         have hz4 : ((((digs 4294967296 sz).length : Nat) : Int) == 0) = false := zbeq_false hz0.out
         simp only [yA, yB, yC, yD, yE, e2]
         refine ⟨?_⟩
         go_simp
         exact Par.k hK (s := by simp only [yA, yB, yC, yD, yE, e2])
       refine Par.AllOps.fin ⟨fun f X hX hR hal hap => ?_⟩
       have e3 : f 3 = _ := hR 3 (by decide)
       simp only [yA, yB, yD, yE, e3]
       clear hR hal hap e3
       refine Par.Chain.done ?_
       replace hE := hE.trans hX
       clear hX  
       rename World => X10_k
       go_upto_region 12 with fail
       refine Par.region_txt 10 [0, 1, 0, 4, 15, 31, 63, 63, 127, 511] [] (fun j f X => match j with
        | 0 => f 0 = .pointer (some ⟨b7, 2, none⟩)
        | 1 => f 1 = .slice E3 (digs 4294967296 sz).length d3
        | 2 => f 2 = .pointer (some ⟨q, 0, none⟩)
        | 3 => f 3 = .slice Ap (digs 4294967296 C.M).length cp
        | 4 => ∃ A1 c1, f 4 = .tuple #[.slice A1 (digs 4294967296 iv).length c1, .bool ib] ∧ RU X A1 c1 (digs 4294967296 iv)
        | 5 => ∃ A1 c1, f 5 = .tuple #[.slice A1 (digs 4294967296 iv).length c1, .bool ib] ∧ RU X A1 c1 (digs 4294967296 iv)
        | 6 => ∃ A1 c1, f 6 = .slice A1 (digs 4294967296 iv).length c1 ∧ RU X A1 c1 (digs 4294967296 iv)
        | 7 => f 7 = .bool ib
        | 8 => ∃ A1 c1, f 8 = .slice A1 (digs 4294967296 iv).length c1 ∧ RU X A1 c1 (digs 4294967296 iv)
        | 9 => f 9 = .bool ib
        | _ => True) (by kernel_rfl) [(39, 0), (40, 1), (41, 2), (42, 3), (43, 4), (38, 5), (44, 6), (45, 7), (9, 8), (10, 9)] (by kernel_rfl) ?_
       refine Par.v0 1 9 ?_
       refine Par.ld1 2 8 0 (hE.cell s2) ?_
       refine Par.v0 3 7 ?_
       refine Par.ld1 4 6 2 (hE.cell cPw) ?_
       refine Par.c0 5 5 (fun f => #[f 1, f 3]) (F' := 59) (fun f X hX hR => ?_) ?_
       · have e1 : f 1 = _ := hR.out 1 rfl
         have e3 : f 3 = _ := hR.out 3 rfl
         simp only [e1, e3]
         refine (refInverse_any E3 Ap d3 cp sz C.M X (RN.up HS3.out (hE.trans hX)) (RN.up HRP.out (hE.trans hX)) (by have := HF.out.len' hsz.out; omega) (by have := HF.out.len; omega) (by have := HF.out.three; omega)).mono ?_
         rw [Hiv.out, Hib.out]
         rintro e w2 ⟨A1, c1, rfl, hO, hB⟩
         exact ⟨_, rfl, hB, fun Y hY => ⟨A1, c1, rfl, RN.up hO hY⟩⟩
       refine Par.S 6 4 [(39, 0), (40, 1), (41, 2), (42, 3), (43, 4)] (fun f X hX hR K hK => ?_) ?_
       · obtain ⟨A4, c4, (e4 : f 4 = _), o4⟩ := hR.out 4 rfl
         simp only [yA, yB, yC, yD, yE, e4]
         refine ⟨?_⟩
         go_simp
         exact hK.out _ _ _ (by simp only [yA, yB, yC, yD, yE, e4]) (Ext.refl _) trivial (fun Y hY => ⟨A4, c4, rfl, RN.up o4 hY⟩)
       refine Par.S 7 3 [(39, 0), (40, 1), (41, 2), (42, 3), (43, 4), (38, 5), (45, 7)] (fun f X hX hR K hK => ?_) ?_
       · obtain ⟨A5, c5, (e5 : f 5 = _), o5⟩ := hR.out 5 rfl
         simp only [yA, yB, yC, yD, yE, e5]
         refine ⟨?_⟩
         go_simp
         exact hK.out _ _ _ (by simp only [yA, yB, yC, yD, yE, e5]) (Ext.refl _) trivial (fun Y hY => ⟨A5, c5, rfl, RN.up o5 hY⟩)
       refine Par.S 8 2 [(39, 0), (40, 1), (41, 2), (42, 3), (43, 4), (38, 5), (44, 6), (9, 8)] (fun f X hX hR K hK => ?_) ?_
       · obtain ⟨A5, c5, (e5 : f 5 = _), o5⟩ := hR.out 5 rfl
         simp only [yA, yB, yC, yD, yE, e5]
         refine ⟨?_⟩
         go_simp
         exact Par.k hK (s := by simp only [yA, yB, yC, yD, yE, e5])
       refine Par.S 9 1 [(39, 0), (40, 1), (41, 2), (42, 3), (43, 4), (38, 5), (44, 6), (45, 7)] (fun f X hX hR K hK => ?_) ?_
       · obtain ⟨A6, c6, (e6 : f 6 = _), o6⟩ := hR.out 6 rfl
         simp only [yA, yB, yC, yD, yE, e6]
         refine ⟨?_⟩
         go_simp
         exact hK.out _ _ _ (by simp only [yA, yB, yC, yD, yE, e6]) (Ext.refl _) trivial (fun Y hY => ⟨A6, c6, rfl, RN.up o6 hY⟩)
       refine Par.v1 10 0 7 ?_
       refine Par.AllOps.fin ⟨fun f X hX hR hal hap => ?_⟩
       obtain ⟨A4, c4, (e4 : f 4 = _), o4⟩ := hR 4 (by decide)
       obtain ⟨A5, c5, (e5 : f 5 = _), o5⟩ := hR 5 (by decide)
       obtain ⟨A6, c6, (e6 : f 6 = _), o6⟩ := hR 6 (by decide)
       obtain ⟨A8, c8, (e8 : f 8 = _), o8⟩ := hR 8 (by decide)
       simp only [yA, yB, yD, yE, e4, e5, e6, e8]
       clear hR hal hap e4 e5 e6 e8
       refine Par.Chain.done ?_
       replace hE := hE.trans hX
       have N9 := Lib.hid o8
       clear hX o4 o5 o6 o8
       rename World => X12
       go_upto_region 13 with fail
       refine Par.region_txt 5 [0, 0, 0, 7, 15] [] (fun j f X => match j with
        | 0 => f 0 = .agg ccs
        | 1 => f 1 = .slice A8 (digs 4294967296 iv).length c8
        | 2 => f 2 = .slice A8 (digs 4294967296 iv).length c8
        | 3 => ∃ A1 c1, f 3 = .slice A1 (digs 4294967296 u1).length c1 ∧ RU X A1 c1 (digs 4294967296 u1)
        | 4 => ∃ A1 c1, f 4 = .slice A1 (digs 4294967296 u1).length c1 ∧ RU X A1 c1 (digs 4294967296 u1)
        | _ => True) (by kernel_rfl) [(46, 0), (47, 1), (48, 2), (49, 3), (11, 4)] (by kernel_rfl) ?_
       refine lV0 1 4 (hE.at_ hcw) (by rw [Hccs.out]; exact infoRC) ?_
       refine Par.v0 2 3 ?_
       refine Par.v0 3 2 ?_
       refine rc 4 1 0 1 2 (fun _ _ hX h => ⟨_, _, h, (RN.up N9.out hX)⟩) (fun _ _ hX h => ⟨_, _, h, (RN.up N9.out hX)⟩) (fun X hX _ _ _ _ h h' => times_r X HF.out (hRC.out.ext (hE.trans hX)) h h' hivl.out hivl.out) E_u1.out ?_
       refine Par.S 5 0 [(46, 0), (47, 1), (48, 2), (49, 3)] (fun f X hX hR K hK => ?_) ?_
       · obtain ⟨A13_3, c13_3, (e3 : f 3 = _), o13_3⟩ := hR.out 3 rfl
         simp only [yA, yB, yC, yD, yE, e3]
         refine ⟨?_⟩
         go_simp
         exact hK.out _ _ _ (by simp only [yA, yB, yC, yD, yE, e3]) (Ext.refl _) trivial (fun Y hY => ⟨A13_3, c13_3, rfl, RN.up o13_3 hY⟩)
       refine Par.AllOps.fin ⟨fun f X hX hR hal hap => ?_⟩
       obtain ⟨A13_3, c13_3, (e3 : f 3 = _), o13_3⟩ := hR 3 (by decide)
       obtain ⟨A13_4, c13_4, (e4 : f 4 = _), o13_4⟩ := hR 4 (by decide)
       simp only [yA, yB, yD, yE, e3, e4]
       clear hR hal hap e3 e4
       refine Par.Chain.done ?_
       replace hE := hE.trans hX
       replace N9 := Lib.hid (RN.up N9.out hX)
       have N11 := Lib.hid o13_4
       clear hX o13_3 o13_4
       rename World => X13_k
       have hb1 := hE.at_ hrw
       go_upto_region 14 with fail
       refine Par.region_ext (by kernel_rfl) 14 [0, 0, 2, 0, 15, 0, 0, 64, 0, 0, 0, 1823, 4095, 8191, 16383] [] (fun j f X => match j with
        | 0 => f 0 = .agg ccs
        | 1 => f 1 = .pointer (some ⟨b7, 0, none⟩)
        | 2 => f 2 = .slice E1 (digs 4294967296 sx).length d1
        | 3 => f 3 = .slice A13_4 (digs 4294967296 u1).length c13_4
        | 4 => ∃ A1 c1, f 4 = .slice A1 (digs 4294967296 u2).length c1 ∧ RU X A1 c1 (digs 4294967296 u2)
        | 5 => f 5 = .agg ccs
        | 6 => f 6 = .pointer (some ⟨b7, 1, none⟩)
        | 7 => f 7 = .slice E2 (digs 4294967296 sy).length d2
        | 8 => f 8 = .agg ccs
        | 9 => f 9 = .slice A13_4 (digs 4294967296 u1).length c13_4
        | 10 => f 10 = .slice A8 (digs 4294967296 iv).length c8
        | 11 => ∃ A1 c1, f 11 = .slice A1 (digs 4294967296 u3).length c1 ∧ RU X A1 c1 (digs 4294967296 u3)
        | 12 => ∃ A1 c1, f 12 = .slice A1 (digs 4294967296 u4).length c1 ∧ RU X A1 c1 (digs 4294967296 u4)
        | 13 => ∃ A1 c1 A2 c2, f 13 = .agg #[.bool false, .slice A1 (digs 4294967296 u2).length c1, .slice A2 (digs 4294967296 u4).length c2] ∧ RU X A1 c1 (digs 4294967296 u2) ∧ RU X A2 c2 (digs 4294967296 u4)
        | _ => True) (by kernel_rfl) [(50, 0), (51, 1), (52, 2), (53, 3), (54, 4), (55, 5), (56, 6), (57, 7), (58, 8), (59, 9), (60, 10), (61, 11), (62, 12), (63, 13)] (by kernel_rfl) ?_
       refine lV0 1 13 (hE.at_ hcw) (by rw [Hccs.out]; exact infoRC) ?_
       refine Par.v0 2 12 ?_
       refine Par.ld1 3 11 1 (hE.cell s0) ?_
       refine Par.v0 4 10 ?_
       refine rc 5 9 0 2 3 (fun _ _ hX h => ⟨_, _, h, (RN.up HS1.out (hE.trans hX))⟩) (fun _ _ hX h => ⟨_, _, h, (RN.up N11.out hX)⟩) (fun X hX _ _ _ _ h h' => times_r X HF.out (hRC.out.ext (hE.trans hX)) h h' hsx.out L_u1.out) E_u2.out ?_
       refine lV0 6 8 (hE.at_ hcw) (by rw [Hccs.out]; exact infoRC) ?_
       refine Par.v0 7 7 ?_
       refine Par.ld1 8 6 6 (hE.cell s1) ?_
       refine lV0 9 5 (hE.at_ hcw) (by rw [Hccs.out]; exact infoRC) ?_
       refine Par.v0 10 4 ?_
       refine Par.v0 11 3 ?_
       refine rc 12 2 8 9 10 (fun _ _ hX h => ⟨_, _, h, (RN.up N11.out hX)⟩) (fun _ _ hX h => ⟨_, _, h, (RN.up N9.out hX)⟩) (fun X hX _ _ _ _ h h' => times_r X HF.out (hRC.out.ext (hE.trans hX)) h h' L_u1.out hivl.out) E_u3.out ?_
       refine rc 13 1 5 7 11 (fun _ _ hX h => ⟨_, _, h, (RN.up HS2.out (hE.trans hX))⟩) (fun _ _ _ h => h) (fun X hX _ _ _ _ h h' => times_r X HF.out (hRC.out.ext (hE.trans hX)) h h' hsy.out L_u3.out) E_u4.out ?_
       refine Par.S 14 0 [(50, 0), (51, 1), (52, 2), (53, 3), (54, 4), (55, 5), (56, 6), (57, 7), (58, 8), (59, 9), (60, 10), (61, 11), (62, 12)] (fun f X hX hR K hK => ?_) ?_
       · obtain ⟨A14_4, c14_4, (e4 : f 4 = _), o14_4⟩ := hR.out 4 rfl
         obtain ⟨A14_12, c14_12, (e12 : f 12 = _), o14_12⟩ := hR.out 12 rfl
         simp only [yA, yB, yC, yD, yE, e4, e12]
         refine ⟨?_⟩
         go_simp
         exact hK.out _ _ _ (by simp only [yA, yB, yC, yD, yE, e4, e12]) (Ext.refl _) trivial (fun Y hY => ⟨_, _, _, _, rfl, RN.up o14_4 hY, RN.up o14_12 hY⟩)
       refine Par.AllOps.fin ⟨fun f X hX hR hal hap => ?_⟩
       obtain ⟨A14_4, c14_4, (e4 : f 4 = _), o14_4⟩ := hR 4 (by decide)
       obtain ⟨A14_11, c14_11, (e11 : f 11 = _), o14_11⟩ := hR 11 (by decide)
       obtain ⟨A14_12, c14_12, (e12 : f 12 = _), o14_12⟩ := hR 12 (by decide)
       obtain ⟨Ax1, cx1, Ay1, cy1, (e13 : f 13 = _), ox1, oy1⟩ := hR 13 (by decide)
       simp only [yA, yB, yD, yE, e4, e11, e12, e13]
       clear hR hal hap e4 e11 e12 e13
       refine Par.Chain.next (fun K hK => ⟨Par.want (by kernel_rfl) (wp_storeV (cs' := #[.bool false, .slice Ax1 (digs 4294967296 u2).length cx1, .slice Ay1 (digs 4294967296 u4).length cy1]) (t := 34) 34 (.tmp 6) (.tmp 63) rfl rfl rfl rfl (hX.at_ hb1) infoRP rfl (pt_one _ _ _ _ _ _ _) (fun Y hY1 hY2 hY3 => hK.out _ _ ?_))⟩)
       refine Par.Chain.done ?_
       go_wp2
       exact end_rpt rfl rfl rfl hY1 ⟨_, rfl, ⟨_, _, _, _, rfl, ox1.offJ hY2 (hX.at_ hb1) (by kernel_rfl), oy1.offJ hY2 (hX.at_ hb1) (by kernel_rfl)⟩, hY2.ext (HEw.out.trans (hE.trans hX)) (by have := Hq.out; omega)⟩
end Go.Proofs.Ytldhmjfjbalakaa

namespace Go.Proofs.Ytldhmjfjbalakaa
open Go.RowKit

theorem IsC.ptlt {c : Int} {C : Crv} (h : IsC c C) : val 18446744073709551616 C.xl < C.M ∧ val 18446744073709551616 C.yl < C.M ∧ 8 < C.M := by
 rcases h with ⟨_, rfl⟩ | ⟨_, rfl⟩ <;> exact ⟨by decide +kernel, by decide +kernel, by decide +kernel⟩
theorem seven_facts {W : World} {g : Nat} {ty : TypeId} {x0 x1 x2 x3 x4 x5 : Value} (h : W.heap[g]? = some (.cells #[x0, x1, x2, x3, x4, x5] ty (0, 0))) :
 W.cell? ⟨g, 0, none⟩ = some x0 ∧ W.cell? ⟨g, 1, none⟩ = some x1 ∧ W.cell? ⟨g, 2, none⟩ = some x2 ∧ W.cell? ⟨g, 3, none⟩ = some x3 ∧ W.cell? ⟨g, 4, none⟩ = some x4 ∧ W.cell? ⟨g, 5, none⟩ = some x5 :=
 ⟨blk_cell h 0, blk_cell h 1, blk_cell h 2, blk_cell h 3, blk_cell h 4, blk_cell h 5⟩
theorem rmulP_lt {M : Nat} (hM : 0 < M) {bi : Bool} {qx qy E : Nat} {p : Nat × Nat} (h : rmulP M bi qx qy E = some p) : p.1 < M ∧ p.2 < M := by
 unfold rmulP rdown at h
 split at h
 · cases h
 · split at h
   · cases h
   · injection h with h
     subst h
     exact ⟨Nat.mod_lt _ hM, Nat.mod_lt _ hM⟩
def PtO (R : Option (Nat × Nat)) (bi : Bool) (x y : Nat) : Prop := bi = R.isNone ∧ x = R.elim 0 (·.1) ∧ y = R.elim 0 (·.2)
def PtD (bi : Bool) (a b : List Nat) (R : Option (Nat × Nat)) : Prop := ∃ x y, PtO R bi x y ∧ a = digs 18446744073709551616 x ∧ b = digs 18446744073709551616 y
def PtG (sp bi : Bool) (a b : List Nat) (R : Option (Nat × Nat)) : Prop := sp = false → PtD bi a b R
theorem RPU.split {w : World} {v : Value} {o : Option (Nat × Nat)} {M : Nat} (h : RPU w v o) (hM : 0 < M) (ho : ∀ p, o = some p → p.1 < M ∧ p.2 < M) : ∃ bi x y, RPv w v bi x y ∧ x < M ∧ y < M ∧ PtO o bi x y := by
 cases o with
 | none => exact ⟨_, _, _, h.pv, hM, hM, rfl, rfl, rfl⟩
 | some p => exact ⟨_, _, _, h.pv, (ho p rfl).1, (ho p rfl).2, rfl, rfl, rfl⟩
theorem IsC.dlen {c : Int} {C : Crv} (h : IsC c C) {x : Nat} (hx : x < C.M) : (digs 18446744073709551616 x).length < 100000 := by
 have h1 : x < 18446744073709551616 ^ 6 := by
  rcases h with ⟨_, rfl⟩ | ⟨_, rfl⟩ <;> exact Nat.lt_trans hx (by decide +kernel)
 have := digs_length_of_lt (B := 18446744073709551616) (by omega) h1
 omega
theorem xor_nat {v : Nat} (hv : v < 18446744073709551616) : ∃ m : Nat, bits BinOp.xor IntKind.u64 (v : Int) 1 = (m : Int) ∧ m < 18446744073709551616 :=
 ⟨v ^^^ 1, bits_xor_u64_nat v 1 hv (by omega), Nat.xor_lt_two_pow (n := 64) (by omega) (by omega)⟩
theorem OB.off_set {Y : World} {base g n : Nat} {A : Option Addr} {c : Nat} {l : List Nat} (h : OB Y base A c l) (ha : Apart A (some ⟨g, 0, none⟩) l.length n) (hn : 0 < n) (i : Nat) (v : Value) : RU (Y.setCell ⟨g, i, none⟩ v) A c l := by
 refine ⟨⟨h.2.1, h.2.2.1, by simp [nts], fun hl => ?_⟩, h.1⟩
 obtain ⟨g', cur, rfl, hg', hh, hc⟩ := h.2.2.2 hl
 have hlt : g' < g := ha _ _ rfl rfl hl hn
 have hj := (Just.refl g Y).set i v
 have hb := (hj.block g' (blk_lt hh) (by omega)).trans hh
 refine ⟨_, rfl, blk_lt hb, fun j u hu => ?_⟩
 have := blk_cell hb j
 rw [hc j u hu] at this
 rw [add_blk]
 exact this
theorem OB.head_set {Y : World} {base g : Nat} {c : Nat} {v : Nat} {t : List Nat} (h : OB Y base (some ⟨g, 0, none⟩) c (v :: t)) {m : Nat} (hm : m < 18446744073709551616) : RU (Y.setCell ⟨g, 0, none⟩ (.int .u64 (m : Int))) (some ⟨g, 0, none⟩) c (m :: t) := by
  obtain ⟨hl, h1, h2, h3⟩ := h
  obtain ⟨g', cur, e, _, hh, hc⟩ := h3 (by simp)
  injection e with e
  injection e with e _ _
  subst e
  have hb := blk_set hh 0 (.int .u64 (m : Int))
  have h0 : 0 < cur.size := by
    have := hc 0 (.int .u64 (v : Int)) rfl
    exact (Array.getElem?_eq_some_iff.1 this).1
  refine ⟨⟨h1, h2, by simp [nts], fun _ => ⟨_, rfl, blk_lt hb, fun j u hu => ?_⟩⟩, fun x hx => ?_, by have := hl.2; simpa using this⟩
  · have := blk_cell hb j
    rw [add_blk, this]
    cases j with
    | zero =>
      simp [nts] at hu
      subst hu
      simp [h0]
    | succ j =>
      rw [Array.getElem?_setIfInBounds_ne (by omega)]
      exact hc (j + 1) u hu
  · rcases List.mem_cons.1 hx with rfl | hx
    · exact hm
    · exact hl.1 x (List.mem_cons_of_mem _ hx)
set_option maxRecDepth 100000 in
set_option maxHeartbeats 8000000 in
theorem point_c {c : Int} {C : Crv} (hC : IsC c C) {P : Nat → Prop} {A : Option Addr} {cap : Nat} {l l1 : List Nat} {R : Option (Nat × Nat)} (sp : Bool) (hl1 : l.take 1 = l1) (hR : rmulP C.M false (val 18446744073709551616 C.xl) (val 18446744073709551616 C.yl) (val 18446744073709551616 l1) = R) (w : World) (hk : RL w P A cap l) (hP : ∀ b, P b → b < w.heap.size) :
    Calls Try.prog 12 #[.int .i64 c, .slice A l.length cap, .bool sp] w fun e w' => ∃ v bi a b, e = .returned v ∧ APn w' v bi a b ∧ a.length < 100000 ∧ b.length < 100000 ∧ PtG sp bi a b R ∧ Ext w w' := by
  have hr := heap_alloc_new w (.cells #[.bool false, .slice none 0 0, .slice none 0 0] 27)
  have hA0 := Ext.alloc w (.cells #[.bool false, .slice none 0 0, .slice none 0 0] 27)
  obtain ⟨W0, hW0⟩ : ∃ W0, W0 = w.alloc (.cells #[.bool false, .slice none 0 0, .slice none 0 0] 27) := ⟨_, rfl⟩
  obtain ⟨b0, hb0⟩ : ∃ b, w.heap.size = b := ⟨_, rfl⟩
  rw [← hW0, hb0] at hr
  rw [← hW0] at hA0
  have HK := Lib.hid hk
  have HP := Lib.hid hP
  have hl2 : l1.length ≤ 1 := by rw [← hl1, List.length_take]; omega
  have Hl1 := Lib.hid hl1
  have Hl2 := Lib.hid hl2
  have HR := Lib.hid hR
  have HL := Lib.hid (show ∀ p, R = some p → p.1 < C.M ∧ p.2 < C.M from fun p hp => rmulP_lt (by have := hC.ptlt.2.2; omega) (hR.trans hp))
  clear hl1 hl2 hR
  have HA0 := Lib.hid hA0
  have HC := Lib.hid hC
  clear hk hP hA0
  have hs : C.size ≠ 0 := by have := hC.fine.pos; omega
  have hs' : ((C.size : Int) == 0) = false := by rw [beq_eq_false_iff_ne]; omega
  clear hC
  go_enter Try.func12, Try.ntmps12
  go_upto_region 1 with fail
  rw [← hW0]
  have Hb0 := Lib.hid hb0
  clear hW0 hb0
  go_upto_region 2 with (go_at_call 13; refine (refOf_c HC.out _).mono ?_; rintro e w2 ⟨v, rfl, ⟨Ap, An, Ab, Ax, Ay, cp, cn, cb, cx, cy, rfl, hp, hn, hb, hx, hy⟩, hE2⟩)
  have hc0 := heap_alloc_new w2 (.cells #[.slice Ap (digs 4294967296 C.M).length cp, .slice An (digs 4294967296 (val 18446744073709551616 C.nl)).length cn, .slice Ab (digs 4294967296 C.bb).length cb, .slice Ax (digs 4294967296 (val 18446744073709551616 C.xl)).length cx, .slice Ay (digs 4294967296 (val 18446744073709551616 C.yl)).length cy, .int .i64 (C.size : Int)] 31)
  have hA := Ext.alloc w2 (.cells #[.slice Ap (digs 4294967296 C.M).length cp, .slice An (digs 4294967296 (val 18446744073709551616 C.nl)).length cn, .slice Ab (digs 4294967296 C.bb).length cb, .slice Ax (digs 4294967296 (val 18446744073709551616 C.xl)).length cx, .slice Ay (digs 4294967296 (val 18446744073709551616 C.yl)).length cy, .int .i64 (C.size : Int)] 31)
  have hrc : RC w2 C (.agg #[.slice Ap (digs 4294967296 C.M).length cp, .slice An (digs 4294967296 (val 18446744073709551616 C.nl)).length cn, .slice Ab (digs 4294967296 C.bb).length cb, .slice Ax (digs 4294967296 (val 18446744073709551616 C.xl)).length cx, .slice Ay (digs 4294967296 (val 18446744073709551616 C.yl)).length cy, .int .i64 (C.size : Int)]) := ⟨Ap, An, Ab, Ax, Ay, cp, cn, cb, cx, cy, rfl, hp, hn, hb, hx, hy⟩
  have Hrc := Lib.hid (hrc.ext hA)
  replace hr := hA.at_ (hE2.at_ hr)
  have HE := Lib.hid (HA0.out.trans (hE2.trans hA))
  generalize hV1 : w2.alloc (.cells #[.slice Ap (digs 4294967296 C.M).length cp, .slice An (digs 4294967296 (val 18446744073709551616 C.nl)).length cn, .slice Ab (digs 4294967296 C.bb).length cb, .slice Ax (digs 4294967296 (val 18446744073709551616 C.xl)).length cx, .slice Ay (digs 4294967296 (val 18446744073709551616 C.yl)).length cy, .int .i64 (C.size : Int)] 31) = V1 at *
  obtain ⟨b1, hq1⟩ : ∃ b, w2.heap.size = b := ⟨_, rfl⟩
  rw [hq1] at hc0 ⊢
  clear hV1 hq1 hp hn hb hx hy hrc hE2 hA HA0
  obtain ⟨z0, z1, z2, z3, z4, z5⟩ := seven_facts hc0
  go_upto_region 4 with fail
  clear z0 z1 z2 z3 z4 z5 hs hs'
  refine Par.region_ext (by kernel_rfl) 9 [0, 0, 2, 6, 0, 30, 63, 127, 0, 511] [8] (fun j f X => match j with
    | 0 => f 0 = .agg #[.slice Ap (digs 4294967296 C.M).length cp, .slice An (digs 4294967296 (val 18446744073709551616 C.nl)).length cn, .slice Ab (digs 4294967296 C.bb).length cb, .slice Ax (digs 4294967296 (val 18446744073709551616 C.xl)).length cx, .slice Ay (digs 4294967296 (val 18446744073709551616 C.yl)).length cy, .int .i64 (C.size : Int)]
    | 1 => f 1 = .slice A l.length cap
    | 2 => ∃ A c, f 2 = .slice A l1.length c ∧ RU X A c l1
    | 3 => ∃ A c, f 3 = .slice A (digs 4294967296 (val 18446744073709551616 l1)).length c ∧ RU X A c (digs 4294967296 (val 18446744073709551616 l1))
    | 4 => f 4 = .agg #[.slice Ap (digs 4294967296 C.M).length cp, .slice An (digs 4294967296 (val 18446744073709551616 C.nl)).length cn, .slice Ab (digs 4294967296 C.bb).length cb, .slice Ax (digs 4294967296 (val 18446744073709551616 C.xl)).length cx, .slice Ay (digs 4294967296 (val 18446744073709551616 C.yl)).length cy, .int .i64 (C.size : Int)]
    | 5 => ∃ B B' k k', f 5 = .agg #[.bool false, .slice B (digs 4294967296 (val 18446744073709551616 C.xl)).length k, .slice B' (digs 4294967296 (val 18446744073709551616 C.yl)).length k'] ∧ RU X B k (digs 4294967296 (val 18446744073709551616 C.xl)) ∧ RU X B' k' (digs 4294967296 (val 18446744073709551616 C.yl))
    | 6 => ∃ o, f 6 = o ∧ RPU X o R
    | 7 => ∃ bi x y A B c d, f 7 = .agg #[.bool bi, .slice A (digs 18446744073709551616 x).length c, .slice B (digs 18446744073709551616 y).length d] ∧ OB X V1.heap.size A c (digs 18446744073709551616 x) ∧ OB X V1.heap.size B d (digs 18446744073709551616 y) ∧ Apart A B (digs 18446744073709551616 x).length (digs 18446744073709551616 y).length ∧ x < C.M ∧ y < C.M ∧ PtO R bi x y
    | 8 => ∃ b, f 8 = .pointer (some ⟨b, 0, none⟩) ∧ V1.heap.size ≤ b ∧ X.heap[b]? = some (.cells #[.bool false, .slice none 0 0, .slice none 0 0] 27 (0, 0))
    | _ => True) (by kernel_rfl) [(17, 0), (18, 1), (19, 2), (20, 3), (21, 4), (22, 5), (23, 6), (24, 7), (8, 8)] (by kernel_rfl) ?_
  refine lV0 1 8 hc0 infoRC ?_
  refine Par.v0 2 7 ?_
  refine Par.c0 3 6 (fun f => #[f 1, Value.int IntKind.i64 1]) (F' := 11) (fun f X hX hR => ?_) ?_
  · have e1 : f 1 = .slice A l.length cap := hR.out 1 rfl
    simp only [e1]
    refine (cut_any P A cap l 1 X (HK.out.below (HE.out.trans hX) HP.out) (by omega)).mono ?_
    rw [Hl1.out]
    rintro e w2 ⟨A, c, rfl, h, hB⟩
    exact ⟨(.slice A l1.length c), rfl, hB, fun Y hY => ⟨A, c, rfl, RN.up h.ru hY⟩⟩
  refine Par.c0 4 5 (fun f => #[f 2]) (F' := 19) (fun f X hX hR => ?_) ?_
  · obtain ⟨A2, c2, e2, h2⟩ : ∃ A c, f 2 = .slice A l1.length c ∧ RU X A c l1 := hR.out 2 rfl
    simp only [e2]
    refine (from_any _ A2 c2 l1 X h2 (fun _ h => h) (by have := Hl2.out; omega)).mono ?_
    rintro e w2 ⟨A, c, rfl, h, hB⟩
    exact ⟨(.slice A (digs 4294967296 (val 18446744073709551616 l1)).length c), rfl, hB, fun Y hY => ⟨A, c, rfl, RN.up h.ru hY⟩⟩
  refine lV0 5 4 hc0 infoRC ?_
  refine Par.c0 6 3 (fun f => #[f 4]) (F' := 32) (fun f X hX hR => ?_) ?_
  · have e4 : f 4 = .agg #[.slice Ap (digs 4294967296 C.M).length cp, .slice An (digs 4294967296 (val 18446744073709551616 C.nl)).length cn, .slice Ab (digs 4294967296 C.bb).length cb, .slice Ax (digs 4294967296 (val 18446744073709551616 C.xl)).length cx, .slice Ay (digs 4294967296 (val 18446744073709551616 C.yl)).length cy, .int .i64 (C.size : Int)] := hR.out 4 rfl
    simp only [e4]
    refine (rbase_n X (Hrc.out.ext hX)).mono ?_
    rintro e w2 ⟨o, rfl, ⟨B, B', k, k', rfl, hu, hv⟩, hB⟩
    exact ⟨(.agg #[.bool false, .slice B (digs 4294967296 (val 18446744073709551616 C.xl)).length k, .slice B' (digs 4294967296 (val 18446744073709551616 C.yl)).length k']), rfl, hB, fun Y hY => ⟨B, B', k, k', rfl, RN.up hu hY, RN.up hv hY⟩⟩
  refine Par.c0 7 2 (fun f => #[f 0, f 3, f 5]) (F' := 18) (fun f X hX hR => ?_) ?_
  · have e0 : f 0 = .agg #[.slice Ap (digs 4294967296 C.M).length cp, .slice An (digs 4294967296 (val 18446744073709551616 C.nl)).length cn, .slice Ab (digs 4294967296 C.bb).length cb, .slice Ax (digs 4294967296 (val 18446744073709551616 C.xl)).length cx, .slice Ay (digs 4294967296 (val 18446744073709551616 C.yl)).length cy, .int .i64 (C.size : Int)] := hR.out 0 rfl
    obtain ⟨A3, c3, e3, h3⟩ : ∃ A c, f 3 = .slice A (digs 4294967296 (val 18446744073709551616 l1)).length c ∧ RU X A c (digs 4294967296 (val 18446744073709551616 l1)) := hR.out 3 rfl
    obtain ⟨B5, B5', k5, k5', e5, h5, h5'⟩ : ∃ B B' k k', f 5 = .agg #[.bool false, .slice B (digs 4294967296 (val 18446744073709551616 C.xl)).length k, .slice B' (digs 4294967296 (val 18446744073709551616 C.yl)).length k'] ∧ RU X B k (digs 4294967296 (val 18446744073709551616 C.xl)) ∧ RU X B' k' (digs 4294967296 (val 18446744073709551616 C.yl)) := hR.out 5 rfl
    simp only [e0, e3, e5]
    refine (rmul_n HC.out.fine HC.out.ptlt.2.2 X (Hrc.out.ext hX) h3 h5 h5' (fun _ => ⟨HC.out.ptlt.1, HC.out.ptlt.2.1⟩)).mono ?_
    rw [HR.out]
    rintro e w2 ⟨o, rfl, h, hB⟩
    exact ⟨o, rfl, hB, fun Y hY => ⟨o, rfl, h.ext hY⟩⟩
  refine Par.c0 8 1 (fun f => #[f 6]) (F' := 41) (fun f X hX hR => ?_) ?_
  · obtain ⟨o6, e6, h6⟩ : ∃ o, f 6 = o ∧ RPU X o R := hR.out 6 rfl
    simp only [e6]
    obtain ⟨bi, x, y, hv, lx, ly, po⟩ := h6.split (by have := HC.out.ptlt.2.2; omega) HL.out
    refine (rto_n X hv).mono ?_
    rintro e w2 ⟨A, B, c, d, rfl, h, k, K1, hB⟩
    exact ⟨(.agg #[.bool bi, .slice A (digs 18446744073709551616 x).length c, .slice B (digs 18446744073709551616 y).length d]), rfl, hB, fun Y hY => ⟨bi, x, y, A, B, c, d, rfl, (h.mono hX.bsize).ext hY, (k.mono hX.bsize).ext hY, K1, lx, ly, po⟩⟩
  refine Par.al 9 0 ?_
  refine Par.AllOps.fin ⟨fun f X hX hR hal hap => ?_⟩
  obtain ⟨A2, c2, e2, h2⟩ : ∃ A c, f 2 = .slice A l1.length c ∧ RU X A c l1 := hR 2 (by decide)
  obtain ⟨A3, c3, e3, h3⟩ : ∃ A c, f 3 = .slice A (digs 4294967296 (val 18446744073709551616 l1)).length c ∧ RU X A c (digs 4294967296 (val 18446744073709551616 l1)) := hR 3 (by decide)
  obtain ⟨B5, B5', k5, k5', e5, h5, h5'⟩ : ∃ B B' k k', f 5 = .agg #[.bool false, .slice B (digs 4294967296 (val 18446744073709551616 C.xl)).length k, .slice B' (digs 4294967296 (val 18446744073709551616 C.yl)).length k'] ∧ RU X B k (digs 4294967296 (val 18446744073709551616 C.xl)) ∧ RU X B' k' (digs 4294967296 (val 18446744073709551616 C.yl)) := hR 5 (by decide)
  obtain ⟨o6, e6, h6⟩ : ∃ o, f 6 = o ∧ RPU X o R := hR 6 (by decide)
  obtain ⟨bi, x, y, A7, B7, c7, d7, e7, h7, k7, K7, lx7, ly7, po7⟩ : ∃ bi x y A B c d, f 7 = .agg #[.bool bi, .slice A (digs 18446744073709551616 x).length c, .slice B (digs 18446744073709551616 y).length d] ∧ OB X V1.heap.size A c (digs 18446744073709551616 x) ∧ OB X V1.heap.size B d (digs 18446744073709551616 y) ∧ Apart A B (digs 18446744073709551616 x).length (digs 18446744073709551616 y).length ∧ x < C.M ∧ y < C.M ∧ PtO R bi x y := hR 7 (by decide)
  obtain ⟨b8, e8, l8, h8⟩ : ∃ b, f 8 = .pointer (some ⟨b, 0, none⟩) ∧ V1.heap.size ≤ b ∧ X.heap[b]? = some (.cells #[.bool false, .slice none 0 0, .slice none 0 0] 27 (0, 0)) := hR 8 (by decide)
  simp only [Par.putL, Act.put, List.setIfInBounds_toArray, List.set_cons_succ, List.set_cons_zero, e2, e3, e5, e6, e7, e8]
  clear hR hal hap e2 e3 e5 e6 e7 e8
  refine Par.Chain.next (fun K hK => ⟨Par.want (by kernel_rfl) (wp_storeV (cs' := #[.bool bi, .slice A7 (digs 18446744073709551616 x).length c7, .slice B7 (digs 18446744073709551616 y).length d7]) (t := 27) 27 (.tmp 8) (.tmp 24) rfl rfl rfl rfl h8 infoP rfl (pt_one _ _ _ _ _ _ _) (fun Y hY1 hY2 hY3 => hK.out _ _ ?_))⟩)
  refine Par.Chain.done ?_
  have hb9 : b0 ≠ b8 := by have := blk_lt hr; omega
  have hr9 := hY2.at_ hb9 (hX.at_ hr)
  have HEY := Lib.hid (hY2.ext (HE.out.trans hX) (by have := HE.out.bsize; omega))
  have H7 := Lib.hid (h7.just hY2 h8 (by decide))
  have K8 := Lib.hid (k7.just hY2 h8 (by decide))
  have HK7 := Lib.hid K7
  have HLx := Lib.hid lx7
  have HLy := Lib.hid ly7
  have Hpo := Lib.hid po7
  clear h2 h3 h5 h5' h6 h7 k7 K7 h8 l8 hY2 hY3 hc0 hr lx7 ly7 po7
  obtain ⟨z0, z1, z2, f0, f1, f2⟩ := pt_facts hY1
  cases sp
  case false =>
    go_upto_region 7 with fail
    clear z0 z1 z2 f0 f1 f2 hX
    refine Par.region_txt 1 [0, 1] [] (fun j f X => match j with
      | 0 => f 0 = .agg #[.bool bi, .slice A7 (digs 18446744073709551616 x).length c7, .slice B7 (digs 18446744073709551616 y).length d7]
      | _ => True) (by kernel_rfl) [(38, 0)] (by kernel_rfl) ?_
    refine lV0 1 0 hY1 infoP ?_
    refine Par.AllOps.fin ⟨fun f X hX hR hal hap => ?_⟩
    have e0 : f 0 = .agg #[.bool bi, .slice A7 (digs 18446744073709551616 x).length c7, .slice B7 (digs 18446744073709551616 y).length d7] := hR 0 (by decide)
    simp only [Par.putL, Act.put, List.setIfInBounds_toArray, List.set_cons_succ, List.set_cons_zero, e0]
    clear hR hal hap e0
    refine Par.Chain.next (fun K hK => ⟨Par.want (by kernel_rfl) (wp_storeV (cs' := #[.bool bi, .slice A7 (digs 18446744073709551616 x).length c7, .slice B7 (digs 18446744073709551616 y).length d7]) (t := 27) 27 (.tmp 6) (.tmp 38) rfl rfl rfl rfl (hX.at_ hr9) infoP rfl (pt_one _ _ _ _ _ _ _) (fun Z hZ1 hZ2 hZ3 => hK.out _ _ ?_))⟩)
    refine Par.Chain.done ?_
    go_wp2
    exact end_p rfl rfl rfl hZ1 ⟨_, bi, digs 18446744073709551616 x, digs 18446744073709551616 y, rfl, ⟨_, _, _, _, rfl, ((H7.out.ext hX).just hZ2 (hX.at_ hr9) (by decide)).ru, ((K8.out.ext hX).just hZ2 (hX.at_ hr9) (by decide)).ru⟩, HC.out.dlen HLx.out, HC.out.dlen HLy.out, (fun _ => ⟨_, _, Hpo.out, rfl, rfl⟩), hZ2.ext (HEY.out.trans hX) (by have := Hb0.out; omega)⟩
  case true =>
    obtain ⟨dy, hdy⟩ : ∃ d, digs 18446744073709551616 y = d := ⟨_, rfl⟩
    rw [hdy] at hY1 z2
    have Hdy := Lib.hid hdy
    clear hdy
    cases dy with
    | nil =>
      go_upto_region 7 with fail
      clear z0 z1 z2 f0 f1 f2 hX
      refine Par.region_txt 1 [0, 1] [] (fun j f X => match j with
        | 0 => f 0 = .agg #[.bool bi, .slice A7 (digs 18446744073709551616 x).length c7, .slice B7 ([] : List Nat).length d7]
        | _ => True) (by kernel_rfl) [(38, 0)] (by kernel_rfl) ?_
      refine lV0 1 0 hY1 infoP ?_
      refine Par.AllOps.fin ⟨fun f X hX hR hal hap => ?_⟩
      have e0 : f 0 = .agg #[.bool bi, .slice A7 (digs 18446744073709551616 x).length c7, .slice B7 ([] : List Nat).length d7] := hR 0 (by decide)
      simp only [Par.putL, Act.put, List.setIfInBounds_toArray, List.set_cons_succ, List.set_cons_zero, e0]
      clear hR hal hap e0
      refine Par.Chain.next (fun K hK => ⟨Par.want (by kernel_rfl) (wp_storeV (cs' := #[.bool bi, .slice A7 (digs 18446744073709551616 x).length c7, .slice B7 ([] : List Nat).length d7]) (t := 27) 27 (.tmp 6) (.tmp 38) rfl rfl rfl rfl (hX.at_ hr9) infoP rfl (pt_one _ _ _ _ _ _ _) (fun Z hZ1 hZ2 hZ3 => hK.out _ _ ?_))⟩)
      refine Par.Chain.done ?_
      go_wp2
      exact end_p rfl rfl rfl hZ1 ⟨_, bi, digs 18446744073709551616 x, [], rfl, ⟨_, _, _, _, rfl, ((H7.out.ext hX).just hZ2 (hX.at_ hr9) (by decide)).ru, (by have := ((K8.out.ext hX).just hZ2 (hX.at_ hr9) (by decide)).ru; rw [Hdy.out] at this; exact this)⟩, HC.out.dlen HLx.out, by simp, (fun h => Bool.noConfusion h), hZ2.ext (HEY.out.trans hX) (by have := Hb0.out; omega)⟩
    | cons v t =>
      have hk9 := K8.out
      rw [Hdy.out] at hk9
      obtain ⟨hlim, hcap, hmax, hown⟩ := id hk9
      obtain ⟨g, cur, rfl, hg, hh, hcur⟩ := hown (by simp)
      have m0 := blk_cell hh 0
      rw [hcur 0 (.int .u64 (v : Int)) rfl] at m0
      have n0 := blk_free hh 0
      have Hg := Lib.hid hg
      have Hh := Lib.hid hh
      have Hcur := Lib.hid hcur
      have Hk9 := Lib.hid hk9
      clear hk9 hlim hmax hown hg hh hcur hX
      go_upto_region 7 with fail
      obtain ⟨m, hm, hm2⟩ := xor_nat (Hk9.out.1.1 v List.mem_cons_self)
      rw [hm]
      have hj := (Just.refl g Y).set 0 (.int .u64 (m : Int))
      have g8 : b8 ≠ g := fun e => by have := Hh.out; rw [← e, hY1] at this; injection this with this; injection this with _ this; exact absurd this (by decide)
      have g0 : b0 ≠ g := fun e => by have := Hh.out; rw [← e, hr9] at this; injection this with this; injection this with _ this; exact absurd this (by decide)
      have hY9 := hj.at_ g8 hY1
      have hr8 := hj.at_ g0 hr9
      have HE9 := Lib.hid (hj.ext HEY.out (by have := HE.out.bsize; have := Hg.out; omega))
      have Hxv := Lib.hid (H7.out.off_set HK7.out (by rw [Hdy.out]; simp) 0 (.int .u64 (m : Int)))
      have Hyv := Lib.hid (Hk9.out.head_set hm2)
      have Hlt := Lib.hid (show (m :: t).length < 100000 from by have := HC.out.dlen HLy.out; rw [Hdy.out] at this; simpa using this)
      clear z0 z1 z2 f0 f1 f2 m0 n0 hm hm2 hj g8 g0 hY1 hr9
      generalize Y.setCell ⟨g, 0, none⟩ (.int .u64 (m : Int)) = V9 at *
      refine Par.region_txt 1 [0, 1] [] (fun j f X => match j with
        | 0 => f 0 = .agg #[.bool bi, .slice A7 (digs 18446744073709551616 x).length c7, .slice (some ⟨g, 0, none⟩) (v :: t).length d7]
        | _ => True) (by kernel_rfl) [(38, 0)] (by kernel_rfl) ?_
      refine lV0 1 0 hY9 infoP ?_
      refine Par.AllOps.fin ⟨fun f X hX hR hal hap => ?_⟩
      have e0 : f 0 = .agg #[.bool bi, .slice A7 (digs 18446744073709551616 x).length c7, .slice (some ⟨g, 0, none⟩) (v :: t).length d7] := hR 0 (by decide)
      simp only [Par.putL, Act.put, List.setIfInBounds_toArray, List.set_cons_succ, List.set_cons_zero, e0]
      clear hR hal hap e0
      refine Par.Chain.next (fun K hK => ⟨Par.want (by kernel_rfl) (wp_storeV (cs' := #[.bool bi, .slice A7 (digs 18446744073709551616 x).length c7, .slice (some ⟨g, 0, none⟩) (v :: t).length d7]) (t := 27) 27 (.tmp 6) (.tmp 38) rfl rfl rfl rfl (hX.at_ hr8) infoP rfl (pt_one _ _ _ _ _ _ _) (fun Z hZ1 hZ2 hZ3 => hK.out _ _ ?_))⟩)
      refine Par.Chain.done ?_
      go_wp2
      exact end_p rfl rfl rfl hZ1 ⟨_, bi, digs 18446744073709551616 x, m :: t, rfl, ⟨_, _, _, _, rfl, (RN.up Hxv.out hX).offJ hZ2 (hX.at_ hr8) (by kernel_rfl), (RN.up Hyv.out hX).offJ hZ2 (hX.at_ hr8) (by kernel_rfl)⟩, HC.out.dlen HLx.out, Hlt.out, (fun h => Bool.noConfusion h), hZ2.ext (HE9.out.trans hX) (by have := Hb0.out; omega)⟩
end Go.Proofs.Ytldhmjfjbalakaa

namespace Go.Proofs.Ytldhmjfjbalakaa
namespace Kr

structure Op (α : Type) where
 add : α → α → α
 sub : α → α → α
 mul : α → α → α
 int : Int → α
structure Rel {α β : Type} (O : Op α) (U : Op β) (R : α → β → Prop) : Prop where
 add : ∀ {a b c d}, R a c → R b d → R (O.add a b) (U.add c d)
 sub : ∀ {a b c d}, R a c → R b d → R (O.sub a b) (U.sub c d)
 mul : ∀ {a b c d}, R a c → R b d → R (O.mul a b) (U.mul c d)
 int : ∀ n, R (O.int n) (U.int n)
def ext {α : Type} (O : Op α) (c : α) : Op (α × α) :=
 ⟨fun a b => (O.add a.1 b.1, O.add a.2 b.2), fun a b => (O.sub a.1 b.1, O.sub a.2 b.2), fun a b => (O.add (O.mul a.1 b.1) (O.mul (O.mul a.2 b.2) c), O.add (O.mul a.1 b.2) (O.mul a.2 b.1)), fun n => (O.int n, O.int 0)⟩
def two {α β : Type} (R : α → β → Prop) : α × α → β × β → Prop := fun a b => R a.1 b.1 ∧ R a.2 b.2
theorem Rel.ext {α β : Type} {O : Op α} {U : Op β} {R : α → β → Prop} {c : α} {d : β} (h : Rel O U R) (hc : R c d) : Rel (ext O c) (ext U d) (two R) :=
 ⟨fun h1 h2 => ⟨h.add h1.1 h2.1, h.add h1.2 h2.2⟩, fun h1 h2 => ⟨h.sub h1.1 h2.1, h.sub h1.2 h2.2⟩,
  fun h1 h2 => ⟨h.add (h.mul h1.1 h2.1) (h.mul (h.mul h1.2 h2.2) hc), h.add (h.mul h1.1 h2.2) (h.mul h1.2 h2.1)⟩, fun n => ⟨h.int n, h.int 0⟩⟩

structure Pr (α : Type) where
 x : α
 y : α
 z : α
structure RelP {α β : Type} (R : α → β → Prop) (P : Pr α) (Q : Pr β) : Prop where
 x : R P.x Q.x
 y : R P.y Q.y
 z : R P.z Q.z
section
variable {α β : Type}
def fx (O : Op α) (b : α) (P Q : Pr α) : α := O.sub (O.mul (O.add (O.mul P.x Q.y) (O.mul Q.x P.y)) (O.sub (O.mul P.y Q.y) (O.mul (O.int 3) (O.sub (O.mul b (O.mul P.z Q.z)) (O.add (O.mul P.x Q.z) (O.mul Q.x P.z)))))) (O.mul (O.add (O.mul P.y Q.z) (O.mul Q.y P.z)) (O.mul (O.int 3) (O.sub (O.sub (O.mul b (O.add (O.mul P.x Q.z) (O.mul Q.x P.z))) (O.mul P.x Q.x)) (O.mul (O.int 3) (O.mul P.z Q.z)))))
def fy (O : Op α) (b : α) (P Q : Pr α) : α := O.add (O.mul (O.mul (O.int 3) (O.sub (O.mul P.x Q.x) (O.mul P.z Q.z))) (O.mul (O.int 3) (O.sub (O.sub (O.mul b (O.add (O.mul P.x Q.z) (O.mul Q.x P.z))) (O.mul P.x Q.x)) (O.mul (O.int 3) (O.mul P.z Q.z))))) (O.mul (O.add (O.mul P.y Q.y) (O.mul (O.int 3) (O.sub (O.mul b (O.mul P.z Q.z)) (O.add (O.mul P.x Q.z) (O.mul Q.x P.z))))) (O.sub (O.mul P.y Q.y) (O.mul (O.int 3) (O.sub (O.mul b (O.mul P.z Q.z)) (O.add (O.mul P.x Q.z) (O.mul Q.x P.z))))))
def fz (O : Op α) (b : α) (P Q : Pr α) : α := O.add (O.mul (O.add (O.mul P.y Q.z) (O.mul Q.y P.z)) (O.add (O.mul P.y Q.y) (O.mul (O.int 3) (O.sub (O.mul b (O.mul P.z Q.z)) (O.add (O.mul P.x Q.z) (O.mul Q.x P.z)))))) (O.mul (O.add (O.mul P.x Q.y) (O.mul Q.x P.y)) (O.mul (O.int 3) (O.sub (O.mul P.x Q.x) (O.mul P.z Q.z))))
def cz (O : Op α) (T V : Pr α) : α × α := (O.sub (O.mul T.x V.z) (O.mul T.z V.x), O.sub (O.mul T.y V.z) (O.mul T.z V.y))
def cube (O : Op α) (b x : α) : α := O.add (O.sub (O.mul (O.mul x x) x) (O.mul (O.int 3) x)) b
def lift (O : Op α) (a : α) : α × α := (a, O.int 0)
def O1 (O : Op α) (b x1 : α) := ext O (cube O b x1)
def O2 (O : Op α) (b x1 x2 : α) := ext (O1 O b x1) (lift O (cube O b x2))
def O3 (O : Op α) (b x1 x2 x3 : α) := ext (O2 O b x1 x2) (lift (O1 O b x1) (lift O (cube O b x3)))
def lift3 (O : Op α) (b x1 x2 : α) (a : α) : ((α × α) × (α × α)) × ((α × α) × (α × α)) := lift (O2 O b x1 x2) (lift (O1 O b x1) (lift O a))
def p1 (O : Op α) (b x1 x2 x3 : α) : Pr (((α × α) × (α × α)) × ((α × α) × (α × α))) := ⟨lift3 O b x1 x2 x1, lift (O2 O b x1 x2) (lift (O1 O b x1) (O.int 0, O.int 1)), (O3 O b x1 x2 x3).int 1⟩
def p2 (O : Op α) (b x1 x2 x3 : α) : Pr (((α × α) × (α × α)) × ((α × α) × (α × α))) := ⟨lift3 O b x1 x2 x2, lift (O2 O b x1 x2) ((O1 O b x1).int 0, (O1 O b x1).int 1), (O3 O b x1 x2 x3).int 1⟩
def p3 (O : Op α) (b x1 x2 x3 : α) : Pr (((α × α) × (α × α)) × ((α × α) × (α × α))) := ⟨lift3 O b x1 x2 x3, ((O2 O b x1 x2).int 0, (O2 O b x1 x2).int 1), (O3 O b x1 x2 x3).int 1⟩
end

def both {α : Type} (p : α → Prop) : α × α → Prop := fun a => p a.1 ∧ p a.2
abbrev al {α : Type} (p : α → Prop) := both (both (both (both p)))
structure Tm where
 c : Int
 e : Nat → Nat
abbrev MP := List Tm
def mono (v : Nat → Int) (e : Nat → Nat) : Int := v 0 ^ e 0 * v 1 ^ e 1 * v 2 ^ e 2 * v 3 ^ e 3
def ev (v : Nat → Int) : MP → Int
 | [] => 0
 | t :: l => t.c * mono v t.e + ev v l
def dg (i : Nat) (P : MP) (d : Nat) : Prop := ∀ t ∈ P, t.e i < d
def S (f : Nat → Int) : List (Int × Nat) → Int
 | [] => 0
 | t :: l => t.1 * f t.2 + S f l
def n1 : List (Int × Nat) → Nat
 | [] => 0
 | t :: l => t.1.natAbs + n1 l
def c0 : List (Int × Nat) → Int
 | [] => 0
 | (c, 0) :: l => c + c0 l
 | (_, _ + 1) :: l => c0 l
section
variable (B d0 d1 d2 : Nat)
theorem bound : ∀ l : List (Int × Nat), ∃ M, ∀ t ∈ l, t.2 < M
  | [] => ⟨0, fun t ht => by cases ht⟩
  | s :: l => by
    obtain ⟨M, hM⟩ := bound l
    refine ⟨max M (s.2 + 1), fun t ht => ?_⟩
    rcases List.mem_cons.1 ht with rfl | ht
    · omega
    · have := hM t ht; omega
end
end Kr
end Go.Proofs.Ytldhmjfjbalakaa

namespace Go.Proofs.Ytldhmjfjbalakaa
namespace Pm

def Prime (p : Nat) : Prop := 2 ≤ p ∧ ∀ d, d ∣ p → d = 1 ∨ d = p

theorem Prime.two {p : Nat} (h : Prime p) : 2 ≤ p := h.1
theorem Prime.coprime {p a : Nat} (h : Prime p) (ha : ¬ p ∣ a) : Nat.gcd p a = 1 := by
 rcases h.2 _ (Nat.gcd_dvd_left p a) with h1 | h1
 · exact h1
 · exact absurd (h1 ▸ Nat.gcd_dvd_right p a) ha
theorem Prime.dvd_mul {p a b : Nat} (h : Prime p) (hd : p ∣ a * b) : p ∣ a ∨ p ∣ b := by
 rcases Nat.decEq (a % p) 0 with h0 | h0
 · exact Or.inr (Nat.Coprime.dvd_of_dvd_mul_left (h.coprime (fun hh => h0 (Nat.mod_eq_zero_of_dvd hh))) hd)
 · exact Or.inl (Nat.dvd_of_mod_eq_zero h0)

def ch : Nat → Nat → Nat
 | _, 0 => 1
 | 0, _ + 1 => 0
 | n + 1, k + 1 => ch n k + ch n (k + 1)
theorem ch_zero (n : Nat) : ch n 0 = 1 := by cases n <;> rfl
theorem ch_gt : ∀ {n k : Nat}, n < k → ch n k = 0
  | 0, k + 1, _ => rfl
  | n + 1, k + 1, h => by
    show ch n k + ch n (k + 1) = 0
    rw [ch_gt (by omega), ch_gt (by omega)]
theorem ch_self : ∀ n, ch n n = 1
  | 0 => rfl
  | n + 1 => by
    show ch n n + ch n (n + 1) = 1
    rw [ch_self n, ch_gt (by omega)]
theorem ch_mul : ∀ n k, (k + 1) * ch (n + 1) (k + 1) = (n + 1) * ch n k
  | 0, 0 => rfl
  | 0, k + 1 => by
    show (k + 1 + 1) * (ch 0 (k + 1) + ch 0 (k + 1 + 1)) = _
    rw [ch_gt (by omega), ch_gt (by omega)]
    simp
  | n + 1, 0 => by
    have := ch_mul n 0
    show 1 * (ch (n + 1) 0 + ch (n + 1) 1) = _
    rw [ch_zero] at *
    simp only [Nat.one_mul, Nat.mul_one] at *
    simp only [Nat.zero_add, Nat.one_mul] at this
    omega
  | n + 1, k + 1 => by
    have h1 := ch_mul n k
    have h2 := ch_mul n (k + 1)
    show (k + 1 + 1) * (ch (n + 1) (k + 1) + ch (n + 1) (k + 1 + 1)) = (n + 1 + 1) * ch (n + 1) (k + 1)
    have e : ch (n + 1) (k + 1) = ch n k + ch n (k + 1) := rfl
    rw [Nat.mul_add, h2, Nat.succ_mul (k + 1), h1, Nat.succ_mul (n + 1), e, Nat.mul_add]
    omega
def sm (f : Nat → Nat) : Nat → Nat
 | 0 => 0
 | n + 1 => sm f n + f n
theorem sm_add (f g : Nat → Nat) : ∀ n, sm (fun i => f i + g i) n = sm f n + sm g n
 | 0 => rfl
 | n + 1 => by simp only [sm]; rw [sm_add f g n]; omega
theorem sm_mul (f : Nat → Nat) (c : Nat) : ∀ n, sm (fun i => f i * c) n = sm f n * c
 | 0 => by simp [sm]
 | n + 1 => by simp only [sm]; rw [sm_mul f c n, Nat.add_mul]
theorem sm_head (f : Nat → Nat) : ∀ n, sm f (n + 1) = f 0 + sm (fun i => f (i + 1)) n
  | 0 => by simp [sm]
  | n + 1 => by
    have := sm_head f n
    simp only [sm] at *
    omega
theorem sm_congr {f g : Nat → Nat} : ∀ {n : Nat}, (∀ i, i < n → f i = g i) → sm f n = sm g n
 | 0, _ => rfl
 | n + 1, h => by simp only [sm]; rw [sm_congr (fun i hi => h i (by omega)), h n (by omega)]
theorem sm_dvd {f : Nat → Nat} {p : Nat} : ∀ {n : Nat}, (∀ i, i < n → p ∣ f i) → p ∣ sm f n
 | 0, _ => ⟨0, rfl⟩
 | n + 1, h => by simp only [sm]; exact Nat.dvd_add (sm_dvd (fun i hi => h i (by omega))) (h n (by omega))
theorem binom (a : Nat) : ∀ n, (a + 1) ^ n = sm (fun k => ch n k * a ^ k) (n + 1)
  | 0 => by simp [sm, ch]
  | n + 1 => by
    rw [Nat.pow_succ, binom a n, sm_head (fun k => ch (n + 1) k * a ^ k) (n + 1)]
    have e : sm (fun i => ch (n + 1) (i + 1) * a ^ (i + 1)) (n + 1) = sm (fun i => ch n i * a ^ i * a + ch n (i + 1) * a ^ (i + 1)) (n + 1) := by
      refine sm_congr (fun i _ => ?_)
      show (ch n i + ch n (i + 1)) * a ^ (i + 1) = _
      rw [Nat.add_mul, Nat.pow_succ a i, Nat.mul_assoc]
    rw [e, sm_add, sm_mul, Nat.mul_add, Nat.mul_one]
    have h2 := sm_head (fun k => ch n k * a ^ k) (n + 1)
    simp only [sm] at h2 ⊢
    rw [ch_gt (show n < n + 1 by omega)] at *
    rw [ch_zero] at *
    simp only [Nat.zero_mul, Nat.add_zero, Nat.pow_zero] at *
    omega
theorem ch_dvd {p k : Nat} (hp : Prime p) (h0 : 0 < k) (hk : k < p) : p ∣ ch p k := by
 obtain ⟨q, rfl⟩ : ∃ q, p = q + 1 := ⟨p - 1, by have := hp.two; omega⟩
 obtain ⟨j, rfl⟩ : ∃ j, k = j + 1 := ⟨k - 1, by omega⟩
 have h := ch_mul q j
 rcases hp.dvd_mul (a := j + 1) (b := ch (q + 1) (j + 1)) ⟨_, h⟩ with h1 | h1
 · exact absurd (Nat.le_of_dvd (by omega) h1) (by omega)
 · exact h1
theorem frob {p : Nat} (hp : Prime p) (a : Nat) : (a + 1) ^ p % p = (a ^ p + 1) % p := by
 obtain ⟨q, rfl⟩ : ∃ q, p = q + 1 := ⟨p - 1, by have := hp.two; omega⟩
 rw [binom a (q + 1), sm_head]
 show (ch (q + 1) 0 * a ^ 0 + (sm (fun i => ch (q + 1) (i + 1) * a ^ (i + 1)) q + ch (q + 1) (q + 1) * a ^ (q + 1))) % (q + 1) = _
 obtain ⟨m, hm⟩ := sm_dvd (f := fun i => ch (q + 1) (i + 1) * a ^ (i + 1)) (p := q + 1) (n := q) (fun i hi => Nat.dvd_trans (ch_dvd hp (by omega) (by omega)) (Nat.dvd_mul_right _ _))
 rw [hm, ch_zero, ch_self, Nat.pow_zero, Nat.one_mul, Nat.one_mul]
 have : 1 + ((q + 1) * m + a ^ (q + 1)) = a ^ (q + 1) + 1 + (q + 1) * m := by omega
 rw [this, Nat.add_mul_mod_self_left]
theorem fermat0 {p : Nat} (hp : Prime p) : ∀ a, a ^ p % p = a % p
 | 0 => by rw [Nat.zero_pow (by have := hp.two; omega)]
 | a + 1 => by rw [frob hp a, Nat.add_mod, fermat0 hp a, ← Nat.add_mod]
theorem mod_eq_dvd {p a b : Nat} (hle : b ≤ a) (h : a % p = b % p) : p ∣ a - b := by
 have h1 := Nat.div_add_mod a p
 have h2 := Nat.div_add_mod b p
 refine ⟨a / p - b / p, ?_⟩
 rw [Nat.mul_sub]
 omega
theorem dvd_mod_eq {p a b : Nat} (hle : b ≤ a) (h : p ∣ a - b) : a % p = b % p := by
 obtain ⟨k, hk⟩ := h
 have : a = b + p * k := by omega
 rw [this, Nat.add_mul_mod_self_left]
theorem fermat {p a : Nat} (hp : Prime p) (ha : ¬ p ∣ a) : a ^ (p - 1) % p = 1 := by
 have h2 := hp.two
 have hpos : 1 ≤ a ^ (p - 1) := Nat.pow_pos (by
  rcases Nat.eq_zero_or_pos a with h | h
  · exact absurd ⟨0, by omega⟩ ha
  · exact h)
 have h := fermat0 hp a
 have e : a ^ p = a * a ^ (p - 1) := by
  conv => lhs; rw [show p = p - 1 + 1 by omega]
  rw [Nat.pow_succ, Nat.mul_comm]
 have hd : p ∣ a * (a ^ (p - 1) - 1) := by
  rw [Nat.mul_sub, Nat.mul_one, ← e]
  refine mod_eq_dvd ?_ h
  rw [e]
  exact Nat.le_mul_of_pos_right _ hpos
 rcases hp.dvd_mul hd with h1 | h1
 · exact absurd h1 ha
 · have := dvd_mod_eq hpos h1
   rw [this, Nat.mod_eq_of_lt (by omega)]
theorem inv_mul {p a : Nat} (hp : Prime p) (ha : ¬ p ∣ a) : a * (a ^ (p - 2) % p) % p = 1 := by
 have h2 := hp.two
 rw [Nat.mul_mod, Nat.mod_mod, ← Nat.mul_mod, Nat.mul_comm, ← Nat.pow_succ, show (p - 2).succ = p - 1 by omega]
 exact fermat hp ha

theorem exists_prime : ∀ n, 2 ≤ n → ∃ r, Prime r ∧ r ∣ n := by
  intro n
  induction n using Nat.strongRecOn with
  | ind n ih =>
    intro hn
    rcases Classical.em (Prime n) with h | h
    · exact ⟨n, h, Nat.dvd_refl n⟩
    · have : ∃ d, d ∣ n ∧ d ≠ 1 ∧ d ≠ n := Classical.byContradiction fun hc => h ⟨hn, fun d hd => Classical.byContradiction fun h2 => hc ⟨d, hd, fun e => h2 (Or.inl e), fun e => h2 (Or.inr e)⟩⟩
      obtain ⟨d, hd, h1, h2⟩ := this
      have hle := Nat.le_of_dvd (by omega) hd
      have h0 : d ≠ 0 := by rintro rfl; obtain ⟨k, hk⟩ := hd; omega
      obtain ⟨r, hr, hrd⟩ := ih d (by omega) (by omega)
      exact ⟨r, hr, Nat.dvd_trans hrd hd⟩
theorem prime_of {n : Nat} (hn : 2 ≤ n) (h : ∀ r, Prime r → r ∣ n → r * r ≤ n → False) : Prime n := by
 refine ⟨hn, fun d hd => Classical.byContradiction fun hc => ?_⟩
 have h1 : d ≠ 1 := fun e => hc (Or.inl e)
 have h2 : d ≠ n := fun e => hc (Or.inr e)
 obtain ⟨e, he⟩ := hd
 have hd0 : d ≠ 0 := by rintro rfl; omega
 have he0 : e ≠ 0 := by rintro rfl; omega
 have he1 : e ≠ 1 := by rintro rfl; omega
 have key : ∀ a b : Nat, n = a * b → a ≤ b → 2 ≤ a → False := by
  intro a b hab hle h2a
  obtain ⟨r, hr, hra⟩ := exists_prime a h2a
  have := Nat.le_of_dvd (by omega) hra
  exact h r hr (hab ▸ Nat.dvd_trans hra (Nat.dvd_mul_right _ _)) (by rw [hab]; exact Nat.mul_le_mul this (by omega))
 rcases Nat.le_total d e with hle | hle
 · exact key d e he hle (by omega)
 · exact key e d (by rw [he, Nat.mul_comm]) hle (by omega)
def pw (m a : Nat) : Nat → Nat → Nat
 | 0, _ => 1 % m
 | k + 1, e => if e % 2 = 1 then pw m a k (e / 2) * pw m a k (e / 2) % m * a % m else pw m a k (e / 2) * pw m a k (e / 2) % m
theorem pw_eq {m a : Nat} : ∀ k e, e < 2 ^ k → pw m a k e = a ^ e % m
  | 0, e, h => by
    have : e = 0 := by omega
    subst this
    rfl
  | k + 1, e, h => by
    have hd : e / 2 < 2 ^ k := by rw [Nat.pow_succ] at h; omega
    have h1 := Nat.div_add_mod e 2
    simp only [pw]
    rw [pw_eq k (e / 2) hd]
    have sq : a ^ (e / 2) % m * (a ^ (e / 2) % m) % m = a ^ (2 * (e / 2)) % m := by
      rw [← Nat.mul_mod, ← Nat.pow_add]
      congr 2
      omega
    split
    · rename_i ho
      rw [sq, Nat.mod_mul_mod, ← Nat.pow_succ]
      congr 2
      omega
    · rw [sq]
      congr 2
      omega
theorem pow_gcd {r b : Nat} : ∀ (n q s : Nat), q + s ≤ n → b ^ q % r = 1 % r → b ^ s % r = 1 % r → b ^ Nat.gcd q s % r = 1 % r := by
  intro n
  induction n with
  | zero =>
    intro q s h _ hs
    have : q = 0 := by omega
    have : s = 0 := by omega
    subst q s
    rfl
  | succ n ih =>
    intro q s hn hq hs
    rcases Nat.eq_zero_or_pos q with rfl | h0
    · rw [Nat.gcd_zero_left]; exact hs
    rcases Nat.eq_zero_or_pos s with rfl | h1
    · rw [Nat.gcd_zero_right]; exact hq
    have sub : ∀ x y, x ≤ y → b ^ x % r = 1 % r → b ^ y % r = 1 % r → b ^ (y - x) % r = 1 % r := by
      intro x y hxy hx hy
      have : b ^ y = b ^ x * b ^ (y - x) := by rw [← Nat.pow_add]; congr 1; omega
      rw [this, Nat.mul_mod, hx, ← Nat.mul_mod, Nat.one_mul] at hy
      exact hy
    rcases Nat.le_total q s with hle | hle
    · have := ih q (s - q) (by omega) hq (sub q s hle hq hs)
      rwa [Nat.gcd_sub_self_right hle] at this
    · have := ih (q - s) s (by omega) (sub s q hle hs hq) hs
      rwa [Nat.gcd_sub_self_left hle] at this
theorem part {n q a r : Nat} (hn : 2 ≤ n) (hq : Prime q) (hr : Prime r) (hrn : r ∣ n) (hqn : q ∣ n - 1) (h1 : a ^ (n - 1) % n = 1) (h2 : Nat.gcd (a ^ ((n - 1) / q) % n + (n - 1)) n = 1) : q ∣ r - 1 := by
 have hr2 := hr.two
 refine Classical.byContradiction fun hno => ?_
 have hg := hq.coprime hno
 obtain ⟨m, hm⟩ := hqn
 have hm' : (n - 1) / q = m := by rw [hm]; exact Nat.mul_div_cancel_left _ (by have := hq.two; omega)
 rw [hm'] at h2
 obtain ⟨c, hc⟩ := hrn
 have h1r : a ^ (n - 1) % r = 1 % r := by
  have h : a ^ (n - 1) % n % r = 1 % r := by rw [h1]
  rwa [show a ^ (n - 1) % n % r = a ^ (n - 1) % r by rw [hc, Nat.mod_mul_right_mod]] at h
 have hbq : (a ^ m) ^ q % r = 1 % r := by rw [← Nat.pow_mul, Nat.mul_comm, ← hm]; exact h1r
 have hra : ¬ r ∣ a ^ m := by
  intro hd
  have : r ∣ (a ^ m) ^ q := by
   obtain ⟨t, rfl⟩ : ∃ t, q = t + 1 := ⟨q - 1, by have := hq.two; omega⟩
   exact Nat.dvd_trans hd (Nat.dvd_mul_left _ _)
  rw [Nat.mod_eq_zero_of_dvd this, Nat.mod_eq_of_lt (by omega)] at hbq
  omega
 have hf := fermat hr hra
 have hb := pow_gcd _ q (r - 1) (Nat.le_refl _) hbq (by rw [hf]; exact (Nat.mod_eq_of_lt (by omega)).symm)
 rw [hg, Nat.pow_one] at hb
 have hd : r ∣ a ^ m % n + (n - 1) := by
  refine Nat.dvd_of_mod_eq_zero ?_
  rw [Nat.add_mod, show a ^ m % n % r = 1 % r by rw [hc, Nat.mod_mul_right_mod]; exact hb, ← Nat.add_mod, show 1 + (n - 1) = n by omega, hc]
  exact Nat.mul_mod_right r c
 have := Nat.dvd_gcd hd ⟨c, hc⟩
 rw [h2] at this
 have := Nat.le_of_dvd (by omega) this
 omega
theorem pock1 {n q a : Nat} (hn : 2 ≤ n) (hq : Prime q) (hqn : q ∣ n - 1) (h1 : a ^ (n - 1) % n = 1) (h2 : Nat.gcd (a ^ ((n - 1) / q) % n + (n - 1)) n = 1) (hs : n < (q + 1) * (q + 1)) : Prime n := by
 refine prime_of hn fun r hr hrn hle => ?_
 have hd := part hn hq hr hrn hqn h1 h2
 have := hr.two
 have := Nat.le_of_dvd (by omega) hd
 have := Nat.mul_le_mul (show q + 1 ≤ r by omega) (show q + 1 ≤ r by omega)
 omega
theorem pock2 {n q s a : Nat} (hn : 2 ≤ n) (hq : Prime q) (hs : Prime s) (hne : q ≠ s) (hqn : q ∣ n - 1) (hsn : s ∣ n - 1) (h1 : a ^ (n - 1) % n = 1) (h2 : Nat.gcd (a ^ ((n - 1) / q) % n + (n - 1)) n = 1) (h3 : Nat.gcd (a ^ ((n - 1) / s) % n + (n - 1)) n = 1)
 (hb : n < (q * s + 1) * (q * s + 1)) : Prime n := by
 refine prime_of hn fun r hr hrn hle => ?_
 have hd := part hn hq hr hrn hqn h1 h2
 have hd' := part hn hs hr hrn hsn h1 h3
 have := hr.two
 have hg : Nat.gcd q s = 1 := hq.coprime fun h => by
  rcases hs.2 q h with h | h
  · have := hq.two; omega
  · exact hne h
 have := Nat.le_of_dvd (by omega) (Nat.Coprime.mul_dvd_of_dvd_of_dvd hg hd hd')
 have := Nat.mul_le_mul (show q * s + 1 ≤ r by omega) (show q * s + 1 ≤ r by omega)
 omega
def trial (n : Nat) : Nat → Nat → Bool
 | 0, _ => true
 | k + 1, d => n % d != 0 && trial n k (d + 1)
theorem trial_ok {n : Nat} : ∀ {k d : Nat}, trial n k d = true → ∀ e, d ≤ e → e < d + k → ¬ e ∣ n
  | 0, _, _, _, _, _ => by omega
  | k + 1, d, h, e, h1, h2 => by
    simp only [trial, Bool.and_eq_true, bne_iff_ne] at h
    rcases Nat.lt_or_ge d e with hlt | hge
    · exact trial_ok h.2 e hlt (by omega)
    · have : e = d := by omega
      subst this
      exact fun hd => h.1 (Nat.mod_eq_zero_of_dvd hd)
theorem prime_trial {n k : Nat} (hn : 2 ≤ n) (h : trial n k 2 = true) (hk : n < (k + 2) * (k + 2)) : Prime n :=
 prime_of hn fun r hr hrn hle => trial_ok h r hr.two (by
  rcases Nat.lt_or_ge r (2 + k) with h | h
  · exact h
  · have := Nat.mul_le_mul (show k + 2 ≤ r by omega) (show k + 2 ≤ r by omega)
    omega) hrn
end Pm
end Go.Proofs.Ytldhmjfjbalakaa

namespace Go.Proofs.Ytldhmjfjbalakaa
namespace Gl
open Kr

section
variable {p : Nat} [NeZero p]

structure Cv (iv : Fin p → Fin p) (b : Fin p) : Prop where
 dom : ∀ x y : Fin p, x * y = 0 → x = 0 ∨ y = 0
 inv : ∀ x : Fin p, x ≠ 0 → x * iv x = 1
 one : (1 : Fin p) ≠ 0
 two : (2 : Fin p) ≠ 0
 root : ∀ x : Fin p, x * x * x - 3 * x + b ≠ 0

abbrev Pt (p : Nat) := Option (Fin p × Fin p)
def Oc (b x y : Fin p) : Prop := y * y = x * x * x - 3 * x + b
def On (b : Fin p) : Pt p → Prop
 | none => True
 | some P => Oc b P.1 P.2
def thr (x1 y1 x2 l : Fin p) : Fin p × Fin p := (l * l - x1 - x2, l * (x1 - (l * l - x1 - x2)) - y1)
def ad (iv : Fin p → Fin p) : Pt p → Pt p → Pt p
 | none, Q => Q
 | some P, none => some P
 | some P, some Q => if P.1 = Q.1 then (if P.2 = Q.2 then some (thr P.1 P.2 Q.1 ((3 * (P.1 * P.1) - 3) * iv (2 * P.2))) else none) else some (thr P.1 P.2 Q.1 ((Q.2 - P.2) * iv (Q.1 - P.1)))
def ng : Pt p → Pt p
 | none => none
 | some P => some (P.1, 0 - P.2)
structure Ln (b x1 y1 x2 y2 l : Fin p) : Prop where
 on : Oc b x1 y1
 hd : y2 = y1 + l * (x2 - x1)
 r : 2 * y1 * l + l * l * (x2 - x1) = x1 * x1 + x1 * x2 + x2 * x2 - 3

theorem via {a c k u v : Fin p} (h : u = v) (e : a - c = k * (u - v)) : a = c := by subst h; grind

def f1 (b x1 y1 x2 y2 : Fin p) : Fin p := (x1 * y2 + x2 * y1) * (y1 * y2 - 3 * (b - (x1 + x2))) - (y1 + y2) * (3 * (b * (x1 + x2) - x1 * x2 - 3))
def f2 (b x1 y1 x2 y2 : Fin p) : Fin p := 3 * (x1 * x2 - 1) * (3 * (b * (x1 + x2) - x1 * x2 - 3)) + (y1 * y2 + 3 * (b - (x1 + x2))) * (y1 * y2 - 3 * (b - (x1 + x2)))
def f3 (b x1 y1 x2 y2 : Fin p) : Fin p := (y1 + y2) * (y1 * y2 + 3 * (b - (x1 + x2))) + (x1 * y2 + x2 * y1) * (3 * (x1 * x2 - 1))

theorem Ln.fx {b x1 y1 x2 y2 l : Fin p} (h : Ln b x1 y1 x2 y2 l) : f1 b x1 y1 x2 y2 = f3 b x1 y1 x2 y2 * (thr x1 y1 x2 l).1 := by
 obtain ⟨h1, h2, h3⟩ := h
 unfold Oc at h1
 unfold thr f1 f3
 have hb : b = y1 * y1 - x1 * x1 * x1 + 3 * x1 := by grind
 clear h1
 subst h2 hb
 exact via h3 (k := l * l * x1 * y1 - l * l * x2 * y1 + 3 * l * x1 * x1 * x1 - 3 * l * x1 * x1 * x2 - 3 * l * x1 + 3 * l * x2 - 4 * l * y1 * y1 - 3 * x1 * x1 * y1 - 3 * x1 * x2 * y1 + 6 * y1) (by clear h3; grind)

theorem Ln.fy {b x1 y1 x2 y2 l : Fin p} (h : Ln b x1 y1 x2 y2 l) : f2 b x1 y1 x2 y2 = f3 b x1 y1 x2 y2 * (thr x1 y1 x2 l).2 := by
 obtain ⟨h1, h2, h3⟩ := h
 unfold Oc at h1
 unfold thr f2 f3
 have hb : b = y1 * y1 - x1 * x1 * x1 + 3 * x1 := by grind
 clear h1
 subst h2 hb
 exact via h3 (k := 0 - l * l * l * x1 * y1 + l * l * l * x2 * y1 - 3 * l * l * x1 * x1 * x1 + 3 * l * l * x1 * x1 * x2 + 3 * l * l * x1 - 3 * l * l * x2 + 4 * l * l * y1 * y1 + 3 * l * x1 * x1 * y1 + 3 * l * x1 * x2 * y1 - 6 * l * y1 + 9 * x1 * x1 * x1 * x1 - 18 * x1 * x1 - 12 * x1 * y1 * y1 + 9) (by clear h3; grind)

theorem Ln.fn {b x1 y1 x2 y2 l : Fin p} (h : Ln b x1 y1 x2 y2 l) : f3 b x1 y1 x2 y2 = (0 - (y1 + y2)) * ((x2 - x1) * (x2 - x1) * (2 * x1 + x2) - (y1 + y2) * (y1 + y2)) - (x2 - x1) * (x2 - x1) * (x2 - x1) * y1 := by
 obtain ⟨h1, h2, h3⟩ := h
 unfold Oc at h1
 unfold f3
 have hb : b = y1 * y1 - x1 * x1 * x1 + 3 * x1 := by grind
 clear h1
 subst h2 hb
 exact via h3 (k := 0 - (x1 - x2) * (l * x1 - l * x2 - 3 * y1)) (by clear h3; grind)

variable {iv : Fin p → Fin p} {b : Fin p}
theorem Cv.y0 (h : Cv iv b) {x y : Fin p} (ho : Oc b x y) : y ≠ 0 := by
 rintro rfl
 unfold Oc at ho
 have := h.root x
 grind
theorem Cv.y2 (h : Cv iv b) {x y : Fin p} (ho : Oc b x y) : 2 * y ≠ 0 := fun e => (h.dom _ _ e).elim h.two (h.y0 ho)
theorem Cv.cancel (h : Cv iv b) {d a c : Fin p} (hd : d ≠ 0) (e : d * a = d * c) : a = c := by
 have := h.dom d (a - c) (by grind)
 grind
theorem Cv.chord (h : Cv iv b) {x1 y1 x2 y2 : Fin p} (h1 : Oc b x1 y1) (h2 : Oc b x2 y2) (hx : x1 ≠ x2) : Ln b x1 y1 x2 y2 ((y2 - y1) * iv (x2 - x1)) := by
 have hd : x2 - x1 ≠ 0 := by grind
 have hi := h.inv _ hd
 have hl : ((y2 - y1) * iv (x2 - x1)) * (x2 - x1) = y2 - y1 := by grind
 generalize (y2 - y1) * iv (x2 - x1) = l at *
 refine ⟨h1, by grind, h.cancel hd ?_⟩
 unfold Oc at h1 h2
 have e1 : (x2 - x1) * (2 * y1 * l + l * l * (x2 - x1)) = 2 * y1 * (l * (x2 - x1)) + (l * (x2 - x1)) * (l * (x2 - x1)) := by clear hl hi h1 h2; grind
 rw [e1, hl]
 clear hl hi e1
 grind
theorem Oc.neg {x y : Fin p} (h : Oc b x y) : Oc b x (0 - y) := by unfold Oc at *; grind
theorem On.neg {P : Pt p} (h : On b P) : On b (ng P) := by
 match P with
 | none => exact h
 | some (x, y) => exact Oc.neg h
theorem Cv.same (h : Cv iv b) {x y z : Fin p} (h1 : Oc b x y) (h2 : Oc b x z) : y = z ∨ z = 0 - y := by
 unfold Oc at h1 h2
 have := h.dom (y - z) (y + z) (by grind)
 grind
def pr : Pt p → Pr (Fin p)
 | none => ⟨0, 1, 0⟩
 | some P => ⟨P.1, P.2, 1⟩
def sc (u : Fin p) (P : Pr (Fin p)) : Pr (Fin p) := ⟨u * P.x, u * P.y, u * P.z⟩
theorem NeZero.lt : 0 < p := Nat.pos_of_ne_zero (NeZero.ne p)
def cst (n : Int) : Fin p := ⟨(n % (p : Int)).toNat, by have h := Int.emod_lt_of_pos n (Int.ofNat_lt.2 (NeZero.lt (p := p))); have := Int.emod_nonneg n (show (p : Int) ≠ 0 by have := NeZero.lt (p := p); omega); omega⟩
theorem cst_nat (n : Nat) : cst (p := p) (n : Int) = Fin.ofNat p n := by
 apply Fin.ext
 show ((n : Int) % (p : Int)).toNat = n % p
 rw [← Int.natCast_emod]
 rfl
def R0 (a : Int) (k : Fin p) : Prop := cst a = k
def Rx {α : Type} (R : α → Fin p → Prop) (y : Fin p) (a : α × α) (k : Fin p) : Prop := ∃ u v, R a.1 u ∧ R a.2 v ∧ k = u + v * y
theorem Rx.zero {α : Type} {R : α → Fin p → Prop} {y : Fin p} {q : α → Prop} (hq : ∀ a k, R a k → q a → k = 0) {a : α × α} {k : Fin p} (h : Rx R y a k) (ha : both q a) : k = 0 := by
 obtain ⟨u, v, h1, h2, rfl⟩ := h
 rw [hq _ _ h1 ha.1, hq _ _ h2 ha.2]
 grind
theorem R0.lift (x : Fin p) : R0 (x.val : Int) x := by show cst _ = _; rw [cst_nat]; exact Fin.ofNat_val_eq_self x
end
end Gl
end Go.Proofs.Ytldhmjfjbalakaa

namespace Go.Proofs.Ytldhmjfjbalakaa
namespace Pm
theorem pock1' {n q a k : Nat} (hn : 2 ≤ n) (hq : Prime q) (hqn : (n - 1) % q = 0) (hk0 : Nat.ble n (2 ^ k) = true) (h1 : pw n a k (n - 1) = 1) (h2 : Nat.gcd (pw n a k ((n - 1) / q) + (n - 1)) n = 1) (hs : n < (q + 1) * (q + 1)) : Prime n := by
 have hle : (n - 1) / q ≤ n - 1 := Nat.div_le_self _ _
 have hk := Nat.le_of_ble_eq_true hk0
 have hk := Nat.le_of_ble_eq_true hk0
 rw [pw_eq k _ (by omega)] at h1 h2
 exact pock1 hn hq (Nat.dvd_of_mod_eq_zero hqn) h1 h2 hs
theorem pock2' {n q s a k : Nat} (hn : 2 ≤ n) (hq : Prime q) (hs : Prime s) (hne : q ≠ s) (hqn : (n - 1) % q = 0) (hsn : (n - 1) % s = 0) (hk0 : Nat.ble n (2 ^ k) = true) (h1 : pw n a k (n - 1) = 1) (h2 : Nat.gcd (pw n a k ((n - 1) / q) + (n - 1)) n = 1) (h3 : Nat.gcd (pw n a k ((n - 1) / s) + (n - 1)) n = 1)
 (hb : n < (q * s + 1) * (q * s + 1)) : Prime n := by
 have hle : (n - 1) / q ≤ n - 1 := Nat.div_le_self _ _
 have hle2 : (n - 1) / s ≤ n - 1 := Nat.div_le_self _ _
 have hk := Nat.le_of_ble_eq_true hk0
 have hk := Nat.le_of_ble_eq_true hk0
 rw [pw_eq k _ (by omega)] at h1 h2 h3
 exact pock2 hn hq hs hne (Nat.dvd_of_mod_eq_zero hqn) (Nat.dvd_of_mod_eq_zero hsn) h1 h2 h3 hb
theorem p704251 : Prime 704251 := prime_trial (k := 839) (by decide) (by kernel_rfl) (by decide)
theorem p78283 : Prime 78283 := prime_trial (k := 279) (by decide) (by kernel_rfl) (by decide)
theorem q4607695696 : Prime 46076956964474543 := pock2' (q := 704251) (s := 78283) (a := 2) (k := 56) (by decide) p704251 p78283 (by decide) (by kernel_rfl) (by kernel_rfl) (by kernel_rfl) (by kernel_rfl) (by kernel_rfl) (by kernel_rfl) (by decide)
theorem p3677 : Prime 3677 := prime_trial (k := 60) (by decide) (by kernel_rfl) (by decide)
theorem p197 : Prime 197 := prime_trial (k := 14) (by decide) (by kernel_rfl) (by decide)
theorem p66417393611 : Prime 66417393611 := pock2' (q := 3677) (s := 197) (a := 2) (k := 36) (by decide) p3677 p197 (by decide) (by kernel_rfl) (by kernel_rfl) (by kernel_rfl) (by kernel_rfl) (by kernel_rfl) (by kernel_rfl) (by decide)
theorem q1129095691 : Prime 11290956913871 := pock1' (q := 66417393611) (a := 2) (k := 44) (by decide) p66417393611 (by kernel_rfl) (by kernel_rfl) (by kernel_rfl) (by kernel_rfl) (by decide)
theorem q7740231872 : Prime 774023187263532362759620327192479577272145303 := pock2' (q := 46076956964474543) (s := 11290956913871) (a := 2) (k := 150) (by decide) q4607695696 q1129095691 (by decide) (by kernel_rfl) (by kernel_rfl) (by kernel_rfl) (by kernel_rfl) (by kernel_rfl) (by kernel_rfl) (by decide)
theorem q8359450422 : Prime 835945042244614951780389953367877943453916927241 := pock1' (q := 774023187263532362759620327192479577272145303) (a := 2) (k := 160) (by decide) q7740231872 (by kernel_rfl) (by kernel_rfl) (by kernel_rfl) (by kernel_rfl) (by decide)
theorem p256 : Prime 115792089210356248762697446949407573530086143415290314195533631308867097853951 := pock1' (q := 835945042244614951780389953367877943453916927241) (a := 2) (k := 256) (by decide) q8359450422 (by kernel_rfl) (by kernel_rfl) (by kernel_rfl) (by kernel_rfl) (by decide)
theorem p363557 : Prime 363557 := prime_trial (k := 602) (by decide) (by kernel_rfl) (by decide)
theorem p532247449 : Prime 532247449 := pock1' (q := 363557) (a := 2) (k := 29) (by decide) p363557 (by kernel_rfl) (by kernel_rfl) (by kernel_rfl) (by kernel_rfl) (by decide)
theorem q4492594267 : Prime 44925942675193 := pock1' (q := 532247449) (a := 2) (k := 46) (by decide) p532247449 (by kernel_rfl) (by kernel_rfl) (by kernel_rfl) (by kernel_rfl) (by decide)
theorem q3558145864 : Prime 35581458644053887931343 := pock1' (q := 44925942675193) (a := 2) (k := 75) (by decide) q4492594267 (by kernel_rfl) (by kernel_rfl) (by kernel_rfl) (by kernel_rfl) (by decide)
theorem q2396461053 : Prime 23964610537191310276190549303 := pock1' (q := 35581458644053887931343) (a := 2) (k := 95) (by decide) q3558145864 (by kernel_rfl) (by kernel_rfl) (by kernel_rfl) (by kernel_rfl) (by decide)
theorem q8627259793 : Prime 862725979338887169942859774909 := pock1' (q := 23964610537191310276190549303) (a := 2) (k := 100) (by decide) q2396461053 (by kernel_rfl) (by kernel_rfl) (by kernel_rfl) (by kernel_rfl) (by decide)
theorem q2070542350 : Prime 20705423504133292078628634597817 := pock1' (q := 862725979338887169942859774909) (a := 2) (k := 105) (by decide) q8627259793 (by kernel_rfl) (by kernel_rfl) (by kernel_rfl) (by kernel_rfl) (by decide)
theorem q4132446198 : Prime 413244619895455989650825325680172591660047 := pock1' (q := 20705423504133292078628634597817) (a := 2) (k := 139) (by decide) q2070542350 (by kernel_rfl) (by kernel_rfl) (by kernel_rfl) (by kernel_rfl) (by decide)
theorem q1239733859 : Prime 12397338596863679689524759770405177749801411 := pock1' (q := 413244619895455989650825325680172591660047) (a := 2) (k := 144) (by decide) q4132446198 (by kernel_rfl) (by kernel_rfl) (by kernel_rfl) (by kernel_rfl) (by decide)
theorem p21407 : Prime 21407 := prime_trial (k := 146) (by decide) (by kernel_rfl) (by decide)
theorem p246608641 : Prime 246608641 := pock1' (q := 21407) (a := 2) (k := 28) (by decide) p21407 (by kernel_rfl) (by kernel_rfl) (by kernel_rfl) (by kernel_rfl) (by decide)
theorem p881 : Prime 881 := prime_trial (k := 29) (by decide) (by kernel_rfl) (by decide)
theorem p211 : Prime 211 := prime_trial (k := 14) (by decide) (by kernel_rfl) (by decide)
theorem p105957871 : Prime 105957871 := pock2' (q := 881) (s := 211) (a := 2) (k := 27) (by decide) p881 p211 (by decide) (by kernel_rfl) (by kernel_rfl) (by kernel_rfl) (by kernel_rfl) (by kernel_rfl) (by kernel_rfl) (by decide)
theorem q5297099258 : Prime 529709925838459440593 := pock2' (q := 246608641) (s := 105957871) (a := 2) (k := 69) (by decide) p246608641 p105957871 (by decide) (by kernel_rfl) (by kernel_rfl) (by kernel_rfl) (by kernel_rfl) (by kernel_rfl) (by kernel_rfl) (by decide)
theorem q1917379029 : Prime 19173790298027098165721053155794528970226934547887232785722672956982046098136719667167519737147526097 := pock2' (q := 12397338596863679689524759770405177749801411) (s := 529709925838459440593) (a := 2) (k := 334) (by decide) q1239733859 q5297099258 (by decide) (by kernel_rfl) (by kernel_rfl) (by kernel_rfl) (by kernel_rfl) (by kernel_rfl) (by kernel_rfl) (by decide)
theorem p384 : Prime 39402006196394479212279040100143613805079739270465446667948293404245721771496870329047266088258938001861606973112319 := pock1' (q := 19173790298027098165721053155794528970226934547887232785722672956982046098136719667167519737147526097) (a := 2) (k := 384) (by decide) q1917379029 (by kernel_rfl) (by kernel_rfl) (by kernel_rfl) (by kernel_rfl) (by decide)
end Pm
end Go.Proofs.Ytldhmjfjbalakaa

namespace Go.Proofs.Ytldhmjfjbalakaa
namespace Gl

section
variable {p : Nat} [NeZero p]
def ph (n : Nat) : Fin p := Fin.ofNat p n
theorem ph_val (n : Nat) : (ph (p := p) n).val = n % p := rfl
theorem ph_add (a b : Nat) : ph (p := p) (a + b) = ph a + ph b := Fin.ext (by rw [Fin.val_add, ph_val, ph_val, ph_val, ← Nat.add_mod])
theorem ph_mul (a b : Nat) : ph (p := p) (a * b) = ph a * ph b := Fin.ext (by rw [Fin.val_mul, ph_val, ph_val, ph_val, ← Nat.mul_mod])
theorem ph_mod (a : Nat) : ph (p := p) (a % p) = ph a := Fin.ext (by rw [ph_val, ph_val, Nat.mod_mod])
theorem ph_self : ph (p := p) p = 0 := Fin.ext (by rw [ph_val, Nat.mod_self]; rfl)
theorem ph_sub {a b : Nat} (h : b ≤ a) : ph (p := p) (a - b) = ph a - ph b := by
 have := ph_add (p := p) (a - b) b
 rw [Nat.sub_add_cancel h] at this
 grind
theorem ph0 : ph (p := p) 0 = 0 := rfl
theorem ph1 : ph (p := p) 1 = 1 := rfl
def ivp (x : Fin p) : Fin p := ph (x.val ^ (p - 2))

abbrev T3 := Nat × Nat × Nat
def cm (M q : Nat) (a c : T3) : T3 := ((a.1 * c.1 + (a.2.1 * c.2.2 + a.2.2 * c.2.1) * (M - q)) % M, (a.1 * c.2.1 + a.2.1 * c.1 + 3 * (a.2.1 * c.2.2 + a.2.2 * c.2.1) + a.2.2 * c.2.2 * (M - q)) % M, (a.1 * c.2.2 + a.2.1 * c.2.1 + a.2.2 * c.1 + 3 * (a.2.2 * c.2.2)) % M)
def cpw (M q : Nat) : Nat → Nat → T3
 | 0, _ => (1, 0, 0)
 | k + 1, e => if e % 2 = 1 then cm M q (cm M q (cpw M q k (e / 2)) (cpw M q k (e / 2))) (0, 1, 0) else cm M q (cpw M q k (e / 2)) (cpw M q k (e / 2))
def less (M : Nat) (r : T3) : T3 := (r.1, r.2.1 + (M - 1), r.2.2)
def rootChk (M q k : Nat) (U : T3) : Bool := Nat.ble q M && Nat.ble (M + 1) (2 ^ k) && (cm M q U (less M (cpw M q k M)) == (1, 0, 0))
def ev (x : Fin p) (a : T3) : Fin p := ph a.1 + ph a.2.1 * x + ph a.2.2 * (x * x)
theorem ev_cm {q : Nat} (hq : q ≤ p) {x : Fin p} (hx : x * x * x - 3 * x + ph q = 0) (a c : T3) : ev x (cm p q a c) = ev x a * ev x c := by
 unfold ev cm
 simp only [ph_mod, ph_add, ph_mul, ph_sub hq, ph_self]
 rw [show (ph (p := p) 3) = 3 from rfl]
 generalize (ph a.1 : Fin p) = a0, (ph a.2.1 : Fin p) = a1, (ph a.2.2 : Fin p) = a2, (ph c.1 : Fin p) = c0, (ph c.2.1 : Fin p) = c1, (ph c.2.2 : Fin p) = c2, (ph q : Fin p) = b at *
 exact via hx (k := 0 - (a1 * c2 + a2 * c1) - a2 * c2 * x) (by clear hx; grind)
def pf (x : Fin p) : Nat → Fin p
 | 0 => 1
 | n + 1 => pf x n * x
theorem pf_add (x : Fin p) (m : Nat) : ∀ n, pf x (m + n) = pf x m * pf x n
 | 0 => (Fin.mul_one _).symm
 | n + 1 => by show pf x (m + n) * x = pf x m * (pf x n * x); rw [pf_add x m n]; grind
theorem pf_val (x : Fin p) : ∀ n, (pf x n).val = x.val ^ n % p
 | 0 => rfl
 | n + 1 => by show (pf x n * x).val = _; rw [Fin.val_mul, pf_val x n, Nat.pow_succ, Nat.mod_mul_mod]
theorem ev_cpw {q : Nat} (hq : q ≤ p) {x : Fin p} (hx : x * x * x - 3 * x + ph q = 0) : ∀ k e, e < 2 ^ k → ev x (cpw p q k e) = pf x e
  | 0, e, h => by
    have : e = 0 := by omega
    subst this
    show ph 1 + ph 0 * x + ph 0 * (x * x) = 1
    rw [ph0, ph1]
    grind
  | k + 1, e, h => by
    have hd : e / 2 < 2 ^ k := by rw [Nat.pow_succ] at h; omega
    have h1 := Nat.div_add_mod e 2
    simp only [cpw]
    have e2 : ev x (cpw p q k (e / 2)) * ev x (cpw p q k (e / 2)) = pf x (e / 2 + e / 2) := by rw [ev_cpw hq hx k _ hd, pf_add]
    split
    · rename_i ho
      rw [ev_cm hq hx, ev_cm hq hx, e2, show e = (e / 2 + e / 2) + 1 by omega]
      show _ = pf x (e / 2 + e / 2) * x
      rw [show (e / 2 + e / 2 + 1) / 2 = e / 2 by omega]
      have : ev x (0, 1, 0) = x := by
        show ph 0 + ph 1 * x + ph 0 * (x * x) = x
        rw [ph0, ph1]
        grind
      rw [this]
    · rw [ev_cm hq hx, e2]
      congr 1
      omega
theorem no_root (hp : Pm.Prime p) {q k : Nat} {U : T3} (h : rootChk p q k U = true) (x : Fin p) : x * x * x - 3 * x + ph q ≠ 0 := by
 intro hx
 unfold rootChk at h
 rw [Bool.and_eq_true, Bool.and_eq_true] at h
 obtain ⟨⟨h1, h2⟩, h3⟩ := h
 have hq := Nat.le_of_ble_eq_true h1
 have hk : p < 2 ^ k := Nat.le_of_ble_eq_true h2
 have e := ev_cm hq hx U (less p (cpw p q k p))
 rw [eq_of_beq h3] at e
 have el : ev x (less p (cpw p q k p)) = ev x (cpw p q k p) - x := by
  unfold ev less
  simp only [ph_add, ph_sub (show 1 ≤ p from NeZero.lt), ph_self, ph1]
  grind
 have ef : pf x p = x := Fin.ext (by rw [pf_val, Pm.fermat0 hp, Nat.mod_eq_of_lt x.isLt])
 rw [el, ev_cpw hq hx k p hk, ef] at e
 have e1 : ev x (1, 0, 0) = 1 := by
  show ph 1 + ph 0 * x + ph 0 * (x * x) = 1
  rw [ph0, ph1]
  grind
 rw [e1] at e
 have h10 : (1 : Fin p) = 0 := by grind
 have := congrArg Fin.val h10
 have h2p := hp.two
 rw [show ((1 : Fin p)).val = 1 % p from rfl, show ((0 : Fin p)).val = 0 % p from rfl, Nat.zero_mod, Nat.mod_eq_of_lt (by omega)] at this
 omega
theorem cv_of (hp : Pm.Prime p) (h3 : 2 < p) {q k : Nat} {U : T3} (h : rootChk p q k U = true) : Cv ivp (ph (p := p) q) := by
 have nz : ∀ {x : Fin p}, x ≠ 0 → ¬ p ∣ x.val := fun {x} hx hd => hx (Fin.ext (by have := Nat.eq_zero_of_dvd_of_lt hd x.isLt; rw [this]; exact (Nat.zero_mod p).symm))
 refine ⟨fun x y e => ?_, fun x hx => ?_, fun e => ?_, fun e => ?_, no_root hp h⟩
 · have := congrArg Fin.val e
   rw [Fin.val_mul, show ((0 : Fin p)).val = 0 % p from rfl, Nat.zero_mod] at this
   refine Decidable.byContradiction fun hn => ?_
   have hn := not_or.1 hn
   exact (hp.dvd_mul (Nat.dvd_of_mod_eq_zero this)).elim (nz hn.1) (nz hn.2)
 · refine Fin.ext ?_
   rw [Fin.val_mul]
   show x.val * (x.val ^ (p - 2) % p) % p = 1 % p
   rw [Pm.inv_mul hp (nz hx), Nat.mod_eq_of_lt (by omega)]
 · have := congrArg Fin.val e
   rw [show ((1 : Fin p)).val = 1 % p from rfl, show ((0 : Fin p)).val = 0 % p from rfl, Nat.zero_mod, Nat.mod_eq_of_lt (by omega)] at this
   omega
 · have := congrArg Fin.val e
   rw [show ((2 : Fin p)).val = 2 % p from rfl, show ((0 : Fin p)).val = 0 % p from rfl, Nat.zero_mod, Nat.mod_eq_of_lt h3] at this
   omega
end
theorem root256 : rootChk 115792089210356248762697446949407573530086143415290314195533631308867097853951 41058363725152142129326129780047268409114441015993725554835256314039467401291 256 (76626890310466861426869089647039036757962535851890885406097439786770458211455, 74462945259064871768191128030512052509059297803194871526163573358218695456204, 34768139465301476436978405170953382516735956999154666452188405812258086013549) = true := by kernel_rfl
theorem root384 : rootChk 39402006196394479212279040100143613805079739270465446667948293404245721771496870329047266088258938001861606973112319 27580193559959705877849011840389048093056905856361568521428707301988689241309860865136260764883745107765439761230575 384 (23037766613497683937702734290281044719364893268180251583910224888989381657771069200037813904257325918671976092329602, 8235438212423615602427778915669574859600037698862346933589434399495169446996583974901273360826717582835190849638831, 12157362177932134139146813183752135342286725243554133716818896354380897714709611791313184492360272402950851405460538) = true := by kernel_rfl
end Gl
end Go.Proofs.Ytldhmjfjbalakaa

namespace Go.Proofs.Ytldhmjfjbalakaa
namespace Gl

section
variable {p : Nat} [NeZero p] {iv : Fin p → Fin p} {b : Fin p}
def Rp (X Y Z : Fin p) (P : Pt p) : Prop := (Z = 0 ∧ P = none) ∨ (Z ≠ 0 ∧ ∃ x y, P = some (x, y) ∧ X = x * (Z * Z) ∧ Y = y * (Z * Z * Z))
theorem Cv.nz (h : Cv iv b) {x y : Fin p} (hx : x ≠ 0) (hy : y ≠ 0) : x * y ≠ 0 := fun e => (h.dom _ _ e).elim hx hy
theorem Rp.some_ {X Y Z x y : Fin p} (hz : Z ≠ 0) (h1 : X = x * (Z * Z)) (h2 : Y = y * (Z * Z * Z)) : Rp X Y Z (some (x, y)) := Or.inr ⟨hz, x, y, rfl, h1, h2⟩
theorem ad_chord {x1 y1 x2 y2 : Fin p} (hx : x1 ≠ x2) : ad iv (some (x1, y1)) (some (x2, y2)) = some (thr x1 y1 x2 ((y2 - y1) * iv (x2 - x1))) := by
 show (if x1 = x2 then _ else _) = _
 rw [if_neg hx]
theorem add_ring {x1 y1 x2 l W H R : Fin p} (hH : H = (x2 - x1) * (W * W)) (hR : R = l * (x2 - x1) * (W * W * W)) :
 R * R - H * H * H - (x1 * (W * W) * (H * H) + x1 * (W * W) * (H * H)) = (thr x1 y1 x2 l).1 * (H * W * (H * W)) ∧
 R * (x1 * (W * W) * (H * H) - (thr x1 y1 x2 l).1 * (H * W * (H * W))) - y1 * (W * W * W) * (H * H * H) = (thr x1 y1 x2 l).2 * (H * W * (H * W) * (H * W)) := by
 subst hH hR
 unfold thr
 exact ⟨by grind, by grind⟩
theorem Cv.add (h : Cv iv b) {X1 Y1 Z1 X2 Y2 Z2 H R U S X' Y' Z' : Fin p} {x1 y1 x2 y2 : Fin p} (hz1 : Z1 ≠ 0) (hz2 : Z2 ≠ 0)
 (hX1 : X1 = x1 * (Z1 * Z1)) (hY1 : Y1 = y1 * (Z1 * Z1 * Z1)) (hX2 : X2 = x2 * (Z2 * Z2)) (hY2 : Y2 = y2 * (Z2 * Z2 * Z2)) (hP : Oc b x1 y1) (hQ : Oc b x2 y2)
 (hU : U = X1 * (Z2 * Z2)) (hS : S = Y1 * (Z2 * Z2 * Z2)) (hH : H = X2 * (Z1 * Z1) - U) (hR : R = Y2 * (Z1 * Z1 * Z1) - S) :
 (H = 0 ↔ x1 = x2) ∧ (R = 0 ↔ y1 = y2) ∧ (H ≠ 0 → X' = R * R - H * H * H - (U * (H * H) + U * (H * H)) → Y' = R * (U * (H * H) - X') - S * (H * H * H) → Z' = H * (Z1 * Z2) → Rp X' Y' Z' (ad iv (some (x1, y1)) (some (x2, y2)))) := by
 have hw : Z1 * Z2 ≠ 0 := h.nz hz1 hz2
 have eU : U = x1 * (Z1 * Z2 * (Z1 * Z2)) := by rw [hU, hX1]; clear hU hS hH hR hX1 hX2 hY1 hY2 hP hQ; grind
 have eS : S = y1 * (Z1 * Z2 * (Z1 * Z2) * (Z1 * Z2)) := by rw [hS, hY1]; clear hU hS hH hR hX1 hX2 hY1 hY2 hP hQ eU; grind
 have eH : H = (x2 - x1) * (Z1 * Z2 * (Z1 * Z2)) := by rw [hH, eU, hX2]; clear hU hS hH hR hX1 hX2 hY1 hY2 hP hQ eU eS; grind
 have eR : R = (y2 - y1) * (Z1 * Z2 * (Z1 * Z2) * (Z1 * Z2)) := by rw [hR, eS, hY2]; clear hU hS hH hR hX1 hX2 hY1 hY2 hP hQ eU eS eH; grind
 clear hU hS hH hR hX1 hX2 hY1 hY2 hz1 hz2
 generalize Z1 * Z2 = W at *
 have hH0 : H = 0 ↔ x1 = x2 := by
  constructor
  · intro e
    rw [eH] at e
    have := (h.dom _ _ e).resolve_right (h.nz hw hw)
    grind
  · rintro rfl
    rw [eH]
    grind
 refine ⟨hH0, ?_, fun hH hX hY hZ => ?_⟩
 · constructor
   · intro e
     rw [eR] at e
     have := (h.dom _ _ e).resolve_right (h.nz (h.nz hw hw) hw)
     grind
   · rintro rfl
     rw [eR]
     grind
 · have hx : x1 ≠ x2 := fun e => hH (hH0.2 e)
   rw [ad_chord hx]
   have hd := (h.chord hP hQ hx).hd
   generalize (y2 - y1) * iv (x2 - x1) = l at *
   have eR' : R = l * (x2 - x1) * (W * W * W) := by rw [eR, hd]; grind
   obtain ⟨e1, e2⟩ := add_ring (x1 := x1) (y1 := y1) (x2 := x2) (l := l) (W := W) eH eR'
   rw [← eU] at e1 e2
   rw [← eS] at e2
   rw [← hX] at e1
   rw [← e1, ← hY] at e2
   rw [← hZ] at e1 e2
   exact Rp.some_ (by rw [hZ]; exact h.nz hH hw) e1 e2
theorem Rp.up (h1 : (1 : Fin p) ≠ 0) (x y : Fin p) : Rp x y 1 (some (x, y)) := Rp.some_ h1 (by grind) (by grind)
end
end Gl
end Go.Proofs.Ytldhmjfjbalakaa
