/- What limb.small and the easy cases of limb.Quo compute. Plain arithmetic of the rounds of a long division: nothing of the program. What limb.guess computes. What limb.takes and limb.gives compute. Plain arithmetic of one limb of a long division: nothing of the program. Plain arithmetic of the reference's division: nothing of the program. What the reference's less computes. What Montgomery's product needs: worlds in which one block alone may turn, plain laws. mechs.Multi, Param, May of a digest; opers: Over, ends, mode, hash. SHA-256 as a function on lists: words are 32-bit vectors, bytes are numbers. No program is named here. Slices of one limb; slices in whatever block. Plain arithmetic of bits and bytes of numbers: nothing of the program. What limb.FromBytes, the reference's FromBytes, Bits and Bytes compute. A rule for a region that draws its order and lays a value into a block that it has made, where one operation (an answer's second part) may come before the store or behind it. Nothing here speaks of the program. Blocks of the call's own that are read and laid whole, one store, what it leaves alone. Words of 32 bits as the program holds them: sums, shifts, ors; RotateLeft32, Get32. -/
import Derived.Test.YtpbmaapdppdagaaGreatDoorQ1fccf0b0523b
import Derived.WalkMore
import Derived.Laws.CopyRow
import Derived.Laws.IdiomCopy
import Derived.WalkKit
import Derived.Lib.BitFns
import Derived.Lib.ItoaNum
import Derived.RegionTactic
import Derived.ChangeAlike
import Derived.Deep.MidRow
import Derived.BigQuiet
namespace Go.Proofs.YtpbmaapdppdagaaGreatDoor
open Go.RowKit

def Below1 (k : Nat) (i : Int) : Prop := (k = 0 ∧ i = -1) ∨ ∃ j : Nat, k = j + 1 ∧ i = (j : Int)
theorem Below1.start (n : Nat) : Below1 n ((n : Int) - 1) := by
 rcases n with _ | n
 · exact .inl ⟨rfl, by simp⟩
 · exact .inr ⟨n, rfl, by omega⟩
def SmallAt (B : Nat) (l o : List Nat) (d k r : Nat) : Prop := o.length = l.length ∧ val B (l.drop k) = d * val B (o.drop k) + r
theorem SmallAt.start {B : Nat} {l o : List Nat} (d : Nat) (h : o.length = l.length) : SmallAt B l o d l.length 0 := by
 refine ⟨h, ?_⟩
 rw [List.drop_length, ← h, List.drop_length]
 simp
theorem drop_dg {l : List Nat} {k : Nat} (h : k < l.length) : l.drop k = dg l k :: l.drop (k + 1) := by
 rw [List.drop_eq_getElem_cons h, dg, getD_eq' h]
theorem drop_set {l : List Nat} {k x : Nat} (h : k < l.length) : (l.set k x).drop k = x :: l.drop (k + 1) := by
 rw [List.drop_set, if_neg (Nat.lt_irrefl _), drop_dg h, Nat.sub_self, List.set_cons_zero]
theorem SmallAt.step {B : Nat} {l o : List Nat} {d k r q r' : Nat} (h : SmallAt B l o d (k + 1) r) (hk : k < l.length) (he : r * B + dg l k = d * q + r') : SmallAt B l (o.set k q) d k r' := by
 obtain ⟨h1, h2⟩ := h
 refine ⟨by simpa using h1, ?_⟩
 rw [drop_dg hk, drop_set (by omega), val_cons, val_cons, h2]
 have e : B * (d * val B (o.drop (k + 1)) + r) = d * (B * val B (o.drop (k + 1))) + r * B := by
  rw [Nat.mul_add, Nat.mul_left_comm, Nat.mul_comm B r]
 rw [e, Nat.mul_add]
 omega
theorem SmallAt.fin {B : Nat} {l o : List Nat} {d r : Nat} (h : SmallAt B l o d 0 r) (hr : r < d) : val B o = val B l / d ∧ r = val B l % d := by
 have := h.2
 simp only [List.drop_zero] at this
 rw [this]
 refine ⟨?_, ?_⟩
 · rw [Nat.mul_add_div (by omega), Nat.div_eq_of_lt hr, Nat.add_zero]
 · rw [Nat.mul_add_mod, Nat.mod_eq_of_lt hr]

set_option maxRecDepth 100000 in
set_option maxHeartbeats 1000000 in
theorem quo_lt (P P' : Nat → Prop) (A A' : Option Addr) (c c' : Nat) (a b : List Nat) (w : World) (h : RN w P A c a) (h' : RN w P' A' c' b) (hlt : val 18446744073709551616 a < val 18446744073709551616 b) :
 Calls Tryz.prog 209 #[.slice A a.length c, .slice A' b.length c'] w fun e w' => ∃ A1 c1, e = .returned (.tuple #[.slice none 0 0, .slice A1 (digs 18446744073709551616 (val 18446744073709551616 a)).length c1, .bool true]) ∧
  OB w' w.heap.size A1 c1 (digs 18446744073709551616 (val 18446744073709551616 a)) ∧ Below w.heap.size w w' := by
 have ta := Lib.hid (trim_any P A c a w h)
 have tb := Lib.hid (trim_any P' A' c' b w h')
 have tc := cmp_any P P' A A' c c' _ _ w h.trim h'.trim
 have tm := fun n => made_any P A c _ (World.drewN w n) (h.trim.drewN n)
 rw [val_digs (by omega), val_digs (by omega), cmpV_lt hlt] at tc
 rw [val_digs (by omega)] at tm
 have Tc := Lib.hid tc
 have Tm := Lib.hid tm
 have hne : 0 < (digs 18446744073709551616 (val 18446744073709551616 b)).length := by
  rw [digs_pos (by omega) (by omega)]; simp
 clear tc tm h h' hlt
 generalize digs 18446744073709551616 (val 18446744073709551616 a) = l at *
 generalize digs 18446744073709551616 (val 18446744073709551616 b) = m at *
 have hne' : ((m.length : Int) == 0) = false := eqB (by omega)
 clear hne
 go_enter Tryz.func209, Tryz.ntmps209
 go_wp2_with fail
 refine ta.out.mono ?_
 rintro e w1 ⟨rfl, rfl⟩
 go_wp2_with fail
 refine tb.out.mono ?_
 rintro e w1 ⟨rfl, rfl⟩
 go_wp2_with fail
 refine Tc.out.mono ?_
 rintro e w1 ⟨rfl, n, rfl⟩
 go_wp2_with fail
 refine (Tm.out n).mono ?_
 rintro e w1 ⟨A1, c1, rfl, hO, hB⟩
 go_wp2
 go_ret3
 exact ⟨A1, c1, rfl, hO, ⟨hB.os, hB.tape, hB.output, hB.size, hB.block⟩⟩

end Go.Proofs.YtpbmaapdppdagaaGreatDoor

namespace Go.Proofs.YtpbmaapdppdagaaGreatDoor

def TakesAt (B : Nat) (L0 y : List Nat) (q f : Nat) (L : List Nat) (j c b : Nat) : Prop :=
 L.length = L0.length ∧ val B L + B ^ f * (q * val B (y.take j)) = val B L0 + B ^ (f + j) * (c + b) ∧ ∀ i, f + j ≤ i → dg L i = dg L0 i
theorem TakesAt.zero (B : Nat) (L y : List Nat) (q f : Nat) : TakesAt B L y q f L 0 0 0 := by simp [TakesAt]
theorem TakesAt.step {B : Nat} {L0 y L : List Nat} {q f j c b lo c' x b' : Nat} (h : TakesAt B L0 y q f L j c b) (hL : f + j < L.length) (h1 : lo + B * c' = q * dg y j + c) (h2 : x + lo + b = dg L (f + j) + B * b') :
 TakesAt B L0 y q f (L.set (f + j) x) (j + 1) c' b' := by
 obtain ⟨g1, g2, g3⟩ := h
 refine ⟨by simpa using g1, ?_, fun i hi => by rw [getD_set_ne (by omega)]; exact g3 i (by omega)⟩
 have hs := val_set' B hL x
 rw [val_take_getD, Nat.mul_add, Nat.mul_add, ← Nat.add_assoc f j 1, Nat.pow_succ]
 have e1 : B ^ f * (q * (B ^ j * dg y j)) = B ^ (f + j) * (q * dg y j) := by
  rw [Nat.pow_add, Nat.mul_left_comm q, ← Nat.mul_assoc]
 have e2 : B ^ (f + j) * (lo + B * c') = B ^ (f + j) * (q * dg y j + c) := by rw [h1]
 have e3 : B ^ (f + j) * (x + lo + b) = B ^ (f + j) * (dg L (f + j) + B * b') := by rw [h2]
 rw [e1, Nat.mul_assoc, Nat.mul_add]
 rw [Nat.mul_add] at g2
 simp only [Nat.mul_add] at e2 e3 ⊢
 generalize B ^ (f + j) * (B * c') = p1 at *
 generalize B ^ (f + j) * (B * b') = p2 at *
 generalize B ^ (f + j) * lo = p3 at *
 generalize B ^ (f + j) * (q * dg y j) = p4 at *
 generalize B ^ (f + j) * c = p5 at *
 generalize B ^ (f + j) * b = p6 at *
 generalize B ^ (f + j) * x = p7 at *
 generalize B ^ (f + j) * dg L (f + j) = p8 at *
 generalize B ^ f * (q * val B (y.take j)) = p9 at *
 generalize val B (L.set (f + j) x) = p10 at *
 generalize val B L = p11 at *
 generalize val B L0 = p12 at *
 omega
theorem TakesAt.fin {B : Nat} {L0 y L : List Nat} {q f n c b x b' : Nat} (h : TakesAt B L0 y q f L n c b) (hn : y.length = n) (hL : f + n < L.length) (h2 : x + c + b = dg L (f + n) + B * b') :
 (L.set (f + n) x).length = L0.length ∧ val B (L.set (f + n) x) + B ^ f * (q * val B y) = val B L0 + B ^ (f + n + 1) * b' ∧ ∀ i, f + n + 1 ≤ i → dg (L.set (f + n) x) i = dg L0 i := by
 obtain ⟨g1, g2, g3⟩ := h
 refine ⟨by simpa using g1, ?_, fun i hi => by rw [getD_set_ne (by omega)]; exact g3 i (by omega)⟩
 rw [List.take_of_length_le (by omega)] at g2
 have hs := val_set' B hL x
 have e3 : B ^ (f + n) * (x + c + b) = B ^ (f + n) * (dg L (f + n) + B * b') := by rw [h2]
 rw [Nat.pow_succ, Nat.mul_assoc]
 simp only [Nat.mul_add] at e3 g2
 generalize B ^ (f + n) * (B * b') = p2 at *
 generalize B ^ (f + n) * c = p5 at *
 generalize B ^ (f + n) * b = p6 at *
 generalize B ^ (f + n) * x = p7 at *
 generalize B ^ (f + n) * dg L (f + n) = p8 at *
 generalize B ^ f * (q * val B y) = p9 at *
 generalize val B (L.set (f + n) x) = p10 at *
 generalize val B L = p11 at *
 generalize val B L0 = p12 at *
 omega
def GivesAt (B : Nat) (L0 y : List Nat) (f : Nat) (L : List Nat) (j c : Nat) : Prop :=
 L.length = L0.length ∧ val B L + B ^ (f + j) * c = val B L0 + B ^ f * val B (y.take j) ∧ ∀ i, f + j ≤ i → dg L i = dg L0 i
theorem GivesAt.zero (B : Nat) (L y : List Nat) (f : Nat) : GivesAt B L y f L 0 0 := by simp [GivesAt]
theorem GivesAt.step {B : Nat} {L0 y L : List Nat} {f j c x c' : Nat} (h : GivesAt B L0 y f L j c) (hL : f + j < L.length) (h1 : x + B * c' = dg L (f + j) + dg y j + c) : GivesAt B L0 y f (L.set (f + j) x) (j + 1) c' := by
 obtain ⟨g1, g2, g3⟩ := h
 refine ⟨by simpa using g1, ?_, fun i hi => by rw [getD_set_ne (by omega)]; exact g3 i (by omega)⟩
 have hs := val_set' B hL x
 rw [val_take_getD, Nat.mul_add, ← Nat.mul_assoc, ← Nat.pow_add, ← Nat.add_assoc f j 1, Nat.pow_succ, Nat.mul_assoc]
 have e2 : B ^ (f + j) * (x + B * c') = B ^ (f + j) * (dg L (f + j) + dg y j + c) := by rw [h1]
 simp only [Nat.mul_add] at e2 ⊢
 generalize B ^ (f + j) * (B * c') = p1 at *
 generalize B ^ (f + j) * dg y j = p4 at *
 generalize B ^ (f + j) * c = p5 at *
 generalize B ^ (f + j) * x = p7 at *
 generalize B ^ (f + j) * dg L (f + j) = p8 at *
 generalize B ^ f * val B (y.take j) = p9 at *
 generalize val B (L.set (f + j) x) = p10 at *
 generalize val B L = p11 at *
 generalize val B L0 = p12 at *
 omega
theorem GivesAt.fin {B : Nat} {L0 y L : List Nat} {f n c x c' : Nat} (h : GivesAt B L0 y f L n c) (hn : y.length = n) (hL : f + n < L.length) (h1 : x + B * c' = dg L (f + n) + c) :
 (L.set (f + n) x).length = L0.length ∧ val B (L.set (f + n) x) + B ^ (f + n + 1) * c' = val B L0 + B ^ f * val B y ∧ ∀ i, f + n + 1 ≤ i → dg (L.set (f + n) x) i = dg L0 i := by
 obtain ⟨g1, g2, g3⟩ := h
 refine ⟨by simpa using g1, ?_, fun i hi => by rw [getD_set_ne (by omega)]; exact g3 i (by omega)⟩
 rw [List.take_of_length_le (by omega)] at g2
 have hs := val_set' B hL x
 have e3 : B ^ (f + n) * (x + B * c') = B ^ (f + n) * (dg L (f + n) + c) := by rw [h1]
 rw [Nat.pow_succ, Nat.mul_assoc]
 simp only [Nat.mul_add] at e3
 generalize B ^ (f + n) * (B * c') = p2 at *
 generalize B ^ (f + n) * c = p5 at *
 generalize B ^ (f + n) * x = p7 at *
 generalize B ^ (f + n) * dg L (f + n) = p8 at *
 generalize B ^ f * val B y = p9 at *
 generalize val B (L.set (f + n) x) = p10 at *
 generalize val B L = p11 at *
 generalize val B L0 = p12 at *
 omega
theorem val_lt_of_zero {B : Nat} (hB : 0 < B) {L : List Nat} (h : ∀ x ∈ L, x < B) {m : Nat} (hz : ∀ i, m ≤ i → dg L i = 0) : val B L < B ^ m := by
 rcases Nat.lt_or_ge L.length m with h1 | h1
 · exact Nat.lt_of_lt_of_le (val_lt h) (Nat.pow_le_pow_right hB (by omega))
 · have e := val_take_drop B L h1
   have hd : val B (L.drop m) = 0 := by
    apply val_zeros
    intro x hx
    obtain ⟨i, hi, rfl⟩ := List.getElem_of_mem hx
    rw [List.getElem_drop]
    have := hz (m + i) (by omega)
    rwa [dg, getD_eq' (by simp at hi; omega)] at this
   rw [hd, Nat.mul_zero, Nat.add_zero] at e
   rw [e]
   have := val_lt (B := B) (l := L.take m) fun x hx => h x (List.mem_of_mem_take hx)
   rwa [List.length_take, Nat.min_eq_left h1] at this
theorem dg_of_val {B : Nat} {L : List Nat} (h : ∀ x ∈ L, x < B) (i : Nat) (hi : i < L.length) : dg L i = val B L / B ^ i % B := by
 have hB : 0 < B := Nat.lt_of_le_of_lt (Nat.zero_le _) (h _ (List.getElem_mem hi))
 have e := val_take_drop B L (Nat.le_of_lt hi)
 have h2 := val_lt (B := B) (l := L.take i) fun x hx => h x (List.mem_of_mem_take hx)
 rw [List.length_take, Nat.min_eq_left (by omega)] at h2
 rw [List.drop_eq_getElem_cons hi, val_cons] at e
 rw [e, Nat.add_mul_div_left _ _ (Nat.pow_pos hB), Nat.div_eq_of_lt h2, Nat.zero_add, Nat.add_mul_mod_self_left, dg, getD_eq' hi, Nat.mod_eq_of_lt (h _ (List.getElem_mem hi))]
theorem zero_of_val_lt {B : Nat} {L : List Nat} (h : ∀ x ∈ L, x < B) {m : Nat} (hm : val B L < B ^ m) {i : Nat} (hi : m ≤ i) : dg L i = 0 := by
 rcases Nat.lt_or_ge i L.length with h1 | h1
 · have hB : 0 < B := Nat.lt_of_le_of_lt (Nat.zero_le _) (h _ (List.getElem_mem h1))
   rw [dg_of_val h i h1, Nat.div_eq_of_lt (Nat.lt_of_lt_of_le hm (Nat.pow_le_pow_right hB hi)), Nat.zero_mod]
 · rw [dg, List.getD_eq_getElem?_getD, List.getElem?_eq_none h1]; rfl
end Go.Proofs.YtpbmaapdppdagaaGreatDoor

namespace Go.Proofs.YtpbmaapdppdagaaGreatDoor
open Go.RowKit

def Guessed (u u1 y1 y0 G : Nat) : Prop := G < 18446744073709551616 ∧ ∀ q, q < 18446744073709551616 → q * (y1 * 18446744073709551616 + y0) ≤ u * 18446744073709551616 + u1 → q ≤ G
theorem Guessed.top (u u1 y1 y0 : Nat) : Guessed u u1 y1 y0 18446744073709551615 := ⟨by omega, fun q hq _ => by omega⟩
end Go.Proofs.YtpbmaapdppdagaaGreatDoor

namespace Go.Proofs.YtpbmaapdppdagaaGreatDoor
open Go.RowKit

def Row (w : World) (g : Nat) (l : List Nat) : Prop := ∃ cur, w.heap[g]? = some (.cells cur 112 (0, 0)) ∧ ∀ (j : Nat) u, (nts l)[j]? = some u → cur[j]? = some u
section
variable {w w' w'' : World} {g f : Nat} {l : List Nat} {p : Addr}
theorem add_off (g f j : Nat) : (⟨g, f, none⟩ : Addr).add j = ⟨g, f + j, none⟩ := by
 rcases Nat.eq_zero_or_pos j with h | h
 · subst h; rfl
 · simp [Addr.add, Nat.pos_iff_ne_zero.1 h]
theorem Row.cell (h : Row w g l) (hp : p = ⟨g, f, none⟩) {j : Nat} (hj : f + j < l.length) : w.cell? (p.add j) = some (.int .u64 (dg l (f + j) : Int)) := by
 obtain ⟨cur, h1, h2⟩ := h
 rw [hp, add_off, blk_cell h1, h2 _ _ (nts_get hj)]
theorem Row.free (h : Row w g l) (hp : p = ⟨g, f, none⟩) (j : Nat) : w.frozen? (p.add j) = false := by
 obtain ⟨cur, h1, h2⟩ := h
 rw [hp, add_off, blk_free h1]
theorem Row.set (h : Row w g l) (hp : p = ⟨g, f, none⟩) (j x : Nat) : Row (w.setCell (p.add j) (.int .u64 (x : Int))) g (l.set (f + j) x) := by
 obtain ⟨cur, h1, h2⟩ := h
 rw [hp, add_off]
 refine ⟨cur.setIfInBounds (f + j) (.int .u64 (x : Int)), by simp [World.setCell, Array.getElem?_modify, h1], fun i u hu => ?_⟩
 rw [nts, List.map_set, List.getElem?_set] at hu
 rw [Array.getElem?_setIfInBounds]
 by_cases e : f + j = i
 · rw [if_pos e] at hu ⊢
   split at hu
   · rename_i hl
     have := h2 i _ (nts_get (by rw [← e]; simpa using hl))
     have hi := (Array.getElem?_eq_some_iff.1 this).1
     rw [if_pos (by omega)]
     exact hu
   · cases hu
 · rw [if_neg e] at hu ⊢
   exact h2 i u hu
theorem Row.lt (h : Row w g l) : g < w.heap.size := by obtain ⟨cur, h1, h2⟩ := h; exact blk_lt h1
theorem Row.drewN (h : Row w g l) (n : Nat) : Row (w.drewN n) g l := h
theorem Row.of_heap (h : Row w g l) (he : w'.heap[g]? = w.heap[g]?) : Row w' g l := by
 obtain ⟨cur, h1, h2⟩ := h
 exact ⟨cur, he.trans h1, h2⟩
theorem Row.below {B : Nat} (h : Row w g l) (hb : Below B w w') (hg : g < B) : Row w' g l := h.of_heap (hb.block g hg)
theorem Row.ob (h : Row w g l) {base c : Nat} (hg : base ≤ g) (hl : Lim l) (hc : l.length ≤ c) (hc' : c ≤ maxLen) : OB w base (some ⟨g, 0, none⟩) c l := by
 obtain ⟨cur, h1, h2⟩ := h
 exact ⟨hl, hc, hc', fun _ => ⟨g, cur, rfl, hg, h1, h2⟩⟩
theorem OB.row {base c : Nat} {A : Option Addr} (h : OB w base A c l) (h0 : 0 < l.length) : ∃ g, A = some ⟨g, 0, none⟩ ∧ base ≤ g ∧ Row w g l := by
 obtain ⟨h1, h2, h3, h4⟩ := h
 obtain ⟨g, cur, e, hg, h5, h6⟩ := h4 h0
 exact ⟨g, e, hg, cur, h5, h6⟩
structure Only (g : Nat) (w w' : World) : Prop where
 os : w'.os = w.os
 tape : w'.tape = w.tape
 output : w'.output = w.output
 size : w'.heap.size = w.heap.size
 block : ∀ k, k ≠ g → w'.heap[k]? = w.heap[k]?
theorem Only.refl (g : Nat) (w : World) : Only g w w := ⟨rfl, rfl, rfl, rfl, fun _ _ => rfl⟩
theorem Only.trans (h : Only g w w') (k : Only g w' w'') : Only g w w'' := ⟨k.os.trans h.os, k.tape.trans h.tape, k.output.trans h.output, k.size.trans h.size, fun i hi => (k.block i hi).trans (h.block i hi)⟩
theorem Only.setCell (h : Only g w w') (hp : p = ⟨g, f, none⟩) (j : Nat) (v : Value) : Only g w (w'.setCell (p.add j) v) := by
 have e : (p.add j).block = g := by rw [hp, add_off]
 refine ⟨h.os, h.tape, h.output, ?_, fun k hk => (Below.heap_setCell _ _ _ _ (by rw [e]; exact hk)).trans (h.block k hk)⟩
 have : (w'.setCell (p.add j) v).heap.size = w'.heap.size := by unfold World.setCell; split <;> simp
 exact this.trans h.size
theorem Only.drewN (h : Only g w w') (n : Nat) : Only g w (w'.drewN n) := ⟨h.os, h.tape, h.output, h.size, h.block⟩
theorem Only.below {B : Nat} (h : Only g w w') (hB : B ≤ g) : Below B w w' := ⟨h.os, h.tape, h.output, Nat.le_of_eq h.size.symm, fun k hk => h.block k (by omega)⟩
theorem RN.only {P : Nat → Prop} {A : Option Addr} {c : Nat} (h : RN w P A c l) (ho : Only g w w') (hP : ∀ b, P b → b ≠ g) : RN w' P A c l := h.keep fun q hq => World.cell?_of_block (w := w) (ho.block q.block (hP _ hq))
theorem Row.only {g' : Nat} (h : Row w g' l) (ho : Only g w w') (hg : g' ≠ g) : Row w' g' l := h.of_heap (ho.block g' hg)
end
end Go.Proofs.YtpbmaapdppdagaaGreatDoor

namespace Go.Proofs.YtpbmaapdppdagaaGreatDoor

def FixAt (B V i n D : Nat) (L : List Nat) (g : Nat) (too : Bool) : Prop :=
 V / (B ^ i * D) ≤ g ∧ g < B ∧ (∀ j, i + n + 1 ≤ j → dg L j = 0) ∧ val B L + B ^ i * (g * D) = V + if too then B ^ (i + n + 1) else 0
section
variable {B V i n D g : Nat} {L L' : List Nat}
theorem FixAt.start {b : Nat} (hq : V / (B ^ i * D) ≤ g) (hg : g < B) (hz : ∀ j, i + n + 1 ≤ j → dg L' j = dg L j) (hz0 : ∀ j, i + n + 1 ≤ j → dg L j = 0) (he : val B L' + B ^ i * (g * D) = V + B ^ (i + n + 1) * b) (hL' : ∀ x ∈ L', x < B) (hB : 2 ≤ B) (hD : D < B ^ n) :
 FixAt B V i n D L' g (decide (0 < b)) := by
 have hz' : ∀ j, i + n + 1 ≤ j → dg L' j = 0 := fun j hj => (hz j hj).trans (hz0 j hj)
 refine ⟨hq, hg, hz', ?_⟩
 have h1 := val_lt_of_zero (by omega) hL' hz'
 rw [he]
 have h2 : B ^ i * (g * D) < B ^ (i + n + 1) := by
  rw [Nat.add_assoc, Nat.pow_add, Nat.pow_succ, Nat.mul_comm (B ^ n)]
  refine Nat.mul_lt_mul_of_pos_left ?_ (Nat.pow_pos (by omega))
  exact Nat.lt_of_le_of_lt (Nat.mul_le_mul_left g (Nat.le_of_lt hD)) (Nat.mul_lt_mul_of_pos_right hg (Nat.pow_pos (by omega)))
 rcases Nat.lt_or_ge b 2 with hb | hb
 · have : b = 0 ∨ b = 1 := by omega
   rcases this with rfl | rfl <;> simp
 · exfalso
   have h3 : B ^ (i + n + 1) * 2 ≤ B ^ (i + n + 1) * b := Nat.mul_le_mul_left _ hb
   omega
theorem FixAt.pos (h : FixAt B V i n D L g true) (hL : ∀ x ∈ L, x < B) (hB : 2 ≤ B) : V / (B ^ i * D) < g := by
 obtain ⟨h1, h2, h3, h4⟩ := h
 have h5 := val_lt_of_zero (by omega) hL h3
 apply Nat.div_lt_of_lt_mul
 simp only [if_true] at h4
 rw [Nat.mul_assoc, Nat.mul_comm D]
 omega
theorem FixAt.step {c : Nat} (h : FixAt B V i n D L (g + 1) true) (hL : ∀ x ∈ L, x < B) (hL' : ∀ x ∈ L', x < B) (hB : 2 ≤ B) (hD : 0 < D) (hDn : D < B ^ n)
 (he : val B L' + B ^ (i + n + 1) * c = val B L + B ^ i * D) (hz : ∀ j, i + n + 1 ≤ j → dg L' j = dg L j) : FixAt B V i n D L' g (decide (dg L' (i + n) ≠ 0)) := by
 have hp := h.pos hL hB
 obtain ⟨h1, h2, h3, h4⟩ := h
 have hz' : ∀ j, i + n + 1 ≤ j → dg L' j = 0 := fun j hj => (hz j hj).trans (h3 j hj)
 have h5 := val_lt_of_zero (by omega) hL h3
 have h6 := val_lt_of_zero (by omega) hL' hz'
 have hDi : B ^ i * D < B ^ (i + n) := by rw [Nat.pow_add]; exact Nat.mul_lt_mul_of_pos_left hDn (Nat.pow_pos (by omega))
 have hBB : B ^ (i + n + 1) = B ^ (i + n) * B := Nat.pow_succ _ _
 have hBB2 : B ^ (i + n) * 2 ≤ B ^ (i + n) * B := Nat.mul_le_mul_left _ hB
 have hV : V < B ^ i * D * (g + 1) := by
  have := Nat.lt_mul_div_succ V (show 0 < B ^ i * D from Nat.mul_pos (Nat.pow_pos (by omega)) hD)
  exact Nat.lt_of_lt_of_le this (Nat.mul_le_mul_left _ (by omega))
 simp only [if_true] at h4
 have e1 : B ^ i * ((g + 1) * D) = B ^ i * (g * D) + B ^ i * D := by rw [Nat.add_mul, Nat.one_mul, Nat.mul_add]
 have e2 : B ^ i * D * (g + 1) = B ^ i * (g * D) + B ^ i * D := by rw [← e1, Nat.mul_assoc, Nat.mul_comm D]
 have hgD : B ^ i * (g * D) + B ^ (i + n) * 2 ≤ B ^ (i + n + 1) + B ^ (i + n) := by
  obtain ⟨m, hm⟩ : ∃ m, B = m + 2 := ⟨B - 2, by omega⟩
  have k1 : g * D ≤ m * B ^ n := Nat.mul_le_mul (by omega) (Nat.le_of_lt hDn)
  have k2 : B ^ i * (g * D) ≤ B ^ i * (m * B ^ n) := Nat.mul_le_mul_left _ k1
  have k3 : B ^ i * (m * B ^ n) = B ^ (i + n) * m := by rw [Nat.mul_comm m, ← Nat.mul_assoc, ← Nat.pow_add]
  have k4 : B ^ (i + n) * B = B ^ (i + n) * m + B ^ (i + n) * 2 := by rw [← Nat.mul_add, ← hm]
  omega
 rw [e1] at h4
 rw [e2] at hV
 refine ⟨by omega, by omega, hz', ?_⟩
 rcases Nat.eq_zero_or_pos c with rfl | hc
 · rw [Nat.mul_zero, Nat.add_zero] at he
   have hbig : B ^ (i + n) ≤ val B L' := by omega
   have hne : dg L' (i + n) ≠ 0 := fun h0 => by
    have := val_lt_of_zero (B := B) (m := i + n) (by omega) hL' fun j hj => by
     rcases Nat.lt_or_ge (i + n) j with h | h
     · exact hz' j (by omega)
     · obtain rfl : j = i + n := by omega
       exact h0
    omega
   rw [decide_eq_true hne, if_pos rfl]
   omega
 · have hc1 : c = 1 := by
    rcases Nat.lt_or_ge c 2 with h | h
    · omega
    · have : B ^ (i + n + 1) * 2 ≤ B ^ (i + n + 1) * c := Nat.mul_le_mul_left _ h
      omega
   subst hc1
   rw [Nat.mul_one] at he
   have hsmall : val B L' < B ^ (i + n) := by omega
   have h0 := zero_of_val_lt hL' hsmall (Nat.le_refl _)
   rw [decide_eq_false (by simp [h0]), if_neg (by simp)]
   omega
theorem FixAt.fin (h : FixAt B V i n D L g false) (hB : 2 ≤ B) (hD : 0 < D) : val B L + B ^ i * (g * D) = V ∧ val B L < B ^ i * D := by
 obtain ⟨h1, h2, h3, h4⟩ := h
 simp only [Bool.false_eq_true, if_false, Nat.add_zero] at h4
 refine ⟨h4, ?_⟩
 have h5 := Nat.lt_mul_div_succ V (show 0 < B ^ i * D from Nat.mul_pos (Nat.pow_pos (by omega)) hD)
 have h6 : B ^ i * D * (V / (B ^ i * D) + 1) ≤ B ^ i * D * (g + 1) := Nat.mul_le_mul_left _ (by omega)
 have e : B ^ i * D * (g + 1) = B ^ i * (g * D) + B ^ i * D := by rw [Nat.mul_add, Nat.mul_one, Nat.mul_assoc, Nat.mul_comm D]
 omega
end
def QuoAt (B X D : Nat) (L qs : List Nat) (k : Nat) : Prop := val B L + D * (B ^ k * val B (qs.drop k)) = X ∧ val B L < B ^ k * D
theorem QuoAt.start {B D m : Nat} {L qs : List Nat} (hq : qs.length = m) (h : val B L < B ^ m * D) : QuoAt B (val B L) D L qs m := by
 refine ⟨?_, h⟩
 rw [← hq, List.drop_length]
 simp
theorem QuoAt.step {B X D k g : Nat} {L L' qs : List Nat} (h : QuoAt B X D L qs (k + 1)) (hk : k < qs.length) (h1 : val B L' + B ^ k * (g * D) = val B L) (h2 : val B L' < B ^ k * D) : QuoAt B X D L' (qs.set k g) k := by
 obtain ⟨g1, g2⟩ := h
 refine ⟨?_, h2⟩
 have e : (qs.set k g).drop k = g :: qs.drop (k + 1) := by
  rw [List.drop_set, if_neg (Nat.lt_irrefl _), List.drop_eq_getElem_cons hk, Nat.sub_self, List.set_cons_zero]
 rw [e, val_cons, Nat.mul_add, Nat.mul_add, ← g1, ← h1, Nat.pow_succ]
 have e1 : D * (B ^ k * g) = B ^ k * (g * D) := by rw [Nat.mul_left_comm, Nat.mul_comm D]
 rw [e1, Nat.mul_assoc (B ^ k)]
 omega
theorem QuoAt.fin {B X D : Nat} {L qs : List Nat} (h : QuoAt B X D L qs 0) : val B qs = X / D ∧ val B L = X % D := by
 obtain ⟨g1, g2⟩ := h
 simp only [Nat.pow_zero, Nat.one_mul, List.drop_zero] at g1 g2
 rw [← g1]
 refine ⟨?_, ?_⟩
 · rw [Nat.add_comm, Nat.mul_add_div (by omega), Nat.div_eq_of_lt g2, Nat.add_zero]
 · rw [Nat.add_comm, Nat.mul_add_mod, Nat.mod_eq_of_lt g2]
end Go.Proofs.YtpbmaapdppdagaaGreatDoor

namespace Go.Proofs.YtpbmaapdppdagaaGreatDoor

theorem dg_drop (u : List Nat) (k i : Nat) : dg (u.drop k) i = dg u (k + i) := by
 simp [dg, List.getD_eq_getElem?_getD, List.getElem?_drop]
def LessAt (B : Nat) (u v W : List Nat) (k g i c b : Nat) : Prop := W.length = v.length + 1 ∧ val B (W.take i) + g * val B (v.take i) = val B ((u.drop k).take i) + B ^ i * (c + b)
section
variable {B k g i c b : Nat} {u v W : List Nat}
theorem LessAt.zero (h : W.length = v.length + 1) : LessAt B u v W k g 0 0 0 := ⟨h, by simp⟩
theorem LessAt.step {lo c' x b' : Nat} (h : LessAt B u v W k g i c b) (hi : i < W.length) (h1 : lo + B * c' = c + g * dg v i) (h2 : x + (lo + b) = dg u (k + i) + B * b') : LessAt B u v (W.set i x) k g (i + 1) c' b' := by
 obtain ⟨g1, g2⟩ := h
 refine ⟨by simpa using g1, ?_⟩
 rw [val_take_set B hi, val_take_getD, val_take_getD, dg_drop, Nat.pow_succ]
 have e1 : g * (B ^ i * dg v i) = B ^ i * (g * dg v i) := Nat.mul_left_comm _ _ _
 have e2 : B ^ i * (lo + B * c') = B ^ i * (c + g * dg v i) := by rw [h1]
 have e3 : B ^ i * (x + (lo + b)) = B ^ i * (dg u (k + i) + B * b') := by rw [h2]
 rw [Nat.mul_add g, e1, Nat.mul_assoc, Nat.mul_add B, Nat.mul_add (B ^ i) (B * c')]
 simp only [Nat.mul_add] at e2 e3 g2 ⊢
 generalize B ^ i * (B * c') = p1 at *
 generalize B ^ i * (B * b') = p2 at *
 generalize B ^ i * lo = p3 at *
 generalize B ^ i * (g * dg v i) = p4 at *
 generalize B ^ i * c = p5 at *
 generalize B ^ i * b = p6 at *
 generalize B ^ i * x = p7 at *
 generalize B ^ i * dg u (k + i) = p8 at *
 omega
def TimesAt (B : Nat) (a o : List Nat) (m i c : Nat) : Prop := o.length = a.length + 1 ∧ val B (o.take i) + B ^ i * c = m * val B (a.take i)
theorem TimesAt.step {a o : List Nat} {m x c' : Nat} (h : TimesAt B a o m i c) (hi : i < o.length) (h1 : x + B * c' = c + dg a i * m) : TimesAt B a (o.set i x) m (i + 1) c' := by
 obtain ⟨g1, g2⟩ := h
 refine ⟨by simpa using g1, ?_⟩
 rw [val_take_set B hi, val_take_getD, Nat.mul_add, ← g2, Nat.pow_succ, Nat.mul_assoc]
 have e1 : m * (B ^ i * dg a i) = B ^ i * (dg a i * m) := by rw [Nat.mul_left_comm, Nat.mul_comm m]
 have e2 : B ^ i * (x + B * c') = B ^ i * (c + dg a i * m) := by rw [h1]
 rw [e1]
 simp only [Nat.mul_add] at e2
 omega
theorem TimesAt.fin {a o : List Nat} {m : Nat} (h : TimesAt B a o m a.length c) : val B (o.set a.length c) = m * val B a := by
 obtain ⟨g1, g2⟩ := h
 have e : (o.set a.length c).length = a.length + 1 := by simpa using g1
 have e2 : val B (o.set a.length c) = val B ((o.set a.length c).take (a.length + 1)) := by rw [← e, List.take_length]
 rw [e2, val_take_set B (by omega), g2, List.take_length]
end
end Go.Proofs.YtpbmaapdppdagaaGreatDoor

namespace Go.Proofs.YtpbmaapdppdagaaGreatDoor
open Go.RowKit

theorem Blk.put {w : World} {g : Nat} {u : List Nat} (h : Blk w g u) (v : List Nat) : Blk (w.setRow g (nts v).toArray) g v := setRow_heap w g _ _ _ _ h
theorem Only.put {w w' : World} {g : Nat} (h : Only g w w') (v : Array Value) : Only g w (w'.setRow g v) :=
  ⟨h.os, h.tape, h.output, by have : (w'.setRow g v).heap.size = w'.heap.size := by simp [World.setRow]
                              exact this.trans h.size, fun k hk => by
    have : (w'.setRow g v).heap[k]? = w'.heap[k]? := by simp [World.setRow, Array.getElem?_modify, Ne.symm hk]
    exact this.trans (h.block k hk)⟩
structure Two (g g' : Nat) (w w' : World) : Prop where
 os : w'.os = w.os
 tape : w'.tape = w.tape
 output : w'.output = w.output
 size : w'.heap.size = w.heap.size
 block : ∀ k, k ≠ g → k ≠ g' → w'.heap[k]? = w.heap[k]?
theorem Two.below {g g' B : Nat} {w w' : World} (h : Two g g' w w') (hg : B ≤ g) (hg' : B ≤ g') : Below B w w' := ⟨h.os, h.tape, h.output, Nat.le_of_eq h.size.symm, fun k hk => h.block k (by omega) (by omega)⟩
theorem Only.two {g g' : Nat} {w w' w'' : World} (h : Only g' w w') (k : Only g w' w'') : Two g g' w w'' := ⟨k.os.trans h.os, k.tape.trans h.tape, k.output.trans h.output, k.size.trans h.size, fun i hi hi' => (k.block i hi).trans (h.block i hi')⟩
theorem RN.two {g g' : Nat} {w w' : World} {P : Nat → Prop} {A : Option Addr} {c : Nat} {l : List Nat} (h : RN w P A c l) (ho : Two g g' w w') (hP : ∀ b, P b → b ≠ g ∧ b ≠ g') : RN w' P A c l := h.keep fun q hq => World.cell?_of_block (w := w) (ho.block q.block (hP _ hq).1 (hP _ hq).2)

end Go.Proofs.YtpbmaapdppdagaaGreatDoor

namespace Go.Proofs.YtpbmaapdppdagaaGreatDoor
open Go.RowKit

structure Just (g : Nat) (w w' : World) : Prop where
 os : w'.os = w.os
 tape : w'.tape = w.tape
 output : w'.output = w.output
 size : w.heap.size ≤ w'.heap.size
 block : ∀ b, b < w.heap.size → b ≠ g → w'.heap[b]? = w.heap[b]?
theorem Just.refl (g : Nat) (w : World) : Just g w w := ⟨rfl, rfl, rfl, Nat.le_refl _, fun _ _ _ => rfl⟩
theorem Just.trans {g : Nat} {a b c : World} (h : Just g a b) (k : Just g b c) : Just g a c :=
 ⟨k.os.trans h.os, k.tape.trans h.tape, k.output.trans h.output, Nat.le_trans h.size k.size, fun i hi hn => (k.block i (Nat.lt_of_lt_of_le hi h.size) hn).trans (h.block i hi hn)⟩
theorem Just.set {g : Nat} {a b : World} (h : Just g a b) (i : Nat) (v : Value) : Just g a (b.setCell ⟨g, i, none⟩ v) :=
 ⟨h.os, h.tape, h.output, by simpa [World.setCell] using h.size, fun j hj hn => (Below.heap_setCell _ _ _ _ (by exact hn)).trans (h.block j hj hn)⟩
theorem Just.drewN {g : Nat} {a b : World} (h : Just g a b) (n : Nat) : Just g a (b.drewN n) := ⟨h.os, h.tape, h.output, h.size, h.block⟩
theorem Just.cell {g : Nat} {w w' : World} (h : Just g w w') {p : Addr} (hp : p.block < w.heap.size) (hn : p.block ≠ g) : w'.cell? p = w.cell? p := World.cell?_of_block (h.block _ hp hn)
theorem Just.of_below {g B : Nat} {w w' : World} (h : Below B w w') (hB : w.heap.size ≤ B) : Just g w w' := ⟨h.os, h.tape, h.output, h.size, fun b hb _ => h.block b (Nat.lt_of_lt_of_le hb hB)⟩
theorem Just.below {g B : Nat} {w w' : World} (h : Just g w w') (hB : B ≤ g) (hw : B ≤ w.heap.size) : Below B w w' := ⟨h.os, h.tape, h.output, h.size, fun b hb => h.block b (Nat.lt_of_lt_of_le hb hw) (by omega)⟩
theorem RN.just {w w' : World} {g : Nat} {P : Nat → Prop} {A : Option Addr} {c : Nat} {l : List Nat} (h : RN w P A c l) (hj : Just g w w') (hP : ∀ b, P b → b < w.heap.size ∧ b ≠ g) : RN w' P A c l :=
 h.keep fun _ hp => hj.cell (hP _ hp).1 (hP _ hp).2

structure MontAt (B M : Nat) (a b t : List Nat) (i n : Nat) : Prop where
 len : t.length = n + 2
 top : dg t (n + 1) = 0
 bound : val B t < M + val B b
 cong : ∃ k, val B t * B ^ i = val B (a.take i) * val B b + k * M
theorem MontAt.zero {B M : Nat} (a b : List Nat) (n : Nat) (hM : 0 < M) : MontAt B M a b (List.replicate (n + 2) 0) 0 n :=
 ⟨by simp, by rw [dg, List.getD_eq_getElem?_getD, List.getElem?_replicate]; split <;> rfl, by rw [val_replicate]; omega, 0, by simp [val_replicate]⟩
theorem dg_zero_mod {B : Nat} {t : List Nat} (ht : ∀ x ∈ t, x < B) (_hB : 0 < B) : val B t % B = dg t 0 := by
 cases t with
 | nil => simp [dg]
 | cons x l => rw [val_cons, Nat.add_mul_mod_self_left, Nat.mod_eq_of_lt (ht x (by simp))]; rfl
/-! What a round does to the numbers. -/
theorem mont_low {B M inv d q v : Nat} (hi : (inv * M + 1) % B = 0) (hv : v % B = d) (hq : q = d * inv % B) : (v + q * M) % B = 0 := by
 have h1 : (v + q * M) % B = (d * (inv * M + 1)) % B := by
  subst hq hv
  rw [Nat.mul_add, Nat.mul_one, Nat.add_mod, Nat.mod_mul_mod, ← Nat.mul_assoc, Nat.add_comm (v % B * inv * M), Nat.add_mod_mod]
 rw [h1, Nat.mul_mod, hi]
 simp
theorem mont_eq {M t0 ai b q t2 Bi A A' k : Nat} (h2 : t2 = t0 + ai * b + q * M) (hk : t0 * Bi = A * b + k * M) (hA : A' = A + Bi * ai) : t2 * Bi = A' * b + (k + q * Bi) * M := by
 subst h2 hA
 rw [Nat.add_mul, Nat.add_mul, hk, Nat.add_mul, Nat.add_mul]
 have e1 : ai * b * Bi = Bi * ai * b := by rw [Nat.mul_comm Bi ai, Nat.mul_assoc, Nat.mul_assoc, Nat.mul_comm b Bi]
 have e2 : q * M * Bi = q * Bi * M := by rw [Nat.mul_assoc, Nat.mul_assoc, Nat.mul_comm M Bi]
 omega
theorem mont_bound {B M t0 ai b q t2 t4 : Nat} (hB : 0 < B) (h2 : t2 = t0 + ai * b + q * M) (hb : t0 < M + b) (ha : ai < B) (hq : q < B) (h4 : t2 = B * t4) : t4 < M + b := by
 have e1 : ai * b ≤ (B - 1) * b := Nat.mul_le_mul_right _ (by omega)
 have e2 : q * M ≤ (B - 1) * M := Nat.mul_le_mul_right _ (by omega)
 have e3 : (B - 1) * b + b = B * b := by rw [← Nat.succ_mul, Nat.succ_eq_add_one, Nat.sub_add_cancel hB]
 have e4 : (B - 1) * M + M = B * M := by rw [← Nat.succ_mul, Nat.succ_eq_add_one, Nat.sub_add_cancel hB]
 have e5 : B * t4 < B * (M + b) := by rw [Nat.mul_add, ← h4]; omega
 exact Nat.lt_of_mul_lt_mul_left e5
theorem MontAt.step {B M inv n i q : Nat} {a b t t2 : List Nat} (hB : 2 ≤ B) (h : MontAt B M a b t i n) (ha : dg a i < B) (hi : (inv * M + 1) % B = 0) (hl2 : t2.length = n + 2) (hlim : ∀ x ∈ t2, x < B)
 (hq : q = (val B t + dg a i * val B b) % B * inv % B) (hv2 : val B t2 = val B t + dg a i * val B b + q * M) : MontAt B M a b (t2.drop 1 ++ [0]) (i + 1) n := by
 have h0 : val B t2 % B = 0 := by rw [hv2]; exact mont_low hi rfl hq
 have hq' : q < B := by rw [hq]; exact Nat.mod_lt _ (by omega)
 obtain ⟨x, l, rfl⟩ : ∃ x l, t2 = x :: l := by
  cases t2 with
  | nil => simp at hl2
  | cons x l => exact ⟨x, l, rfl⟩
 rw [dg_zero_mod hlim (by omega)] at h0
 have hx : x = 0 := h0
 subst hx
 have hlen : l.length = n + 1 := by simpa using hl2
 have e4 : val B (0 :: l) = B * val B l := by rw [val_cons]; omega
 have e5 : val B ((0 :: l).drop 1 ++ [0]) = val B l := by simp [val_append]
 obtain ⟨k, hk⟩ := h.cong
 refine ⟨by simp [hlen], ?_, ?_, k + q * B ^ i, ?_⟩
 · simp [dg, List.getD_eq_getElem?_getD, hlen]
 · rw [e5]
   exact mont_bound (by omega) hv2 h.bound ha hq' e4
 · rw [e5, Nat.pow_succ, show val B l * (B ^ i * B) = (B * val B l) * B ^ i by rw [Nat.mul_comm (B ^ i), ← Nat.mul_assoc, Nat.mul_comm (val B l)], ← e4]
   exact mont_eq hv2 hk (val_take_getD B a i)
theorem blk_set {w : World} {g : Nat} {t : TypeId} {cs : Array Value} (h : w.heap[g]? = some (.cells cs t (0, 0))) (i : Nat) (u : Value) : (w.setCell ⟨g, i, none⟩ u).heap[g]? = some (.cells (cs.setIfInBounds i u) t (0, 0)) := by
 simp [World.setCell, Array.getElem?_modify, h]
end Go.Proofs.YtpbmaapdppdagaaGreatDoor

namespace Go.Proofs.YtpbmaapdppdagaaGreatDoor
open Go.RowKit

attribute [local go_sem] Oper.semAt_some

def Dig2 (k : Int) : Prop := k = 544 ∨ k = 592
theorem mech_dig {k : Int} (h : Dig2 k) : (Mc.mechOf k).val = .agg #[.int .i64 k, .int .i64 1, .int .i64 (-1), .bool true, .nilFunc] := by
 rcases h with rfl | rfl <;> rfl
theorem mof_dig {k : Int} (h : Dig2 k) (w : World) : Calls Tryz.prog 30 #[.int .i64 k] w fun e w' => e = .returned (.agg #[.int .i64 k, .int .i64 1, .int .i64 (-1), .bool true, .nilFunc]) ∧ Ext w w' := by
 have := Mc.of_any k w
 rw [mech_dig h] at this
 exact this
set_option maxRecDepth 100000 in
theorem multi_dig {k : Int} (h : Dig2 k) (w : World) : Calls Tryz.prog 24 #[.int .i64 k] w fun e w' => e = .returned (.bool true) ∧ Ext w w' := by
 have hf : ∀ (a b c d e : Value) (w : World), Sem.run Tryz.prog (Instr.field 69 (.agg #[a, b, c, d, e]) 3) w = .ok d w := fun _ _ _ _ _ _ => by kernel_rfl
 go_enter Tryz.func24, Tryz.ntmps24
 go_wp2_with fail
 refine (mof_dig h w).mono ?_
 rintro e w1 ⟨rfl, hE⟩
 go_wp2_with fail
 go_ret
 exact ⟨rfl, hE⟩
theorem fourC {W : World} {g : Nat} {ty : TypeId} {x0 x1 x2 x3 x4 : Value} (h : W.heap[g]? = some (.cells #[x0, x1, x2, x3, x4] ty (0, 0))) :
 W.cell? ⟨g, 0, none⟩ = some x0 ∧ W.cell? ⟨g, 1, none⟩ = some x1 ∧ W.cell? ⟨g, 2, none⟩ = some x2 ∧ W.cell? ⟨g, 3, none⟩ = some x3 ∧ W.cell? ⟨g, 4, none⟩ = some x4 :=
 ⟨by rw [blk_cell h]; rfl, by rw [blk_cell h]; rfl, by rw [blk_cell h]; rfl, by rw [blk_cell h]; rfl, by rw [blk_cell h]; rfl⟩
theorem twoC {W : World} {g : Nat} {ty : TypeId} {x0 x1 : Value} (h : W.heap[g]? = some (.cells #[x0, x1] ty (0, 0))) : W.cell? ⟨g, 0, none⟩ = some x0 ∧ W.cell? ⟨g, 1, none⟩ = some x1 :=
 ⟨by rw [blk_cell h]; rfl, by rw [blk_cell h]; rfl⟩
set_option maxRecDepth 100000 in
set_option maxHeartbeats 4000000 in
theorem param_dig {k : Int} (h : Dig2 k) (w : World) : Calls Tryz.prog 31 #[.agg #[.int .i64 k, .slice none 0 0]] w fun e w' => e = .returned (.bool true) ∧ Ext w w' := by
 have hq := heap_alloc_new w (.cells #[.int .i64 k, .slice none 0 0] 31)
 have hE := Ext.alloc w (.cells #[.int .i64 k, .slice none 0 0] 31)
 obtain ⟨g, hg⟩ : ∃ g, w.heap.size = g := ⟨_, rfl⟩
 rw [hg] at hq
 obtain ⟨W0, hW0⟩ : ∃ W0, w.alloc (.cells #[.int .i64 k, .slice none 0 0] 31) = W0 := ⟨_, rfl⟩
 rw [hW0] at hq hE
 have hof := Lib.hid (mof_dig h W0)
 have hnn : ∀ w, Sem.run Tryz.prog (binOp .eql 57 .nilFunc .nilFunc) w = .ok (.bool true) w := fun w => by kernel_rfl
 have HQ := Lib.hid hq
 have HE := Lib.hid hE
 obtain ⟨y0, y1⟩ := twoC hq
 clear hq hE
 go_enter Tryz.func31, Tryz.ntmps31
 go_upto_region 1 with fail
 try rw [hW0, hg]
 clear hW0 hg
 go_wp2_with fail
 refine hof.out.mono ?_
 rintro e w1 ⟨rfl, hE1⟩
 have hq2 := heap_alloc_new w1 (.cells #[.int .i64 k, .int .i64 1, .int .i64 (-1), .bool true, .nilFunc] 69)
 have hE2 := Ext.alloc w1 (.cells #[.int .i64 k, .int .i64 1, .int .i64 (-1), .bool true, .nilFunc] 69)
 obtain ⟨g2, hg2⟩ : ∃ g, w1.heap.size = g := ⟨_, rfl⟩
 rw [hg2] at hq2
 obtain ⟨z0, z1, z2, z3, z4⟩ := fourC hq2
 replace y0 := hE2.cell (hE1.cell y0)
 replace y1 := hE2.cell (hE1.cell y1)
 have HE2 := Lib.hid (HE.out.trans (hE1.trans hE2))
 clear hq2 hE1 hE2 hof
 go_upto_region 2 with fail
 try rw [hg2]
 generalize w1.alloc (.cells #[.int .i64 k, .int .i64 1, .int .i64 (-1), .bool true, .nilFunc] 69) = w2 at *
 go_wp2_with fail
 go_ret
 exact ⟨rfl, HE2.out⟩
set_option maxRecDepth 100000 in
set_option maxHeartbeats 4000000 in
theorem may_dig {k : Int} (h : Dig2 k) (w : World) : Calls Tryz.prog 16 #[.int .i64 1, .agg #[.int .i64 k, .slice none 0 0], .slice none 0 0] w fun e w' => e = .returned (.int .i64 0) ∧ Ext w w' := by
 have hq := heap_alloc_new w (.cells #[.int .i64 k, .slice none 0 0] 31)
 have hE := Ext.alloc w (.cells #[.int .i64 k, .slice none 0 0] 31)
 obtain ⟨g, hg⟩ : ∃ g, w.heap.size = g := ⟨_, rfl⟩
 rw [hg] at hq
 obtain ⟨W0, hW0⟩ : ∃ W0, w.alloc (.cells #[.int .i64 k, .slice none 0 0] 31) = W0 := ⟨_, rfl⟩
 rw [hW0] at hq hE
 have hof := Lib.hid (mof_dig h W0)
 have HE := Lib.hid hE
 obtain ⟨y0, y1⟩ := twoC hq
 have b0 : bits .and .i64 1 0 = 0 := by decide
 have b1 : bits .and .i64 1 1 = 1 := by decide
 clear hq hE
 go_enter Tryz.func16, Tryz.ntmps16
 go_upto_region 1 with fail
 try rw [hW0, hg]
 clear hW0 hg
 go_wp2_with fail
 refine hof.out.mono ?_
 rintro e w1 ⟨rfl, hE1⟩
 have hq2 := heap_alloc_new w1 (.cells #[.int .i64 k, .int .i64 1, .int .i64 (-1), .bool true, .nilFunc] 69)
 have hE2 := Ext.alloc w1 (.cells #[.int .i64 k, .int .i64 1, .int .i64 (-1), .bool true, .nilFunc] 69)
 obtain ⟨g2, hg2⟩ : ∃ g, w1.heap.size = g := ⟨_, rfl⟩
 rw [hg2] at hq2
 obtain ⟨z0, z1, z2, z3, z4⟩ := fourC hq2
 replace y0 := hE2.cell (hE1.cell y0)
 replace y1 := hE2.cell (hE1.cell y1)
 have HE2 := Lib.hid (HE.out.trans (hE1.trans hE2))
 clear hq2 hE1 hE2 hof
 go_upto_region 2 with fail
 try rw [hg2]
 generalize w1.alloc (.cells #[.int .i64 k, .int .i64 1, .int .i64 (-1), .bool true, .nilFunc] 69) = w2 at *
 have hpa := Lib.hid (param_dig h w2)
 go_wp2_with fail
 refine hpa.out.mono ?_
 rintro e w3 ⟨rfl, hE3⟩
 have HE3 := Lib.hid (HE2.out.trans hE3)
 clear hpa hE3 y0 y1 z0 z1 z2 z3 z4
 go_wp2_with fail
 go_ret
 exact ⟨rfl, HE3.out⟩
def OB9 (w : World) (b : Nat) (k : Int) (d : Option Addr) (A : Option Addr) (n c : Nat) (began over : Bool) : Prop :=
 w.heap[b]? = some (.cells #[.int .i64 1, .int .i64 k, .slice none 0 0, .slice none 0 0, .pointer d, .pointer none, .slice A n c, .bool began, .bool over] 41 (0, 0))
theorem OB9.facts {w : World} {b : Nat} {k : Int} {d A : Option Addr} {n c : Nat} {be ov : Bool} (h : OB9 w b k d A n c be ov) :
 w.cell? ⟨b, 0, none⟩ = some (.int .i64 1) ∧ w.cell? ⟨b, 1, none⟩ = some (.int .i64 k) ∧ w.cell? ⟨b, 5, none⟩ = some (.pointer none) ∧ w.cell? ⟨b, 6, none⟩ = some (.slice A n c) ∧ w.cell? ⟨b, 7, none⟩ = some (.bool be) ∧ w.cell? ⟨b, 8, none⟩ = some (.bool ov) :=
 ⟨by rw [blk_cell h]; rfl, by rw [blk_cell h]; rfl, by rw [blk_cell h]; rfl, by rw [blk_cell h]; rfl, by rw [blk_cell h]; rfl, by rw [blk_cell h]; rfl⟩
theorem OB9.ext {w X : World} {b : Nat} {k : Int} {d A : Option Addr} {n c : Nat} {be ov : Bool} (h : OB9 w b k d A n c be ov) (hE : Ext w X) : OB9 X b k d A n c be ov := hE.at_ h
set_option maxRecDepth 100000 in
theorem over_nil (w : World) : Calls Tryz.prog 11 #[.pointer none] w fun e w' => e = .returned (.bool true) ∧ w' = w := by
 go_enter Tryz.func11, Tryz.ntmps11
 go_wp2
 go_ret
 exact ⟨rfl, rfl⟩
set_option maxRecDepth 100000 in
theorem over_at {w : World} {b : Nat} {k : Int} {d A : Option Addr} {n c : Nat} {be ov : Bool} (h : OB9 w b k d A n c be ov) : Calls Tryz.prog 11 #[.pointer (some ⟨b, 0, none⟩)] w fun e w' => e = .returned (.bool ov) ∧ w' = w := by
 obtain ⟨y0, y1, y5, y6, y7, y8⟩ := h.facts
 go_enter Tryz.func11, Tryz.ntmps11
 go_wp2
 go_ret
 exact ⟨rfl, rfl⟩
set_option maxRecDepth 100000 in
theorem ends_nil (w : World) : Calls Tryz.prog 12 #[.pointer none] w fun e w' => e = .returned (.int .i64 145) ∧ w' = w := by
 go_enter Tryz.func12, Tryz.ntmps12
 go_wp2_with fail
 refine (over_nil w).mono ?_
 rintro e w1 ⟨rfl, rfl⟩
 go_wp2
 go_ret
 exact ⟨rfl, rfl⟩
set_option maxRecDepth 100000 in
theorem ends_at {w : World} {b : Nat} {k : Int} {d A : Option Addr} {n c : Nat} {be : Bool} (hk : Dig2 k) (h : OB9 w b k d A n c be false) : Calls Tryz.prog 12 #[.pointer (some ⟨b, 0, none⟩)] w fun e w' => e = .returned (.int .i64 0) ∧ Ext w w' := by
 have ho := Lib.hid (over_at h)
 have hm := Lib.hid (multi_dig hk w)
 obtain ⟨y0, y1, y5, y6, y7, y8⟩ := h.facts
 clear h
 go_enter Tryz.func12, Tryz.ntmps12
 go_wp2_with fail
 refine ho.out.mono ?_
 rintro e w1 ⟨rfl, rfl⟩
 go_wp2_with fail
 refine hm.out.mono ?_
 rintro e w1 ⟨rfl, hE⟩
 have HE := Lib.hid hE
 clear hE
 go_wp2
 go_ret
 exact ⟨rfl, HE.out⟩
set_option maxRecDepth 100000 in
theorem mode_dig {k : Int} (h : Dig2 k) (w : World) : Calls Tryz.prog 18 #[.int .i64 k] w fun e w' => e = .returned (.int .i64 0) ∧ w' = w := by
 rcases h with rfl | rfl
 all_goals
  go_enter Tryz.func18, Tryz.ntmps18
  go_wp2
  go_ret
  exact ⟨rfl, rfl⟩
def hashK (k : Int) : Int := if k = 544 then 1 else 3
set_option maxRecDepth 100000 in
theorem hash_dig {k : Int} (h : Dig2 k) (w : World) : Calls Tryz.prog 53 #[.int .i64 k] w fun e w' => e = .returned (.int .i64 (hashK k)) ∧ w' = w := by
 rcases h with rfl | rfl
 all_goals
  go_enter Tryz.func53, Tryz.ntmps53
  go_wp2
  go_ret
  exact ⟨rfl, rfl⟩
end Go.Proofs.YtpbmaapdppdagaaGreatDoor

namespace Go.Proofs.YtpbmaapdppdagaaGreatDoor.Sha
abbrev W := BitVec 32
def rr (n : Nat) (x : W) : W := (x <<< (32 - n)) ||| (x >>> n)
def g0 (x : W) : W := rr 7 x ^^^ rr 18 x ^^^ (x >>> 3)
def g1 (x : W) : W := rr 17 x ^^^ rr 19 x ^^^ (x >>> 10)
def S1 (x : W) : W := rr 6 x ^^^ rr 11 x ^^^ rr 25 x
def S0 (x : W) : W := rr 2 x ^^^ rr 13 x ^^^ rr 22 x
def ch (x y z : W) : W := (x &&& y) ^^^ (~~~x &&& z)
def mj (x y z : W) : W := (x &&& y) ^^^ (x &&& z) ^^^ (y &&& z)
def wd (l : List W) (i : Nat) : W := l.getD i 0
def o (n : Nat) : W := BitVec.ofNat 32 n
def be (l : List Nat) (i : Nat) : W := (o (l.getD i 0) <<< 24) ||| (o (l.getD (i + 1) 0) <<< 16) ||| (o (l.getD (i + 2) 0) <<< 8) ||| o (l.getD (i + 3) 0)
def nxt (l : List W) : W := wd l (l.length - 16) + g0 (wd l (l.length - 15)) + wd l (l.length - 7) + g1 (wd l (l.length - 2))
def sch (p : List Nat) : Nat → List W
 | 0 => []
 | k + 1 => sch p k ++ [if k < 16 then be p (4 * k) else nxt (sch p k)]
def kk : List W := [
 0x428a2f98, 0x71374491, 0xb5c0fbcf, 0xe9b5dba5, 0x3956c25b, 0x59f111f1, 0x923f82a4, 0xab1c5ed5,
 0xd807aa98, 0x12835b01, 0x243185be, 0x550c7dc3, 0x72be5d74, 0x80deb1fe, 0x9bdc06a7, 0xc19bf174,
 0xe49b69c1, 0xefbe4786, 0x0fc19dc6, 0x240ca1cc, 0x2de92c6f, 0x4a7484aa, 0x5cb0a9dc, 0x76f988da,
 0x983e5152, 0xa831c66d, 0xb00327c8, 0xbf597fc7, 0xc6e00bf3, 0xd5a79147, 0x06ca6351, 0x14292967,
 0x27b70a85, 0x2e1b2138, 0x4d2c6dfc, 0x53380d13, 0x650a7354, 0x766a0abb, 0x81c2c92e, 0x92722c85,
 0xa2bfe8a1, 0xa81a664b, 0xc24b8b70, 0xc76c51a3, 0xd192e819, 0xd6990624, 0xf40e3585, 0x106aa070,
 0x19a4c116, 0x1e376c08, 0x2748774c, 0x34b0bcb5, 0x391c0cb3, 0x4ed8aa4a, 0x5b9cca4f, 0x682e6ff3,
 0x748f82ee, 0x78a5636f, 0x84c87814, 0x8cc70208, 0x90befffa, 0xa4506ceb, 0xbef9a3f7, 0xc67178f2]
structure St where
 (a b c d e f g h : W)
def rnd (s : St) (k w : W) : St :=
 let t := s.h + S1 s.e + ch s.e s.f s.g + k + w
 ⟨t + (S0 s.a + mj s.a s.b s.c), s.a, s.b, s.c, s.d + t, s.e, s.f, s.g⟩
def rnds (L : List W) (s : St) : Nat → St
 | 0 => s
 | k + 1 => rnd (rnds L s k) (wd kk k) (wd L k)
def St.add (s t : St) : St := ⟨s.a + t.a, s.b + t.b, s.c + t.c, s.d + t.d, s.e + t.e, s.f + t.f, s.g + t.g, s.h + t.h⟩
def comp (s : St) (p : List Nat) : St := s.add (rnds (sch p 64) s 64)
def taken (s : St) (m : List Nat) : Nat → St
 | 0 => s
 | k + 1 => comp (taken s m k) ((m.drop (64 * k)).take 64)
def s256 : St := ⟨0x6a09e667, 0xbb67ae85, 0x3c6ef372, 0xa54ff53a, 0x510e527f, 0x9b05688c, 0x1f83d9ab, 0x5be0cd19⟩
def byt (n : Nat) : List Nat := [n / 16777216 % 256, n / 65536 % 256, n / 256 % 256, n % 256]
def St.list (s : St) : List W := [s.a, s.b, s.c, s.d, s.e, s.f, s.g, s.h]
def St.out (s : St) : List Nat := s.list.flatMap fun x => byt x.toNat
def tail (n : Nat) : List Nat := [128] ++ List.replicate ((119 - n % 64) % 64) 0 ++ byt (n * 8 / 4294967296) ++ byt (n * 8 % 4294967296)
def pad (m : List Nat) : List Nat := m ++ tail m.length
def sha (m : List Nat) : List Nat := (taken s256 (pad m) ((pad m).length / 64)).out
def mask (k : List Nat) (c : Nat) : List Nat := (List.range 64).map fun i => k.getD i 0 ^^^ c
def hmac (k m : List Nat) : List Nat := sha (mask k 92 ++ sha (mask k 54 ++ m))

theorem sch_length (p : List Nat) : ∀ k, (sch p k).length = k
 | 0 => rfl
 | k + 1 => by simp [sch, sch_length p k]
theorem sch_get (p : List Nat) : ∀ (k j : Nat), j < k → wd (sch p k) j = if j < 16 then be p (4 * j) else nxt (sch p j)
  | 0, j, h => by omega
  | k + 1, j, h => by
    have hl := sch_length p k
    unfold wd
    rw [sch, List.getD_eq_getElem?_getD]
    rcases Nat.lt_or_ge j k with h1 | h1
    · rw [List.getElem?_append_left (by omega), ← List.getD_eq_getElem?_getD]; exact sch_get p k j h1
    · obtain rfl : j = k := by omega
      rw [List.getElem?_append_right (by omega), hl, Nat.sub_self]; rfl
theorem sch_same (p : List Nat) {k k' j : Nat} (h : j < k) (h' : j < k') : wd (sch p k) j = wd (sch p k') j := by rw [sch_get p k j h, sch_get p k' j h']
theorem sch_next (p : List Nat) {n j : Nat} (h16 : 16 ≤ j) (hn : j < n) :
 wd (sch p n) j = wd (sch p n) (j - 16) + g0 (wd (sch p n) (j - 15)) + wd (sch p n) (j - 7) + g1 (wd (sch p n) (j - 2)) := by
 rw [sch_get p n j hn, if_neg (by omega)]
 unfold nxt
 rw [sch_length]
 rw [sch_same p (show j - 16 < j by omega) (show j - 16 < n by omega), sch_same p (show j - 15 < j by omega) (show j - 15 < n by omega), sch_same p (show j - 7 < j by omega) (show j - 7 < n by omega), sch_same p (show j - 2 < j by omega) (show j - 2 < n by omega)]
theorem byt_length (n : Nat) : (byt n).length = 4 := rfl
theorem byt_lt (n : Nat) : ∀ x ∈ byt n, x < 256 := by
 intro x hx
 simp only [byt, List.mem_cons, List.not_mem_nil, or_false] at hx
 omega
theorem out_lt (s : St) : ∀ x ∈ s.out, x < 256 := by
 intro x hx
 obtain ⟨y, _, hy⟩ := List.mem_flatMap.1 hx
 exact byt_lt _ x hy
theorem sha_length (m : List Nat) : (sha m).length = 32 := rfl
theorem sha_lt (m : List Nat) : ∀ x ∈ sha m, x < 256 := out_lt _
theorem tail_length (n : Nat) : (tail n).length = 9 + (119 - n % 64) % 64 := by simp [tail, byt]; omega
theorem taken_congr (s : St) (m m' : List Nat) : ∀ k, (∀ j, j < k → (m.drop (64 * j)).take 64 = (m'.drop (64 * j)).take 64) → taken s m k = taken s m' k
  | 0, _ => rfl
  | k + 1, h => by
    rw [taken, taken, taken_congr s m m' k (fun j hj => h j (by omega)), h k (by omega)]
theorem taken_append (s : St) (m t : List Nat) (k : Nat) (hk : 64 * k ≤ m.length) : taken s (m ++ t) k = taken s m k :=
 taken_congr s _ _ k fun j hj => by
  rw [List.drop_append_of_le_length (by omega), List.take_append_of_le_length (by rw [List.length_drop]; omega)]
end Go.Proofs.YtpbmaapdppdagaaGreatDoor.Sha

namespace Go.Proofs.YtpbmaapdppdagaaGreatDoor
open Go.RowKit

theorem RN.one (w : World) (x : Nat) (hx : x < 18446744073709551616) : RN (w.alloc (.cells #[.int .u64 (x : Int)] 112)) (In w.heap.size (w.heap.size + 1)) (some ⟨w.heap.size, 0, none⟩) 1 [x] :=
 ⟨RS.fresh #[.int .u64 (x : Int)] 112 1 1 rfl (by unfold maxLen; omega) ⟨Nat.le_refl _, by omega⟩, by simpa [Lim] using hx⟩
abbrev RU (w : World) (A : Option Addr) (c : Nat) (l : List Nat) : Prop := RN w (fun b => b < w.heap.size) A c l
theorem RN.up {w w' : World} {A : Option Addr} {c : Nat} {l : List Nat} (h : RU w A c l) (hB : Below w.heap.size w w') : RU w' A c l :=
 (h.below hB fun _ hb => hb).mono fun _ hb => Nat.lt_of_lt_of_le hb hB.size
end Go.Proofs.YtpbmaapdppdagaaGreatDoor

namespace Go.Proofs.YtpbmaapdppdagaaGreatDoor

def bytesOf (x n : Nat) : List Nat := (List.range n).map fun i => x / 2 ^ (8 * (n - 1 - i)) % 256
theorem bytesOf_length (x n : Nat) : (bytesOf x n).length = n := by simp [bytesOf]
end Go.Proofs.YtpbmaapdppdagaaGreatDoor

namespace Go.Proofs.YtpbmaapdppdagaaGreatDoor
open Go.RowKit

theorem RB.cells {w : World} {P : Nat → Prop} {ad : Addr} {c : Nat} {bs : List Nat} (h : RB w P (some ad) c bs) : ∀ i, i < bs.length → w.cell? (ad.add i) = some (.int .u8 (dg bs i : Int)) := by
 intro i hi
 obtain ⟨ad', e, _, hc, _⟩ := h.at_ hi
 cases e
 rw [dg, getD_eq' hi]
 exact hc
theorem RB.dg {w : World} {P : Nat → Prop} {A : Option Addr} {c : Nat} {bs : List Nat} (h : RB w P A c bs) {i : Nat} (hi : i < bs.length) : ∃ ad, A = some ad ∧ w.cell? (ad.add i) = some (.int .u8 (Go.Proofs.YtpbmaapdppdagaaGreatDoor.dg bs i : Int)) ∧ Go.Proofs.YtpbmaapdppdagaaGreatDoor.dg bs i < 256 := by
 obtain ⟨ad, rfl, _, hc, hb⟩ := h.at_ hi
 refine ⟨ad, rfl, h.cells i hi, ?_⟩
 rw [Go.Proofs.YtpbmaapdppdagaaGreatDoor.dg, getD_eq' hi]
 omega

end Go.Proofs.YtpbmaapdppdagaaGreatDoor

namespace Go.Proofs.YtpbmaapdppdagaaGreatDoor
open Go.RowKit
namespace Par
section
variable {P : Program} {ops : Array Oper} {Q : Exit → Act → World → Prop}

end
section
variable {P : Program} {Q : Exit → Act → World → Prop}
structure PuO (P : Program) (ol : List Oper) (Q : Exit → Act → World → Prop) (E : World → World → Prop) (n : Nat) (L : List Nat) (R : Nat → (Nat → Value) → World → Prop) (a : Act) (w : World) (u : Nat) (cv : Value) (o : Oper) : Prop where
 out : ol[u]? = some o → ∀ f X0 X, E w X0 → (∀ j, (L.getD u 0).testBit j = true → R j (mask (fun i => L.getD i 0) j f) X0) → ∀ K : Act → World → Prop, K ((put ol.toArray (nd (fun i => L.getD i 0) u) f (List.range n) a).put (dst ol.toArray u) cv) X → wpOp P ol.toArray Q u K (put ol.toArray (nd (fun i => L.getD i 0) u) f (List.range n) a) X
theorem PuO.intro {ol : List Oper} {E : World → World → Prop} {n : Nat} {L : List Nat} {R : Nat → (Nat → Value) → World → Prop} {a : Act} {w : World} {u : Nat} {cv : Value} {o : Oper} (pl : List (Nat × Nat)) (hpl : sel ol.toArray (nd (fun i => L.getD i 0) u) (List.range n) = pl)
 (h : ∀ f X0 X, E w X0 → Way (∀ j, (L.getD u 0).testBit j = true → R j (mask (fun i => L.getD i 0) j f) X0) → ∀ K : Act → World → Prop, Way (K ((putL f pl a).put o.dst cv) X) →
  Way (if Region.wanted o (yielded ol.toArray (putL f pl a).tmps) = true then Oper.wp P o (putL f pl a) X K Q else K ((putL f pl a).put o.dst undef) X)) : PuO P ol Q E n L R a w u cv o := by
 refine ⟨fun ho f X0 X hX hR K hK => ?_⟩
 have ho' : ol.toArray[u]? = some o := by simpa using ho
 refine wpOp_step ho' fun K' hK' => ?_
 have h1 := h f X0 X hX ⟨hR⟩ K'
 rw [← hpl, ← put_sel] at h1
 refine (h1 ⟨hK' _ _ ?_⟩).out
 have : o.dst = dst ol.toArray u := by rw [dst, ho']; rfl
 rw [this]
 exact hK
inductive StepX (P : Program) (ol : List Oper) (Q : Exit → Act → World → Prop) (E : World → World → Prop) (n : Nat) (L AL : List Nat) (R : Nat → (Nat → Value) → World → Prop) (a : Act) (w : World) (u : Nat) (cv : Value) : Nat → Oper → Prop
 | step {i : Nat} {o : Oper} (hne : (i == u) = false) (h : StepO P ol Q E n L AL R a w i o) : StepX P ol Q E n L AL R a w u cv i o
 | pure {o : Oper} (h : PuO P ol Q E n L R a w u cv o) : StepX P ol Q E n L AL R a w u cv u o
inductive FinS (P : Program) (ol : List Oper) (Q : Exit → Act → World → Prop) (E : World → World → Prop) (s u : Nat) (cv : Value) (L AL : List Nat) (R : Nat → (Nat → Value) → World → Prop) (S : (Nat → Value) → World → Prop) (pl : List (Nat × Nat)) (a : Act) (w : World) : List Oper → Prop
  | intro {o : Oper} {l : List Oper}
    (hst : ∀ f X, E w X → Way (∀ j, (L.getD s 0).testBit j = true → R j (mask (fun i => L.getD i 0) j f) X) → Way (∀ j, (L.getD s 0).testBit j = true → AL.contains j = true → ∃ b, f j = .pointer (some ⟨b, 0, none⟩) ∧ b < X.heap.size) → ∀ K : Act → World → Prop, Way (∀ Y, S (mask (fun i => L.getD i 0) s f) Y → K (putL f pl a) Y) →
      Way (if Region.wanted o (yielded ol.toArray (putL f pl a).tmps) = true then Oper.wp P o (putL f pl a) X K Q else K ((putL f pl a).put o.dst undef) X))
    (htail : ∀ f Y, f u = cv → S (mask (fun i => L.getD i 0) s f) Y → Way (Chain P ol Q l (putL f pl a) Y)) : FinS P ol Q E s u cv L AL R S pl a w (o :: l)
end
end Par
end Go.Proofs.YtpbmaapdppdagaaGreatDoor

namespace Go.Proofs.YtpbmaapdppdagaaGreatDoor
open Go.RowKit

theorem Ext.drewN (w : World) (n : Nat) : Ext w (w.drewN n) := below_drewN (Below.refl _ w) n
theorem wp_storeV {op : Oper} {a : Act} {X : World} {K : Act → World → Prop} {Q : Exit → Act → World → Prop} (ty : TypeId) (x y : Operand) (ho : op.op = .store ty x y) (hd : op.dst = none) {b : Nat} {cs cs' : Array Value} {t : TypeId}
 (hx : a.eval x = .pointer (some ⟨b, 0, none⟩)) (hy : a.eval y = .agg cs') (hg : X.heap[b]? = some (.cells cs t (0, 0))) (hi : (Tryz.prog.info? ty).map (·.size) = some cs'.size) (hold : cs.size = cs'.size) (h1 : cs'.all (·.oneCell') = true)
 (hK : ∀ Y, Y.heap[b]? = some (.cells cs' t (0, 0)) → Just b X Y → Y.heap.size = X.heap.size → K a Y) : op.wp Tryz.prog a X K Q := by
 refine wp_store_row ty x y ho b cs' hx hy t cs hg hi hold h1 ?_
 rw [hd]
 exact hK _ (Go.setRow_heap X b cs cs' t _ hg) ⟨rfl, rfl, rfl, by simp [World.setRow], fun k _ hk => Go.setRow_other X b k cs' hk⟩ (by simp [World.setRow])
theorem Just.ext {b : Nat} {w X Y : World} (h : Just b X Y) (hE : Ext w X) (hb : w.heap.size ≤ b) : Ext w Y := Below.trans hE (h.below hb hE.bsize)
theorem Just.at_ {b c : Nat} {X Y : World} {o : Obj} (h : Just b X Y) (hc : c ≠ b) (hx : X.heap[c]? = some o) : Y.heap[c]? = some o := (h.block c (blk_lt hx) hc).trans hx
section
variable {Q : Exit → Act → World → Prop} {ol : List Oper} {m : Nat} {L AL : List Nat} {R : Nat → (Nat → Value) → World → Prop} {a : Act} {w : World} {F : List Oper → Prop} {k n : Nat} {o : Oper} {l : List Oper} {u : Value}
theorem run_loadAtV {X : World} {b : Nat} {cs : Array Value} {t ty : TypeId} (hg : X.heap[b]? = some (.cells cs t (0, 0))) (hd : (Tryz.prog.underlying ty).any (·.isRow) = true) (hi : (Tryz.prog.info? ty).map (·.size) = some cs.size) : (Instr.loadAt ty (.pointer (some ⟨b, 0, none⟩))).run Tryz.prog X = .ok (.agg cs) X := by
 obtain ⟨d, hu, h2⟩ : ∃ d, Tryz.prog.underlying ty = some d ∧ d.isRow = true := by
  cases h : Tryz.prog.underlying ty with
  | none => rw [h] at hd; cases hd
  | some d => rw [h] at hd; exact ⟨d, rfl, hd⟩
 unfold Instr.loadAt
 simp only [Sem.run_bind]
 rw [show (Instr.sureAddr (.pointer (some ⟨b, 0, none⟩))).run Tryz.prog X = .ok ⟨b, 0, none⟩ X from rfl, Result.andThen_ok]
 exact run_loadVar_row X b t ty cs (0, 0) d hg hu (by cases d <;> first | rfl | exact h2) hi
theorem lV0 (k' n' : Nat) {b : Nat} {cs : Array Value} {t ty : TypeId} {x : Operand} (hg : w.heap[b]? = some (.cells cs t (0, 0))) (hi : (Tryz.prog.info? ty).map (·.size) = some cs.size) (hs : Par.AllOps (Par.StepO Tryz.prog ol Q Ext m L AL R a w) F k' n' l) (hR : ∀ f X, f k = .agg cs → R k (Par.mask (fun i => L.getD i 0) k f) X := by exact fun _ _ h => h) (hk : k + 1 = k' := by rfl) (hn : n' + 1 = n := by rfl) (ha : AL.contains k = false := by kernel_rfl)
 (hw : ∀ f, Region.wanted o (yielded ol.toArray (Par.put ol.toArray (Par.nd (fun i => L.getD i 0) k) f (List.range m) a).tmps) = true := by intro _; kernel_rfl)
 (ho : o.op = .load ty x := by rfl) (hx : ∀ f, (Par.put ol.toArray (Par.nd (fun i => L.getD i 0) k) f (List.range m) a).eval x = .pointer (some ⟨b, 0, none⟩) := by intro _; kernel_rfl) (hd : (Tryz.prog.underlying ty).any (·.isRow) = true := by kernel_rfl) : Par.AllOps (Par.StepO Tryz.prog ol Q Ext m L AL R a w) F k n (o :: l) :=
 Par.vx (fun f => f) hs (fun _ _ _ => rfl) hR hk hn ha hw (fun f X hX => by
  unfold execOp
  simp only [ho, Sem.run_bind, hx, run_loadAtV (hX.at_ hg) hd hi, Result.andThen_ok]
  rfl)
theorem lV1 (k' n' j : Nat) {b : Nat} {cs : Array Value} {t ty : TypeId} {x : Operand} (hg : w.heap[b]? = some (.cells cs t (0, 0))) (hi : (Tryz.prog.info? ty).map (·.size) = some cs.size) (hs : Par.AllOps (Par.StepO Tryz.prog ol Q Ext m L AL R a w) F k' n' l) (hr : ∀ f X, R j (Par.mask (fun i => L.getD i 0) j f) X → f j = u := by exact fun _ _ h => h) (hR : ∀ f X, f k = .agg cs → R k (Par.mask (fun i => L.getD i 0) k f) X := by exact fun _ _ h => h) (hk : k + 1 = k' := by rfl) (hn : n' + 1 = n := by rfl) (ha : AL.contains k = false := by kernel_rfl)
 (hj : (L.getD k 0).testBit j = true := by kernel_rfl)
 (hw : ∀ f, Region.wanted o (yielded ol.toArray (Par.put ol.toArray (Par.nd (fun i => L.getD i 0) k) (Par.upd f j u) (List.range m) a).tmps) = true := by intro _; kernel_rfl)
 (ho : o.op = .load ty x := by rfl) (hx : ∀ f, (Par.put ol.toArray (Par.nd (fun i => L.getD i 0) k) (Par.upd f j u) (List.range m) a).eval x = .pointer (some ⟨b, 0, none⟩) := by intro _; kernel_rfl) (hd : (Tryz.prog.underlying ty).any (·.isRow) = true := by kernel_rfl) : Par.AllOps (Par.StepO Tryz.prog ol Q Ext m L AL R a w) F k n (o :: l) :=
 Par.vx (fun f => Par.upd f j u) hs (fun f X h => Par.upd_self (hr f X (h j hj))) hR hk hn ha hw (fun f X hX => by
  unfold execOp
  simp only [ho, Sem.run_bind, hx, run_loadAtV (hX.at_ hg) hd hi, Result.andThen_ok]
  rfl)
end
end Go.Proofs.YtpbmaapdppdagaaGreatDoor

namespace Go.Proofs.YtpbmaapdppdagaaGreatDoor
open Go.RowKit
open Sha

theorem w32_add (x y : W) : IntKind.u32.wrap ((x.toNat : Int) + (y.toNat : Int)) = ((x + y).toNat : Int) := by
 rw [IntKind.wrap_u32, BitVec.toNat_add]; omega
theorem w32_xor (x y : W) : bits .xor .u32 (x.toNat : Int) (y.toNat : Int) = ((x ^^^ y).toNat : Int) := by
 rw [u32_xor_nat _ _ x.isLt y.isLt, BitVec.toNat_xor]
theorem w32_and (x y : W) : bits .and .u32 (x.toNat : Int) (y.toNat : Int) = ((x &&& y).toNat : Int) := by
 rw [u32_and_nat _ _ x.isLt y.isLt, BitVec.toNat_and]
theorem w32_or (x y : W) : bits .or .u32 (x.toNat : Int) (y.toNat : Int) = ((x ||| y).toNat : Int) := by
 rw [u32_or_nat _ _ x.isLt y.isLt, BitVec.toNat_or]
theorem w32_not (x : W) : bits .xor .u32 4294967295 (x.toNat : Int) = ((~~~x).toNat : Int) := by
 have h := w32_xor 4294967295#32 x
 rw [show ((4294967295#32 : W).toNat : Int) = 4294967295 from rfl] at h
 rw [h, ← BitVec.allOnes_xor (x := x)]
 rfl
theorem pow2_cast (n : Nat) : ((2 : Int) ^ n) = ((2 ^ n : Nat) : Int) := by simp
theorem w32_shr (x : W) (n : Nat) : (x.toNat : Int) / 2 ^ n = ((x >>> n).toNat : Int) := by
 rw [BitVec.toNat_ushiftRight, Nat.shiftRight_eq_div_pow, pow2_cast, Int.natCast_ediv]
theorem w32_shl (x : W) (n : Nat) : IntKind.u32.wrap ((x.toNat : Int) * 2 ^ n) = ((x <<< n).toNat : Int) := by
 rw [IntKind.wrap_u32, BitVec.toNat_shiftLeft, Nat.shiftLeft_eq, pow2_cast, Int.natCast_emod, Int.natCast_mul]
 rfl

theorem w32_shl' (x : W) (n : Nat) : (x.toNat : Int) * 2 ^ n % 4294967296 = ((x <<< n).toNat : Int) := by
 rw [← w32_shl, IntKind.wrap_u32]
set_option maxRecDepth 100000 in
theorem rot_at (x : W) (k : Int) (n s : Nat) (w : World) (hs : bits .and .u64 (IntKind.u64.wrap k) 31 = (s : Int)) (hn : IntKind.u64.wrap (32 - (s : Int)) = (n : Int)) (h : n + s = 32) :
 Calls Tryz.prog 229 #[.int .u32 (x.toNat : Int), .int .i64 k] w fun e w' => e = .returned (.int .u32 ((rr n x).toNat : Int)) ∧ w' = w := by
 have Hx : ((x <<< s) ||| (x >>> n)) = rr n x := by unfold rr; rw [show s = 32 - n by omega]
 have HX := Lib.hid Hx
 clear Hx
 go_enter Tryz.func229, Tryz.ntmps229
 go_wp2_with fail
 go_ret
 refine ⟨?_, rfl⟩
 show Ending.returned (.int .u32 (bits .or .u32 ((x.toNat : Int) * 2 ^ s % 4294967296) ((x.toNat : Int) / 2 ^ n))) = _
 rw [w32_shl', w32_shr, w32_or, HX.out]
theorem rot_any (x : W) (k : Int) (n : Nat) (w : World) (hk : k = -(n : Int)) (hn : n = 2 ∨ n = 6 ∨ n = 7 ∨ n = 11 ∨ n = 13 ∨ n = 17 ∨ n = 18 ∨ n = 19 ∨ n = 22 ∨ n = 25) :
 Calls Tryz.prog 229 #[.int .u32 (x.toNat : Int), .int .i64 k] w fun e w' => e = .returned (.int .u32 ((rr n x).toNat : Int)) ∧ w' = w := by
 subst hk
 rcases hn with rfl | rfl | rfl | rfl | rfl | rfl | rfl | rfl | rfl | rfl
 · exact rot_at x _ 2 30 w (by kernel_rfl) (by kernel_rfl) rfl
 · exact rot_at x _ 6 26 w (by kernel_rfl) (by kernel_rfl) rfl
 · exact rot_at x _ 7 25 w (by kernel_rfl) (by kernel_rfl) rfl
 · exact rot_at x _ 11 21 w (by kernel_rfl) (by kernel_rfl) rfl
 · exact rot_at x _ 13 19 w (by kernel_rfl) (by kernel_rfl) rfl
 · exact rot_at x _ 17 15 w (by kernel_rfl) (by kernel_rfl) rfl
 · exact rot_at x _ 18 14 w (by kernel_rfl) (by kernel_rfl) rfl
 · exact rot_at x _ 19 13 w (by kernel_rfl) (by kernel_rfl) rfl
 · exact rot_at x _ 22 10 w (by kernel_rfl) (by kernel_rfl) rfl
 · exact rot_at x _ 25 7 w (by kernel_rfl) (by kernel_rfl) rfl
theorem v_add (x y : W) : Value.int .u32 (IntKind.u32.wrap ((x.toNat : Int) + (y.toNat : Int))) = .int .u32 ((x + y).toNat : Int) := congrArg _ (w32_add x y)
theorem v_xor (x y : W) : Value.int .u32 (bits .xor .u32 (x.toNat : Int) (y.toNat : Int)) = .int .u32 ((x ^^^ y).toNat : Int) := congrArg _ (w32_xor x y)
theorem v_and (x y : W) : Value.int .u32 (bits .and .u32 (x.toNat : Int) (y.toNat : Int)) = .int .u32 ((x &&& y).toNat : Int) := congrArg _ (w32_and x y)
theorem v_not (x : W) : Value.int .u32 (bits .xor .u32 4294967295 (x.toNat : Int)) = .int .u32 ((~~~x).toNat : Int) := congrArg _ (w32_not x)
theorem v_down (x : W) : Value.int .u32 (IntKind.u32.wrap (x.toNat : Int)) = .int .u32 (x.toNat : Int) := by
 have := x.isLt
 rw [IntKind.wrap_u32, Int.emod_eq_of_lt (by omega) (by omega)]
theorem v_up (x : W) : Value.int .u64 (IntKind.u64.wrap (x.toNat : Int)) = .int .u64 (x.toNat : Int) := by
 have := x.isLt
 rw [IntKind.wrap_u64, Int.emod_eq_of_lt (by omega) (by omega)]
theorem gw0 (x : W) : ∃ y z : W, bits .xor .u32 ((rr 7 x).toNat : Int) ((rr 18 x).toNat : Int) = (y.toNat : Int) ∧ (x.toNat : Int) / 8 = (z.toNat : Int) ∧ bits .xor .u32 (y.toNat : Int) (z.toNat : Int) = ((g0 x).toNat : Int) := ⟨_, _, w32_xor _ _, w32_shr x 3, w32_xor _ _⟩
theorem gw1 (x : W) : ∃ y z : W, bits .xor .u32 ((rr 17 x).toNat : Int) ((rr 19 x).toNat : Int) = (y.toNat : Int) ∧ (x.toNat : Int) / 1024 = (z.toNat : Int) ∧ bits .xor .u32 (y.toNat : Int) (z.toNat : Int) = ((g1 x).toNat : Int) := ⟨_, _, w32_xor _ _, w32_shr x 10, w32_xor _ _⟩
theorem sw1 (x : W) : ∃ y : W, bits .xor .u32 ((rr 6 x).toNat : Int) ((rr 11 x).toNat : Int) = (y.toNat : Int) ∧ bits .xor .u32 (y.toNat : Int) ((rr 25 x).toNat : Int) = ((S1 x).toNat : Int) := ⟨_, w32_xor _ _, w32_xor _ _⟩
theorem sw0 (x : W) : ∃ y : W, bits .xor .u32 ((rr 2 x).toNat : Int) ((rr 13 x).toNat : Int) = (y.toNat : Int) ∧ bits .xor .u32 (y.toNat : Int) ((rr 22 x).toNat : Int) = ((S0 x).toNat : Int) := ⟨_, w32_xor _ _, w32_xor _ _⟩
theorem w32_mod (x : W) : (x.toNat : Int) % 4294967296 = (x.toNat : Int) := by
 have := x.isLt
 rw [Int.emod_eq_of_lt (by omega) (by omega)]
theorem o_nat {b : Nat} (h : b < 256) : (b : Int) = ((o b).toNat : Int) := by
 rw [o, BitVec.toNat_ofNat, Nat.mod_eq_of_lt (by omega)]
set_option maxRecDepth 100000 in
theorem get32_any (P : Nat → Prop) (A : Option Addr) (c : Nat) (bs : List Nat) (w : World) (h : RB w P A c bs) (hl : 4 ≤ bs.length) :
 Calls Tryz.prog 63 #[.slice A bs.length c] w fun e w' => e = .returned (.int .u32 ((be bs 0).toNat : Int)) ∧ Ext w w' := by
 obtain ⟨a, rfl, c0, h0⟩ := h.dg (i := 0) (by omega)
 obtain ⟨a1, e1, c1, h1⟩ := h.dg (i := 1) (by omega)
 obtain ⟨a2, e2, c2, h2⟩ := h.dg (i := 2) (by omega)
 obtain ⟨a3, e3, c3, h3⟩ := h.dg (i := 3) (by omega)
 cases e1; cases e2; cases e3
 have hc := h.cap
 rw [o_nat h0] at c0; rw [o_nat h1] at c1; rw [o_nat h2] at c2; rw [o_nat h3] at c3
 have Hb : be bs 0 = (o (dg bs 0) <<< 24) ||| (o (dg bs 1) <<< 16) ||| (o (dg bs 2) <<< 8) ||| o (dg bs 3) := rfl
 rw [Hb]
 clear Hb
 generalize o (dg bs 0) = x0 at *
 generalize o (dg bs 1) = x1 at *
 generalize o (dg bs 2) = x2 at *
 generalize o (dg bs 3) = x3 at *
 simp [Addr.add] at c0 c1 c2 c3
 have i0 : (0 : Int) < (bs.length : Int) := by omega
 have i1 : (1 : Int) < (bs.length : Int) := by omega
 have i2 : (2 : Int) < (bs.length : Int) := by omega
 have i3 : (3 : Int) < (bs.length : Int) := by omega
 clear h0 h1 h2 h3
 go_enter Tryz.func63, Tryz.ntmps63
 go_wp2_with fail
 go_quiet (fail)
 go_wp2_with fail
 go_ret
 refine ⟨?_, Ext.drewN _ _⟩
 show Ending.returned (.int .u32 (bits .or .u32 (bits .or .u32 (bits .or .u32 ((x0.toNat : Int) * 16777216 % 4294967296) ((x1.toNat : Int) * 65536 % 4294967296)) ((x2.toNat : Int) * 256 % 4294967296)) (x3.toNat : Int))) = _
 rw [show (16777216 : Int) = 2 ^ 24 from rfl, show (65536 : Int) = 2 ^ 16 from rfl, show (256 : Int) = 2 ^ 8 from rfl, w32_shl', w32_shl', w32_shl', w32_or, w32_or, w32_or]

theorem RB.mid' {w : World} {P : Nat → Prop} {A : Option Addr} {c : Nat} {bs : List Nat} (h : RB w P A c bs) {k m c' : Nat} (hkm : k ≤ m) (hm : m ≤ bs.length) (hc : m - k ≤ c') (hc' : c' ≤ maxLen) {A' : Option Addr} (hA : k < m → A' = A.map (·.add k)) : RB w P A' c' ((bs.drop k).take (m - k)) := by
 have h1 := h.1.sub hkm hm hc hc' (A' := A') (by simpa using hA)
 have e : ((bys bs).drop (k * 1)).take ((m - k) * 1) = bys ((bs.drop k).take (m - k)) := by simp [bys, List.map_take, List.map_drop]
 rw [e] at h1
 have hl : ((bs.drop k).take (m - k)).length = m - k := by rw [List.length_take, List.length_drop]; omega
 refine ⟨by rw [hl]; exact h1, fun b hb => h.2.1 b (List.mem_of_mem_drop (List.mem_of_mem_take hb)), by rw [hl]; have := h.2.2; omega⟩
theorem RB.from' {w : World} {P : Nat → Prop} {A : Option Addr} {c : Nat} {bs : List Nat} (h : RB w P A c bs) {k c' : Nat} (hk : k ≤ bs.length) (hc : bs.length - k ≤ c') (hc' : c' ≤ maxLen) {A' : Option Addr} (hA : k < bs.length → A' = A.map (·.add k)) : RB w P A' c' (bs.drop k) := by
 have := h.mid' hk (Nat.le_refl _) hc hc' hA
 rwa [List.take_of_length_le (by simp)] at this

def vs (l : List W) : List Value := l.map fun x => .int .u32 (x.toNat : Int)
theorem vs_length (l : List W) : (vs l).length = l.length := by simp [vs]
theorem vs_get {l : List W} {i : Nat} (h : i < l.length) : (vs l)[i]? = some (.int .u32 ((wd l i).toNat : Int)) := by
 simp [vs, wd, h]
theorem vs_set (l : List W) (i : Nat) (x : W) : (vs l).set i (.int .u32 (x.toNat : Int)) = vs (l.set i x) := by simp [vs, List.map_set]
def VB (w : World) (g : Nat) (l : List W) (t : TypeId) : Prop := w.heap[g]? = some (.cells (vs l).toArray t (0, 0))
theorem VB.lt {w : World} {g : Nat} {l : List W} {t : TypeId} (h : VB w g l t) : g < w.heap.size := blk_lt h
theorem VB.cell {w : World} {g : Nat} {l : List W} {t : TypeId} (h : VB w g l t) {i : Nat} (hi : i < l.length) : w.cell? ⟨g, i, none⟩ = some (.int .u32 ((wd l i).toNat : Int)) := by
 rw [blk_cell h]; simpa using vs_get hi
theorem VB.free {w : World} {g : Nat} {l : List W} {t : TypeId} (h : VB w g l t) (i : Nat) : w.frozen? ⟨g, i, none⟩ = false := blk_free h i
theorem VB.set {w : World} {g : Nat} {l : List W} {t : TypeId} (h : VB w g l t) (i : Nat) (x : W) : VB (w.setCell ⟨g, i, none⟩ (.int .u32 (x.toNat : Int))) g (l.set i x) t := by
 unfold VB
 rw [← vs_set]
 have := blk_set h i (.int .u32 (x.toNat : Int))
 simpa using this
theorem VB.ext {w X : World} {g : Nat} {l : List W} {t : TypeId} (h : VB w g l t) (hE : Ext w X) : VB X g l t := hE.at_ h
theorem wd_set {l : List W} {i : Nat} (x : W) (hi : i < l.length) : wd (l.set i x) i = x := by simp [wd, hi]
theorem wd_set_ne {l : List W} {i j : Nat} (x : W) (h : i ≠ j) : wd (l.set i x) j = wd l j := by simp [wd, List.getElem?_set_ne h]
theorem run_index_arr {w : World} {t e : TypeId} {n i : Nat} {cs : Array Value} {v : Value} (h : Tryz.prog.underlying t = some (.array n e)) (hs : ∀ w, (sizeOf e).run Tryz.prog w = .ok 1 w) (ha : ∀ w, (isAgg e).run Tryz.prog w = .ok false w) (hi : i < n) (hv : cs[i]? = some v) :
 (Instr.index t (.agg cs) (.int .i64 (i : Int))).run Tryz.prog w = .ok v w := by
 have hn : (0 : Int) ≤ (i : Int) ∧ (i : Int) < (n : Int) := by omega
 simp [Instr.index, run_underlying h, asIntOf, hn, hs, ha, part, hv, go_sem]
 intro hle
 omega
def Upto (l m : List W) (k : Nat) : Prop := l.length = m.length ∧ ∀ j, j < k → wd l j = wd m j
theorem Upto.step {l m : List W} {k : Nat} (h : Upto l m k) (hk : k < m.length) {x : W} (hx : x = wd m k) : Upto (l.set k x) m (k + 1) := by
 refine ⟨by simpa using h.1, fun j hj => ?_⟩
 rcases Nat.lt_or_ge j k with h1 | h1
 · rw [wd_set_ne _ (by omega)]; exact h.2 j h1
 · obtain rfl : j = k := by omega
   rw [wd_set _ (by rw [h.1]; exact hk), hx]
theorem Upto.fin {l m : List W} (h : Upto l m m.length) : l = m := by
 apply List.ext_getElem h.1
 intro i h1 h2
 have := h.2 i h2
 simpa [wd, h1, h2] using this
theorem Upto.zero (l m : List W) (h : l.length = m.length) : Upto l m 0 := ⟨h, fun _ h => absurd h (by omega)⟩
theorem rot2 (x : W) (w : World) : Calls Tryz.prog 229 #[.int .u32 (x.toNat : Int), .int .i64 (-2)] w fun e w' => e = .returned (.int .u32 ((rr 2 x).toNat : Int)) ∧ w' = w := rot_any x _ 2 w rfl (by decide)
theorem rot6 (x : W) (w : World) : Calls Tryz.prog 229 #[.int .u32 (x.toNat : Int), .int .i64 (-6)] w fun e w' => e = .returned (.int .u32 ((rr 6 x).toNat : Int)) ∧ w' = w := rot_any x _ 6 w rfl (by decide)
theorem rot7 (x : W) (w : World) : Calls Tryz.prog 229 #[.int .u32 (x.toNat : Int), .int .i64 (-7)] w fun e w' => e = .returned (.int .u32 ((rr 7 x).toNat : Int)) ∧ w' = w := rot_any x _ 7 w rfl (by decide)
theorem rot11 (x : W) (w : World) : Calls Tryz.prog 229 #[.int .u32 (x.toNat : Int), .int .i64 (-11)] w fun e w' => e = .returned (.int .u32 ((rr 11 x).toNat : Int)) ∧ w' = w := rot_any x _ 11 w rfl (by decide)
theorem rot13 (x : W) (w : World) : Calls Tryz.prog 229 #[.int .u32 (x.toNat : Int), .int .i64 (-13)] w fun e w' => e = .returned (.int .u32 ((rr 13 x).toNat : Int)) ∧ w' = w := rot_any x _ 13 w rfl (by decide)
theorem rot17 (x : W) (w : World) : Calls Tryz.prog 229 #[.int .u32 (x.toNat : Int), .int .i64 (-17)] w fun e w' => e = .returned (.int .u32 ((rr 17 x).toNat : Int)) ∧ w' = w := rot_any x _ 17 w rfl (by decide)
theorem rot18 (x : W) (w : World) : Calls Tryz.prog 229 #[.int .u32 (x.toNat : Int), .int .i64 (-18)] w fun e w' => e = .returned (.int .u32 ((rr 18 x).toNat : Int)) ∧ w' = w := rot_any x _ 18 w rfl (by decide)
theorem rot19 (x : W) (w : World) : Calls Tryz.prog 229 #[.int .u32 (x.toNat : Int), .int .i64 (-19)] w fun e w' => e = .returned (.int .u32 ((rr 19 x).toNat : Int)) ∧ w' = w := rot_any x _ 19 w rfl (by decide)
theorem rot22 (x : W) (w : World) : Calls Tryz.prog 229 #[.int .u32 (x.toNat : Int), .int .i64 (-22)] w fun e w' => e = .returned (.int .u32 ((rr 22 x).toNat : Int)) ∧ w' = w := rot_any x _ 22 w rfl (by decide)
theorem rot25 (x : W) (w : World) : Calls Tryz.prog 229 #[.int .u32 (x.toNat : Int), .int .i64 (-25)] w fun e w' => e = .returned (.int .u32 ((rr 25 x).toNat : Int)) ∧ w' = w := rot_any x _ 25 w rfl (by decide)
end Go.Proofs.YtpbmaapdppdagaaGreatDoor
