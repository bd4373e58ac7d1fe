/- Plain arithmetic of the rounds of a long division: nothing of the program. What limb.guess computes. What limb.takes and limb.gives compute. Plain arithmetic of one limb of a long division: nothing of the program. Plain arithmetic of the reference's division: nothing of the program. What the reference's small and times compute. What the reference's less computes. What Montgomery's product needs: worlds in which one block alone may turn, plain laws. Blocks of the call's own that are read and laid whole, one store, what it leaves alone. Plain arithmetic of bits and bytes of numbers: nothing of the program. What limb.Bits, Bit and Bytes compute. What limb.Bytes computes. append of bytes onto a row of the call's own. keyfmt.read of nothing; a number in base 128. An object identifier is written: a node with its tag. The curves' names; what names no curve. No curve's name: no curve. Slices of one limb; slices in whatever block. Arguments opened: limbs and bytes that came in, as the walks want them. -/
import Derived.Test.YtendnkpiidhogaaGreatQc20d385f3668
import Derived.WalkMore
import Derived.Laws.CopyRow
import Derived.Laws.IdiomCopy
import Derived.Deep.MidRow
import Derived.Lib.BitFns
import Derived.Lib.ItoaNum
import Derived.ProofKit
import Derived.OpenShut
import Derived.ShutString
import Derived.ChangeOld
import Derived.ChangeSame
import Derived.Deep.Slices
import Derived.SizedLaws
import Derived.Lib.SmallJoins
namespace Go.Proofs.YtendnkpiidhogaaGreat

def TakesAt (B : Nat) (L0 y : List Nat) (q f : Nat) (L : List Nat) (j c b : Nat) : Prop :=
 L.length = L0.length ∧ val B L + B ^ f * (q * val B (y.take j)) = val B L0 + B ^ (f + j) * (c + b) ∧ ∀ i, f + j ≤ i → dg L i = dg L0 i
theorem TakesAt.zero (B : Nat) (L y : List Nat) (q f : Nat) : TakesAt B L y q f L 0 0 0 := by simp [TakesAt]
theorem TakesAt.step {B : Nat} {L0 y L : List Nat} {q f j c b lo c' x b' : Nat} (h : TakesAt B L0 y q f L j c b) (hL : f + j < L.length) (h1 : lo + B * c' = q * dg y j + c) (h2 : x + lo + b = dg L (f + j) + B * b') :
 TakesAt B L0 y q f (L.set (f + j) x) (j + 1) c' b' := by
 obtain ⟨g1, g2, g3⟩ := h
 refine ⟨by simpa using g1, ?_, fun i hi => by rw [getD_set_ne (by omega)]; exact g3 i (by omega)⟩
 have hs := val_set' B hL x
 rw [val_take_getD, Nat.mul_add, Nat.mul_add, ← Nat.add_assoc f j 1, Nat.pow_succ]
 have e1 : B ^ f * (q * (B ^ j * dg y j)) = B ^ (f + j) * (q * dg y j) := by
  rw [Nat.pow_add, Nat.mul_left_comm q, ← Nat.mul_assoc]
 have e2 : B ^ (f + j) * (lo + B * c') = B ^ (f + j) * (q * dg y j + c) := by rw [h1]
 have e3 : B ^ (f + j) * (x + lo + b) = B ^ (f + j) * (dg L (f + j) + B * b') := by rw [h2]
 rw [e1, Nat.mul_assoc, Nat.mul_add]
 rw [Nat.mul_add] at g2
 simp only [Nat.mul_add] at e2 e3 ⊢
 generalize B ^ (f + j) * (B * c') = p1 at *
 generalize B ^ (f + j) * (B * b') = p2 at *
 generalize B ^ (f + j) * lo = p3 at *
 generalize B ^ (f + j) * (q * dg y j) = p4 at *
 generalize B ^ (f + j) * c = p5 at *
 generalize B ^ (f + j) * b = p6 at *
 generalize B ^ (f + j) * x = p7 at *
 generalize B ^ (f + j) * dg L (f + j) = p8 at *
 generalize B ^ f * (q * val B (y.take j)) = p9 at *
 generalize val B (L.set (f + j) x) = p10 at *
 generalize val B L = p11 at *
 generalize val B L0 = p12 at *
 omega
theorem TakesAt.fin {B : Nat} {L0 y L : List Nat} {q f n c b x b' : Nat} (h : TakesAt B L0 y q f L n c b) (hn : y.length = n) (hL : f + n < L.length) (h2 : x + c + b = dg L (f + n) + B * b') :
 (L.set (f + n) x).length = L0.length ∧ val B (L.set (f + n) x) + B ^ f * (q * val B y) = val B L0 + B ^ (f + n + 1) * b' ∧ ∀ i, f + n + 1 ≤ i → dg (L.set (f + n) x) i = dg L0 i := by
 obtain ⟨g1, g2, g3⟩ := h
 refine ⟨by simpa using g1, ?_, fun i hi => by rw [getD_set_ne (by omega)]; exact g3 i (by omega)⟩
 rw [List.take_of_length_le (by omega)] at g2
 have hs := val_set' B hL x
 have e3 : B ^ (f + n) * (x + c + b) = B ^ (f + n) * (dg L (f + n) + B * b') := by rw [h2]
 rw [Nat.pow_succ, Nat.mul_assoc]
 simp only [Nat.mul_add] at e3 g2
 generalize B ^ (f + n) * (B * b') = p2 at *
 generalize B ^ (f + n) * c = p5 at *
 generalize B ^ (f + n) * b = p6 at *
 generalize B ^ (f + n) * x = p7 at *
 generalize B ^ (f + n) * dg L (f + n) = p8 at *
 generalize B ^ f * (q * val B y) = p9 at *
 generalize val B (L.set (f + n) x) = p10 at *
 generalize val B L = p11 at *
 generalize val B L0 = p12 at *
 omega
def GivesAt (B : Nat) (L0 y : List Nat) (f : Nat) (L : List Nat) (j c : Nat) : Prop :=
 L.length = L0.length ∧ val B L + B ^ (f + j) * c = val B L0 + B ^ f * val B (y.take j) ∧ ∀ i, f + j ≤ i → dg L i = dg L0 i
theorem GivesAt.zero (B : Nat) (L y : List Nat) (f : Nat) : GivesAt B L y f L 0 0 := by simp [GivesAt]
theorem GivesAt.step {B : Nat} {L0 y L : List Nat} {f j c x c' : Nat} (h : GivesAt B L0 y f L j c) (hL : f + j < L.length) (h1 : x + B * c' = dg L (f + j) + dg y j + c) : GivesAt B L0 y f (L.set (f + j) x) (j + 1) c' := by
 obtain ⟨g1, g2, g3⟩ := h
 refine ⟨by simpa using g1, ?_, fun i hi => by rw [getD_set_ne (by omega)]; exact g3 i (by omega)⟩
 have hs := val_set' B hL x
 rw [val_take_getD, Nat.mul_add, ← Nat.mul_assoc, ← Nat.pow_add, ← Nat.add_assoc f j 1, Nat.pow_succ, Nat.mul_assoc]
 have e2 : B ^ (f + j) * (x + B * c') = B ^ (f + j) * (dg L (f + j) + dg y j + c) := by rw [h1]
 simp only [Nat.mul_add] at e2 ⊢
 generalize B ^ (f + j) * (B * c') = p1 at *
 generalize B ^ (f + j) * dg y j = p4 at *
 generalize B ^ (f + j) * c = p5 at *
 generalize B ^ (f + j) * x = p7 at *
 generalize B ^ (f + j) * dg L (f + j) = p8 at *
 generalize B ^ f * val B (y.take j) = p9 at *
 generalize val B (L.set (f + j) x) = p10 at *
 generalize val B L = p11 at *
 generalize val B L0 = p12 at *
 omega
theorem GivesAt.fin {B : Nat} {L0 y L : List Nat} {f n c x c' : Nat} (h : GivesAt B L0 y f L n c) (hn : y.length = n) (hL : f + n < L.length) (h1 : x + B * c' = dg L (f + n) + c) :
 (L.set (f + n) x).length = L0.length ∧ val B (L.set (f + n) x) + B ^ (f + n + 1) * c' = val B L0 + B ^ f * val B y ∧ ∀ i, f + n + 1 ≤ i → dg (L.set (f + n) x) i = dg L0 i := by
 obtain ⟨g1, g2, g3⟩ := h
 refine ⟨by simpa using g1, ?_, fun i hi => by rw [getD_set_ne (by omega)]; exact g3 i (by omega)⟩
 rw [List.take_of_length_le (by omega)] at g2
 have hs := val_set' B hL x
 have e3 : B ^ (f + n) * (x + B * c') = B ^ (f + n) * (dg L (f + n) + c) := by rw [h1]
 rw [Nat.pow_succ, Nat.mul_assoc]
 simp only [Nat.mul_add] at e3
 generalize B ^ (f + n) * (B * c') = p2 at *
 generalize B ^ (f + n) * c = p5 at *
 generalize B ^ (f + n) * x = p7 at *
 generalize B ^ (f + n) * dg L (f + n) = p8 at *
 generalize B ^ f * val B y = p9 at *
 generalize val B (L.set (f + n) x) = p10 at *
 generalize val B L = p11 at *
 generalize val B L0 = p12 at *
 omega
theorem val_lt_of_zero {B : Nat} (hB : 0 < B) {L : List Nat} (h : ∀ x ∈ L, x < B) {m : Nat} (hz : ∀ i, m ≤ i → dg L i = 0) : val B L < B ^ m := by
 rcases Nat.lt_or_ge L.length m with h1 | h1
 · exact Nat.lt_of_lt_of_le (val_lt h) (Nat.pow_le_pow_right hB (by omega))
 · have e := val_take_drop B L h1
   have hd : val B (L.drop m) = 0 := by
    apply val_zeros
    intro x hx
    obtain ⟨i, hi, rfl⟩ := List.getElem_of_mem hx
    rw [List.getElem_drop]
    have := hz (m + i) (by omega)
    rwa [dg, getD_eq' (by simp at hi; omega)] at this
   rw [hd, Nat.mul_zero, Nat.add_zero] at e
   rw [e]
   have := val_lt (B := B) (l := L.take m) fun x hx => h x (List.mem_of_mem_take hx)
   rwa [List.length_take, Nat.min_eq_left h1] at this
theorem dg_of_val {B : Nat} {L : List Nat} (h : ∀ x ∈ L, x < B) (i : Nat) (hi : i < L.length) : dg L i = val B L / B ^ i % B := by
 have hB : 0 < B := Nat.lt_of_le_of_lt (Nat.zero_le _) (h _ (List.getElem_mem hi))
 have e := val_take_drop B L (Nat.le_of_lt hi)
 have h2 := val_lt (B := B) (l := L.take i) fun x hx => h x (List.mem_of_mem_take hx)
 rw [List.length_take, Nat.min_eq_left (by omega)] at h2
 rw [List.drop_eq_getElem_cons hi, val_cons] at e
 rw [e, Nat.add_mul_div_left _ _ (Nat.pow_pos hB), Nat.div_eq_of_lt h2, Nat.zero_add, Nat.add_mul_mod_self_left, dg, getD_eq' hi, Nat.mod_eq_of_lt (h _ (List.getElem_mem hi))]
theorem zero_of_val_lt {B : Nat} {L : List Nat} (h : ∀ x ∈ L, x < B) {m : Nat} (hm : val B L < B ^ m) {i : Nat} (hi : m ≤ i) : dg L i = 0 := by
 rcases Nat.lt_or_ge i L.length with h1 | h1
 · have hB : 0 < B := Nat.lt_of_le_of_lt (Nat.zero_le _) (h _ (List.getElem_mem h1))
   rw [dg_of_val h i h1, Nat.div_eq_of_lt (Nat.lt_of_lt_of_le hm (Nat.pow_le_pow_right hB hi)), Nat.zero_mod]
 · rw [dg, List.getD_eq_getElem?_getD, List.getElem?_eq_none h1]; rfl
end Go.Proofs.YtendnkpiidhogaaGreat

namespace Go.Proofs.YtendnkpiidhogaaGreat
open Go.RowKit

def Guessed (u u1 y1 y0 G : Nat) : Prop := G < 18446744073709551616 ∧ ∀ q, q < 18446744073709551616 → q * (y1 * 18446744073709551616 + y0) ≤ u * 18446744073709551616 + u1 → q ≤ G
theorem Guessed.top (u u1 y1 y0 : Nat) : Guessed u u1 y1 y0 18446744073709551615 := ⟨by omega, fun q hq _ => by omega⟩
end Go.Proofs.YtendnkpiidhogaaGreat

namespace Go.Proofs.YtendnkpiidhogaaGreat
open Go.RowKit

def Row (w : World) (g : Nat) (l : List Nat) : Prop := ∃ cur, w.heap[g]? = some (.cells cur 139 (0, 0)) ∧ ∀ (j : Nat) u, (nts l)[j]? = some u → cur[j]? = some u
section
variable {w w' w'' : World} {g f : Nat} {l : List Nat} {p : Addr}
theorem add_off (g f j : Nat) : (⟨g, f, none⟩ : Addr).add j = ⟨g, f + j, none⟩ := by
 rcases Nat.eq_zero_or_pos j with h | h
 · subst h; rfl
 · simp [Addr.add, Nat.pos_iff_ne_zero.1 h]
theorem Row.cell (h : Row w g l) (hp : p = ⟨g, f, none⟩) {j : Nat} (hj : f + j < l.length) : w.cell? (p.add j) = some (.int .u64 (dg l (f + j) : Int)) := by
 obtain ⟨cur, h1, h2⟩ := h
 rw [hp, add_off, blk_cell h1, h2 _ _ (nts_get hj)]
theorem Row.free (h : Row w g l) (hp : p = ⟨g, f, none⟩) (j : Nat) : w.frozen? (p.add j) = false := by
 obtain ⟨cur, h1, h2⟩ := h
 rw [hp, add_off, blk_free h1]
theorem Row.set (h : Row w g l) (hp : p = ⟨g, f, none⟩) (j x : Nat) : Row (w.setCell (p.add j) (.int .u64 (x : Int))) g (l.set (f + j) x) := by
 obtain ⟨cur, h1, h2⟩ := h
 rw [hp, add_off]
 refine ⟨cur.setIfInBounds (f + j) (.int .u64 (x : Int)), by simp [World.setCell, Array.getElem?_modify, h1], fun i u hu => ?_⟩
 rw [nts, List.map_set, List.getElem?_set] at hu
 rw [Array.getElem?_setIfInBounds]
 by_cases e : f + j = i
 · rw [if_pos e] at hu ⊢
   split at hu
   · rename_i hl
     have := h2 i _ (nts_get (by rw [← e]; simpa using hl))
     have hi := (Array.getElem?_eq_some_iff.1 this).1
     rw [if_pos (by omega)]
     exact hu
   · cases hu
 · rw [if_neg e] at hu ⊢
   exact h2 i u hu
theorem Row.lt (h : Row w g l) : g < w.heap.size := by obtain ⟨cur, h1, h2⟩ := h; exact blk_lt h1
theorem Row.drewN (h : Row w g l) (n : Nat) : Row (w.drewN n) g l := h
theorem Row.of_heap (h : Row w g l) (he : w'.heap[g]? = w.heap[g]?) : Row w' g l := by
 obtain ⟨cur, h1, h2⟩ := h
 exact ⟨cur, he.trans h1, h2⟩
theorem Row.below {B : Nat} (h : Row w g l) (hb : Below B w w') (hg : g < B) : Row w' g l := h.of_heap (hb.block g hg)
theorem Row.ob (h : Row w g l) {base c : Nat} (hg : base ≤ g) (hl : Lim l) (hc : l.length ≤ c) (hc' : c ≤ maxLen) : OB w base (some ⟨g, 0, none⟩) c l := by
 obtain ⟨cur, h1, h2⟩ := h
 exact ⟨hl, hc, hc', fun _ => ⟨g, cur, rfl, hg, h1, h2⟩⟩
theorem OB.row {base c : Nat} {A : Option Addr} (h : OB w base A c l) (h0 : 0 < l.length) : ∃ g, A = some ⟨g, 0, none⟩ ∧ base ≤ g ∧ Row w g l := by
 obtain ⟨h1, h2, h3, h4⟩ := h
 obtain ⟨g, cur, e, hg, h5, h6⟩ := h4 h0
 exact ⟨g, e, hg, cur, h5, h6⟩
theorem Row.blk (h : Blk w g l) : Row w g l := ⟨_, h, fun j u hu => by rw [List.getElem?_toArray]; exact hu⟩
structure Only (g : Nat) (w w' : World) : Prop where
 os : w'.os = w.os
 tape : w'.tape = w.tape
 output : w'.output = w.output
 size : w'.heap.size = w.heap.size
 block : ∀ k, k ≠ g → w'.heap[k]? = w.heap[k]?
theorem Only.refl (g : Nat) (w : World) : Only g w w := ⟨rfl, rfl, rfl, rfl, fun _ _ => rfl⟩
theorem Only.trans (h : Only g w w') (k : Only g w' w'') : Only g w w'' := ⟨k.os.trans h.os, k.tape.trans h.tape, k.output.trans h.output, k.size.trans h.size, fun i hi => (k.block i hi).trans (h.block i hi)⟩
theorem Only.setCell (h : Only g w w') (hp : p = ⟨g, f, none⟩) (j : Nat) (v : Value) : Only g w (w'.setCell (p.add j) v) := by
 have e : (p.add j).block = g := by rw [hp, add_off]
 refine ⟨h.os, h.tape, h.output, ?_, fun k hk => (Below.heap_setCell _ _ _ _ (by rw [e]; exact hk)).trans (h.block k hk)⟩
 have : (w'.setCell (p.add j) v).heap.size = w'.heap.size := by unfold World.setCell; split <;> simp
 exact this.trans h.size
theorem Only.drewN (h : Only g w w') (n : Nat) : Only g w (w'.drewN n) := ⟨h.os, h.tape, h.output, h.size, h.block⟩
theorem Only.below {B : Nat} (h : Only g w w') (hB : B ≤ g) : Below B w w' := ⟨h.os, h.tape, h.output, Nat.le_of_eq h.size.symm, fun k hk => h.block k (by omega)⟩
theorem RN.only {P : Nat → Prop} {A : Option Addr} {c : Nat} (h : RN w P A c l) (ho : Only g w w') (hP : ∀ b, P b → b ≠ g) : RN w' P A c l := h.keep fun q hq => World.cell?_of_block (w := w) (ho.block q.block (hP _ hq))
theorem Row.only {g' : Nat} (h : Row w g' l) (ho : Only g w w') (hg : g' ≠ g) : Row w' g' l := h.of_heap (ho.block g' hg)
end
end Go.Proofs.YtendnkpiidhogaaGreat

namespace Go.Proofs.YtendnkpiidhogaaGreat

theorem quo_three {B q DB V t D2 T rd rv : Nat} (hq : q * DB ≤ V) (hD : DB = rd + B ^ t * D2) (hV : V = rv + B ^ t * T) (hr : rv < B ^ t) : q * D2 ≤ T := by
 have h1 : q * (B ^ t * D2) ≤ q * DB := Nat.mul_le_mul_left _ (by omega)
 have h2 : q * (B ^ t * D2) = B ^ t * (q * D2) := by rw [Nat.mul_left_comm]
 have h3 : B ^ t * (q * D2) < B ^ t * (T + 1) := by rw [Nat.mul_add, Nat.mul_one]; omega
 exact Nat.le_of_lt_succ (Nat.lt_of_mul_lt_mul_left h3)

def FixAt (B V i n D : Nat) (L : List Nat) (g : Nat) (too : Bool) : Prop :=
 V / (B ^ i * D) ≤ g ∧ g < B ∧ (∀ j, i + n + 1 ≤ j → dg L j = 0) ∧ val B L + B ^ i * (g * D) = V + if too then B ^ (i + n + 1) else 0
section
variable {B V i n D g : Nat} {L L' : List Nat}
theorem FixAt.start {b : Nat} (hq : V / (B ^ i * D) ≤ g) (hg : g < B) (hz : ∀ j, i + n + 1 ≤ j → dg L' j = dg L j) (hz0 : ∀ j, i + n + 1 ≤ j → dg L j = 0) (he : val B L' + B ^ i * (g * D) = V + B ^ (i + n + 1) * b) (hL' : ∀ x ∈ L', x < B) (hB : 2 ≤ B) (hD : D < B ^ n) :
 FixAt B V i n D L' g (decide (0 < b)) := by
 have hz' : ∀ j, i + n + 1 ≤ j → dg L' j = 0 := fun j hj => (hz j hj).trans (hz0 j hj)
 refine ⟨hq, hg, hz', ?_⟩
 have h1 := val_lt_of_zero (by omega) hL' hz'
 rw [he]
 have h2 : B ^ i * (g * D) < B ^ (i + n + 1) := by
  rw [Nat.add_assoc, Nat.pow_add, Nat.pow_succ, Nat.mul_comm (B ^ n)]
  refine Nat.mul_lt_mul_of_pos_left ?_ (Nat.pow_pos (by omega))
  exact Nat.lt_of_le_of_lt (Nat.mul_le_mul_left g (Nat.le_of_lt hD)) (Nat.mul_lt_mul_of_pos_right hg (Nat.pow_pos (by omega)))
 rcases Nat.lt_or_ge b 2 with hb | hb
 · have : b = 0 ∨ b = 1 := by omega
   rcases this with rfl | rfl <;> simp
 · exfalso
   have h3 : B ^ (i + n + 1) * 2 ≤ B ^ (i + n + 1) * b := Nat.mul_le_mul_left _ hb
   omega
theorem FixAt.pos (h : FixAt B V i n D L g true) (hL : ∀ x ∈ L, x < B) (hB : 2 ≤ B) : V / (B ^ i * D) < g := by
 obtain ⟨h1, h2, h3, h4⟩ := h
 have h5 := val_lt_of_zero (by omega) hL h3
 apply Nat.div_lt_of_lt_mul
 simp only [if_true] at h4
 rw [Nat.mul_assoc, Nat.mul_comm D]
 omega
theorem FixAt.step {c : Nat} (h : FixAt B V i n D L (g + 1) true) (hL : ∀ x ∈ L, x < B) (hL' : ∀ x ∈ L', x < B) (hB : 2 ≤ B) (hD : 0 < D) (hDn : D < B ^ n)
 (he : val B L' + B ^ (i + n + 1) * c = val B L + B ^ i * D) (hz : ∀ j, i + n + 1 ≤ j → dg L' j = dg L j) : FixAt B V i n D L' g (decide (dg L' (i + n) ≠ 0)) := by
 have hp := h.pos hL hB
 obtain ⟨h1, h2, h3, h4⟩ := h
 have hz' : ∀ j, i + n + 1 ≤ j → dg L' j = 0 := fun j hj => (hz j hj).trans (h3 j hj)
 have h5 := val_lt_of_zero (by omega) hL h3
 have h6 := val_lt_of_zero (by omega) hL' hz'
 have hDi : B ^ i * D < B ^ (i + n) := by rw [Nat.pow_add]; exact Nat.mul_lt_mul_of_pos_left hDn (Nat.pow_pos (by omega))
 have hBB : B ^ (i + n + 1) = B ^ (i + n) * B := Nat.pow_succ _ _
 have hBB2 : B ^ (i + n) * 2 ≤ B ^ (i + n) * B := Nat.mul_le_mul_left _ hB
 have hV : V < B ^ i * D * (g + 1) := by
  have := Nat.lt_mul_div_succ V (show 0 < B ^ i * D from Nat.mul_pos (Nat.pow_pos (by omega)) hD)
  exact Nat.lt_of_lt_of_le this (Nat.mul_le_mul_left _ (by omega))
 simp only [if_true] at h4
 have e1 : B ^ i * ((g + 1) * D) = B ^ i * (g * D) + B ^ i * D := by rw [Nat.add_mul, Nat.one_mul, Nat.mul_add]
 have e2 : B ^ i * D * (g + 1) = B ^ i * (g * D) + B ^ i * D := by rw [← e1, Nat.mul_assoc, Nat.mul_comm D]
 have hgD : B ^ i * (g * D) + B ^ (i + n) * 2 ≤ B ^ (i + n + 1) + B ^ (i + n) := by
  obtain ⟨m, hm⟩ : ∃ m, B = m + 2 := ⟨B - 2, by omega⟩
  have k1 : g * D ≤ m * B ^ n := Nat.mul_le_mul (by omega) (Nat.le_of_lt hDn)
  have k2 : B ^ i * (g * D) ≤ B ^ i * (m * B ^ n) := Nat.mul_le_mul_left _ k1
  have k3 : B ^ i * (m * B ^ n) = B ^ (i + n) * m := by rw [Nat.mul_comm m, ← Nat.mul_assoc, ← Nat.pow_add]
  have k4 : B ^ (i + n) * B = B ^ (i + n) * m + B ^ (i + n) * 2 := by rw [← Nat.mul_add, ← hm]
  omega
 rw [e1] at h4
 rw [e2] at hV
 refine ⟨by omega, by omega, hz', ?_⟩
 rcases Nat.eq_zero_or_pos c with rfl | hc
 · rw [Nat.mul_zero, Nat.add_zero] at he
   have hbig : B ^ (i + n) ≤ val B L' := by omega
   have hne : dg L' (i + n) ≠ 0 := fun h0 => by
    have := val_lt_of_zero (B := B) (m := i + n) (by omega) hL' fun j hj => by
     rcases Nat.lt_or_ge (i + n) j with h | h
     · exact hz' j (by omega)
     · obtain rfl : j = i + n := by omega
       exact h0
    omega
   rw [decide_eq_true hne, if_pos rfl]
   omega
 · have hc1 : c = 1 := by
    rcases Nat.lt_or_ge c 2 with h | h
    · omega
    · have : B ^ (i + n + 1) * 2 ≤ B ^ (i + n + 1) * c := Nat.mul_le_mul_left _ h
      omega
   subst hc1
   rw [Nat.mul_one] at he
   have hsmall : val B L' < B ^ (i + n) := by omega
   have h0 := zero_of_val_lt hL' hsmall (Nat.le_refl _)
   rw [decide_eq_false (by simp [h0]), if_neg (by simp)]
   omega
theorem FixAt.fin (h : FixAt B V i n D L g false) (hB : 2 ≤ B) (hD : 0 < D) : val B L + B ^ i * (g * D) = V ∧ val B L < B ^ i * D := by
 obtain ⟨h1, h2, h3, h4⟩ := h
 simp only [Bool.false_eq_true, if_false, Nat.add_zero] at h4
 refine ⟨h4, ?_⟩
 have h5 := Nat.lt_mul_div_succ V (show 0 < B ^ i * D from Nat.mul_pos (Nat.pow_pos (by omega)) hD)
 have h6 : B ^ i * D * (V / (B ^ i * D) + 1) ≤ B ^ i * D * (g + 1) := Nat.mul_le_mul_left _ (by omega)
 have e : B ^ i * D * (g + 1) = B ^ i * (g * D) + B ^ i * D := by rw [Nat.mul_add, Nat.mul_one, Nat.mul_assoc, Nat.mul_comm D]
 omega
end
def QuoAt (B X D : Nat) (L qs : List Nat) (k : Nat) : Prop := val B L + D * (B ^ k * val B (qs.drop k)) = X ∧ val B L < B ^ k * D
theorem QuoAt.start {B D m : Nat} {L qs : List Nat} (hq : qs.length = m) (h : val B L < B ^ m * D) : QuoAt B (val B L) D L qs m := by
 refine ⟨?_, h⟩
 rw [← hq, List.drop_length]
 simp
theorem QuoAt.step {B X D k g : Nat} {L L' qs : List Nat} (h : QuoAt B X D L qs (k + 1)) (hk : k < qs.length) (h1 : val B L' + B ^ k * (g * D) = val B L) (h2 : val B L' < B ^ k * D) : QuoAt B X D L' (qs.set k g) k := by
 obtain ⟨g1, g2⟩ := h
 refine ⟨?_, h2⟩
 have e : (qs.set k g).drop k = g :: qs.drop (k + 1) := by
  rw [List.drop_set, if_neg (Nat.lt_irrefl _), List.drop_eq_getElem_cons hk, Nat.sub_self, List.set_cons_zero]
 rw [e, val_cons, Nat.mul_add, Nat.mul_add, ← g1, ← h1, Nat.pow_succ]
 have e1 : D * (B ^ k * g) = B ^ k * (g * D) := by rw [Nat.mul_left_comm, Nat.mul_comm D]
 rw [e1, Nat.mul_assoc (B ^ k)]
 omega
theorem QuoAt.fin {B X D : Nat} {L qs : List Nat} (h : QuoAt B X D L qs 0) : val B qs = X / D ∧ val B L = X % D := by
 obtain ⟨g1, g2⟩ := h
 simp only [Nat.pow_zero, Nat.one_mul, List.drop_zero] at g1 g2
 rw [← g1]
 refine ⟨?_, ?_⟩
 · rw [Nat.add_comm, Nat.mul_add_div (by omega), Nat.div_eq_of_lt g2, Nat.add_zero]
 · rw [Nat.add_comm, Nat.mul_add_mod, Nat.mod_eq_of_lt g2]
end Go.Proofs.YtendnkpiidhogaaGreat

namespace Go.Proofs.YtendnkpiidhogaaGreat

theorem dg_drop (u : List Nat) (k i : Nat) : dg (u.drop k) i = dg u (k + i) := by
 simp [dg, List.getD_eq_getElem?_getD, List.getElem?_drop]
def LessAt (B : Nat) (u v W : List Nat) (k g i c b : Nat) : Prop := W.length = v.length + 1 ∧ val B (W.take i) + g * val B (v.take i) = val B ((u.drop k).take i) + B ^ i * (c + b)
section
variable {B k g i c b : Nat} {u v W : List Nat}
theorem LessAt.zero (h : W.length = v.length + 1) : LessAt B u v W k g 0 0 0 := ⟨h, by simp⟩
theorem LessAt.step {lo c' x b' : Nat} (h : LessAt B u v W k g i c b) (hi : i < W.length) (h1 : lo + B * c' = c + g * dg v i) (h2 : x + (lo + b) = dg u (k + i) + B * b') : LessAt B u v (W.set i x) k g (i + 1) c' b' := by
 obtain ⟨g1, g2⟩ := h
 refine ⟨by simpa using g1, ?_⟩
 rw [val_take_set B hi, val_take_getD, val_take_getD, dg_drop, Nat.pow_succ]
 have e1 : g * (B ^ i * dg v i) = B ^ i * (g * dg v i) := Nat.mul_left_comm _ _ _
 have e2 : B ^ i * (lo + B * c') = B ^ i * (c + g * dg v i) := by rw [h1]
 have e3 : B ^ i * (x + (lo + b)) = B ^ i * (dg u (k + i) + B * b') := by rw [h2]
 rw [Nat.mul_add g, e1, Nat.mul_assoc, Nat.mul_add B, Nat.mul_add (B ^ i) (B * c')]
 simp only [Nat.mul_add] at e2 e3 g2 ⊢
 generalize B ^ i * (B * c') = p1 at *
 generalize B ^ i * (B * b') = p2 at *
 generalize B ^ i * lo = p3 at *
 generalize B ^ i * (g * dg v i) = p4 at *
 generalize B ^ i * c = p5 at *
 generalize B ^ i * b = p6 at *
 generalize B ^ i * x = p7 at *
 generalize B ^ i * dg u (k + i) = p8 at *
 omega
def putAt (u W : List Nat) (k : Nat) : List Nat := u.take k ++ W ++ u.drop (k + W.length)
theorem putAt_length (h : k + W.length ≤ u.length) : (putAt u W k).length = u.length := by simp [putAt]; omega
theorem val_parts (B : Nat) (h : k + W.length ≤ u.length) : ∃ r t : Nat, val B u = r + B ^ k * (val B ((u.drop k).take W.length) + B ^ W.length * t) ∧ val B (putAt u W k) = r + B ^ k * (val B W + B ^ W.length * t) := by
 refine ⟨val B (u.take k), val B (u.drop (k + W.length)), ?_, ?_⟩
 · rw [val_take_drop B u (n := k) (by omega), val_take_drop B (u.drop k) (n := W.length) (by simp; omega), List.drop_drop]
 · unfold putAt
   rw [val_append, val_append, List.length_append, List.length_take, Nat.min_eq_left (by omega), Nat.pow_add, Nat.mul_assoc, Nat.add_assoc, ← Nat.mul_add]
theorem LessAt.yes (h : LessAt B u v W k g W.length 0 0) (hk : k + W.length ≤ u.length) : val B (putAt u W k) + B ^ k * (g * val B v) = val B u := by
 obtain ⟨g1, g2⟩ := h
 obtain ⟨r, t, e1, e2⟩ := val_parts B (u := u) (W := W) hk
 rw [List.take_length, List.take_of_length_le (by omega : v.length ≤ W.length)] at g2
 simp only [Nat.add_zero, Nat.mul_zero] at g2
 rw [e1, e2, ← g2, Nat.mul_add, Nat.mul_add, Nat.mul_add]
 omega
theorem LessAt.no (h : LessAt B u v W k g W.length 0 1) (hW : ∀ x ∈ W, x < B) (hu : ∀ x ∈ u, x < B) (hz : ∀ j, k + W.length ≤ j → dg u j = 0) (hk : k + W.length ≤ u.length) : val B u / (B ^ k * val B v) < g := by
 obtain ⟨g1, g2⟩ := h
 rw [List.take_length, List.take_of_length_le (by omega : v.length ≤ W.length)] at g2
 simp only [Nat.zero_add, Nat.mul_one] at g2
 have h1 := val_lt hW
 have e1 := val_take_drop B u (n := k) (by omega)
 have e2 := val_take_drop B (u.drop k) (n := W.length) (by simp; omega)
 have h0 : val B ((u.drop k).drop W.length) = 0 := by
  apply val_zeros
  intro x hx
  rw [List.drop_drop] at hx
  obtain ⟨i, hi, rfl⟩ := List.getElem_of_mem hx
  rw [List.getElem_drop]
  have := hz (k + W.length + i) (by omega)
  rwa [dg, getD_eq' (by simp at hi; omega)] at this
 rw [h0, Nat.mul_zero, Nat.add_zero] at e2
 have h2 : val B (u.take k) < B ^ k := by
  have := val_lt (B := B) (l := u.take k) fun x hx => hu x (List.mem_of_mem_take hx)
  rwa [List.length_take, Nat.min_eq_left (by omega)] at this
 apply Nat.div_lt_of_lt_mul
 rw [e1, e2]
 have h3 : val B ((u.drop k).take W.length) + 1 ≤ g * val B v := by omega
 have h4 : B ^ k * (val B ((u.drop k).take W.length) + 1) ≤ B ^ k * (g * val B v) := Nat.mul_le_mul_left _ h3
 rw [Nat.mul_add, Nat.mul_one] at h4
 rw [Nat.mul_assoc, Nat.mul_comm (val B v)]
 omega
theorem guess2_ge {n n1 : Nat} (hn : n1 + 1 = n) (hu : ∀ x ∈ u, x < B) (hv : ∀ x ∈ v, x < B) (hvn : v.length = n) (hlen : k + n < u.length) (htop : 0 < dg v n1) (hV : val B u < B ^ (k + 1) * val B v) :
 (∀ i, k + n + 1 ≤ i → dg u i = 0) ∧ val B u / (B ^ k * val B v) < B ∧ val B u / (B ^ k * val B v) ≤ (dg u (k + n) * B + dg u (k + n1)) / dg v n1 := by
 subst hn
 have hB : 0 < B := Nat.lt_of_le_of_lt (Nat.zero_le _) (hu _ (List.getElem_mem (by omega : k < u.length)))
 have hdl := val_lt hv
 rw [hvn] at hdl
 have hz : ∀ i, k + (n1 + 1) + 1 ≤ i → dg u i = 0 := fun i hi => zero_of_val_lt hu (m := k + (n1 + 1) + 1) (Nat.lt_trans hV (by
  rw [show k + (n1 + 1) + 1 = (k + 1) + (n1 + 1) by omega, Nat.pow_add _ (k + 1)]
  exact Nat.mul_lt_mul_of_pos_left hdl (Nat.pow_pos hB))) hi
 refine ⟨hz, ?_, ?_⟩
 · apply Nat.div_lt_of_lt_mul
   rw [Nat.pow_succ, Nat.mul_right_comm] at hV
   exact hV
 · rw [Nat.le_div_iff_mul_le htop]
   have e := val_take_drop B u (n := k + n1 + 2) (by omega)
   have hd : val B (u.drop (k + n1 + 2)) = 0 := by
    apply val_zeros
    intro x hx
    obtain ⟨i, hi, rfl⟩ := List.getElem_of_mem hx
    rw [List.getElem_drop]
    have := hz (k + n1 + 2 + i) (by omega)
    rwa [dg, getD_eq' (by simp at hi; omega)] at this
   rw [hd, Nat.mul_zero, Nat.add_zero, val_take_getD, val_take_getD, Nat.pow_succ] at e
   have hr := val_lt (B := B) (l := u.take (k + n1)) fun x hx => hu x (List.mem_of_mem_take hx)
   rw [List.length_take, Nat.min_eq_left (by omega)] at hr
   have ev : val B v = val B (v.take n1) + B ^ n1 * dg v n1 := by rw [← val_take_getD, ← hvn, List.take_length]
   refine quo_three (B := B) (t := k + n1) (DB := B ^ k * val B v) (rd := B ^ k * val B (v.take n1)) (V := val B u) (rv := val B (u.take (k + n1))) (Nat.div_mul_le_self _ _) ?_ ?_ hr
   · rw [ev, Nat.mul_add, ← Nat.mul_assoc, ← Nat.pow_add]
   · rw [e, Nat.mul_assoc, Nat.mul_comm B, Nat.mul_add, show k + (n1 + 1) = k + n1 + 1 by omega]
     omega
def TimesAt (B : Nat) (a o : List Nat) (m i c : Nat) : Prop := o.length = a.length + 1 ∧ val B (o.take i) + B ^ i * c = m * val B (a.take i)
theorem TimesAt.step {a o : List Nat} {m x c' : Nat} (h : TimesAt B a o m i c) (hi : i < o.length) (h1 : x + B * c' = c + dg a i * m) : TimesAt B a (o.set i x) m (i + 1) c' := by
 obtain ⟨g1, g2⟩ := h
 refine ⟨by simpa using g1, ?_⟩
 rw [val_take_set B hi, val_take_getD, Nat.mul_add, ← g2, Nat.pow_succ, Nat.mul_assoc]
 have e1 : m * (B ^ i * dg a i) = B ^ i * (dg a i * m) := by rw [Nat.mul_left_comm, Nat.mul_comm m]
 have e2 : B ^ i * (x + B * c') = B ^ i * (c + dg a i * m) := by rw [h1]
 rw [e1]
 simp only [Nat.mul_add] at e2
 omega
theorem TimesAt.fin {a o : List Nat} {m : Nat} (h : TimesAt B a o m a.length c) : val B (o.set a.length c) = m * val B a := by
 obtain ⟨g1, g2⟩ := h
 have e : (o.set a.length c).length = a.length + 1 := by simpa using g1
 have e2 : val B (o.set a.length c) = val B ((o.set a.length c).take (a.length + 1)) := by rw [← e, List.take_length]
 rw [e2, val_take_set B (by omega), g2, List.take_length]
end
end Go.Proofs.YtendnkpiidhogaaGreat

namespace Go.Proofs.YtendnkpiidhogaaGreat
open Go.RowKit

set_option maxRecDepth 100000 in
set_option maxHeartbeats 1000000 in
theorem refTimes_any (P : Nat → Prop) (A : Option Addr) (c : Nat) (l : List Nat) (d : Nat) (w : World) (h : RN w P A c l) (hP : ∀ b, P b → b < w.heap.size) (hD : Dig l) (hl : l.length < 100000) (hd' : d < 4294967296) :
 Calls Tryz.prog 225 #[.slice A l.length c, .int .u64 (d : Int)] w fun e w' => ∃ o, e = .returned (.slice (some ⟨w.heap.size, 0, none⟩) (l.length + 1) (l.length + 1)) ∧ Blk w' w.heap.size o ∧ o.length = l.length + 1 ∧ Dig o ∧ val 4294967296 o = d * val 4294967296 l ∧ Below w.heap.size w w' := by
 obtain ⟨h1, h2, h3⟩ := h.cap
 have hmk := run_make_row' (P := Tryz.prog) 90 139 (.int .u64 0) 8 Tryz.underlying90 info64 rfl .i64 .i64 (l.length + 1) (by omega) (by omega)
 simp only [Int.natCast_add, Int.cast_ofNat_Int] at hmk
 go_enter Tryz.func225, Tryz.ntmps225
 go_wp2
 go_loopw [6, 7] (fun cv iv wr => ∃ (i cr : Nat) (o : List Nat), iv = .int .i64 (i : Int) ∧ cv = .int .u64 (cr : Int) ∧ i ≤ l.length ∧ cr < 4294967296 ∧ TimesAt 4294967296 l o d i cr ∧ Dig o ∧ Blk wr w.heap.size o ∧ Below w.heap.size w wr) (fun _ iv _ => l.length - (intOf iv).toNat)
 case atStart => exact ⟨0, 0, List.replicate (l.length + 1) 0, rfl, rfl, by omega, by omega, ⟨by simp, by simp⟩, by intro x hx; simp at hx; omega, Blk.made w _, (Below.refl _ w).alloc (Nat.le_refl _) _⟩
 case round =>
  obtain ⟨i, cr, o, rfl, rfl, hi, hcr, hT, hDo, hblk, hB⟩ := hrel
  have hol := hT.1
  by_cases hlt : i < l.length
  · obtain ⟨ad, rfl, had, q1⟩ := (h.below hB hP).at_ hlt
    have hb := mul_bound (hD.dgLt i) hd' hcr (show 0 < 4294967296 by omega)
    obtain ⟨pr, hpr⟩ : ∃ pr, dg l i * d = pr := ⟨_, rfl⟩
    have Hpr := Lib.hid (show (dg l i : Int) * (d : Int) = (pr : Int) by rw [← hpr, Int.natCast_mul])
    rw [hpr] at hb
    obtain ⟨s, cr', hs, hcr', he⟩ : ∃ s c' : Nat, s < 4294967296 ∧ c' < 4294967296 ∧ s + 4294967296 * c' = cr + pr := ⟨(cr + pr) % 4294967296, (cr + pr) / 4294967296, by omega, by omega, by omega⟩
    have e1 : ((cr : Int) + (pr : Int)) % 4294967296 = (s : Int) := by omega
    have e2 : ((cr : Int) + (pr : Int)) / 4294967296 = (cr' : Int) := by omega
    have q3 := hblk.cell (i := i) (by omega)
    have q4 := hblk.free i
    have hT' := hT.step (by omega) (by rw [hpr]; exact he)
    have hblk' := hblk.set i s
    have hD' := hDo.set i s hs
    have hB' := hB.setCell (p := ⟨w.heap.size, i, none⟩) (Nat.le_refl _) (.int .u64 (s : Int))
    have k1 : (i : Int) < (l.length : Int) + 1 := by omega
    have k3 : (pr : Int) < 18446744073709551616 := by omega
    have k4 : (cr : Int) + (pr : Int) < 18446744073709551616 := by omega
    clear he hT hblk hDo hB hb hpr hol
    have hpr := Hpr.out
    go_wp2
    go_roundw
    case rel => exact ⟨i + 1, cr', o.set i s, by go_num, (by first | rfl | exact congrArg (Value.int .u64) e2), by omega, hcr', hT', hD', hblk', hB'⟩
    case measure => simp [intOf]; omega
  · obtain rfl : i = l.length := by omega
    have q3 := hblk.cell (i := l.length) (by omega)
    have q4 := hblk.free l.length
    have hfin := hT.fin
    have hblk' := hblk.set l.length cr
    have hD' := hDo.set l.length cr hcr
    have hB' := hB.setCell (p := ⟨w.heap.size, l.length, none⟩) (Nat.le_refl _) (.int .u64 (cr : Int))
    have k1 : (l.length : Int) < (l.length : Int) + 1 := by omega
    have Hf := Lib.hid hfin
    have Hol := Lib.hid (show (o.set l.length cr).length = l.length + 1 by simpa using hol)
    clear hT hblk hDo hB hfin hol
    go_wp2
    go_ret
    exact ⟨o.set l.length cr, rfl, hblk', Hol.out, hD', Hf.out, hB'⟩

set_option maxRecDepth 100000 in
set_option maxHeartbeats 1000000 in
theorem refSmall_any (P : Nat → Prop) (A : Option Addr) (c : Nat) (l : List Nat) (d : Nat) (w : World) (h : RN w P A c l) (hP : ∀ b, P b → b < w.heap.size) (hDl : Dig l) (hl : l.length < 100000) (hd : 0 < d) (hd' : d < 4294967297) :
 Calls Tryz.prog 224 #[.slice A l.length c, .int .u64 (d : Int)] w fun e w' => ∃ A1 c1, e = .returned (.tuple #[.slice A1 (digs 4294967296 (val 4294967296 l / d)).length c1, .int .u64 ((val 4294967296 l % d : Nat) : Int)]) ∧
  OB w' w.heap.size A1 c1 (digs 4294967296 (val 4294967296 l / d)) ∧ Below w.heap.size w w' := by
 obtain ⟨h1, h2, h3⟩ := h.cap
 have hmk := run_make_row' (P := Tryz.prog) 90 139 (.int .u64 0) 8 Tryz.underlying90 info64 rfl .i64 .i64 l.length (by omega) (by omega)
 have Hs := Lib.hid (Below1.start l.length)
 have n0 : ((d : Int) == 0) = false := eqB (by omega)
 have n1 : ¬ d = 0 := by omega
 go_enter Tryz.func224, Tryz.ntmps224
 go_wp2
 go_loopw [7, 8] (fun rv iv wr => ∃ (k r : Nat) (z : Int) (o : List Nat), iv = .int .i64 z ∧ Below1 k z ∧ rv = .int .u64 (r : Int) ∧ k ≤ l.length ∧ r < d ∧ SmallAt 4294967296 l o d k r ∧ Dig o ∧ Blk wr w.heap.size o ∧ Below w.heap.size w wr) (fun _ iv _ => (intOf iv + 1).toNat)
 case atStart => exact ⟨l.length, 0, _, List.replicate l.length 0, rfl, Hs.out, rfl, by omega, by omega, SmallAt.start d (by simp), by intro x hx; simp at hx; omega, Blk.made w _, (Below.refl _ w).alloc (Nat.le_refl _) _⟩
 case round =>
  obtain ⟨k, r, z, o, rfl, hz, rfl, hk, hr, hS, hDo, hblk, hB⟩ := hrel
  rcases hz with ⟨rfl, rfl⟩ | ⟨j, rfl, rfl⟩
  · obtain ⟨hv, hrem⟩ := hS.fin hr
    have hLo : Lim o := ⟨fun x hx => by have := hDo x hx; omega, by have := hS.1; omega⟩
    have hOB : OB wr w.heap.size (some ⟨w.heap.size, 0, none⟩) l.length o := OB.of_blk hblk (Nat.le_refl _) hLo (by have := hS.1; omega) (by unfold maxLen; omega)
    have ht := refTrim_any _ _ _ _ _ hOB.rn hDo
    have hOB' := hOB.trim32 hDo
    rw [hv, hS.1] at ht
    rw [hv] at hOB'
    have Ht := Lib.hid ht
    have Hrem := Lib.hid hrem
    clear hblk hLo ht hv hrem hOB hS hDo
    go_wp2_with fail
    refine Ht.out.mono ?_
    rintro e w1 ⟨rfl, rfl⟩
    go_wp2
    go_ret2
    exact ⟨_, _, by rw [Hrem.out]; rfl, hOB', hB⟩
  · obtain ⟨ad, rfl, had, q1⟩ := (h.below hB hP).at_ (i := j) (by omega)
    have hol := hS.1
    have hlj := hDl.dgLt j
    have q3 := hblk.cell (i := j) (by omega)
    have q4 := hblk.free j
    obtain ⟨t, ht⟩ : ∃ t, r * 4294967296 + dg l j = t := ⟨_, rfl⟩
    obtain ⟨q, r', hr', he, hq⟩ : ∃ q r' : Nat, r' < d ∧ t = d * q + r' ∧ q < 4294967296 := by
     refine ⟨t / d, t % d, Nat.mod_lt _ hd, (Nat.div_add_mod _ d).symm, ?_⟩
     apply Nat.div_lt_of_lt_mul
     have : (r + 1) * 4294967296 ≤ d * 4294967296 := Nat.mul_le_mul_right _ hr
     omega
    have htb : (t : Int) < 18446744073709551616 := by omega
    have f0 : (r : Int) * 4294967296 + (dg l j : Int) = (t : Int) := by omega
    have f1 : (t : Int) / (d : Int) = (q : Int) := by
     rw [← Int.natCast_ediv, he, Nat.mul_add_div hd, Nat.div_eq_of_lt hr', Nat.add_zero]
    have f2 : (t : Int) % (d : Int) = (r' : Int) := by
     rw [← Int.natCast_emod, he, Nat.mul_add_mod, Nat.mod_eq_of_lt hr']
    have f1' : (t : Int).tdiv (d : Int) = (q : Int) := by rw [Int.tdiv_eq_ediv_of_nonneg (by omega)]; exact f1
    have f2' : (t : Int).tmod (d : Int) = (r' : Int) := by rw [Int.tmod_eq_emod_of_nonneg (by omega)]; exact f2
    have hS' := hS.step (by omega) (by rw [ht]; exact he)
    have hblk' := hblk.set j q
    have hD' := hDo.set j q hq
    have hB' := hB.setCell (p := ⟨w.heap.size, j, none⟩) (Nat.le_refl _) (.int .u64 (q : Int))
    have k1 : (j : Int) < (l.length : Int) := by omega
    have k2 : (r : Int) * 4294967296 < 18446744073709551616 := by omega
    have k3 : (q : Int) < 18446744073709551616 := by omega
    have k4 : (r' : Int) < 18446744073709551616 := by omega
    have Hs' := Lib.hid (Below1.start j)
    clear he hS hblk hDo hB hol ht
    go_wp2
    go_roundw
    case rel => exact ⟨j, r', _, o.set j q, rfl, Hs'.out, by go_num, by omega, hr', hS', hD', hblk', hB'⟩
    case measure => simp [intOf]
end Go.Proofs.YtendnkpiidhogaaGreat

namespace Go.Proofs.YtendnkpiidhogaaGreat
open Go.RowKit

theorem wp_copy_eq {P : Program} (w : World) {o : Oper} {a : Act} {K : Act → World → Prop} {Q : Exit → Act → World → Prop} (d s : Operand) (t t' : TypeId)
 (ho : o.op = .call { callee := .builtin .copy, args := #[d, s], argTypes := #[t, t'] }) (v u : Value) (hd : a.eval d = v) (hs : a.eval s = u) {v' : Value} {w' : World}
 (hr : (Builtin.copy_ #[t, t'] o.type #[v, u]).run P w = .ok v' w') (h : K (a.put o.dst v') w') : o.wp P a w K Q := by
 unfold Oper.wp execOp
 simp only [ho, resolve, invoke, builtin, Sem.run_bind, Sem.run_pure, Result.andThen_ok, List.map_toArray, List.map_cons, List.map_nil, hd, hs, hr]
 exact h
theorem wpList_copy_eq {P : Program} (w : World) {ops : Array Oper} {rest : List Oper} {o : Oper} {a : Act} {Q : Exit → Act → World → Prop} (hgd : o.guard = none) (d s : Operand) (t t' : TypeId)
 (ho : o.op = .call { callee := .builtin .copy, args := #[d, s], argTypes := #[t, t'] }) (v u : Value) (hd : a.eval d = v) (hs : a.eval s = u) {v' : Value} {w' : World}
 (hr : (Builtin.copy_ #[t, t'] o.type #[v, u]).run P w = .ok v' w') (h : wpList P ops Q rest (a.put o.dst v') w') : wpList P ops Q (o :: rest) a w :=
 wpList_plain hgd fun _ hK => wp_copy_eq w d s t t' ho v u hd hs hr (hK _ _ h)
theorem info64size : (Tryz.prog.info? 139).map (·.size) = some 1 := by kernel_rfl
theorem putAt_dig {u W : List Nat} {k : Nat} (hu : Dig u) (hW : Dig W) : Dig (putAt u W k) := by
 intro x hx
 rcases List.mem_append.1 hx with h | h
 · rcases List.mem_append.1 h with h | h
   · exact hu x (List.mem_of_mem_take h)
   · exact hW x h
 · exact hu x (List.mem_of_mem_drop h)
theorem nts_put (u W : List Nat) (k : Nat) : (((nts u).toArray.toList.take k ++ nts W ++ (nts u).toArray.toList.drop (k + (nts W).length)).toArray) = (nts (putAt u W k)).toArray := by
 simp [nts, putAt, List.map_take, List.map_drop]
theorem copy_put (w : World) (g gw k n m cw : Nat) (u W : List Nat) (ty : TypeId) (hu : Blk w g u) (hw : Blk w gw W) (hn : W.length = n) (hk : k + n ≤ u.length) (hm : u.length - k = m) :
 (Builtin.copy_ #[90, 90] ty #[.slice (some ⟨g, k, none⟩) m m, .slice (some ⟨gw, 0, none⟩) n cw]).run Tryz.prog w = .ok (goInt n) (w.setRow g (nts (putAt u W k)).toArray) := by
 have h := run_copy_row (P := Tryz.prog) w 90 90 ty 139 g k m m ⟨gw, 0, none⟩ n cw (nts u).toArray 139 (nts W) Tryz.underlying90 info64size hu
  (by rw [nts_length, hn]; exact (Nat.min_eq_left (by omega)).symm) (fun j v hj => by rw [add_blk, blk_cell hw j, List.getElem?_toArray]; exact hj) (by rw [nts_length, hn]; simp [nts]; omega) (oneCell_nts W)
 rw [nts_put, nts_length, hn] at h
 exact h
theorem Blk.put {w : World} {g : Nat} {u : List Nat} (h : Blk w g u) (v : List Nat) : Blk (w.setRow g (nts v).toArray) g v := setRow_heap w g _ _ _ _ h
theorem Only.put {w w' : World} {g : Nat} (h : Only g w w') (v : Array Value) : Only g w (w'.setRow g v) :=
  ⟨h.os, h.tape, h.output, by have : (w'.setRow g v).heap.size = w'.heap.size := by simp [World.setRow]
                              exact this.trans h.size, fun k hk => by
    have : (w'.setRow g v).heap[k]? = w'.heap[k]? := by simp [World.setRow, Array.getElem?_modify, Ne.symm hk]
    exact this.trans (h.block k hk)⟩
structure Two (g g' : Nat) (w w' : World) : Prop where
 os : w'.os = w.os
 tape : w'.tape = w.tape
 output : w'.output = w.output
 size : w'.heap.size = w.heap.size
 block : ∀ k, k ≠ g → k ≠ g' → w'.heap[k]? = w.heap[k]?
theorem Two.below {g g' B : Nat} {w w' : World} (h : Two g g' w w') (hg : B ≤ g) (hg' : B ≤ g') : Below B w w' := ⟨h.os, h.tape, h.output, Nat.le_of_eq h.size.symm, fun k hk => h.block k (by omega) (by omega)⟩
theorem Only.two {g g' : Nat} {w w' w'' : World} (h : Only g' w w') (k : Only g w' w'') : Two g g' w w'' := ⟨k.os.trans h.os, k.tape.trans h.tape, k.output.trans h.output, k.size.trans h.size, fun i hi hi' => (k.block i hi).trans (h.block i hi')⟩
theorem RN.two {g g' : Nat} {w w' : World} {P : Nat → Prop} {A : Option Addr} {c : Nat} {l : List Nat} (h : RN w P A c l) (ho : Two g g' w w') (hP : ∀ b, P b → b ≠ g ∧ b ≠ g') : RN w' P A c l := h.keep fun q hq => World.cell?_of_block (w := w) (ho.block q.block (hP _ hq).1 (hP _ hq).2)

theorem less_round (g v c b x : Nat) (hg : g < 4294967296) (hv : v < 4294967296) (hc : c < 4294967296) (hb : b ≤ 1) (hx : x < 4294967296) :
 ∃ pr lo c' off y b' : Nat, g * v = pr ∧ pr < 18446744073709551616 ∧ c + pr < 18446744073709551616 ∧ lo + 4294967296 * c' = c + pr ∧ (c + pr) % 4294967296 = lo ∧ (c + pr) / 4294967296 = c' ∧ c' < 4294967296 ∧ off = lo + b ∧ off ≤ 4294967296 ∧ y < 4294967296 ∧ b' ≤ 1 ∧ y + (lo + b) = x + 4294967296 * b' ∧ (b' = 0 ↔ ¬ x < off) := by
 have hm := mul_bound hg hv hc (show 0 < 4294967296 by omega)
 obtain ⟨pr, hpr⟩ : ∃ pr, g * v = pr := ⟨_, rfl⟩
 rw [hpr] at hm
 by_cases h : x < (c + pr) % 4294967296 + b
 · exact ⟨pr, (c + pr) % 4294967296, (c + pr) / 4294967296, (c + pr) % 4294967296 + b, x + 4294967296 - ((c + pr) % 4294967296 + b), 1, hpr, by omega, by omega, by omega, rfl, rfl, by omega, rfl, by omega, by omega, by omega, by omega, by simp [h]⟩
 · exact ⟨pr, (c + pr) % 4294967296, (c + pr) / 4294967296, (c + pr) % 4294967296 + b, x - ((c + pr) % 4294967296 + b), 0, hpr, by omega, by omega, by omega, rfl, rfl, by omega, rfl, by omega, by omega, by omega, by omega, by simp [h]⟩

set_option maxRecDepth 100000 in
set_option maxHeartbeats 2000000 in
theorem less_any (g gw k n m G : Nat) (P : Nat → Prop) (A : Option Addr) (c : Nat) (U V W : List Nat) (w : World) (hU : Blk w g U) (hW : Blk w gw W) (h : RN w P A c V) (hgg : g ≠ gw) (hP : ∀ b, P b → b ≠ gw) (hDU : Dig U) (hDV : Dig V) (hUm : U.length = m) (hVn : V.length = n) (hWn : W.length = n + 1) (hk : k + n + 1 ≤ m) (hm : m ≤ 100000) (hG : G < 4294967296) (hz : ∀ j, k + n + 1 ≤ j → dg U j = 0) :
 Calls Tryz.prog 226 #[.slice (some ⟨g, 0, none⟩) m m, .slice A n c, .slice (some ⟨gw, 0, none⟩) (n + 1) (n + 1), .int .i64 (k : Int), .int .u64 (G : Int)] w fun e w' => ∃ U' W', Blk w' g U' ∧ Dig U' ∧ U'.length = m ∧ Blk w' gw W' ∧ W'.length = n + 1 ∧ Two g gw w w' ∧
  ((e = .returned (.bool true) ∧ val 4294967296 U' + 4294967296 ^ k * (G * val 4294967296 V) = val 4294967296 U) ∨ (e = .returned (.bool false) ∧ U' = U ∧ val 4294967296 U / (4294967296 ^ k * val 4294967296 V) < G)) := by
 obtain ⟨h1, h2, h3⟩ := h.cap
 have hnc : n ≤ c := by omega
 have Hz := Lib.hid hz
 have HVn := Lib.hid hVn
 have HUm := Lib.hid hUm
 have Hgg := Lib.hid hgg
 have HG := Lib.hid hG
 have hn1 : n ≤ 100000 := by omega
 clear h1 h2 h3 hz hVn hUm hgg hG
 go_enter Tryz.func226, Tryz.ntmps226
 go_wp2
 go_loopw [12, 13, 14] (fun cv bv iv wr => ∃ (i cr b : Nat) (o : List Nat), iv = .int .i64 (i : Int) ∧ cv = .int .u64 (cr : Int) ∧ bv = .int .u64 (b : Int) ∧ i ≤ n + 1 ∧ cr < 4294967296 ∧ b ≤ 1 ∧ (n < i → cr = 0) ∧ LessAt 4294967296 U V o k G i cr b ∧ Dig (o.take i) ∧ Blk wr gw o ∧ Only gw w wr) (fun _ _ iv _ => n + 1 - (intOf iv).toNat)
 case atStart => exact ⟨0, 0, 0, W, rfl, rfl, rfl, by omega, by omega, by omega, by omega, LessAt.zero (by rw [HVn.out]; exact hWn), by intro x hx; simp at hx, hW, Only.refl _ _⟩
 case round =>
  obtain ⟨i, cr, b, o, rfl, rfl, rfl, hi, hcr, hb, hc0, hS, hDo, hbw, ho⟩ := hrel
  have hol := hS.1
  rw [HVn.out] at hol
  have hbu : Blk _ g U := (ho.block g Hgg.out).trans hU
  by_cases hle : i ≤ n
  · have hxU := hDU.dgLt (k + i)
    have q1 := hbu.cell (i := k + i) (by rw [HUm.out]; omega)
    have q3 := hbw.cell (i := i) (by omega)
    have q4 := hbw.free i
    have k0 : (k : Int) + (i : Int) < (m : Int) := by omega
    have k1 : (i : Int) < (n : Int) + 1 := by omega
    obtain ⟨pr, lo, c', off, y, b', b1, b2, b3, b4, b5, b6, b7, b8, b9, b10, b11, b12, b13⟩ := less_round G (dg V i) cr b (dg U (k + i)) HG.out (hDV.dgLt i) hcr hb hxU
    have hS' := hS.step (x := y) (c' := c') (b' := b') (lo := lo) (by omega) (by rw [b1]; exact b4) b12
    have hblk' := hbw.set i y
    have hD' : Dig ((o.set i y).take (i + 1)) := by
     rw [take_succ_dg (by simpa using (by omega : i < o.length)), getD_set_eq (by omega), List.take_set_of_le (by omega)]
     intro x hx
     rcases List.mem_append.1 hx with h | h
     · exact hDo x h
     · rw [List.mem_singleton.1 h]; exact b10
    have ho' := ho.setCell (p := ⟨gw, 0, none⟩) (f := 0) rfl i (.int .u64 (y : Int))
    rw [add_blk] at ho'
    have e3 : (lo : Int) + (b : Int) = (off : Int) := by omega
    have kx : (dg U (k + i) : Int) < 4294967296 := by omega
    have kp : (pr : Int) < 18446744073709551616 := by omega
    have kc : (cr : Int) + (pr : Int) < 18446744073709551616 := by omega
    have ko : (off : Int) ≤ 4294967296 := by omega
    have hc' : n < i + 1 → c' = 0 := by
     intro hni
     have hin : i = n := by omega
     have : dg V i = 0 := dg_none (by rw [HVn.out]; omega)
     rw [this, Nat.mul_zero] at b1
     omega
    have e1 : ((cr : Int) + (pr : Int)) % 4294967296 = (lo : Int) := by omega
    have e2 : ((cr : Int) + (pr : Int)) / 4294967296 = (c' : Int) := by omega
    have Hb7 := Lib.hid b7
    have Hhc := Lib.hid hc'
    by_cases hlt : i < n
    · obtain ⟨ad, rfl, _, q2⟩ := (h.only ho hP).at_ (i := i) (by rw [HVn.out]; exact hlt)
      have hpr : (dg V i : Int) * (G : Int) = (pr : Int) := by rw [← Int.natCast_mul, Nat.mul_comm, b1]
      rcases Nat.eq_zero_or_pos b' with h0 | h0
      · have hxo := b13.1 h0
        have e4 : (dg U (k + i) : Int) - (off : Int) = (y : Int) := by omega
        subst h0
        clear b1 b2 b3 b4 b5 b6 b7 b8 b9 b10 b12 b13 hS hDo hbw ho hol hbu hxU hcr hc' hc0
        go_wp2
        go_roundw
        case rel => exact ⟨i + 1, c', 0, o.set i y, by go_num, by go_num, rfl, by omega, Hb7.out, by omega, Hhc.out, hS', hD', hblk', ho'⟩
        case measure => simp [intOf]; omega
      · have h01 : b' = 1 := by omega
        have hxo : dg U (k + i) < off := by
         rcases Nat.lt_or_ge (dg U (k + i)) off with h | h
         · exact h
         · have := b13.2 (by omega); omega
        have e4 : (dg U (k + i) : Int) + 4294967296 - (off : Int) = (y : Int) := by omega
        subst h01
        clear b1 b2 b3 b4 b5 b6 b7 b8 b9 b10 b12 b13 hS hDo hbw ho hol hbu hxU hcr hc' hc0
        go_wp2
        go_roundw
        case rel => exact ⟨i + 1, c', 1, o.set i y, by go_num, by go_num, rfl, by omega, Hb7.out, by omega, Hhc.out, hS', hD', hblk', ho'⟩
        case measure => simp [intOf]; omega
    · have hin : i = n := by omega
      have hv0 : dg V i = 0 := dg_none (by rw [HVn.out]; omega)
      rw [hv0, Nat.mul_zero] at b1
      have e1' : (cr : Int) % 4294967296 = (lo : Int) := by omega
      have e2' : (cr : Int) / 4294967296 = (c' : Int) := by omega
      subst hin
      rcases Nat.eq_zero_or_pos b' with h0 | h0
      · have hxo := b13.1 h0
        have e4 : (dg U (k + i) : Int) - (off : Int) = (y : Int) := by omega
        subst h0
        clear b1 b2 b3 b4 b5 b6 b7 b8 b9 b10 b12 b13 hS hDo hbw ho hol hbu hxU hcr hc' hc0 hv0 e1 e2
        go_wp2
        go_roundw
        case rel => exact ⟨i + 1, c', 0, o.set i y, by go_num, by go_num, rfl, by omega, Hb7.out, by omega, Hhc.out, hS', hD', hblk', ho'⟩
        case measure => simp [intOf]
      · have h01 : b' = 1 := by omega
        have hxo : dg U (k + i) < off := by
         rcases Nat.lt_or_ge (dg U (k + i)) off with h | h
         · exact h
         · have := b13.2 (by omega); omega
        have e4 : (dg U (k + i) : Int) + 4294967296 - (off : Int) = (y : Int) := by omega
        subst h01
        clear b1 b2 b3 b4 b5 b6 b7 b8 b9 b10 b12 b13 hS hDo hbw ho hol hbu hxU hcr hc' hc0 hv0 e1 e2
        go_wp2
        go_roundw
        case rel => exact ⟨i + 1, c', 1, o.set i y, by go_num, by go_num, rfl, by omega, Hb7.out, by omega, Hhc.out, hS', hD', hblk', ho'⟩
        case measure => simp [intOf]
  · have hin : i = n + 1 := by omega
    have hcz := hc0 (by omega)
    subst hin hcz
    have hDo' : Dig o := by rwa [List.take_of_length_le (by omega)] at hDo
    rw [← hol] at hS
    have hkl : k + o.length ≤ U.length := by rw [HUm.out]; omega
    have hle' : ¬ (n : Int) + 1 ≤ (n : Int) := by omega
    rcases Nat.eq_zero_or_pos b with h0 | h0
    · subst h0
      have hy := Lib.hid (hS.yes hkl)
      have hcp := copy_put _ g gw k (n + 1) (m - k) (n + 1) U o 3 hbu hbw hol (by rw [HUm.out]; omega) (by rw [HUm.out])
      have Hol := Lib.hid hol
      have Hkl := Lib.hid hkl
      clear hol hkl hS hDo
      have hbu2 := hbu.put (putAt U o k)
      have hbw2 : Blk (World.setRow _ g (nts (putAt U o k)).toArray) gw o := ((Only.refl g _).put _ |>.block gw (Ne.symm Hgg.out)).trans hbw
      have htwo := ho.two ((Only.refl g _).put (nts (putAt U o k)).toArray)
      go_wp2
      go_ret
      exact ⟨putAt U o k, hbu2, putAt_dig hDU hDo', (putAt_length Hkl.out).trans HUm.out, o, hbw2, Hol.out, htwo, .inl ⟨rfl, hy.out⟩⟩
    · have hb1 : b = 1 := by omega
      subst hb1
      have hno := Lib.hid (hS.no hDo' hDU (fun j hj => Hz.out j (by omega)) hkl)
      have Hol := Lib.hid hol
      clear hS hDo hol hkl
      go_wp2
      go_ret
      exact ⟨U, hbu, hDU, HUm.out, o, hbw, Hol.out, (Only.refl g _ |> fun r => ho.two r), .inr ⟨rfl, rfl, hno.out⟩⟩
end Go.Proofs.YtendnkpiidhogaaGreat

namespace Go.Proofs.YtendnkpiidhogaaGreat
open Go.RowKit

structure Just (g : Nat) (w w' : World) : Prop where
 os : w'.os = w.os
 tape : w'.tape = w.tape
 output : w'.output = w.output
 size : w.heap.size ≤ w'.heap.size
 block : ∀ b, b < w.heap.size → b ≠ g → w'.heap[b]? = w.heap[b]?
theorem Just.refl (g : Nat) (w : World) : Just g w w := ⟨rfl, rfl, rfl, Nat.le_refl _, fun _ _ _ => rfl⟩
theorem Just.trans {g : Nat} {a b c : World} (h : Just g a b) (k : Just g b c) : Just g a c :=
 ⟨k.os.trans h.os, k.tape.trans h.tape, k.output.trans h.output, Nat.le_trans h.size k.size, fun i hi hn => (k.block i (Nat.lt_of_lt_of_le hi h.size) hn).trans (h.block i hi hn)⟩
theorem Just.set {g : Nat} {a b : World} (h : Just g a b) (i : Nat) (v : Value) : Just g a (b.setCell ⟨g, i, none⟩ v) :=
 ⟨h.os, h.tape, h.output, by simpa [World.setCell] using h.size, fun j hj hn => (Below.heap_setCell _ _ _ _ (by exact hn)).trans (h.block j hj hn)⟩
theorem Just.drewN {g : Nat} {a b : World} (h : Just g a b) (n : Nat) : Just g a (b.drewN n) := ⟨h.os, h.tape, h.output, h.size, h.block⟩
theorem Just.cell {g : Nat} {w w' : World} (h : Just g w w') {p : Addr} (hp : p.block < w.heap.size) (hn : p.block ≠ g) : w'.cell? p = w.cell? p := World.cell?_of_block (h.block _ hp hn)
theorem Just.below {g B : Nat} {w w' : World} (h : Just g w w') (hB : B ≤ g) (hw : B ≤ w.heap.size) : Below B w w' := ⟨h.os, h.tape, h.output, h.size, fun b hb => h.block b (Nat.lt_of_lt_of_le hb hw) (by omega)⟩
theorem RN.just {w w' : World} {g : Nat} {P : Nat → Prop} {A : Option Addr} {c : Nat} {l : List Nat} (h : RN w P A c l) (hj : Just g w w') (hP : ∀ b, P b → b < w.heap.size ∧ b ≠ g) : RN w' P A c l :=
 h.keep fun _ hp => hj.cell (hP _ hp).1 (hP _ hp).2

structure MontAt (B M : Nat) (a b t : List Nat) (i n : Nat) : Prop where
 len : t.length = n + 2
 top : dg t (n + 1) = 0
 bound : val B t < M + val B b
 cong : ∃ k, val B t * B ^ i = val B (a.take i) * val B b + k * M
theorem MontAt.zero {B M : Nat} (a b : List Nat) (n : Nat) (hM : 0 < M) : MontAt B M a b (List.replicate (n + 2) 0) 0 n :=
 ⟨by simp, by rw [dg, List.getD_eq_getElem?_getD, List.getElem?_replicate]; split <;> rfl, by rw [val_replicate]; omega, 0, by simp [val_replicate]⟩
theorem dg_zero_mod {B : Nat} {t : List Nat} (ht : ∀ x ∈ t, x < B) (_hB : 0 < B) : val B t % B = dg t 0 := by
 cases t with
 | nil => simp [dg]
 | cons x l => rw [val_cons, Nat.add_mul_mod_self_left, Nat.mod_eq_of_lt (ht x (by simp))]; rfl
/-! What a round does to the numbers. -/
theorem mont_low {B M inv d q v : Nat} (hi : (inv * M + 1) % B = 0) (hv : v % B = d) (hq : q = d * inv % B) : (v + q * M) % B = 0 := by
 have h1 : (v + q * M) % B = (d * (inv * M + 1)) % B := by
  subst hq hv
  rw [Nat.mul_add, Nat.mul_one, Nat.add_mod, Nat.mod_mul_mod, ← Nat.mul_assoc, Nat.add_comm (v % B * inv * M), Nat.add_mod_mod]
 rw [h1, Nat.mul_mod, hi]
 simp
theorem mont_eq {M t0 ai b q t2 Bi A A' k : Nat} (h2 : t2 = t0 + ai * b + q * M) (hk : t0 * Bi = A * b + k * M) (hA : A' = A + Bi * ai) : t2 * Bi = A' * b + (k + q * Bi) * M := by
 subst h2 hA
 rw [Nat.add_mul, Nat.add_mul, hk, Nat.add_mul, Nat.add_mul]
 have e1 : ai * b * Bi = Bi * ai * b := by rw [Nat.mul_comm Bi ai, Nat.mul_assoc, Nat.mul_assoc, Nat.mul_comm b Bi]
 have e2 : q * M * Bi = q * Bi * M := by rw [Nat.mul_assoc, Nat.mul_assoc, Nat.mul_comm M Bi]
 omega
theorem mont_bound {B M t0 ai b q t2 t4 : Nat} (hB : 0 < B) (h2 : t2 = t0 + ai * b + q * M) (hb : t0 < M + b) (ha : ai < B) (hq : q < B) (h4 : t2 = B * t4) : t4 < M + b := by
 have e1 : ai * b ≤ (B - 1) * b := Nat.mul_le_mul_right _ (by omega)
 have e2 : q * M ≤ (B - 1) * M := Nat.mul_le_mul_right _ (by omega)
 have e3 : (B - 1) * b + b = B * b := by rw [← Nat.succ_mul, Nat.succ_eq_add_one, Nat.sub_add_cancel hB]
 have e4 : (B - 1) * M + M = B * M := by rw [← Nat.succ_mul, Nat.succ_eq_add_one, Nat.sub_add_cancel hB]
 have e5 : B * t4 < B * (M + b) := by rw [Nat.mul_add, ← h4]; omega
 exact Nat.lt_of_mul_lt_mul_left e5
theorem MontAt.step {B M inv n i q : Nat} {a b t t2 : List Nat} (hB : 2 ≤ B) (h : MontAt B M a b t i n) (ha : dg a i < B) (hi : (inv * M + 1) % B = 0) (hl2 : t2.length = n + 2) (hlim : ∀ x ∈ t2, x < B)
 (hq : q = (val B t + dg a i * val B b) % B * inv % B) (hv2 : val B t2 = val B t + dg a i * val B b + q * M) : MontAt B M a b (t2.drop 1 ++ [0]) (i + 1) n := by
 have h0 : val B t2 % B = 0 := by rw [hv2]; exact mont_low hi rfl hq
 have hq' : q < B := by rw [hq]; exact Nat.mod_lt _ (by omega)
 obtain ⟨x, l, rfl⟩ : ∃ x l, t2 = x :: l := by
  cases t2 with
  | nil => simp at hl2
  | cons x l => exact ⟨x, l, rfl⟩
 rw [dg_zero_mod hlim (by omega)] at h0
 have hx : x = 0 := h0
 subst hx
 have hlen : l.length = n + 1 := by simpa using hl2
 have e4 : val B (0 :: l) = B * val B l := by rw [val_cons]; omega
 have e5 : val B ((0 :: l).drop 1 ++ [0]) = val B l := by simp [val_append]
 obtain ⟨k, hk⟩ := h.cong
 refine ⟨by simp [hlen], ?_, ?_, k + q * B ^ i, ?_⟩
 · simp [dg, List.getD_eq_getElem?_getD, hlen]
 · rw [e5]
   exact mont_bound (by omega) hv2 h.bound ha hq' e4
 · rw [e5, Nat.pow_succ, show val B l * (B ^ i * B) = (B * val B l) * B ^ i by rw [Nat.mul_comm (B ^ i), ← Nat.mul_assoc, Nat.mul_comm (val B l)], ← e4]
   exact mont_eq hv2 hk (val_take_getD B a i)
theorem newton {m y y' t z : Int} {k j : Nat} (hy : m * y = 1 + 2 ^ k * t) (h' : y' = y * (2 - m * y) + 18446744073709551616 * z) (hj : k + k + j = 64) : ∃ s, m * y' = 1 + 2 ^ (k + k) * s := by
 refine ⟨-(t * t) + m * 2 ^ j * z, ?_⟩
 have e1 : m * y' = m * y * (2 - m * y) + m * 18446744073709551616 * z := by rw [h', Int.mul_add, ← Int.mul_assoc, ← Int.mul_assoc]
 have e2 : (18446744073709551616 : Int) = 2 ^ (k + k) * 2 ^ j := by rw [← Int.pow_add, hj]; rfl
 rw [e1, hy, e2, Int.pow_add]
 generalize (2 : Int) ^ k = p
 generalize (2 : Int) ^ j = r
 grind
theorem newton_wrap {m y : Int} : ∃ z, (y * ((2 - m * y % 18446744073709551616) % 18446744073709551616)) % 18446744073709551616 = y * (2 - m * y) + 18446744073709551616 * z := by
 have e1 := Int.mul_ediv_add_emod (m * y) 18446744073709551616
 have e2 := Int.mul_ediv_add_emod (2 - m * y % 18446744073709551616) 18446744073709551616
 have e3 := Int.mul_ediv_add_emod (y * ((2 - m * y % 18446744073709551616) % 18446744073709551616)) 18446744073709551616
 generalize (2 - m * y % 18446744073709551616) / 18446744073709551616 = d2 at *
 generalize (y * ((2 - m * y % 18446744073709551616) % 18446744073709551616)) / 18446744073709551616 = d3 at *
 generalize (y * ((2 - m * y % 18446744073709551616) % 18446744073709551616)) % 18446744073709551616 = r3 at *
 generalize (2 - m * y % 18446744073709551616) % 18446744073709551616 = r2 at *
 generalize (m * y) / 18446744073709551616 = d1 at *
 generalize (m * y) % 18446744073709551616 = r1 at *
 refine ⟨y * d1 - y * d2 - d3, ?_⟩
 grind
def nl (M : Nat) : Nat := (digs 18446744073709551616 M).length
def RM (M : Nat) : Nat := 18446744073709551616 ^ nl M
theorem blk_set {w : World} {g : Nat} {t : TypeId} {cs : Array Value} (h : w.heap[g]? = some (.cells cs t (0, 0))) (i : Nat) (u : Value) : (w.setCell ⟨g, i, none⟩ u).heap[g]? = some (.cells (cs.setIfInBounds i u) t (0, 0)) := by
 simp [World.setCell, Array.getElem?_modify, h]
end Go.Proofs.YtendnkpiidhogaaGreat

namespace Go.Proofs.YtendnkpiidhogaaGreat
open Go.RowKit

theorem Ext.drewN (w : World) (n : Nat) : Ext w (w.drewN n) := below_drewN (Below.refl _ w) n
theorem wp_storeV {op : Oper} {a : Act} {X : World} {K : Act → World → Prop} {Q : Exit → Act → World → Prop} (ty : TypeId) (x y : Operand) (ho : op.op = .store ty x y) (hd : op.dst = none) {b : Nat} {cs cs' : Array Value} {t : TypeId}
 (hx : a.eval x = .pointer (some ⟨b, 0, none⟩)) (hy : a.eval y = .agg cs') (hg : X.heap[b]? = some (.cells cs t (0, 0))) (hi : (Tryz.prog.info? ty).map (·.size) = some cs'.size) (hold : cs.size = cs'.size) (h1 : cs'.all (·.oneCell') = true)
 (hK : ∀ Y, Y.heap[b]? = some (.cells cs' t (0, 0)) → Just b X Y → Y.heap.size = X.heap.size → K a Y) : op.wp Tryz.prog a X K Q := by
 refine wp_store_row ty x y ho b cs' hx hy t cs hg hi hold h1 ?_
 rw [hd]
 exact hK _ (Go.setRow_heap X b cs cs' t _ hg) ⟨rfl, rfl, rfl, by simp [World.setRow], fun k _ hk => Go.setRow_other X b k cs' hk⟩ (by simp [World.setRow])
theorem wp_loadV {op : Oper} {a : Act} {X : World} {K : Act → World → Prop} {Q : Exit → Act → World → Prop} (ty : TypeId) (x : Operand) (ho : op.op = .load ty x) {b : Nat} {cs : Array Value} {t : TypeId} {d : TypeDesc} (hx : a.eval x = .pointer (some ⟨b, 0, none⟩)) (hg : X.heap[b]? = some (.cells cs t (0, 0)))
 (hu : Tryz.prog.underlying ty = some d) (hd : d.isRow = true) (hi : (Tryz.prog.info? ty).map (·.size) = some cs.size) {v : Value} (hv : v = .agg cs) (hK : K (a.put op.dst v) X) : op.wp Tryz.prog a X K Q :=
 wp_load_row ty x ho b hx t cs (0, 0) d hg hu (by cases d <;> first | rfl | exact hd) hi (by rw [← hv]; exact hK)
theorem Just.ext {b : Nat} {w X Y : World} (h : Just b X Y) (hE : Ext w X) (hb : w.heap.size ≤ b) : Ext w Y := Below.trans hE (h.below hb hE.bsize)
theorem Just.at_ {b c : Nat} {X Y : World} {o : Obj} (h : Just b X Y) (hc : c ≠ b) (hx : X.heap[c]? = some o) : Y.heap[c]? = some o := (h.block c (blk_lt hx) hc).trans hx
section
variable {Q : Exit → Act → World → Prop} {ol : List Oper} {m : Nat} {L AL : List Nat} {R : Nat → (Nat → Value) → World → Prop} {a : Act} {w : World} {F : List Oper → Prop} {k n : Nat} {o : Oper} {l : List Oper} {u : Value}
end
end Go.Proofs.YtendnkpiidhogaaGreat

namespace Go.Proofs.YtendnkpiidhogaaGreat

def nbits (x : Nat) : Nat := if x = 0 then 0 else x.log2 + 1
theorem nbits_eq {x k : Nat} (h1 : 2 ^ k ≤ x) (h2 : x < 2 ^ (k + 1)) : nbits x = k + 1 := by
 have hx : x ≠ 0 := by have := Nat.pow_pos (n := k) (show 0 < 2 by omega); omega
 have h3 : k ≤ x.log2 := (Nat.le_log2 hx).2 h1
 have h4 : x.log2 < k + 1 := (Nat.log2_lt hx).2 h2
 simp [nbits, hx]
 omega
theorem nbits_bounds {x : Nat} (hx : x ≠ 0) : 2 ^ (nbits x - 1) ≤ x ∧ x < 2 ^ nbits x ∧ 1 ≤ nbits x := by
 simp only [nbits, hx, if_false, Nat.add_sub_cancel]
 exact ⟨Nat.log2_self_le hx, Nat.lt_log2_self, by omega⟩
theorem nbits_le {x k : Nat} (h : x < 2 ^ k) : nbits x ≤ k := by
 rcases Nat.eq_zero_or_pos x with rfl | h0
 · simp [nbits]
 · obtain ⟨h1, h2, h3⟩ := nbits_bounds (Nat.pos_iff_ne_zero.1 h0)
   rcases Nat.lt_or_ge k (nbits x) with h4 | h4
   · have : 2 ^ k ≤ 2 ^ (nbits x - 1) := Nat.pow_le_pow_right (by omega) (by omega)
     omega
   · exact h4
theorem lt_of_nbits {x k : Nat} (h : nbits x ≤ k) : x < 2 ^ k := by
 rcases Nat.eq_zero_or_pos x with rfl | h0
 · exact Nat.pow_pos (by omega)
 · obtain ⟨_, h2, _⟩ := nbits_bounds (Nat.pos_iff_ne_zero.1 h0)
   exact Nat.lt_of_lt_of_le h2 (Nat.pow_le_pow_right (by omega) h)
theorem nbits_top {m : Nat} (hm : 0 < m) {x : Nat} (hx : 0 < x) {k : Nat} (hk : 0 < k) (h1 : 2 ^ (k - 1) ≤ dg (digs (2 ^ m) x) ((digs (2 ^ m) x).length - 1)) (h2 : dg (digs (2 ^ m) x) ((digs (2 ^ m) x).length - 1) < 2 ^ k) :
 nbits x = m * ((digs (2 ^ m) x).length - 1) + k := by
 have hB : 2 ≤ 2 ^ m := by
  have : 2 ^ 1 ≤ 2 ^ m := Nat.pow_le_pow_right (by omega) hm
  simpa using this
 have hv := val_digs hB x
 have hlt := digs_lt hB x
 have hne : 0 < (digs (2 ^ m) x).length := by rw [digs_pos hB hx]; simp
 generalize digs (2 ^ m) x = l at *
 have h3 := val_take_getD (2 ^ m) l (l.length - 1)
 rw [show l.length - 1 + 1 = l.length by omega, List.take_length, hv] at h3
 have h4 := val_lt (B := 2 ^ m) (l := l.take (l.length - 1)) fun y hy => hlt y (List.mem_of_mem_take hy)
 rw [List.length_take, Nat.min_eq_left (by omega)] at h4
 have h5 : (2 ^ m) ^ (l.length - 1) = 2 ^ (m * (l.length - 1)) := by rw [Nat.pow_mul]
 rw [h5] at h3 h4
 generalize m * (l.length - 1) = e at *
 generalize dg l (l.length - 1) = t at *
 obtain ⟨j, rfl⟩ : ∃ j, k = j + 1 := ⟨k - 1, by omega⟩
 rw [Nat.add_sub_cancel] at h1
 have h6 : 2 ^ e * 2 ^ j ≤ 2 ^ e * t := Nat.mul_le_mul_left _ h1
 have h7 : 2 ^ e * (t + 1) ≤ 2 ^ e * 2 ^ (j + 1) := Nat.mul_le_mul_left _ h2
 rw [← Nat.pow_add] at h6 h7
 rw [Nat.mul_add] at h7
 exact nbits_eq (k := e + j) (by omega) (by rw [show e + j + 1 = e + (j + 1) by omega]; omega)
theorem val_shift {m : Nat} (l : List Nat) (hl : ∀ x ∈ l, x < 2 ^ m) (k j : Nat) (hj : j ≤ m) : ∃ r, val (2 ^ m) l / 2 ^ (m * k + j) = dg l k / 2 ^ j + 2 ^ (m - j) * r := by
 refine ⟨val (2 ^ m) (l.drop (k + 1)), ?_⟩
 have h1 : val (2 ^ m) l = val (2 ^ m) (l.take k) + (2 ^ m) ^ k * (dg l k + 2 ^ m * val (2 ^ m) (l.drop (k + 1))) := by
  rcases Nat.lt_or_ge k l.length with h | h
  · have := val_take_drop (2 ^ m) l (Nat.le_of_lt h)
    rw [this, List.drop_eq_getElem_cons h, val_cons, dg, getD_eq' h]
  · rw [List.take_of_length_le h, List.drop_eq_nil_of_le (by omega), dg, List.getD_eq_getElem?_getD, List.getElem?_eq_none h]
    simp
 have h2 : val (2 ^ m) (l.take k) < (2 ^ m) ^ k := by
  have h3 := val_lt (B := 2 ^ m) (l := l.take k) fun y hy => hl y (List.mem_of_mem_take hy)
  refine Nat.lt_of_lt_of_le h3 (Nat.pow_le_pow_right (Nat.pow_pos (by omega)) ?_)
  rw [List.length_take]; omega
 rw [Nat.pow_add, Nat.pow_mul, ← Nat.div_div_eq_div_mul, h1, Nat.add_mul_div_left _ _ (Nat.pow_pos (Nat.pow_pos (by omega))), Nat.div_eq_of_lt h2, Nat.zero_add]
 have e : 2 ^ m = 2 ^ j * 2 ^ (m - j) := by rw [← Nat.pow_add, show j + (m - j) = m by omega]
 generalize hv : val (2 ^ m) (l.drop (k + 1)) = v
 rw [e, Nat.mul_assoc, Nat.add_mul_div_left _ _ (Nat.pow_pos (by omega))]
theorem val_bit {m : Nat} (l : List Nat) (hl : ∀ x ∈ l, x < 2 ^ m) (k j : Nat) (hj : j < m) : val (2 ^ m) l / 2 ^ (m * k + j) % 2 = dg l k / 2 ^ j % 2 := by
 obtain ⟨r, hr⟩ := val_shift l hl k j (by omega)
 rw [hr, show m - j = (m - j - 1) + 1 by omega, Nat.pow_succ, Nat.mul_right_comm, Nat.add_mul_mod_self_right]
def bytesOf (x n : Nat) : List Nat := (List.range n).map fun i => x / 2 ^ (8 * (n - 1 - i)) % 256
theorem bytesOf_length (x n : Nat) : (bytesOf x n).length = n := by simp [bytesOf]
end Go.Proofs.YtendnkpiidhogaaGreat

namespace Go.Proofs.YtendnkpiidhogaaGreat
open Go.RowKit

theorem dg_last_pos {x : Nat} (hx : 0 < x) : 0 < dg (digs 18446744073709551616 x) ((digs 18446744073709551616 x).length - 1) := by
 have hne : digs 18446744073709551616 x ≠ [] := by rw [digs_pos (by omega) hx]; simp
 have h := digs_last (B := 18446744073709551616) (by omega) x hne
 have hpos := List.length_pos_iff.2 hne
 rw [List.getLast_eq_getElem] at h
 rw [dg, getD_eq' (by omega)]
 omega
theorem nbits_limbs {x : Nat} (hx : 0 < x) : nbits x = 64 * ((digs 18446744073709551616 x).length - 1) + Lib.bitLen (dg (digs 18446744073709551616 x) ((digs 18446744073709551616 x).length - 1)) := by
 have h0 := dg_last_pos hx
 have h1 := getD_lt (B := 18446744073709551616) (by omega) (digs_lt (by omega) x) ((digs 18446744073709551616 x).length - 1)
 have h2 := Lib.bitLenAux_bounds 64 _ h1 (by omega)
 have h3 := nbits_top (m := 64) (by omega) hx (k := Lib.bitLen (dg (digs 18446744073709551616 x) ((digs 18446744073709551616 x).length - 1))) h2.1 h2.2.1 h2.2.2
 exact h3

set_option maxRecDepth 100000 in
set_option maxHeartbeats 1000000 in
theorem bits_any (P : Nat → Prop) (A : Option Addr) (c : Nat) (a : List Nat) (w : World) (h : RN w P A c a) :
 Calls Tryz.prog 93 #[.slice A a.length c] w fun e w' => e = .returned (.int .i64 (nbits (val 18446744073709551616 a) : Int)) ∧ w = w' := by
 have ta := trim_any P A c a w h
 replace h := h.trim
 generalize val 18446744073709551616 a = x at *
 rcases Nat.eq_zero_or_pos x with rfl | hx
 · rw [digs_zero] at ta
   have Ta := Lib.hid ta
   clear ta
   go_enter Tryz.func93, Tryz.ntmps93
   go_wp2_with fail
   refine Ta.out.mono ?_
   rintro e w1 ⟨rfl, rfl⟩
   go_wp2
   go_ret
   exact ⟨rfl, rfl⟩
 · have hb := nbits_limbs hx
   have hlt := h.2.dgLt
   obtain ⟨h1, h2, h3⟩ := h.cap
   have hne : 0 < (digs 18446744073709551616 x).length := by rw [digs_pos (by omega) hx]; simp
   generalize digs 18446744073709551616 x = l at *
   obtain ⟨n, hn⟩ : ∃ n, l.length = n + 1 := ⟨l.length - 1, by omega⟩
   obtain ⟨ad, rfl, _, q1⟩ := h.at_ (i := n) (by omega)
   rw [hn, Nat.add_sub_cancel] at hb
   have hl := hlt n
   have hbl : Lib.bitLen (dg l n) ≤ 64 := Lib.bitLen_le _ 64 (by omega) hl
   have hlen := Tryz.bits_Len64 (dg l n : Int) w (by omega) (by omega)
   rw [Int.toNat_natCast] at hlen
   generalize Lib.bitLen (dg l n) = k at *
   have Hlen := Lib.hid hlen
   have Hb := Lib.hid hb
   rw [hn] at ta h1 h3
   have Ta := Lib.hid ta
   clear ta hb hlen hl hlt hne hx hn h
   go_enter Tryz.func93, Tryz.ntmps93
   go_wp2_with fail
   refine Ta.out.mono ?_
   rintro e w1 ⟨rfl, rfl⟩
   go_wp2_with fail
   refine Hlen.out.mono ?_
   rintro e w1 ⟨rfl, rfl⟩
   go_wp2
   go_ret
   exact ⟨ret_int (by rw [Hb.out]; simp), rfl⟩

def bitOf (x : Nat) (i : Int) : Nat := if i < 0 then 0 else x / 2 ^ i.toNat % 2
end Go.Proofs.YtendnkpiidhogaaGreat

namespace Go.Proofs.YtendnkpiidhogaaGreat
open Go.RowKit

theorem info8 : (Tryz.prog.info? 5).map (fun i => (i.zero, i.size, i.bytes)) = some (some (.int .u8 0), 1, 1) := by kernel_rfl
def Blk8 (w : World) (g : Nat) (l : List Nat) : Prop := w.heap[g]? = some (.cells (bys l).toArray 5 (0, 0))
section
variable {w w' : World} {g : Nat} {l : List Nat}
theorem bys_get {l : List Nat} {i : Nat} (h : i < l.length) : (bys l)[i]? = some (.int .u8 (dg l i : Int)) := by
 rw [dg, getD_eq' h]; simp [bys, List.getElem?_eq_getElem h]
theorem Blk8.cell (h : Blk8 w g l) {i : Nat} (hi : i < l.length) : w.cell? ⟨g, i, none⟩ = some (.int .u8 (dg l i : Int)) := by
 rw [blk_cell h i, List.getElem?_toArray, bys_get hi]
theorem Blk8.free (h : Blk8 w g l) (i : Nat) : w.frozen? ⟨g, i, none⟩ = false := blk_free h i
theorem Blk8.set (h : Blk8 w g l) (i : Nat) (x : Nat) : Blk8 (w.setCell ⟨g, i, none⟩ (.int .u8 (x : Int))) g (l.set i x) := by
 unfold Blk8 at *
 simp [World.setCell, Array.getElem?_modify, h, bys]
theorem Blk8.made (w : World) (n : Nat) : Blk8 (w.alloc (.cells (madeCells #[.int .u8 0] n) 5)) w.heap.size (List.replicate n 0) := by
 unfold Blk8
 rw [heap_alloc_new]
 congr 1
 congr 1
 apply Array.ext_getElem?
 intro i
 by_cases hi : i < n
 · have hs : i < (madeCells #[Value.int .u8 0] n).size := by rw [size_madeCells]; simpa using hi
   rw [Array.getElem?_eq_getElem hs]
   simp [madeCells, bys, hi, Nat.mod_one]
 · rw [Array.getElem?_eq_none (by rw [size_madeCells]; omega), Array.getElem?_eq_none (by simp [bys]; omega)]
theorem Blk8.rb {P : Nat → Prop} (h : Blk8 w g l) (hP : P g) (hl : ∀ b ∈ l, b < 256) (hn : l.length ≤ 1000000) : RB w P (some ⟨g, 0, none⟩) l.length l := by
 refine ⟨⟨Nat.le_refl _, by unfold maxLen; omega, by simp [bys], fun _ => ⟨_, rfl, hP, fun j u hu => ?_⟩⟩, hl, by omega⟩
 rw [add_blk, blk_cell h j, List.getElem?_toArray]
 exact hu
end
def BytesAt (x n : Nat) (o : List Nat) (k : Nat) : Prop := o.length = n ∧ (∀ j, j < k → dg o j = x / 2 ^ (8 * (n - 1 - j)) % 256) ∧ (∀ j, k ≤ j → dg o j = 0) ∧ ∀ b ∈ o, b < 256
theorem BytesAt.zero (x n : Nat) : BytesAt x n (List.replicate n 0) 0 := by
 refine ⟨by simp, fun j hj => by omega, fun j _ => ?_, fun b hb => by simp at hb; omega⟩
 rw [dg, List.getD_eq_getElem?_getD, List.getElem?_replicate]
 split <;> rfl
theorem BytesAt.step {x n : Nat} {o : List Nat} {k b : Nat} (h : BytesAt x n o k) (hk : k < n) (hb : x / 2 ^ (8 * (n - 1 - k)) % 256 = b) : BytesAt x n (o.set k b) (k + 1) := by
 obtain ⟨h1, h2, h3, h4⟩ := h
 refine ⟨by simpa using h1, fun j hj => ?_, fun j hj => by rw [getD_set_ne (by omega)]; exact h3 j (by omega), set_lt h4 (by omega)⟩
 rcases Nat.lt_or_ge j k with h | h
 · rw [getD_set_ne (by omega)]; exact h2 j h
 · obtain rfl : j = k := by omega
   rw [getD_set_eq (by omega)]; exact hb.symm
theorem BytesAt.skip {x n : Nat} {o : List Nat} {k : Nat} (h : BytesAt x n o k) (hb : x / 2 ^ (8 * (n - 1 - k)) % 256 = 0) : BytesAt x n o (k + 1) := by
 obtain ⟨h1, h2, h3, h4⟩ := h
 refine ⟨h1, fun j hj => ?_, fun j hj => h3 j (by omega), h4⟩
 rcases Nat.lt_or_ge j k with h | h
 · exact h2 j h
 · obtain rfl : j = k := by omega
   rw [hb]; exact h3 j h
theorem BytesAt.fin {x n : Nat} {o : List Nat} (h : BytesAt x n o n) : o = bytesOf x n := by
 obtain ⟨h1, h2, _⟩ := h
 apply List.ext_getElem (by rw [h1, bytesOf_length])
 intro i h3 h4
 have := h2 i (by omega)
 rw [dg, getD_eq' h3] at this
 rw [this]
 simp [bytesOf]
end Go.Proofs.YtendnkpiidhogaaGreat

namespace Go.Proofs.YtendnkpiidhogaaGreat
open Go.RowKit

def OW (w : World) (base : Nat) (A : Option Addr) (c : Nat) (bs : List Nat) : Prop := w.ownsRow base 5 1 (.slice A bs.length c) bs.length (bys bs) ∧ ∀ b ∈ bs, b < 256
theorem own_base {w : World} {base n size : Nat} {e : TypeId} {v : Value} {cs : List Value} (h : w.ownsRow base e size v n cs) (k : Nat) (hk : v.ownBlock = some k) : base ≤ k := by
 rcases h.2 with ⟨rfl, rfl⟩ | ⟨g, cap, cur, rfl, hg, _⟩
 · cases hk
 · simp [Value.ownBlock] at hk
   omega
theorem OW.rb {w : World} {base : Nat} {A : Option Addr} {c : Nat} {bs : List Nat} (h : OW w base A c bs) (hl : bs.length ≤ 100000000) : RB w (In base w.heap.size) A c bs := ⟨RS.of_own h.1, h.2, by omega⟩
theorem OW.lit (w : World) (b : Nat) (hb : b < 256) : OW (w.alloc (.cells #[.int .u8 (b : Int)] 5)) w.heap.size (some ⟨w.heap.size, 0, none⟩) 1 [b] :=
 ⟨World.ownsRow_lit w #[.int .u8 (b : Int)] 1 (Nat.le_refl _) (by unfold maxLen; omega) rfl, by simp; exact hb⟩
theorem OW.ext {w X : World} {base : Nat} {A : Option Addr} {c : Nat} {bs : List Nat} (h : OW w base A c bs) (hE : w.grownBy X none) : OW X base A c bs := ⟨own_kept h.1 hE, h.2⟩
section
variable {w : World} {ops : Array Oper} {rest : List Oper} {o : Oper} {a : Act} {Q : Exit → Act → World → Prop}
theorem app8 (hgd : o.guard = none) (s x : Operand) (ho : o.op = .call { callee := .builtin .append, args := #[s, x], argTypes := #[33, 33] }) (base : Nat) {A Au : Option Addr} {c cu : Nat} {bs cs : List Nat} {B : Nat → Prop}
 (hs : a.eval s = .slice A bs.length c) (hown : OW w base A c bs) (hx : a.eval x = .slice Au cs.length cu) (hr : RB w B Au cu cs) (hl : bs.length + cs.length ≤ 100000000) (hbase : base ≤ w.heap.size)
 (h : ∀ A' c' w', OW w' base A' c' (bs ++ cs) → Below base w w' → wpList Tryz.prog ops Q rest (a.put o.dst (.slice A' (bs ++ cs).length c')) w') : wpList Tryz.prog ops Q (o :: rest) a w := by
 obtain ⟨i0, hi, hz0, hz1, hz2⟩ := info_parts info8
 refine wpList_append_rs w hgd s x 33 ho base 5 i0 (.int .u8 0) 1 1 Tryz.underlying33 hi hz0 hz1 hz2 rfl (by decide) _ bs.length (bys bs) hs hown.1 B Au cs.length cu (bys cs) hx hr.1 (by intro u hu; obtain ⟨b, _, rfl⟩ := List.mem_map.1 hu; rfl) (bs.length + cs.length) rfl (by unfold maxLen; omega) (by omega) hbase ?_
 intro A' c' w' h1 h2 h3
 have hlen : (bs ++ cs).length = bs.length + cs.length := List.length_append
 refine (hlen ▸ h A' c' w' ⟨?_, ?_⟩ ?_ : _)
 · rw [hlen, show bys (bs ++ cs) = bys bs ++ bys cs by simp [bys]]
   exact h1
 · intro b hb
   rcases List.mem_append.1 hb with hb | hb
   · exact hown.2 b hb
   · exact hr.2.1 b hb
 · exact Below.grown (Below.refl base w) h2 hbase (own_base hown.1)
end
end Go.Proofs.YtendnkpiidhogaaGreat

namespace Go.Proofs.YtendnkpiidhogaaGreat.At
open Go.RowKit Go.Shelf

set_option maxRecDepth 100000 in
set_option maxHeartbeats 4000000 in
theorem kread_nil (A : Option Addr) (c : Nat) (w : World) :
 Calls Tryz.prog 151 #[.slice A 0 c] w fun e w' => e = .returned (.tuple #[.agg #[.int .i64 0, .slice none 0 0, .slice none 0 0], .bool false]) ∧ Below w.heap.size w w' := by
 have hB := (Below.refl w.heap.size w).alloc (Nat.le_refl _) (.cells #[.int .i64 0, .slice none 0 0, .slice none 0 0] 172)
 have h0 := heap_alloc_new w (.cells #[.int .i64 0, .slice none 0 0, .slice none 0 0] 172)
 have hz : (w.alloc (.cells #[.int .i64 0, .slice none 0 0, .slice none 0 0] 172)).heap.size = w.heap.size + 1 := by simp
 have HB := Lib.hid hB
 have H0 := Lib.hid h0
 have Hz := Lib.hid hz
 clear hB h0 hz
 go_enter Tryz.func151, Tryz.ntmps151
 go_wp2_with fail
 obtain ⟨s, hs⟩ : ∃ s, w.heap.size = s := ⟨_, rfl⟩
 rw [hs] at HB H0 Hz ⊢
 have Hs := Lib.hid hs
 clear hs
 generalize w.alloc (.cells #[.int .i64 0, .slice none 0 0, .slice none 0 0] 172) = W1 at *
 refine (derRead_nil A c W1).mono ?_
 rintro e w2 ⟨rfl, hB2⟩
 have h2 := (hB2.block s (by have := Hz.out; omega)).trans H0.out
 have hlt : s < w2.heap.size := by have := Hz.out; have := hB2.size; omega
 have HB3 := Lib.hid (HB.out.trans (hB2.mono (by have := Hz.out; omega)))
 have H2 := Lib.hid h2
 have q0 := blk_cell h2 0
 have q1 := blk_cell h2 1
 have q2 := blk_cell h2 2
 have p0 := blk_free h2 0
 have p1 := blk_free h2 1
 have p2 := blk_free h2 2
 simp only [List.getElem?_toArray, List.getElem?_cons_zero, List.getElem?_cons_succ] at q0 q1 q2
 clear h2 hB2 H0
 go_wp2
 have r := set3a H2.out (.int .i64 0) (.slice none 0 0) (.slice none 0 0) (.cells #[.int .i64 0, .slice none 0 0, .slice none 0 0] 172)
 have r0 := blk_cell r 0
 have r1 := blk_cell r 1
 have r2 := blk_cell r 2
 simp only [List.getElem?_toArray, List.getElem?_cons_zero, List.getElem?_cons_succ] at r0 r1 r2
 refine bodyPost_ret (v := .tuple #[.agg #[.int .i64 0, .slice none 0 0, .slice none 0 0], .bool false]) (by simp [results, Tryz.results151, go_sem, r0, r1, r2]) rfl ⟨rfl, ?_⟩
 rw [Hs.out]
 exact (((HB3.out.setCell (p := ⟨s, 0, none⟩) (by simp) _).setCell (p := ⟨s, 1, none⟩) (by simp) _).setCell (p := ⟨s, 2, none⟩) (by simp) _).alloc (by simp; omega) _

attribute [local go_sem] Oper.semAt_some

theorem OW.lower {w : World} {base b' : Nat} {A : Option Addr} {c : Nat} {bs : List Nat} (h : OW w base A c bs) (hb : b' ≤ base) : OW w b' A c bs := by
 obtain ⟨⟨h1, h2⟩, h3⟩ := h
 refine ⟨⟨h1, ?_⟩, h3⟩
 rcases h2 with h2 | ⟨g, cap, cur, e, hg, r⟩
 · exact .inl h2
 · exact .inr ⟨g, cap, cur, e, by omega, r⟩
theorem byte_of (z : Int) : ∃ b : Nat, b < 256 ∧ z % 256 = (b : Int) := ⟨(z % 256).toNat, by omega, by omega⟩
set_option maxRecDepth 100000 in
set_option maxHeartbeats 4000000 in
theorem digits_any (n : Nat) (w : World) (hn : n < 268435456) :
 Calls Tryz.prog 240 #[.int .i64 n] w fun e w' => ∃ A c bs, e = .returned (.slice A (List.length bs) c) ∧ OW w' w.heap.size A c bs ∧ 0 < bs.length ∧ bs.length ≤ 10 ∧ Below w.heap.size w w' := by
 obtain ⟨b0, hb0, he0⟩ := byte_of (bits .and .i64 (n : Int) 127)
 have hO := Lib.hid (OW.lit w b0 hb0)
 go_enter Tryz.func240, Tryz.ntmps240
 go_wp2
 go_loopw [0, 3] (fun v s wr => ∃ (x : Nat) (A : Option Addr) (c : Nat) (bs : List Nat), v = .int .i64 (x : Int) ∧ s = .slice A bs.length c ∧ OW wr w.heap.size A c bs ∧ 0 < bs.length ∧ bs.length ≤ 10 ∧ x < 128 ^ (10 - bs.length) ∧ Below w.heap.size w wr) (fun v _ _ => (intOf v).toNat)
 case atStart => exact ⟨n / 128, _, 1, [b0], by simp, rfl, hO.out, by simp, by simp, by simp; omega, (Below.refl _ w).alloc (Nat.le_refl _) _⟩
 case round =>
  clear hO he0 hb0
  obtain ⟨x, A, c, bs, rfl, rfl, hO, h0, hl, hx, hB⟩ := hrel
  by_cases hx0 : 0 < x
  · obtain ⟨b, hb, hbe⟩ := byte_of (bits .or .i64 (bits .and .i64 (x : Int) 127) 128)
    have hl9 : bs.length ≤ 9 := by
     rcases Nat.lt_or_ge 9 bs.length with h | h
     · have : bs.length = 10 := by omega
       rw [this] at hx
       simp at hx
       omega
     · exact h
    have hx' : x / 128 < 128 ^ (10 - (bs.length + 1)) := by
     rw [show 10 - bs.length = 10 - (bs.length + 1) + 1 by omega, Nat.pow_succ] at hx
     exact Nat.div_lt_of_lt_mul (by rw [Nat.mul_comm]; exact hx)
    have HX := Lib.hid hx'
    have hs := hB.size
    have HO := Lib.hid (OW.lit wr b hb)
    have HR := Lib.hid ((hO.rb (by omega)).below ((Below.refl _ wr).alloc (Nat.le_refl _) (.cells #[.int .u8 (b : Int)] 5)) fun q hq => hq.2)
    have hi : (0 : Int) < (x : Int) := by omega
    clear hx hx' hO
    go_wp2_with (at_builtin; refine app8 rfl (.tmp 18) (.tmp 19) rfl wr.heap.size (bs := [b]) rfl HO.out rfl HR.out (by simp; omega) (by simp) ?_; intro A2 c2 w2 hw2 hb2)
    have HB := Lib.hid ((hB.alloc hs (.cells #[.int .u8 (b : Int)] 5)).trans (hb2.mono hs))
    go_roundw
    case rel => exact ⟨x / 128, A2, c2, b :: bs, by simp, rfl, OW.lower hw2 hs, by simp, by simp; omega, by simpa using HX.out, HB.out⟩
    case measure => simp [intOf]; omega
  · have hx0' : x = 0 := by omega
    subst hx0'
    go_wp2
    go_ret
    exact ⟨A, c, bs, rfl, hO, h0, hl, hB⟩
end Go.Proofs.YtendnkpiidhogaaGreat.At

namespace Go.Proofs.YtendnkpiidhogaaGreat.At
open Go.RowKit Go.Shelf

attribute [local go_sem] Oper.semAt_some

theorem OW.up {w X : World} {base : Nat} {A : Option Addr} {c : Nat} {bs : List Nat} (h : OW w base A c bs) (hY : Below w.heap.size w X) : OW X base A c bs :=
 OW.ext h ⟨hY.os, hY.tape, hY.output, hY.size, fun k hk _ => hY.block k hk⟩
set_option maxRecDepth 100000 in
set_option maxHeartbeats 4000000 in
theorem oid_any (P : Nat → Prop) (g c : Nat) (l : List Int) (w : World) (hv : RI w P (some ⟨g, 0, none⟩) c l) (hP : ∀ b, P b → b < w.heap.size) (hl : 3 ≤ l.length ∧ l.length ≤ 100) (h0 : l.getD 0 0 = 1) (h1 : 0 ≤ l.getD 1 0 ∧ l.getD 1 0 ≤ 39) (ha : ∀ k, 0 ≤ l.getD k 0 ∧ l.getD k 0 < 268435456) :
 Calls Tryz.prog 235 #[.slice (some ⟨g, 0, none⟩) l.length c] w fun e w' => (∃ A1 n c1, e = .returned (.tuple #[.agg #[.int .i64 6, .slice A1 n c1, .slice none 0 0], .bool true])) ∧ Below w.heap.size w w' := by
 obtain ⟨hlc, hc⟩ := hv.cap
 have hB0 := (Below.refl w.heap.size w).alloc (Nat.le_refl _) (.cells #[.int .i64 0, .slice none 0 0, .slice none 0 0] 172)
 have hb0 := heap_alloc_new w (.cells #[.int .i64 0, .slice none 0 0, .slice none 0 0] 172)
 have hz0 : (w.alloc (.cells #[.int .i64 0, .slice none 0 0, .slice none 0 0] 172)).heap.size = w.heap.size + 1 := by simp
 obtain ⟨W0, hW0⟩ : ∃ W0, w.alloc (.cells #[.int .i64 0, .slice none 0 0, .slice none 0 0] 172) = W0 := ⟨_, rfl⟩
 rw [hW0] at hB0 hb0 hz0
 have hv0 := hv.below hB0 hP
 obtain ⟨a, ea, hPg, x0⟩ := hv0.at_ (i := 0) (by omega)
 injection ea with ea
 subst ea
 obtain ⟨a', ea, _, x1⟩ := hv0.at_ (i := 1) (by omega)
 injection ea with ea
 subst ea
 rw [h0] at x0
 obtain ⟨y, hy⟩ : ∃ y, l.getD 1 0 = y := ⟨_, rfl⟩
 rw [hy] at x1 h1
 simp [Addr.add] at x0 x1
 have y0 := x0
 have y1 := x1
 rw [← hW0] at y0 y1
 have HW := Lib.hid hW0
 have HB0 := Lib.hid hB0
 have Hb0 := Lib.hid hb0
 have Hz0 := Lib.hid hz0
 have HA := Lib.hid ha
 have Hy := Lib.hid hy
 have k0 : ¬ (l.length : Int) < 2 := by omega
 have k1 : ¬ (39 : Int) < y := by omega
 clear hB0 hb0 hz0 hW0 h0 ha hy
 go_enter Tryz.func235, Tryz.ntmps235
 go_wp2
 rw [HW.out]
 clear y0 y1
 go_loopw [33] (fun i wr => ∃ k : Nat, k ≤ l.length ∧ i = .int .i64 k ∧ ∃ d, wr = W0.drewN d) (fun i _ => l.length - (intOf i).toNat)
 case atStart => exact ⟨0, by omega, rfl, 0, rfl⟩
 case round =>
  obtain ⟨k, hk, rfl, d, rfl⟩ := hrel
  by_cases hlt : k < l.length
  · obtain ⟨a, ea, _, hx⟩ := (hv0.keep (w' := W0.drewN d) fun _ _ => rfl).at_ hlt
    injection ea with ea
    subst ea
    have h1 := HA.out k
    obtain ⟨z, hz⟩ : ∃ z, l.getD k 0 = z := ⟨_, rfl⟩
    rw [hz] at hx h1
    have hx' : (W0.drewN d).cell? ⟨g, k, none⟩ = some (.int .i64 z) := by
     have e : Addr.add ⟨g, 0, none⟩ k = ⟨g, k, none⟩ := by by_cases h : k = 0 <;> simp [Addr.add, h]
     rw [← e]; exact hx
    clear hx
    have Hz := Lib.hid hz
    clear hz
    have k2 : ¬ z < 0 := by omega
    have k3 : ¬ 268435456 < z := by omega
    go_wp2
    go_roundw
    case rel => exact ⟨k + 1, by omega, by go_num, d, rfl⟩
    case measure => simp [intOf]; omega
  · obtain rfl : k = l.length := by omega
    have X0 : (W0.drewN d).cell? ⟨g, 0, none⟩ = some (.int .i64 1) := x0
    have X1 : (W0.drewN d).cell? ⟨g, 1, none⟩ = some (.int .i64 y) := x1
    obtain ⟨yn, hyn⟩ : ∃ yn : Nat, y = (yn : Int) := ⟨y.toNat, by omega⟩
    subst hyn
    have HD := fun X => digits_any (40 + yn) X (by omega)
    simp only [Int.natCast_add, Int.cast_ofNat_Int] at HD
    have HDD := Lib.hid HD
    have hwr : IntKind.i64.wrap (40 + (yn : Int)) = 40 + (yn : Int) := by rw [IntKind.wrap_i64]; omega
    clear k0 k1 hk hlt x0 x1 HD
    go_wp2_with fail
    refine Par.region_ext (by kernel_rfl) 10 [0, 1, 3, 7, 0, 16, 48, 127, 255, 511] [] (fun j f X => match j with
     | 0 => f 0 = .slice (some ⟨g, 0, none⟩) l.length c
     | 1 => f 1 = .pointer (some ⟨g, 0, none⟩)
     | 2 => f 2 = .int .i64 1
     | 3 => f 3 = .int .i64 40
     | 4 => f 4 = .slice (some ⟨g, 0, none⟩) l.length c
     | 5 => f 5 = .pointer (some ⟨g, 1, none⟩)
     | 6 => f 6 = .int .i64 (yn : Int)
     | 7 => f 7 = .int .i64 (40 + (yn : Int))
     | 8 => ∃ A8 c8 b8, f 8 = .slice A8 (List.length b8) c8 ∧ OW X W0.heap.size A8 c8 b8 ∧ b8.length ≤ 10
     | 9 => ∃ A8 c8 b8, f 9 = .slice A8 (List.length b8) c8 ∧ OW X W0.heap.size A8 c8 b8 ∧ b8.length ≤ 10
     | _ => True) (by kernel_rfl) [(45, 0), (46, 1), (47, 2), (48, 3), (49, 4), (50, 5), (51, 6), (52, 7), (53, 8), (6, 9)] (by kernel_rfl) ?_
    refine Par.v0 1 9 ?_
    refine Par.S 2 8 [(45, 0), (49, 4), (50, 5), (51, 6)] (fun f X hX hR K hK => ?_) ?_
    · have e0 : f 0 = _ := hR.out 0 rfl
      have q1 : 0 < l.length := by omega
      simp only [yA, yB, yC, yD, yE, e0]
      refine ⟨?_⟩
      go_simp
      exact Par.k hK (s := by simp only [yA, yB, yC, yD, yE, e0])
    refine Par.ld1 3 7 1 X0 ?_
    refine Par.v1 4 6 2 ?_
    refine Par.v0 5 5 ?_
    refine Par.S 6 4 [(45, 0), (46, 1), (47, 2), (48, 3), (49, 4)] (fun f X hX hR K hK => ?_) ?_
    · have e4 : f 4 = _ := hR.out 4 rfl
      have q5 : 1 < l.length := by omega
      have q6 : (1 : Int) < (l.length : Int) := by omega
      simp only [yA, yB, yC, yD, yE, e4]
      refine ⟨?_⟩
      go_simp
      exact Par.k hK (s := by simp only [yA, yB, yC, yD, yE, e4])
    refine Par.ld1 7 3 5 X1 ?_
    refine Par.v2 8 2 3 6 (hR := fun _ _ h => h.trans ((congrArg (Value.int .i64) hwr))) ?_
    refine Par.c0 9 1 (fun f => #[f 7]) (F' := 240) (fun f X hX hR => ?_) ?_
    · have e7 : f 7 = _ := hR.out 7 rfl
      simp only [e7]
      refine (HDD.out X).mono ?_
      rintro e w2 ⟨A8, c8, b8, rfl, hO8, -, hl8, hB⟩
      exact ⟨(.slice A8 b8.length c8), rfl, hB, fun Y hY => ⟨A8, c8, b8, rfl, OW.up (OW.lower hO8 hX.bsize) hY, hl8⟩⟩
    refine Par.S 10 0 [(45, 0), (46, 1), (47, 2), (48, 3), (49, 4), (50, 5), (51, 6), (52, 7), (53, 8)] (fun f X hX hR K hK => ?_) ?_
    · obtain ⟨A8, c8, b8, (e8 : f 8 = _), r8, l8⟩ := hR.out 8 rfl
      simp only [yA, yB, yC, yD, yE, e8]
      refine ⟨?_⟩
      go_simp
      exact hK.out _ (.slice A8 b8.length c8) _ (by simp only [yA, yB, yC, yD, yE, e8]) (Ext.refl _) trivial (fun Y hY => ⟨A8, c8, b8, rfl, OW.up r8 hY, l8⟩)
    refine Par.AllOps.fin ⟨fun f X hX hR hal hap => ?_⟩
    obtain ⟨A8, c8, b8, (e8 : f 8 = _), r8, l8⟩ := hR 8 (by decide)
    obtain ⟨A9, c9, b9, (e9 : f 9 = _), r9, l9⟩ := hR 9 (by decide)
    simp only [yA, yB, yD, yE, e8, e9]
    clear hR hal hap e8 e9
    refine Par.Chain.done ?_
    have hXB : Below W0.heap.size W0 X := Below.trans (below_drewN (Below.refl _ W0) d) hX
    have e9' := r9
    have HO9 := Lib.hid r9
    have HXB := Lib.hid hXB
    clear r9 e9' hXB hX X0 X1 HDD hwr
    have m0 : (0 : Int) ≤ 2 := by omega
    have m1 : (2 : Int) ≤ (l.length : Int) := by omega
    have m2 : ¬ (c : Int) = 2 := by omega
    have m3 : ¬ c = 2 := by omega
    have m4 : (2 : Int) ≤ (c : Int) := by omega
    go_wp2
    go_loopw [6, 57] (fun s i wr => ∃ (k : Nat) (A6 : Option Addr) (c6 : Nat) (bs : List Nat), k + 2 ≤ l.length ∧ i = .int .i64 k ∧ s = .slice A6 bs.length c6 ∧ OW wr W0.heap.size A6 c6 bs ∧ bs.length ≤ 10 + 10 * k ∧ Below W0.heap.size W0 wr) (fun _ i _ => l.length - (intOf i).toNat)
    case atStart => exact ⟨0, A9, c9, b9, by omega, rfl, rfl, HO9.out, by omega, HXB.out⟩
    case round =>
     clear HO9 HXB l9 l8 r8
     obtain ⟨k, A6, c6, bs, hk, rfl, rfl, hO6, hl6, hB⟩ := hrel
     have hs := hB.size
     by_cases hlt : k + 2 < l.length
     · obtain ⟨a, ea, _, hx⟩ := (hv0.below hB (fun b hb => by have := hP b hb; have := Hz0.out; omega)).at_ (i := k + 2) hlt
       injection ea with ea
       subst ea
       have h1 := HA.out (k + 2)
       obtain ⟨z, hz⟩ : ∃ z, l.getD (k + 2) 0 = z := ⟨_, rfl⟩
       rw [hz] at hx h1
       obtain ⟨zn, hzn⟩ : ∃ zn : Nat, z = (zn : Int) := ⟨z.toNat, by omega⟩
       subst hzn
       have hx' : wr.cell? ⟨g, 2 + k, none⟩ = some (.int .i64 (zn : Int)) := by
        have e : Addr.add ⟨g, 0, none⟩ (k + 2) = ⟨g, 2 + k, none⟩ := by simp [Addr.add]; omega
        rw [← e]; exact hx
       have HO6 := Lib.hid hO6
       have k1 : k < l.length - 2 := by omega
       have k1' : (k : Int) < ((l.length - 2 : Nat) : Int) := by omega
       have HD := Lib.hid (digits_any zn wr (by omega))
       clear hx hO6 hz
       go_wp2_with fail
       refine HD.out.mono ?_
       rintro e w2 ⟨A7, c7, b7, rfl, hO7, -, hl7, hB7⟩
       have HO7 := Lib.hid (hO7.rb (by omega))
       have HO8 := Lib.hid (OW.up HO6.out hB7)
       have HB7 := Lib.hid (hB.trans (hB7.mono hs))
       have hs7 := HB7.out.size
       clear hO7 hB7 HO6 HD
       go_wp2_with (at_builtin; refine app8 rfl (.tmp 61) (.tmp 63) rfl W0.heap.size (bs := bs) rfl HO8.out rfl HO7.out (by omega) hs7 ?_; intro A2 c2 w3 hw3 hb3)
       have HB8 := Lib.hid (HB7.out.trans hb3)
       have HW3 := Lib.hid hw3
       clear hw3 hb3
       go_roundw
       case rel => exact ⟨k + 1, A2, c2, bs ++ b7, by omega, by go_num, by rw [List.length_append], HW3.out, by rw [List.length_append]; omega, HB8.out⟩
       case measure => simp [intOf]; omega
     · have hk2 : k = l.length - 2 := by omega
       have k1 : ¬ k < l.length - 2 := by omega
       have k1' : ¬ (k : Int) < ((l.length - 2 : Nat) : Int) := by omega
       have hb1 := (hB.block w.heap.size (by have := Hz0.out; omega)).trans Hb0.out
       have HBB := Lib.hid (HB0.out.trans (hB.mono (by have := Hz0.out; omega)))
       obtain ⟨s, hs0⟩ : ∃ s, w.heap.size = s := ⟨_, rfl⟩
       rw [hs0] at hb1 HBB
       have q0 := blk_cell hb1 0
       have q1 := blk_cell hb1 1
       have q2 := blk_cell hb1 2
       have p0 := blk_free hb1 0
       have p1 := blk_free hb1 1
       have p2 := blk_free hb1 2
       simp only [List.getElem?_toArray, List.getElem?_cons_zero, List.getElem?_cons_succ] at q0 q1 q2
       have r := set3 hb1 (.int .i64 6) (.slice A6 bs.length c6) (.slice none 0 0)
       have r0 := blk_cell r 0
       have r1 := blk_cell r 1
       have r2 := blk_cell r 2
       simp only [List.getElem?_toArray, List.getElem?_cons_zero, List.getElem?_cons_succ] at r0 r1 r2
       have R0 := Lib.hid r0
       have R1 := Lib.hid r1
       have R2 := Lib.hid r2
       clear r r0 r1 r2 hb1 hO6 hB hk2
       go_wp2
       have r0 := R0.out
       have r1 := R1.out
       have r2 := R2.out
       refine bodyPost_ret (v := .tuple #[.agg #[.int .i64 6, .slice A6 bs.length c6, .slice none 0 0], .bool true]) (by simp [results, Tryz.results235, go_sem, r0, r1, r2]) rfl ⟨⟨A6, _, c6, rfl⟩, ?_⟩
       exact ((HBB.out.setCell (p := ⟨s, 0, none⟩) (Nat.le_refl _) _).setCell (p := ⟨s, 1, none⟩) (Nat.le_refl _) _).setCell (p := ⟨s, 2, none⟩) (Nat.le_refl _) _
end Go.Proofs.YtendnkpiidhogaaGreat.At

namespace Go.Proofs.YtendnkpiidhogaaGreat.At
open Go.RowKit Go.Shelf

attribute [local go_sem] Oper.semAt_some

set_option maxRecDepth 100000 in
set_option maxHeartbeats 4000000 in
theorem name_any (P : Nat → Prop) (g c : Nat) (l : List Int) (w : World) (hv : RI w P (some ⟨g, 0, none⟩) c l) (hP : ∀ b, P b → b < w.heap.size) (hl : 3 ≤ l.length ∧ l.length ≤ 100) (h0 : l.getD 0 0 = 1) (h1 : 0 ≤ l.getD 1 0 ∧ l.getD 1 0 ≤ 39) (ha : ∀ k, 0 ≤ l.getD k 0 ∧ l.getD k 0 < 268435456) :
 Calls Tryz.prog 219 #[.slice (some ⟨g, 0, none⟩) l.length c] w fun e w' => (∃ A1 n c1, e = .returned (.agg #[.int .i64 6, .slice A1 n c1, .slice none 0 0])) ∧ Below w.heap.size w w' := by
 have hB := (Below.refl w.heap.size w).alloc (Nat.le_refl _) (.cells #[.int .i64 0, .slice none 0 0, .slice none 0 0] 172)
 have hb := heap_alloc_new w (.cells #[.int .i64 0, .slice none 0 0, .slice none 0 0] 172)
 have hz : (w.alloc (.cells #[.int .i64 0, .slice none 0 0, .slice none 0 0] 172)).heap.size = w.heap.size + 1 := by simp
 have hO := oid_any P g c l _ (hv.below hB hP) (fun b hb => by have := hP b hb; rw [hz]; omega) hl h0 h1 ha
 have HB := Lib.hid hB
 have H0 := Lib.hid hb
 have Hz := Lib.hid hz
 have HO := Lib.hid hO
 clear hB hb hz hO hv hP hl h0 h1 ha
 go_enter Tryz.func219, Tryz.ntmps219
 go_wp2_with fail
 obtain ⟨s, hs⟩ : ∃ s, w.heap.size = s := ⟨_, rfl⟩
 rw [hs] at HB H0 Hz ⊢
 have Hs := Lib.hid hs
 clear hs
 generalize w.alloc (.cells #[.int .i64 0, .slice none 0 0, .slice none 0 0] 172) = W1 at *
 refine HO.out.mono ?_
 rintro e w2 ⟨⟨A1, n, c1, rfl⟩, hB2⟩
 have h2 := (hB2.block s (by have := Hz.out; omega)).trans H0.out
 have hlt : s < w2.heap.size := by have := Hz.out; have := hB2.size; omega
 have HB3 := Lib.hid (HB.out.trans (hB2.mono (by have := Hz.out; omega)))
 have H2 := Lib.hid h2
 have q0 := blk_cell h2 0
 have q1 := blk_cell h2 1
 have q2 := blk_cell h2 2
 have p0 := blk_free h2 0
 have p1 := blk_free h2 1
 have p2 := blk_free h2 2
 simp only [List.getElem?_toArray, List.getElem?_cons_zero, List.getElem?_cons_succ] at q0 q1 q2
 clear h2 hB2 H0
 go_wp2
 have r := set3a H2.out (.int .i64 6) (.slice A1 n c1) (.slice none 0 0) (.cells #[.int .i64 6, .slice A1 n c1, .slice none 0 0] 172)
 have r0 := blk_cell r 0
 have r1 := blk_cell r 1
 have r2 := blk_cell r 2
 simp only [List.getElem?_toArray, List.getElem?_cons_zero, List.getElem?_cons_succ] at r0 r1 r2
 refine bodyPost_ret (v := .agg #[.int .i64 6, .slice A1 n c1, .slice none 0 0]) (by simp [results, Tryz.results219, go_sem, r0, r1, r2]) rfl ⟨⟨A1, n, c1, rfl⟩, ?_⟩
 rw [Hs.out]
 exact (((HB3.out.setCell (p := ⟨s, 0, none⟩) (by simp) _).setCell (p := ⟨s, 1, none⟩) (by simp) _).setCell (p := ⟨s, 2, none⟩) (by simp) _).alloc (by simp; omega) _

theorem all_small {l : List Int} (h : ∀ x ∈ l, 0 ≤ x ∧ x < 268435456) (k : Nat) : 0 ≤ l.getD k 0 ∧ l.getD k 0 < 268435456 := by
 rcases Nat.lt_or_ge k l.length with hk | hk
 · rw [List.getD_eq_getElem?_getD, List.getElem?_eq_getElem hk]; exact h _ (List.getElem_mem hk)
 · rw [List.getD_eq_getElem?_getD, List.getElem?_eq_none hk]; simp
set_option maxRecDepth 100000 in
set_option maxHeartbeats 4000000 in
theorem params_1 (w : World) : Calls Tryz.prog 186 #[.int .i64 1] w fun e w' => (∃ A1 n c1, e = .returned (.tuple #[.agg #[.int .i64 6, .slice A1 n c1, .slice none 0 0], .bool true])) ∧ Below w.heap.size w w' := by
 have hB := ((Below.refl w.heap.size w).alloc (Nat.le_refl _) (.cells #[.int .i64 0, .slice none 0 0, .slice none 0 0] 172)).alloc (by simp) (.cells #[.int .i64 1, .int .i64 2, .int .i64 840, .int .i64 10045, .int .i64 3, .int .i64 1, .int .i64 7] 3)
 have hb := (Below.heap_alloc (w.alloc (.cells #[.int .i64 0, .slice none 0 0, .slice none 0 0] 172)) (.cells #[.int .i64 1, .int .i64 2, .int .i64 840, .int .i64 10045, .int .i64 3, .int .i64 1, .int .i64 7] 3) w.heap.size (by simp)).trans (heap_alloc_new w _)
 have hz : ((w.alloc (.cells #[.int .i64 0, .slice none 0 0, .slice none 0 0] 172)).alloc (.cells #[.int .i64 1, .int .i64 2, .int .i64 840, .int .i64 10045, .int .i64 3, .int .i64 1, .int .i64 7] 3)).heap.size = w.heap.size + 2 := by simp
 have hR := RI.fresh (P := fun b => b < w.heap.size + 2) (w.alloc (.cells #[.int .i64 0, .slice none 0 0, .slice none 0 0] 172)) #[.int .i64 1, .int .i64 2, .int .i64 840, .int .i64 10045, .int .i64 3, .int .i64 1, .int .i64 7] 3 [1, 2, 840, 10045, 3, 1, 7] 7 rfl rfl (by omega) (by simp)
 rw [World.size_alloc] at hR
 have hO := name_any (fun b => b < w.heap.size + 2) (w.heap.size + 1) 7 [1, 2, 840, 10045, 3, 1, 7] _ hR (fun b hb => by rw [hz]; exact hb) (by simp) rfl (by simp) (all_small (by simp))
 have HB := Lib.hid hB
 have H0 := Lib.hid hb
 have Hz := Lib.hid hz
 have HO := Lib.hid hO
 clear hB hb hz hO hR
 go_enter Tryz.func186, Tryz.ntmps186
 go_wp2_with fail
 obtain ⟨s, hs⟩ : ∃ s, w.heap.size = s := ⟨_, rfl⟩
 rw [hs] at HB H0 Hz HO ⊢
 have Hs := Lib.hid hs
 clear hs
 generalize (w.alloc (.cells #[.int .i64 0, .slice none 0 0, .slice none 0 0] 172)).alloc (.cells #[.int .i64 1, .int .i64 2, .int .i64 840, .int .i64 10045, .int .i64 3, .int .i64 1, .int .i64 7] 3) = W1 at *
 refine HO.out.mono ?_
 rintro e w2 ⟨⟨A1, n, c1, rfl⟩, hB2⟩
 have h2 := (hB2.block s (by have := Hz.out; omega)).trans H0.out
 have hlt : s < w2.heap.size := by have := Hz.out; have := hB2.size; omega
 have HB3 := Lib.hid (HB.out.trans (hB2.mono (by have := Hz.out; omega)))
 have H2 := Lib.hid h2
 have q0 := blk_cell h2 0
 have q1 := blk_cell h2 1
 have q2 := blk_cell h2 2
 have p0 := blk_free h2 0
 have p1 := blk_free h2 1
 have p2 := blk_free h2 2
 simp only [List.getElem?_toArray, List.getElem?_cons_zero, List.getElem?_cons_succ] at q0 q1 q2
 clear h2 hB2 H0
 go_wp2
 have r := set3 H2.out (.int .i64 6) (.slice A1 n c1) (.slice none 0 0)
 have r0 := blk_cell r 0
 have r1 := blk_cell r 1
 have r2 := blk_cell r 2
 simp only [List.getElem?_toArray, List.getElem?_cons_zero, List.getElem?_cons_succ] at r0 r1 r2
 refine bodyPost_ret (v := .tuple #[.agg #[.int .i64 6, .slice A1 n c1, .slice none 0 0], .bool true]) (by simp [results, Tryz.results186, go_sem, r0, r1, r2]) rfl ⟨⟨A1, n, c1, rfl⟩, ?_⟩
 rw [Hs.out]
 exact ((HB3.out.setCell (p := ⟨s, 0, none⟩) (by simp) _).setCell (p := ⟨s, 1, none⟩) (by simp) _).setCell (p := ⟨s, 2, none⟩) (by simp) _

set_option maxRecDepth 100000 in
set_option maxHeartbeats 4000000 in
theorem params_2 (w : World) : Calls Tryz.prog 186 #[.int .i64 2] w fun e w' => (∃ A1 n c1, e = .returned (.tuple #[.agg #[.int .i64 6, .slice A1 n c1, .slice none 0 0], .bool true])) ∧ Below w.heap.size w w' := by
 have hB := ((Below.refl w.heap.size w).alloc (Nat.le_refl _) (.cells #[.int .i64 0, .slice none 0 0, .slice none 0 0] 172)).alloc (by simp) (.cells #[.int .i64 1, .int .i64 3, .int .i64 132, .int .i64 0, .int .i64 34] 3)
 have hb := (Below.heap_alloc (w.alloc (.cells #[.int .i64 0, .slice none 0 0, .slice none 0 0] 172)) (.cells #[.int .i64 1, .int .i64 3, .int .i64 132, .int .i64 0, .int .i64 34] 3) w.heap.size (by simp)).trans (heap_alloc_new w _)
 have hz : ((w.alloc (.cells #[.int .i64 0, .slice none 0 0, .slice none 0 0] 172)).alloc (.cells #[.int .i64 1, .int .i64 3, .int .i64 132, .int .i64 0, .int .i64 34] 3)).heap.size = w.heap.size + 2 := by simp
 have hR := RI.fresh (P := fun b => b < w.heap.size + 2) (w.alloc (.cells #[.int .i64 0, .slice none 0 0, .slice none 0 0] 172)) #[.int .i64 1, .int .i64 3, .int .i64 132, .int .i64 0, .int .i64 34] 3 [1, 3, 132, 0, 34] 5 rfl rfl (by omega) (by simp)
 rw [World.size_alloc] at hR
 have hO := name_any (fun b => b < w.heap.size + 2) (w.heap.size + 1) 5 [1, 3, 132, 0, 34] _ hR (fun b hb => by rw [hz]; exact hb) (by simp) rfl (by simp) (all_small (by simp))
 have HB := Lib.hid hB
 have H0 := Lib.hid hb
 have Hz := Lib.hid hz
 have HO := Lib.hid hO
 clear hB hb hz hO hR
 go_enter Tryz.func186, Tryz.ntmps186
 go_wp2_with fail
 obtain ⟨s, hs⟩ : ∃ s, w.heap.size = s := ⟨_, rfl⟩
 rw [hs] at HB H0 Hz HO ⊢
 have Hs := Lib.hid hs
 clear hs
 generalize (w.alloc (.cells #[.int .i64 0, .slice none 0 0, .slice none 0 0] 172)).alloc (.cells #[.int .i64 1, .int .i64 3, .int .i64 132, .int .i64 0, .int .i64 34] 3) = W1 at *
 refine HO.out.mono ?_
 rintro e w2 ⟨⟨A1, n, c1, rfl⟩, hB2⟩
 have h2 := (hB2.block s (by have := Hz.out; omega)).trans H0.out
 have hlt : s < w2.heap.size := by have := Hz.out; have := hB2.size; omega
 have HB3 := Lib.hid (HB.out.trans (hB2.mono (by have := Hz.out; omega)))
 have H2 := Lib.hid h2
 have q0 := blk_cell h2 0
 have q1 := blk_cell h2 1
 have q2 := blk_cell h2 2
 have p0 := blk_free h2 0
 have p1 := blk_free h2 1
 have p2 := blk_free h2 2
 simp only [List.getElem?_toArray, List.getElem?_cons_zero, List.getElem?_cons_succ] at q0 q1 q2
 clear h2 hB2 H0
 go_wp2
 have r := set3 H2.out (.int .i64 6) (.slice A1 n c1) (.slice none 0 0)
 have r0 := blk_cell r 0
 have r1 := blk_cell r 1
 have r2 := blk_cell r 2
 simp only [List.getElem?_toArray, List.getElem?_cons_zero, List.getElem?_cons_succ] at r0 r1 r2
 refine bodyPost_ret (v := .tuple #[.agg #[.int .i64 6, .slice A1 n c1, .slice none 0 0], .bool true]) (by simp [results, Tryz.results186, go_sem, r0, r1, r2]) rfl ⟨⟨A1, n, c1, rfl⟩, ?_⟩
 rw [Hs.out]
 exact ((HB3.out.setCell (p := ⟨s, 0, none⟩) (by simp) _).setCell (p := ⟨s, 1, none⟩) (by simp) _).setCell (p := ⟨s, 2, none⟩) (by simp) _


end Go.Proofs.YtendnkpiidhogaaGreat.At

namespace Go.Proofs.YtendnkpiidhogaaGreat.At
open Go.RowKit Go.Shelf

attribute [local go_sem] Oper.semAt_some

set_option maxRecDepth 100000 in
set_option maxHeartbeats 4000000 in
theorem which_zero (w : World) : Calls Tryz.prog 152 #[.agg #[.int .i64 0, .slice none 0 0, .slice none 0 0]] w fun e w' => e = .returned (.int .i64 0) ∧ Below w.heap.size w w' := by
 have hB := ((Below.refl w.heap.size w).alloc (Nat.le_refl _) (.cells #[.int .i64 0, .slice none 0 0, .slice none 0 0] 172)).alloc (by simp) (.cells #[.int .i64 1, .int .i64 2] 3)
 have hb := (Below.heap_alloc (w.alloc (.cells #[.int .i64 0, .slice none 0 0, .slice none 0 0] 172)) (.cells #[.int .i64 1, .int .i64 2] 3) w.heap.size (by simp)).trans (heap_alloc_new w _)
 have hc := heap_alloc_new (w.alloc (.cells #[.int .i64 0, .slice none 0 0, .slice none 0 0] 172)) (.cells #[.int .i64 1, .int .i64 2] 3)
 rw [World.size_alloc] at hc
 have HB := Lib.hid hB
 have Hb := Lib.hid hb
 have Hc := Lib.hid hc
 clear hB hb hc
 obtain ⟨s, hs⟩ : ∃ s, w.heap.size = s := ⟨_, rfl⟩
 rw [hs] at HB Hb Hc
 have Hs := Lib.hid hs
 clear hs
 go_enter Tryz.func152, Tryz.ntmps152
 go_wp2
 rw [Hs.out]
 go_loopw [9] (fun i wr => ∃ z : Int, i = .int .i64 z ∧ Below s w wr ∧ wr.heap[s]? = some (.cells #[.int .i64 0, .slice none 0 0, .slice none 0 0] 172 (0, 0)) ∧ wr.heap[s + 1]? = some (.cells #[.int .i64 1, .int .i64 2] 3 (0, 0)) ∧ (z = 0 ∨ z = 1 ∨ z = 2)) (fun i _ => 2 - (intOf i).toNat)
 case atStart => exact ⟨0, rfl, HB.out, Hb.out, Hc.out, .inl rfl⟩
 case round =>
  clear HB Hb Hc
  obtain ⟨z, rfl, hB, hb, hc, hz⟩ := hrel
  have x0 := blk_cell hc 0
  have x1 := blk_cell hc 1
  simp only [List.getElem?_toArray, List.getElem?_cons_zero, List.getElem?_cons_succ] at x0 x1
  have hl1 := blk_lt hc
  have hs1 := hB.size
  have HB := Lib.hid hB
  have Hb := Lib.hid hb
  have Hc := Lib.hid hc
  clear hB hb hc
  rcases hz with rfl | rfl | rfl
  · go_wp2_with fail
    refine (params_1 wr).mono ?_
    rintro e w2 ⟨⟨A1, n, c1, rfl⟩, hB2⟩
    have h2 := (hB2.block s (by omega)).trans Hb.out
    have h3 := (hB2.block (s + 1) hl1).trans Hc.out
    have hlt : s < w2.heap.size := by have := hB2.size; omega
    have hlt3 : s + 1 < w2.heap.size := by have := hB2.size; omega
    have q0 := blk_cell h2 0
    have q1 := blk_cell h2 1
    simp only [List.getElem?_toArray, List.getElem?_cons_zero, List.getElem?_cons_succ] at q0 q1
    have HB3 := Lib.hid (HB.out.trans (hB2.mono (by omega)))
    have H2 := Lib.hid h2
    have H3 := Lib.hid h3
    clear h2 h3 hB2 x0 x1
    go_wp2
    go_roundw
    case rel => exact ⟨1, by go_num, HB3.out.alloc (by omega) _, (Below.heap_alloc _ _ _ hlt).trans H2.out, (Below.heap_alloc _ _ _ hlt3).trans H3.out, .inr (.inl rfl)⟩
    case measure => first | (simp [intOf]; done) | (simp [intOf]; decide)
  · go_wp2_with fail
    refine (params_2 wr).mono ?_
    rintro e w2 ⟨⟨A1, n, c1, rfl⟩, hB2⟩
    have h2 := (hB2.block s (by omega)).trans Hb.out
    have h3 := (hB2.block (s + 1) hl1).trans Hc.out
    have hlt : s < w2.heap.size := by have := hB2.size; omega
    have hlt3 : s + 1 < w2.heap.size := by have := hB2.size; omega
    have q0 := blk_cell h2 0
    have q1 := blk_cell h2 1
    simp only [List.getElem?_toArray, List.getElem?_cons_zero, List.getElem?_cons_succ] at q0 q1
    have HB3 := Lib.hid (HB.out.trans (hB2.mono (by omega)))
    have H2 := Lib.hid h2
    have H3 := Lib.hid h3
    clear h2 h3 hB2 x0 x1
    go_wp2
    go_roundw
    case rel => exact ⟨2, by go_num, HB3.out.alloc (by omega) _, (Below.heap_alloc _ _ _ hlt).trans H2.out, (Below.heap_alloc _ _ _ hlt3).trans H3.out, .inr (.inr rfl)⟩
    case measure => first | (simp [intOf]; done) | (simp [intOf]; decide)
  · go_wp2
    go_ret
    exact ⟨rfl, by rw [Hs.out]; exact HB.out⟩

set_option maxRecDepth 100000 in
set_option maxHeartbeats 4000000 in
theorem readParams_nil (A : Option Addr) (c : Nat) (w : World) : Calls Tryz.prog 108 #[.slice A 0 c] w fun e w' => e = .returned (.tuple #[.int .i64 0, .bool false]) ∧ Below w.heap.size w w' := by
 go_enter Tryz.func108, Tryz.ntmps108
 go_wp2_with fail
 refine (kread_nil A c w).mono ?_
 rintro e w1 ⟨rfl, hB1⟩
 have hs1 := hB1.size
 go_wp2_with fail
 refine (which_zero _).mono ?_
 rintro e w2 ⟨rfl, hB2⟩
 go_wp2
 go_ret2
 exact ⟨rfl, (hB1.alloc hs1 _).trans (hB2.mono (by simp; omega))⟩

set_option maxHeartbeats 1000000 in
theorem curve_nil (P : Nat → Prop) (A : Option Addr) (c : Nat) (l : Attrs) (w : World) (hv : RA w P A c l) (hP : ∀ b, P b → b < w.heap.size) (hn : seek l 384 = none) :
 Calls Tryz.prog 91 #[.slice A l.length c] w fun e w' => e = .returned (.int .i64 0) ∧ Below w.heap.size w w' := by
 have hg := get_any P A c l 384 w hv hP
 rw [hn] at hg
 have HG := Lib.hid hg
 clear hg hn
 go_enter Tryz.func91, Tryz.ntmps91
 go_wp2_with fail
 refine HG.out.mono ?_
 rintro e w1 ⟨A1, c1, rfl, -, hB1⟩
 have hs1 := hB1.size
 go_wp2_with fail
 refine (readParams_nil A1 c1 w1).mono ?_
 rintro e w2 ⟨rfl, hB2⟩
 go_wp2
 go_ret
 exact ⟨rfl, hB1.trans (hB2.mono hs1)⟩
end Go.Proofs.YtendnkpiidhogaaGreat.At

namespace Go.Proofs.YtendnkpiidhogaaGreat
open Go.RowKit

theorem RN.one (w : World) (x : Nat) (hx : x < 18446744073709551616) : RN (w.alloc (.cells #[.int .u64 (x : Int)] 139)) (In w.heap.size (w.heap.size + 1)) (some ⟨w.heap.size, 0, none⟩) 1 [x] :=
 ⟨RS.fresh #[.int .u64 (x : Int)] 139 1 1 rfl (by unfold maxLen; omega) ⟨Nat.le_refl _, by omega⟩, by simpa [Lim] using hx⟩
abbrev RU (w : World) (A : Option Addr) (c : Nat) (l : List Nat) : Prop := RN w (fun b => b < w.heap.size) A c l
theorem RN.up {w w' : World} {A : Option Addr} {c : Nat} {l : List Nat} (h : RU w A c l) (hB : Below w.heap.size w w') : RU w' A c l :=
 (h.below hB fun _ hb => hb).mono fun _ hb => Nat.lt_of_lt_of_le hb hB.size
theorem OB.ru {w : World} {base : Nat} {A : Option Addr} {c : Nat} {l : List Nat} (h : OB w base A c l) : RU w A c l := h.rn.mono fun _ hb => hb.2
theorem RN.ud {w : World} {A : Option Addr} {c : Nat} {l : List Nat} (h : RU w A c l) (n : Nat) : RU (w.drewN n) A c l := h
theorem lt_self {w : World} : ∀ b, b < w.heap.size → b < w.heap.size := fun _ h => h
end Go.Proofs.YtendnkpiidhogaaGreat

namespace Go.Proofs.YtendnkpiidhogaaGreat
open Go.ChangeShapes Go.WideShapes Go.ChangeAt Go.RowKit Go.Deep Go.Joins

section
variable {H : Type} {enc : TypeId × Value → H} {w : World}
theorem cells8 : Tryz.prog.cellsOf 5 = 1 := by kernel_rfl
theorem bytes8 : Tryz.prog.bytesOf 5 = 1 := by kernel_rfl
def Fits (t : TypeId) (d : DataW H) : Prop := ∀ k ∈ DataW.weights Tryz.prog t d, k ≤ reachBytes

theorem open_bytes {fuel : Nat} {v : Value} {x : DataW H × List MemPlace} (h : DataW.trod enc Tryz.prog w 0 (fun _ => true) true fuel 33 [v] = some x) (hw : Fits 33 x.1) :
 ∃ A c bs, v = .slice A bs.length c ∧ RB w (fun b => b < w.heap.size) A c bs := by
 rcases open_ints Tryz.underlying33 Tryz.underlying5 cells8 h with ⟨hcs, _⟩ | ⟨a, len, cap, zs, hcs, _, hl, hm, hz, hx, hcell, hwz⟩
 · simp at hcs
   exact ⟨none, 0, [], by simpa using hcs, RB.nil_ _ _⟩
 · simp at hcs hz
   have hb : zs.length ≤ reachBytes := by
    subst hx
    have := hw ((lits (H := H) .u8 (zs.take len)).length * 1 + (lits (H := H) .u8 (zs.drop len)).length * 1) (by simp [DataW.weights, Tryz.underlying33, bytes8])
    simp [lits] at this
    omega
   unfold reachBytes at hb
   have hwf : ∀ i (hi : i < zs.length), 0 ≤ zs[i] ∧ zs[i] < 256 := fun i hi => by
    have := bounds_u8 (hwz _ (List.getElem_mem hi))
    omega
   refine ⟨some a, cap, (zs.take len).map Int.toNat, ?_, ⟨by simp; omega, hm, by simp [bys], fun hn => ⟨a, rfl, ?_, fun j u hu => ?_⟩⟩, ?_, by simp; omega⟩
   · rw [hcs]; simp; omega
   · have h0 := hcell 0 (by simp at hn; omega)
     have := World.block_lt_of_cell? w _ h0
     rwa [block_of_add] at this
   · have hj : j < len := by
      have := (List.getElem?_eq_some_iff.1 hu).1
      simp [bys] at this
      omega
     have hjz : j < zs.length := by omega
     rw [hcell j hjz]
     have := hwf j hjz
     simp [bys, hj, List.getElem?_eq_getElem hjz] at hu
     rw [← hu]
     simp [List.getD, List.getElem?_eq_getElem hjz]
     omega
   · intro b hb
     obtain ⟨z, hz, rfl⟩ := List.mem_map.1 hb
     obtain ⟨i, hi, rfl⟩ := List.getElem_of_mem (List.mem_of_mem_take hz)
     have := hwf i hi
     omega

end
end Go.Proofs.YtendnkpiidhogaaGreat
