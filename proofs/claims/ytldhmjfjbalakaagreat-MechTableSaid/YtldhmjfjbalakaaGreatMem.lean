/- Words for memory that holds limbs: a slice that reads as limbs; a block that is known whole; a slice of one's own. -/
import Derived.Test.YtldhmjfjbalakaaGreatRows
import Derived.Test.YtldhmjfjbalakaaGreatBase
import Derived.Test.YtldhmjfjbalakaaGreatStep
import Derived.Test.YtldhmjfjbalakaaGreatShelf
import Derived.Deep.OwnRows
import Derived.Deep.DeepCutAuto
namespace Go.Proofs.YtldhmjfjbalakaaGreat
open Go.RowKit

theorem eqB {a b : Int} (h : a ≠ b) : (a == b) = false := by simpa using h
theorem neB {a b : Int} (h : a ≠ b) : (a != b) = true := by simpa using h
theorem drewN_add (w : World) (n m : Nat) : (w.drewN n).drewN m = w.drewN (n + m) := by simp [World.drewN, Nat.add_assoc]
theorem drewN_3 (w : World) (n m k : Nat) : ((w.drewN n).drewN m).drewN k = w.drewN (n + m + k) := by simp [World.drewN, Nat.add_assoc]
theorem add_succ (a : Addr) (n : Nat) : a.add (n + 1) = ⟨a.block, a.off + (n + 1), none⟩ := by simp [Addr.add]
theorem dr1 (w : World) (n : Nat) : ∃ k, w.drewN n = w.drewN k := ⟨n, rfl⟩
theorem dr2 (w : World) (n m : Nat) : ∃ k, (w.drewN n).drewN m = w.drewN k := ⟨_, drewN_add _ _ _⟩
theorem dr3 (w : World) (n m k : Nat) : ∃ d, ((w.drewN n).drewN m).drewN k = w.drewN d := ⟨_, drewN_3 _ _ _ _⟩
theorem add_blk (g j : Nat) : (⟨g, 0, none⟩ : Addr).add j = ⟨g, j, none⟩ := by
  rcases Nat.eq_zero_or_pos j with h | h
  · subst h; rfl
  · simp [Addr.add, Nat.pos_iff_ne_zero.1 h]
/-- Limbs as cells. -/
def nts (l : List Nat) : List Value := l.map fun x : Nat => .int .u64 (x : Int)
theorem nts_length (l : List Nat) : (nts l).length = l.length := by simp [nts]
theorem nts_get {l : List Nat} {i : Nat} (h : i < l.length) : (nts l)[i]? = some (.int .u64 (dg l i : Int)) := by
  rw [getD_eq h]; simp [nts, List.getElem?_eq_getElem h]
theorem nts_take (l : List Nat) (n : Nat) : (nts l).take n = nts (l.take n) := by simp [nts]
theorem oneCell_nts (l : List Nat) : ∀ u ∈ nts l, u.oneCell' = true := by
  intro u hu
  obtain ⟨x, _, rfl⟩ := List.mem_map.1 hu
  rfl

/-- All are limbs. -/
def Lim (l : List Nat) : Prop := (∀ x ∈ l, x < 18446744073709551616) ∧ l.length ≤ 1000000
/-- The slice reads as the limbs l, in a block of which P holds. -/
def RN (w : World) (P : Nat → Prop) (A : Option Addr) (c : Nat) (l : List Nat) : Prop := RS w P 1 A l.length c (nts l) ∧ Lim l
/-- The block is known whole: these limbs. -/
def Blk (w : World) (g : Nat) (l : List Nat) : Prop := w.heap[g]? = some (.cells (nts l).toArray 90 (0, 0))
/-- A slice of one's own, from block base on. -/
def OB (w : World) (base : Nat) (A : Option Addr) (c : Nat) (l : List Nat) : Prop :=
  Lim l ∧ l.length ≤ c ∧ c ≤ maxLen ∧ (0 < l.length → ∃ g cur, A = some ⟨g, 0, none⟩ ∧ base ≤ g ∧ w.heap[g]? = some (.cells cur 90 (0, 0)) ∧ ∀ (j : Nat) u, (nts l)[j]? = some u → cur[j]? = some u)

section
variable {w w' : World} {P P' : Nat → Prop} {A : Option Addr} {c g base : Nat} {l : List Nat}
theorem Lim.nil_ : Lim [] := ⟨by simp, by simp⟩
theorem Lim.take (h : Lim l) (n : Nat) : Lim (l.take n) := ⟨fun x hx => h.1 x (List.mem_of_mem_take hx), by rw [List.length_take]; have := h.2; omega⟩
theorem Lim.set (h : Lim l) (i x : Nat) (hx : x < 18446744073709551616) : Lim (l.set i x) := ⟨set_lt h.1 hx, by simpa using h.2⟩
theorem Lim.dgLt (h : Lim l) (i : Nat) : dg l i < 18446744073709551616 := getD_lt (by omega) h.1 i
theorem Lim.digs {B v : Nat} (hB : 2 ≤ B) (hB' : B ≤ 18446744073709551616) (hl : v < B ^ 1000000) : Lim (digs B v) := ⟨fun x hx => Nat.lt_of_lt_of_le (digs_lt hB v x hx) hB', digs_length_of_lt hB hl⟩
theorem Lim.trim (h : Lim l) : ∃ n, n ≤ l.length ∧ Go.Proofs.YtldhmjfjbalakaaGreat.digs 18446744073709551616 (val 18446744073709551616 l) = l.take n := by
  refine ⟨(Go.Proofs.YtldhmjfjbalakaaGreat.digs 18446744073709551616 (val 18446744073709551616 l)).length, digs_length_le (by omega) h.1, ?_⟩
  obtain ⟨n, hn, hz, h0⟩ : ∃ n, n ≤ l.length ∧ (∀ x ∈ l.drop n, x = 0) ∧ (0 < n → dg l (n - 1) ≠ 0) := by
    have : ∀ k, k ≤ l.length → (∀ x ∈ l.drop k, x = 0) → ∃ n, n ≤ l.length ∧ (∀ x ∈ l.drop n, x = 0) ∧ (0 < n → dg l (n - 1) ≠ 0) := by
      intro k
      induction k with
      | zero => intro _ hz; exact ⟨0, by omega, hz, by omega⟩
      | succ k ih =>
        intro hk hz
        by_cases h : dg l k = 0
        · refine ih (by omega) fun x hx => ?_
          rw [List.drop_eq_getElem_cons (by omega : k < l.length)] at hx
          rcases List.mem_cons.1 hx with rfl | hx
          · rwa [getD_eq (by omega)] at h
          · exact hz x hx
        · exact ⟨k + 1, hk, hz, fun _ => by simpa using h⟩
    exact this l.length (Nat.le_refl _) (by simp)
  have h1 := take_digs (B := 18446744073709551616) (by omega) h.1 hn hz h0
  rw [← h1, List.length_take, Nat.min_eq_left hn]
theorem RN.keep (h : RN w P A c l) (hk : ∀ p : Addr, P p.block → w'.cell? p = w.cell? p) : RN w' P A c l := ⟨h.1.keep hk, h.2⟩
theorem RN.mono (h : RN w P A c l) (hp : ∀ b, P b → P' b) : RN w P' A c l := ⟨h.1.mono hp, h.2⟩
theorem RN.below {B : Nat} (h : RN w P A c l) (hb : Below B w w') (hB : ∀ b, P b → b < B) : RN w' P A c l := ⟨h.1.below hb hB, h.2⟩
theorem RN.drewN (h : RN w P A c l) (n : Nat) : RN (w.drewN n) P A c l := h
theorem RN.cap (h : RN w P A c l) : l.length ≤ c ∧ c ≤ 9223372036854775807 ∧ l.length ≤ 1000000 := ⟨h.1.1, h.1.2.1, h.2.2⟩
theorem RN.nil_ (w : World) (P : Nat → Prop) : RN w P none 0 [] := ⟨RS.nil_ _ _ _, Lim.nil_⟩
theorem RN.take (h : RN w P A c l) (n : Nat) : RN w P A c (l.take n) := by
  by_cases hn : n ≤ l.length
  · refine ⟨?_, h.2.take n⟩
    have := h.1.pre hn
    rw [Nat.mul_one, nts_take] at this
    rwa [List.length_take, Nat.min_eq_left hn]
  · rw [List.take_of_length_le (by omega)]; exact h
theorem RN.at_ (h : RN w P A c l) {i : Nat} (hi' : i < l.length) : ∃ ad, A = some ad ∧ P ad.block ∧ w.cell? (ad.add i) = some (.int .u64 (dg l i : Int)) := by
  obtain ⟨⟨h1, h2, h3, h4⟩, h5⟩ := h
  obtain ⟨ad, rfl, hb, hc⟩ := h4 (by omega)
  exact ⟨ad, rfl, hb, hc _ _ (nts_get hi')⟩
/-- All cells at once, for a walk: under their bound. -/
theorem RN.cells {ad : Addr} (h : RN w P (some ad) c l) : ∀ i, i < l.length → w.cell? (ad.add i) = some (.int .u64 (dg l i : Int)) := by
  intro i hi
  obtain ⟨ad', e, _, hc⟩ := h.at_ hi
  cases e
  exact hc
theorem RN.lt (h : RN w P A c l) (i : Nat) : (dg l i : Int) < 18446744073709551616 := by have := h.2.dgLt i; omega
theorem Blk.cell (h : Blk w g l) {i : Nat} (hi : i < l.length) : w.cell? ⟨g, i, none⟩ = some (.int .u64 (dg l i : Int)) := by
  rw [blk_cell h i, List.getElem?_toArray, nts_get hi]
theorem Blk.free (h : Blk w g l) (i : Nat) : w.frozen? ⟨g, i, none⟩ = false := blk_free h i
theorem Blk.lt (h : Blk w g l) : g < w.heap.size := blk_lt h
theorem Blk.set (h : Blk w g l) (i : Nat) (x : Nat) : Blk (w.setCell ⟨g, i, none⟩ (.int .u64 (x : Int))) g (l.set i x) := by
  unfold Blk at *
  simp [World.setCell, Array.getElem?_modify, h, nts]
theorem Blk.below {B : Nat} (h : Blk w g l) (hb : Below B w w') (hg : g < B) : Blk w' g l := (hb.block g hg).trans h
theorem Blk.drewN (h : Blk w g l) (n : Nat) : Blk (w.drewN n) g l := h
theorem Blk.other (h : Blk w g l) {p : Addr} (hp : g ≠ p.block) (v : Value) : Blk (w.setCell p v) g l := (Below.heap_setCell w p v g hp).trans h
theorem Blk.alloc (h : Blk w g l) (o : Obj) : Blk (w.alloc o) g l := (Below.heap_alloc w o g (blk_lt h)).trans h
theorem Blk.made (w : World) (n : Nat) : Blk (w.alloc (.cells (madeCells #[.int .u64 0] n) 90)) w.heap.size (List.replicate n 0) := by
  unfold Blk
  rw [heap_alloc_new]
  congr 1
  congr 1
  apply Array.ext_getElem?
  intro i
  by_cases hi : i < n
  · have hs : i < (madeCells #[Value.int .u64 0] n).size := by rw [size_madeCells]; simpa using hi
    rw [Array.getElem?_eq_getElem hs]
    simp [madeCells, nts, hi, Nat.mod_one]
  · rw [Array.getElem?_eq_none (by rw [size_madeCells]; omega), Array.getElem?_eq_none (by simp [nts]; omega)]
theorem OB.rn (h : OB w base A c l) : RN w (In base w.heap.size) A c l := by
  obtain ⟨h1, h2, h3, h4⟩ := h
  refine ⟨⟨h2, h3, by simp [nts], fun hn => ?_⟩, h1⟩
  obtain ⟨g, cur, rfl, hg, hh, hc⟩ := h4 hn
  refine ⟨_, rfl, ⟨hg, blk_lt hh⟩, fun j u hu => ?_⟩
  have := blk_cell hh j
  rw [hc j u hu] at this
  rw [add_blk]
  exact this
theorem OB.nil_ (w : World) (base : Nat) : OB w base none 0 [] := ⟨Lim.nil_, Nat.le_refl _, by unfold maxLen; omega, fun h => absurd h (by simp)⟩
theorem OB.below {B : Nat} (h : OB w base A c l) (hb : Below B w w') (hB : w.heap.size ≤ B) : OB w' base A c l := by
  obtain ⟨h1, h2, h3, h4⟩ := h
  refine ⟨h1, h2, h3, fun hn => ?_⟩
  obtain ⟨g, cur, rfl, hg, hh, hc⟩ := h4 hn
  exact ⟨g, cur, rfl, hg, (hb.block g (Nat.lt_of_lt_of_le (blk_lt hh) hB)).trans hh, hc⟩
theorem OB.drewN (h : OB w base A c l) (n : Nat) : OB (w.drewN n) base A c l := h
theorem OB.mono {base' : Nat} (h : OB w base A c l) (hb : base' ≤ base) : OB w base' A c l := by
  obtain ⟨h1, h2, h3, h4⟩ := h
  refine ⟨h1, h2, h3, fun hn => ?_⟩
  obtain ⟨g, cur, e, hg, hh, hc⟩ := h4 hn
  exact ⟨g, cur, e, by omega, hh, hc⟩
theorem OB.cap (h : OB w base A c l) : l.length ≤ c ∧ c ≤ 9223372036854775807 ∧ l.length ≤ 1000000 := ⟨h.2.1, h.2.2.1, h.1.2⟩
theorem OB.take (h : OB w base A c l) (n : Nat) : OB w base A c (l.take n) := by
  obtain ⟨h1, h2, h3, h4⟩ := h
  refine ⟨h1.take n, by rw [List.length_take]; omega, h3, fun hn => ?_⟩
  obtain ⟨g, cur, e, hg, hh, hc⟩ := h4 (by rw [List.length_take] at hn; omega)
  refine ⟨g, cur, e, hg, hh, fun j u hu => hc j u ?_⟩
  rw [← nts_take, List.getElem?_take] at hu
  split at hu
  · exact hu
  · cases hu
theorem OB.of_blk (h : Blk w g l) (hg : base ≤ g) (hl : Lim l) {c : Nat} (hc : l.length ≤ c) (hc' : c ≤ maxLen) : OB w base (some ⟨g, 0, none⟩) c l :=
  ⟨hl, hc, hc', fun _ => ⟨g, _, rfl, hg, h, fun j u hu => by rw [List.getElem?_toArray]; exact hu⟩⟩
theorem OB.of_own (h : w.ownsRow base 90 1 (.slice A l.length c) l.length (nts l)) (hl : Lim l) : OB w base A c l := by
  obtain ⟨h0, ⟨e1, e2⟩ | ⟨g, cap, cur, e1, hg, hh, h5, h6, h7, h8⟩⟩ := h
  · injection e1 with e1 e3 e4
    have : l = [] := List.eq_nil_of_length_eq_zero e2
    subst e1 e4 this
    exact OB.nil_ w base
  · injection e1 with e1 e2 e3
    subst e1 e3
    refine ⟨hl, h5, h6, fun _ => ⟨g, cur, rfl, hg, hh, fun j u hu => ?_⟩⟩
    rw [← h8, List.getElem?_take] at hu
    split at hu
    · rwa [Array.getElem?_toList] at hu
    · cases hu
end

theorem info64 : (Tryz.prog.info? 90).map (fun i => (i.zero, i.size, i.bytes)) = some (some (.int .u64 0), 1, 8) := by kernel_rfl
end Go.Proofs.YtldhmjfjbalakaaGreat
