/- Words for memory that holds limbs: a slice that reads as limbs; a block that is known whole; a slice of one's own. What limb.trim, made, Of, Norm and the reference's trim compute. What limb.Cmp and the reference's compute: the order of two numbers. What limb.Sub computes. -/
import Derived.Test.YtldhmjfjbalakaaRows
import Derived.Test.YtldhmjfjbalakaaKAb
import Derived.Deep.OwnRows
import Derived.Deep.DeepCutAuto
import Derived.Deep.QuietTactic
import Derived.BigQuiet
namespace Go.Proofs.Ytldhmjfjbalakaa
open Go.RowKit

theorem eqB {a b : Int} (h : a ≠ b) : (a == b) = false := by simpa using h
theorem neB {a b : Int} (h : a ≠ b) : (a != b) = true := by simpa using h
theorem drewN_add (w : World) (n m : Nat) : (w.drewN n).drewN m = w.drewN (n + m) := by simp [World.drewN, Nat.add_assoc]
theorem drewN_3 (w : World) (n m k : Nat) : ((w.drewN n).drewN m).drewN k = w.drewN (n + m + k) := by simp [World.drewN, Nat.add_assoc]
theorem add_succ (a : Addr) (n : Nat) : a.add (n + 1) = ⟨a.block, a.off + (n + 1), none⟩ := by simp [Addr.add]
theorem dr1 (w : World) (n : Nat) : ∃ k, w.drewN n = w.drewN k := ⟨n, rfl⟩
theorem dr2 (w : World) (n m : Nat) : ∃ k, (w.drewN n).drewN m = w.drewN k := ⟨_, drewN_add _ _ _⟩
theorem dr3 (w : World) (n m k : Nat) : ∃ d, ((w.drewN n).drewN m).drewN k = w.drewN d := ⟨_, drewN_3 _ _ _ _⟩
theorem add_blk (g j : Nat) : (⟨g, 0, none⟩ : Addr).add j = ⟨g, j, none⟩ := by
  rcases Nat.eq_zero_or_pos j with h | h
  · subst h; rfl
  · simp [Addr.add, Nat.pos_iff_ne_zero.1 h]
/-- Limbs as cells. -/
def nts (l : List Nat) : List Value := l.map fun x : Nat => .int .u64 (x : Int)
theorem nts_length (l : List Nat) : (nts l).length = l.length := by simp [nts]
theorem nts_get {l : List Nat} {i : Nat} (h : i < l.length) : (nts l)[i]? = some (.int .u64 (dg l i : Int)) := by
  rw [getD_eq h]; simp [nts, List.getElem?_eq_getElem h]
theorem nts_take (l : List Nat) (n : Nat) : (nts l).take n = nts (l.take n) := by simp [nts]
theorem oneCell_nts (l : List Nat) : ∀ u ∈ nts l, u.oneCell' = true := by
  intro u hu
  obtain ⟨x, _, rfl⟩ := List.mem_map.1 hu
  rfl

/-- All are limbs. -/
def Lim (l : List Nat) : Prop := (∀ x ∈ l, x < 18446744073709551616) ∧ l.length ≤ 1000000
/-- The slice reads as the limbs l, in a block of which P holds. -/
def RN (w : World) (P : Nat → Prop) (A : Option Addr) (c : Nat) (l : List Nat) : Prop := RS w P 1 A l.length c (nts l) ∧ Lim l
/-- The block is known whole: these limbs. -/
def Blk (w : World) (g : Nat) (l : List Nat) : Prop := w.heap[g]? = some (.cells (nts l).toArray 72 (0, 0))
/-- A slice of one's own, from block base on. -/
def OB (w : World) (base : Nat) (A : Option Addr) (c : Nat) (l : List Nat) : Prop :=
  Lim l ∧ l.length ≤ c ∧ c ≤ maxLen ∧ (0 < l.length → ∃ g cur, A = some ⟨g, 0, none⟩ ∧ base ≤ g ∧ w.heap[g]? = some (.cells cur 72 (0, 0)) ∧ ∀ (j : Nat) u, (nts l)[j]? = some u → cur[j]? = some u)

section
variable {w w' : World} {P P' : Nat → Prop} {A : Option Addr} {c g base : Nat} {l : List Nat}
theorem Lim.nil_ : Lim [] := ⟨by simp, by simp⟩
theorem Lim.take (h : Lim l) (n : Nat) : Lim (l.take n) := ⟨fun x hx => h.1 x (List.mem_of_mem_take hx), by rw [List.length_take]; have := h.2; omega⟩
theorem Lim.set (h : Lim l) (i x : Nat) (hx : x < 18446744073709551616) : Lim (l.set i x) := ⟨set_lt h.1 hx, by simpa using h.2⟩
theorem Lim.dgLt (h : Lim l) (i : Nat) : dg l i < 18446744073709551616 := getD_lt (by omega) h.1 i
theorem Lim.digs {B v : Nat} (hB : 2 ≤ B) (hB' : B ≤ 18446744073709551616) (hl : v < B ^ 1000000) : Lim (digs B v) := ⟨fun x hx => Nat.lt_of_lt_of_le (digs_lt hB v x hx) hB', digs_length_of_lt hB hl⟩
theorem Lim.trim (h : Lim l) : ∃ n, n ≤ l.length ∧ Go.Proofs.Ytldhmjfjbalakaa.digs 18446744073709551616 (val 18446744073709551616 l) = l.take n := by
  refine ⟨(Go.Proofs.Ytldhmjfjbalakaa.digs 18446744073709551616 (val 18446744073709551616 l)).length, digs_length_le (by omega) h.1, ?_⟩
  obtain ⟨n, hn, hz, h0⟩ : ∃ n, n ≤ l.length ∧ (∀ x ∈ l.drop n, x = 0) ∧ (0 < n → dg l (n - 1) ≠ 0) := by
    have : ∀ k, k ≤ l.length → (∀ x ∈ l.drop k, x = 0) → ∃ n, n ≤ l.length ∧ (∀ x ∈ l.drop n, x = 0) ∧ (0 < n → dg l (n - 1) ≠ 0) := by
      intro k
      induction k with
      | zero => intro _ hz; exact ⟨0, by omega, hz, by omega⟩
      | succ k ih =>
        intro hk hz
        by_cases h : dg l k = 0
        · refine ih (by omega) fun x hx => ?_
          rw [List.drop_eq_getElem_cons (by omega : k < l.length)] at hx
          rcases List.mem_cons.1 hx with rfl | hx
          · rwa [getD_eq (by omega)] at h
          · exact hz x hx
        · exact ⟨k + 1, hk, hz, fun _ => by simpa using h⟩
    exact this l.length (Nat.le_refl _) (by simp)
  have h1 := take_digs (B := 18446744073709551616) (by omega) h.1 hn hz h0
  rw [← h1, List.length_take, Nat.min_eq_left hn]
theorem RN.keep (h : RN w P A c l) (hk : ∀ p : Addr, P p.block → w'.cell? p = w.cell? p) : RN w' P A c l := ⟨h.1.keep hk, h.2⟩
theorem RN.mono (h : RN w P A c l) (hp : ∀ b, P b → P' b) : RN w P' A c l := ⟨h.1.mono hp, h.2⟩
theorem RN.below {B : Nat} (h : RN w P A c l) (hb : Below B w w') (hB : ∀ b, P b → b < B) : RN w' P A c l := ⟨h.1.below hb hB, h.2⟩
theorem RN.drewN (h : RN w P A c l) (n : Nat) : RN (w.drewN n) P A c l := h
theorem RN.cap (h : RN w P A c l) : l.length ≤ c ∧ c ≤ 9223372036854775807 ∧ l.length ≤ 1000000 := ⟨h.1.1, h.1.2.1, h.2.2⟩
theorem RN.nil_ (w : World) (P : Nat → Prop) : RN w P none 0 [] := ⟨RS.nil_ _ _ _, Lim.nil_⟩
theorem RN.take (h : RN w P A c l) (n : Nat) : RN w P A c (l.take n) := by
  by_cases hn : n ≤ l.length
  · refine ⟨?_, h.2.take n⟩
    have := h.1.pre hn
    rw [Nat.mul_one, nts_take] at this
    rwa [List.length_take, Nat.min_eq_left hn]
  · rw [List.take_of_length_le (by omega)]; exact h
theorem RN.at_ (h : RN w P A c l) {i : Nat} (hi' : i < l.length) : ∃ ad, A = some ad ∧ P ad.block ∧ w.cell? (ad.add i) = some (.int .u64 (dg l i : Int)) := by
  obtain ⟨⟨h1, h2, h3, h4⟩, h5⟩ := h
  obtain ⟨ad, rfl, hb, hc⟩ := h4 (by omega)
  exact ⟨ad, rfl, hb, hc _ _ (nts_get hi')⟩
/-- All cells at once, for a walk: under their bound. -/
theorem RN.cells {ad : Addr} (h : RN w P (some ad) c l) : ∀ i, i < l.length → w.cell? (ad.add i) = some (.int .u64 (dg l i : Int)) := by
  intro i hi
  obtain ⟨ad', e, _, hc⟩ := h.at_ hi
  cases e
  exact hc
theorem RN.lt (h : RN w P A c l) (i : Nat) : (dg l i : Int) < 18446744073709551616 := by have := h.2.dgLt i; omega
theorem Blk.cell (h : Blk w g l) {i : Nat} (hi : i < l.length) : w.cell? ⟨g, i, none⟩ = some (.int .u64 (dg l i : Int)) := by
  rw [blk_cell h i, List.getElem?_toArray, nts_get hi]
theorem Blk.free (h : Blk w g l) (i : Nat) : w.frozen? ⟨g, i, none⟩ = false := blk_free h i
theorem Blk.lt (h : Blk w g l) : g < w.heap.size := blk_lt h
theorem Blk.set (h : Blk w g l) (i : Nat) (x : Nat) : Blk (w.setCell ⟨g, i, none⟩ (.int .u64 (x : Int))) g (l.set i x) := by
  unfold Blk at *
  simp [World.setCell, Array.getElem?_modify, h, nts]
theorem Blk.below {B : Nat} (h : Blk w g l) (hb : Below B w w') (hg : g < B) : Blk w' g l := (hb.block g hg).trans h
theorem Blk.drewN (h : Blk w g l) (n : Nat) : Blk (w.drewN n) g l := h
theorem Blk.other (h : Blk w g l) {p : Addr} (hp : g ≠ p.block) (v : Value) : Blk (w.setCell p v) g l := (Below.heap_setCell w p v g hp).trans h
theorem Blk.alloc (h : Blk w g l) (o : Obj) : Blk (w.alloc o) g l := (Below.heap_alloc w o g (blk_lt h)).trans h
theorem Blk.made (w : World) (n : Nat) : Blk (w.alloc (.cells (madeCells #[.int .u64 0] n) 72)) w.heap.size (List.replicate n 0) := by
  unfold Blk
  rw [heap_alloc_new]
  congr 1
  congr 1
  apply Array.ext_getElem?
  intro i
  by_cases hi : i < n
  · have hs : i < (madeCells #[Value.int .u64 0] n).size := by rw [size_madeCells]; simpa using hi
    rw [Array.getElem?_eq_getElem hs]
    simp [madeCells, nts, hi, Nat.mod_one]
  · rw [Array.getElem?_eq_none (by rw [size_madeCells]; omega), Array.getElem?_eq_none (by simp [nts]; omega)]
theorem OB.rn (h : OB w base A c l) : RN w (In base w.heap.size) A c l := by
  obtain ⟨h1, h2, h3, h4⟩ := h
  refine ⟨⟨h2, h3, by simp [nts], fun hn => ?_⟩, h1⟩
  obtain ⟨g, cur, rfl, hg, hh, hc⟩ := h4 hn
  refine ⟨_, rfl, ⟨hg, blk_lt hh⟩, fun j u hu => ?_⟩
  have := blk_cell hh j
  rw [hc j u hu] at this
  rw [add_blk]
  exact this
theorem OB.nil_ (w : World) (base : Nat) : OB w base none 0 [] := ⟨Lim.nil_, Nat.le_refl _, by unfold maxLen; omega, fun h => absurd h (by simp)⟩
theorem OB.below {B : Nat} (h : OB w base A c l) (hb : Below B w w') (hB : w.heap.size ≤ B) : OB w' base A c l := by
  obtain ⟨h1, h2, h3, h4⟩ := h
  refine ⟨h1, h2, h3, fun hn => ?_⟩
  obtain ⟨g, cur, rfl, hg, hh, hc⟩ := h4 hn
  exact ⟨g, cur, rfl, hg, (hb.block g (Nat.lt_of_lt_of_le (blk_lt hh) hB)).trans hh, hc⟩
theorem OB.drewN (h : OB w base A c l) (n : Nat) : OB (w.drewN n) base A c l := h
theorem OB.mono {base' : Nat} (h : OB w base A c l) (hb : base' ≤ base) : OB w base' A c l := by
  obtain ⟨h1, h2, h3, h4⟩ := h
  refine ⟨h1, h2, h3, fun hn => ?_⟩
  obtain ⟨g, cur, e, hg, hh, hc⟩ := h4 hn
  exact ⟨g, cur, e, by omega, hh, hc⟩
theorem OB.cap (h : OB w base A c l) : l.length ≤ c ∧ c ≤ 9223372036854775807 ∧ l.length ≤ 1000000 := ⟨h.2.1, h.2.2.1, h.1.2⟩
theorem OB.take (h : OB w base A c l) (n : Nat) : OB w base A c (l.take n) := by
  obtain ⟨h1, h2, h3, h4⟩ := h
  refine ⟨h1.take n, by rw [List.length_take]; omega, h3, fun hn => ?_⟩
  obtain ⟨g, cur, e, hg, hh, hc⟩ := h4 (by rw [List.length_take] at hn; omega)
  refine ⟨g, cur, e, hg, hh, fun j u hu => hc j u ?_⟩
  rw [← nts_take, List.getElem?_take] at hu
  split at hu
  · exact hu
  · cases hu
theorem OB.of_blk (h : Blk w g l) (hg : base ≤ g) (hl : Lim l) {c : Nat} (hc : l.length ≤ c) (hc' : c ≤ maxLen) : OB w base (some ⟨g, 0, none⟩) c l :=
  ⟨hl, hc, hc', fun _ => ⟨g, _, rfl, hg, h, fun j u hu => by rw [List.getElem?_toArray]; exact hu⟩⟩
theorem OB.of_own (h : w.ownsRow base 72 1 (.slice A l.length c) l.length (nts l)) (hl : Lim l) : OB w base A c l := by
  obtain ⟨h0, ⟨e1, e2⟩ | ⟨g, cap, cur, e1, hg, hh, h5, h6, h7, h8⟩⟩ := h
  · injection e1 with e1 e3 e4
    have : l = [] := List.eq_nil_of_length_eq_zero e2
    subst e1 e4 this
    exact OB.nil_ w base
  · injection e1 with e1 e2 e3
    subst e1 e3
    refine ⟨hl, h5, h6, fun _ => ⟨g, cur, rfl, hg, hh, fun j u hu => ?_⟩⟩
    rw [← h8, List.getElem?_take] at hu
    split at hu
    · rwa [Array.getElem?_toList] at hu
    · cases hu
end

theorem info64 : (Try.prog.info? 72).map (fun i => (i.zero, i.size, i.bytes)) = some (some (.int .u64 0), 1, 8) := by kernel_rfl
end Go.Proofs.Ytldhmjfjbalakaa

namespace Go.Proofs.Ytldhmjfjbalakaa
open Go.RowKit

/-- How far the noughts at the end are cut, so far. -/
def CutAt (l : List Nat) (k : Nat) : Prop := k ≤ l.length ∧ ∀ x ∈ l.drop k, x = 0
theorem CutAt.zero (l : List Nat) : CutAt l l.length := ⟨Nat.le_refl _, by simp⟩
theorem CutAt.step {l : List Nat} {k : Nat} (h : CutAt l (k + 1)) (h0 : dg l k = 0) : CutAt l k := by
  obtain ⟨h1, h2⟩ := h
  refine ⟨by omega, fun x hx => ?_⟩
  rw [List.drop_eq_getElem_cons (by omega : k < l.length)] at hx
  rcases List.mem_cons.1 hx with rfl | hx
  · rwa [getD_eq (by omega)] at h0
  · exact h2 x hx
theorem CutAt.fin {B : Nat} (hB : 2 ≤ B) {l : List Nat} (hl : ∀ x ∈ l, x < B) {k : Nat} (h : CutAt l k) (h0 : 0 < k → dg l (k - 1) ≠ 0) : l.take k = digs B (val B l) :=
  take_digs hB hl h.1 h.2 h0
theorem CutAt.len {B : Nat} (hB : 2 ≤ B) {l : List Nat} (hl : ∀ x ∈ l, x < B) {k : Nat} (h : CutAt l k) (h0 : 0 < k → dg l (k - 1) ≠ 0) : (digs B (val B l)).length = k := by
  rw [← h.fin hB hl h0, List.length_take, Nat.min_eq_left h.1]

set_option maxHeartbeats 400000 in
theorem trim_any (P : Nat → Prop) (A : Option Addr) (c : Nat) (l : List Nat) (w : World) (h : RN w P A c l) :
    Calls Try.prog 77 #[.slice A l.length c] w fun e w' => e = .returned (.slice A (digs 18446744073709551616 (val 18446744073709551616 l)).length c) ∧ w = w' := by
  obtain ⟨h1, h2, h3⟩ := h.cap
  go_enter Try.func77, Try.ntmps77
  go_wp2
  go_loop [3] (fun n => ∃ k : Nat, CutAt l k ∧ n = .int .i64 k) (fun n => (intOf n).toNat)
  case atStart => exact ⟨l.length, CutAt.zero l, rfl⟩
  case round =>
    obtain ⟨k, hk, rfl⟩ := hrel
    rcases k with _ | k
    · have hl := Lib.hid (hk.len (B := 18446744073709551616) (by omega) h.2.1 (by omega))
      go_wp2
      go_ret
      rw [hl.out]
      exact ⟨rfl, rfl⟩
    · obtain ⟨ad, rfl, _, hc⟩ := h.at_ (i := k) (by have := hk.1; omega)
      have hkl := hk.1
      by_cases h0 : dg l k = 0
      · rw [h0] at hc
        have hk' := hk.step h0
        clear hk h0
        go_wp2
        go_round
        case rel => exact ⟨k, hk', by go_num⟩
        case measure => simp [intOf]
      · have hl := Lib.hid (hk.len (B := 18446744073709551616) (by omega) h.2.1 (fun _ => h0))
        have h0' : (((dg l k : Nat) : Int) == 0) = false := eqB (by omega)
        clear h0
        go_wp2
        go_ret
        rw [hl.out]
        exact ⟨rfl, rfl⟩

/-- What is read of a cut slice. -/
theorem RN.trim {w : World} {P : Nat → Prop} {A : Option Addr} {c : Nat} {l : List Nat} (h : RN w P A c l) : RN w P A c (digs 18446744073709551616 (val 18446744073709551616 l)) := by
  obtain ⟨n, _, e⟩ := h.2.trim
  rw [e]
  exact h.take n
theorem OB.trim {w : World} {base : Nat} {A : Option Addr} {c : Nat} {l : List Nat} (h : OB w base A c l) : OB w base A c (digs 18446744073709551616 (val 18446744073709551616 l)) := by
  obtain ⟨n, _, e⟩ := h.1.trim
  rw [e]
  exact h.take n

/-- Digits to the base 2^32. -/
def Dig (l : List Nat) : Prop := ∀ x ∈ l, x < 4294967296
theorem Dig.cut {l : List Nat} (h : Dig l) : ∃ n, n ≤ l.length ∧ l.take n = digs 4294967296 (val 4294967296 l) := by
  have : ∀ k, k ≤ l.length → (∀ x ∈ l.drop k, x = 0) → ∃ n, n ≤ l.length ∧ (∀ x ∈ l.drop n, x = 0) ∧ (0 < n → l.getD (n - 1) 0 ≠ 0) := by
    intro k
    induction k with
    | zero => intro _ hz; exact ⟨0, by omega, hz, by omega⟩
    | succ k ih =>
      intro hk hz
      by_cases h : l.getD k 0 = 0
      · refine ih (by omega) fun x hx => ?_
        rw [List.drop_eq_getElem_cons (by omega : k < l.length)] at hx
        rcases List.mem_cons.1 hx with rfl | hx
        · rwa [show l.getD k 0 = l[k] from getD_eq (by omega)] at h
        · exact hz x hx
      · exact ⟨k + 1, hk, hz, fun _ => by simpa using h⟩
  obtain ⟨n, hn, hz, h0⟩ := this l.length (Nat.le_refl _) (by simp)
  exact ⟨n, hn, take_digs (by omega) h hn hz h0⟩
theorem RS.recap {w : World} {P : Nat → Prop} {size : Nat} {A : Option Addr} {n c c' : Nat} {cs : List Value} (h : RS w P size A n c cs) (hc : n ≤ c') (hc' : c' ≤ maxLen) : RS w P size A n c' cs := ⟨hc, hc', h.2.2⟩
theorem RN.trim32 {w : World} {P : Nat → Prop} {A : Option Addr} {c : Nat} {l : List Nat} (h : RN w P A c l) (hl : Dig l) : RN w P A (digs 4294967296 (val 4294967296 l)).length (digs 4294967296 (val 4294967296 l)) := by
  obtain ⟨n, _, e⟩ := hl.cut
  rw [← e]
  have := h.take n
  exact ⟨this.1.recap (Nat.le_refl _) (by have := this.cap; unfold maxLen; omega), this.2⟩
theorem RN.recap {w : World} {P : Nat → Prop} {A : Option Addr} {c c' : Nat} {l : List Nat} (h : RN w P A c l) (hc : l.length ≤ c') (hc' : c' ≤ maxLen) : RN w P A c' l := ⟨h.1.recap hc hc', h.2⟩

set_option maxHeartbeats 400000 in
theorem refTrim_any (P : Nat → Prop) (A : Option Addr) (c : Nat) (l : List Nat) (w : World) (h : RN w P A c l) (hd : Dig l) :
    Calls Try.prog 60 #[.slice A l.length c] w fun e w' => e = .returned (.slice A (digs 4294967296 (val 4294967296 l)).length (digs 4294967296 (val 4294967296 l)).length) ∧ w = w' := by
  obtain ⟨h1, h2, h3⟩ := h.cap
  go_enter Try.func60, Try.ntmps60
  go_wp2
  go_loop [3] (fun n => ∃ k : Nat, CutAt l k ∧ n = .int .i64 k) (fun n => (intOf n).toNat)
  case atStart => exact ⟨l.length, CutAt.zero l, rfl⟩
  case round =>
    obtain ⟨k, hk, rfl⟩ := hrel
    rcases k with _ | k
    · have hl := Lib.hid (hk.len (B := 4294967296) (by omega) hd (by omega))
      go_wp2
      go_ret
      rw [hl.out]
      exact ⟨rfl, rfl⟩
    · obtain ⟨ad, rfl, _, hc⟩ := h.at_ (i := k) (by have := hk.1; omega)
      have hkl := hk.1
      by_cases h0 : dg l k = 0
      · rw [h0] at hc
        have hk' := hk.step h0
        clear hk h0
        go_wp2
        go_round
        case rel => exact ⟨k, hk', by go_num⟩
        case measure => simp [intOf]
      · have hl := Lib.hid (hk.len (B := 4294967296) (by omega) hd (fun _ => h0))
        have h0' : (((dg l k : Nat) : Int) == 0) = false := eqB (by omega)
        clear h0
        go_wp2
        go_ret
        rw [hl.out]
        exact ⟨rfl, rfl⟩

set_option maxHeartbeats 400000 in
theorem made_any (P : Nat → Prop) (A : Option Addr) (c : Nat) (l : List Nat) (w : World) (h : RN w P A c l) :
    Calls Try.prog 80 #[.slice A l.length c] w fun e w' => ∃ A' c', e = .returned (.slice A' (digs 18446744073709551616 (val 18446744073709551616 l)).length c') ∧ OB w' w.heap.size A' c' (digs 18446744073709551616 (val 18446744073709551616 l)) ∧ Below w.heap.size w w' := by
  obtain ⟨i0, hi, hz0, hz1, hz2⟩ := info_parts info64
  have ht := h.trim
  obtain ⟨n, _, e⟩ := h.2.trim
  have hcap := ht.cap
  obtain ⟨d, hd⟩ : ∃ d, digs 18446744073709551616 (val 18446744073709551616 l) = d := ⟨_, rfl⟩
  have Htr := Lib.hid (trim_any P A c l w h)
  rw [hd] at ht hcap Htr ⊢
  obtain ⟨h1, h2, h3⟩ := hcap
  clear hd e
  go_enter Try.func80, Try.ntmps80
  go_wp2_with fail
  refine Htr.out.mono ?_
  rintro e w1 ⟨rfl, rfl⟩
  go_wp2_with (at_builtin; refine wpList_append_rs _ rfl _ _ 23 rfl w.heap.size 72 i0 (.int .u64 0) 1 8 Try.underlying23 hi hz0 hz1 hz2 rfl (by decide) _ 0 [] rfl (World.ownsRow_nil _ _ _ _) P A d.length c (nts d) rfl ht.1 (oneCell_nts d) d.length (by omega) (by unfold maxLen; omega) (by omega) (Nat.le_refl _) ?_)
  intro A' c' w1 hown hgrow hblk
  go_wp2
  go_ret
  exact ⟨A', c', rfl, OB.of_own (by simpa using hown) ht.2, (Below.refl _ w).grown hgrow (Nat.le_refl _) (by intro k hk; simp [Value.ownBlock] at hk)⟩

set_option maxHeartbeats 400000 in
theorem norm_any (P : Nat → Prop) (A : Option Addr) (c : Nat) (l : List Nat) (w : World) (h : RN w P A c l) :
    Calls Try.prog 68 #[.slice A l.length c] w fun e w' => ∃ A' c', e = .returned (.slice A' (digs 18446744073709551616 (val 18446744073709551616 l)).length c') ∧ OB w' w.heap.size A' c' (digs 18446744073709551616 (val 18446744073709551616 l)) ∧ Below w.heap.size w w' := by
  go_enter Try.func68, Try.ntmps68
  go_wp2_with fail
  refine (made_any P A c l w h).mono ?_
  rintro e w1 ⟨A', c', rfl, hO, hB⟩
  go_wp2
  go_ret
  exact ⟨A', c', rfl, hO, hB⟩

set_option maxHeartbeats 400000 in
theorem of_any (x : Nat) (w : World) (hx : x < 18446744073709551616) :
    Calls Try.prog 71 #[.int .u64 (x : Int)] w fun e w' => ∃ A' c', e = .returned (.slice A' (digs 18446744073709551616 x).length c') ∧ OB w' w.heap.size A' c' (digs 18446744073709551616 x) ∧ Below w.heap.size w w' := by
  have hv : val 18446744073709551616 [x] = x := by simp
  have hm := fun P A c w => made_any P A c [x] w
  rw [hv] at hm
  have Hm := Lib.hid hm
  clear hm hv
  go_enter Try.func71, Try.ntmps71
  go_wp2_with fail
  refine (Hm.out (In w.heap.size (w.heap.size + 1)) _ _ _ ⟨RS.fresh #[.int .u64 (x : Int)] 72 1 1 rfl (by unfold maxLen; omega) ⟨Nat.le_refl _, by omega⟩, by simpa [Lim] using hx⟩).mono ?_
  rintro e w1 ⟨A', c', rfl, hO, hB⟩
  go_wp2
  go_ret
  exact ⟨A', c', rfl, hO.mono (by simp), ((Below.refl _ w).alloc (Nat.le_refl _) _).trans (hB.mono (by simp))⟩
end Go.Proofs.Ytldhmjfjbalakaa

namespace Go.Proofs.Ytldhmjfjbalakaa
open Go.RowKit

/-- The order of two numbers. -/
def cmpV (x y : Nat) : Int := if x < y then -1 else if x = y then 0 else 1
theorem cmpV_lt {x y : Nat} (h : x < y) : cmpV x y = -1 := by simp [cmpV, h]
theorem cmpV_gt {x y : Nat} (h : y < x) : cmpV x y = 1 := by simp [cmpV, show ¬ x < y by omega, show ¬ x = y by omega]
theorem cmpV_eq (x : Nat) : cmpV x x = 0 := by simp [cmpV]
theorem cmpV_cases (x y : Nat) : (x < y ∧ cmpV x y = -1) ∨ (x = y ∧ cmpV x y = 0) ∨ (y < x ∧ cmpV x y = 1) := by
  rcases Nat.lt_trichotomy x y with h | h | h
  · exact .inl ⟨h, cmpV_lt h⟩
  · exact .inr (.inl ⟨h, by rw [h]; exact cmpV_eq y⟩)
  · exact .inr (.inr ⟨h, cmpV_gt h⟩)

/-- From place k on the two have equal digits; i is the place below. -/
def CmpAt (l m : List Nat) (k : Nat) (i : Int) : Prop := k ≤ l.length ∧ l.drop k = m.drop k ∧ ((k = 0 ∧ i = -1) ∨ ∃ j : Nat, k = j + 1 ∧ i = (j : Int))
theorem CmpAt.start {l m : List Nat} (h : l.length = m.length) : CmpAt l m l.length ((l.length : Int) - 1) := by
  refine ⟨Nat.le_refl _, by rw [List.drop_length, h, List.drop_length], ?_⟩
  rcases hl : l.length with _ | n
  · exact .inl ⟨rfl, by simp⟩
  · exact .inr ⟨n, rfl, by omega⟩
theorem CmpAt.step {l m : List Nat} {j : Nat} {i : Int} (h : CmpAt l m (j + 1) i) (hl : l.length = m.length) (he : dg l j = dg m j) : CmpAt l m j ((j : Int) - 1) := by
  obtain ⟨h1, h2, _⟩ := h
  refine ⟨by omega, ?_, ?_⟩
  · rw [List.drop_eq_getElem_cons (by omega : j < l.length), List.drop_eq_getElem_cons (by omega : j < m.length), h2]
    rw [dg, dg, getD_eq' (by omega), getD_eq' (by omega)] at he
    rw [he]
  · rcases j with _ | j
    · exact .inl ⟨rfl, by simp⟩
    · exact .inr ⟨j, rfl, by omega⟩
theorem CmpAt.done {l m : List Nat} {i : Int} (h : CmpAt l m 0 i) : l = m := by simpa using h.2.1
theorem CmpAt.lt {B : Nat} {l m : List Nat} {j : Nat} {i : Int} (h : CmpAt l m (j + 1) i) (hl : l.length = m.length) (hB : ∀ x ∈ l, x < B) (hd : dg l j < dg m j) : val B l < val B m := by
  obtain ⟨h1, h2, _⟩ := h
  refine val_lt_of hB hl (i := j) (by omega) h2 ?_
  rwa [dg, dg, getD_eq' (by omega), getD_eq' (by omega)] at hd
theorem CmpAt.gt {B : Nat} {l m : List Nat} {j : Nat} {i : Int} (h : CmpAt l m (j + 1) i) (hl : l.length = m.length) (hB : ∀ x ∈ m, x < B) (hd : dg m j < dg l j) : val B m < val B l := by
  obtain ⟨h1, h2, _⟩ := h
  refine val_lt_of hB hl.symm (i := j) (by omega) h2.symm ?_
  rwa [dg, dg, getD_eq' (by omega), getD_eq' (by omega)] at hd

set_option maxHeartbeats 1000000 in
theorem refCmp_any (P P' : Nat → Prop) (A A' : Option Addr) (c c' : Nat) (x y : Nat) (w : World) (h : RN w P A c (digs 4294967296 x)) (h' : RN w P' A' c' (digs 4294967296 y)) :
    Calls Try.prog 51 #[.slice A (digs 4294967296 x).length c, .slice A' (digs 4294967296 y).length c'] w fun e w' => e = .returned (.int .i64 (cmpV x y)) ∧ ∃ n, w' = w.drewN n := by
  have hx := val_digs (B := 4294967296) (by omega) x
  have hy := val_digs (B := 4294967296) (by omega) y
  have bx := digs_lt (B := 4294967296) (by omega) x
  have byy := digs_lt (B := 4294967296) (by omega) y
  have hlt := lt_of_digs_length (B := 4294967296) (m := x) (n := y) (by omega)
  have hgt := lt_of_digs_length (B := 4294967296) (m := y) (n := x) (by omega)
  generalize digs 4294967296 x = l at *
  generalize digs 4294967296 y = m at *
  obtain ⟨h1, h2, h3⟩ := h.cap
  obtain ⟨g1, g2, g3⟩ := h'.cap
  have Hx := Lib.hid hx
  have Hy := Lib.hid hy
  clear hx hy
  by_cases hl : l.length = m.length
  · have hs := CmpAt.start hl
    have Hl := Lib.hid hl
    have hl1 : ((l.length : Int) != (m.length : Int)) = false := by simp [hl]
    clear hl hlt hgt
    have Hs := Lib.hid hs
    clear hs
    go_enter Try.func51, Try.ntmps51
    go_wp2
    go_loopw [5] (fun i wr => ∃ (k n : Nat) (z : Int), CmpAt l m k z ∧ i = .int .i64 z ∧ wr = w.drewN n) (fun i _ => (intOf i + 1).toNat)
    case atStart => exact ⟨l.length, 0, _, Hs.out, rfl, rfl⟩
    case round =>
      obtain ⟨k, n, z, hk, rfl, rfl⟩ := hrel
      obtain ⟨hk1, hk2, ⟨rfl, rfl⟩ | ⟨j, rfl, rfl⟩⟩ := hk
      · have he : l = m := by simpa using hk2
        have hxy : x = y := by rw [← Hx.out, ← Hy.out, he]
        have hc := Lib.hid (show cmpV x y = 0 by rw [hxy]; exact cmpV_eq y)
        clear he hxy hk2
        go_wp2
        go_ret
        rw [hc.out]
        exact ⟨rfl, n, rfl⟩
      · have hlm := Hl.out
        obtain ⟨ad, rfl, _, q1⟩ := h.at_ (i := j) (by omega)
        obtain ⟨ae, rfl, _, q2⟩ := h'.at_ (i := j) (by omega)
        have hj1 : (j : Int) < (l.length : Int) := by omega
        have hj2 : (j : Int) < (m.length : Int) := by omega
        have hkk : CmpAt l m (j + 1) (j : Int) := ⟨hk1, hk2, .inr ⟨j, rfl, rfl⟩⟩
        rcases Nat.lt_trichotomy (dg l j) (dg m j) with hd | hd | hd
        · have hv := hkk.lt hlm bx hd
          rw [Hx.out, Hy.out] at hv
          have hc := Lib.hid (cmpV_lt hv)
          have hd1 : decide (dg l j < dg m j) = true := by simpa using hd
          clear hkk hk1 hk2 hlm hd hv
          go_wp2
          go_quiet (fail)
          go_wp2
          go_ret
          rw [hc.out]
          exact ⟨rfl, by first | exact dr2 _ _ _ | exact dr1 _ _⟩
        · have hkk' := hkk.step hlm hd
          rw [← hd] at q2
          clear hkk hk1 hk2 hlm hd
          go_wp2
          go_quiet (fail)
          go_wp2
          go_quiet (fail)
          go_wp2
          go_roundw
          case rel => exact ⟨j, _, _, hkk', rfl, by first | rfl | exact drewN_3 _ _ _ _⟩
          case measure => simp [intOf]
        · have hv := hkk.gt hlm byy hd
          rw [Hx.out, Hy.out] at hv
          have hc := Lib.hid (cmpV_gt hv)
          have hd1 : decide (dg l j < dg m j) = false := by simp; omega
          have hd2 : decide (dg m j < dg l j) = true := by simpa using hd
          clear hkk hk1 hk2 hlm hd hv
          go_wp2
          go_quiet (fail)
          go_wp2
          go_quiet (fail)
          go_wp2
          go_ret
          rw [hc.out]
          exact ⟨rfl, by first | exact dr3 _ _ _ _ | exact dr1 _ _⟩
  · have hl1 : ((l.length : Int) != (m.length : Int)) = true := neB (by omega)
    rcases Nat.lt_or_ge l.length m.length with hd | hd
    · have hc := Lib.hid (cmpV_lt (hlt hd))
      clear hl hlt hgt
      go_enter Try.func51, Try.ntmps51
      go_wp2
      go_ret
      rw [hc.out]
      exact ⟨rfl, 0, rfl⟩
    · have hc := Lib.hid (cmpV_gt (hgt (by omega)))
      clear hl hlt hgt
      go_enter Try.func51, Try.ntmps51
      go_wp2
      go_ret
      rw [hc.out]
      exact ⟨rfl, 0, rfl⟩

set_option maxHeartbeats 1000000 in
theorem cmp_any (P P' : Nat → Prop) (A A' : Option Addr) (c c' : Nat) (a b : List Nat) (w : World) (h : RN w P A c a) (h' : RN w P' A' c' b) :
    Calls Try.prog 72 #[.slice A a.length c, .slice A' b.length c'] w fun e w' => e = .returned (.int .i64 (cmpV (val 18446744073709551616 a) (val 18446744073709551616 b))) ∧ ∃ n, w' = w.drewN n := by
  have ta := Lib.hid (trim_any P A c a w h)
  have tb := Lib.hid (trim_any P' A' c' b w h')
  replace h := h.trim
  replace h' := h'.trim
  generalize val 18446744073709551616 a = x at *
  generalize val 18446744073709551616 b = y at *
  have hx := val_digs (B := 18446744073709551616) (by omega) x
  have hy := val_digs (B := 18446744073709551616) (by omega) y
  have bx := digs_lt (B := 18446744073709551616) (by omega) x
  have byy := digs_lt (B := 18446744073709551616) (by omega) y
  have hlt := lt_of_digs_length (B := 18446744073709551616) (m := x) (n := y) (by omega)
  have hgt := lt_of_digs_length (B := 18446744073709551616) (m := y) (n := x) (by omega)
  generalize digs 18446744073709551616 x = l at *
  generalize digs 18446744073709551616 y = m at *
  obtain ⟨h1, h2, h3⟩ := h.cap
  obtain ⟨g1, g2, g3⟩ := h'.cap
  have Hx := Lib.hid hx
  have Hy := Lib.hid hy
  clear hx hy
  by_cases hl : l.length = m.length
  · have hs := CmpAt.start hl
    have Hl := Lib.hid hl
    have hl1 : ((l.length : Int) != (m.length : Int)) = false := by simp [hl]
    clear hl hlt hgt
    have Hs := Lib.hid hs
    clear hs
    go_enter Try.func72, Try.ntmps72
    go_wp2_with fail
    refine ta.out.mono ?_
    rintro e w1 ⟨rfl, rfl⟩
    go_wp2_with fail
    refine tb.out.mono ?_
    rintro e w1 ⟨rfl, rfl⟩
    go_wp2
    go_loopw [5] (fun i wr => ∃ (k n : Nat) (z : Int), CmpAt l m k z ∧ i = .int .i64 z ∧ wr = w.drewN n) (fun i _ => (intOf i + 1).toNat)
    case atStart => exact ⟨l.length, 0, _, Hs.out, rfl, rfl⟩
    case round =>
      obtain ⟨k, n, z, hk, rfl, rfl⟩ := hrel
      obtain ⟨hk1, hk2, ⟨rfl, rfl⟩ | ⟨j, rfl, rfl⟩⟩ := hk
      · have he : l = m := by simpa using hk2
        have hxy : x = y := by rw [← Hx.out, ← Hy.out, he]
        have hc := Lib.hid (show cmpV x y = 0 by rw [hxy]; exact cmpV_eq y)
        clear he hxy hk2
        go_wp2
        go_ret
        rw [hc.out]
        exact ⟨rfl, n, rfl⟩
      · have hlm := Hl.out
        obtain ⟨ad, rfl, _, q1⟩ := h.at_ (i := j) (by omega)
        obtain ⟨ae, rfl, _, q2⟩ := h'.at_ (i := j) (by omega)
        have hj1 : (j : Int) < (l.length : Int) := by omega
        have hj2 : (j : Int) < (m.length : Int) := by omega
        have hkk : CmpAt l m (j + 1) (j : Int) := ⟨hk1, hk2, .inr ⟨j, rfl, rfl⟩⟩
        rcases Nat.lt_trichotomy (dg l j) (dg m j) with hd | hd | hd
        · have hv := hkk.lt hlm bx hd
          rw [Hx.out, Hy.out] at hv
          have hc := Lib.hid (cmpV_lt hv)
          have hd0 : (((dg l j : Nat) : Int) != ((dg m j : Nat) : Int)) = true := neB (by omega)
          have hd1 : decide (dg l j < dg m j) = true := by simpa using hd
          clear hkk hk1 hk2 hlm hd hv
          go_wp2
          go_quiet (fail)
          go_wp2
          go_quiet (fail)
          go_wp2
          go_ret
          rw [hc.out]
          exact ⟨rfl, by first | exact dr3 _ _ _ _ | exact dr1 _ _⟩
        · have hkk' := hkk.step hlm hd
          rw [← hd] at q2
          clear hkk hk1 hk2 hlm hd
          go_wp2
          go_quiet (fail)
          go_wp2
          go_roundw
          case rel => exact ⟨j, _, _, hkk', rfl, by first | rfl | exact drewN_add _ _ _⟩
          case measure => simp [intOf]
        · have hv := hkk.gt hlm byy hd
          rw [Hx.out, Hy.out] at hv
          have hc := Lib.hid (cmpV_gt hv)
          have hd0 : (((dg l j : Nat) : Int) != ((dg m j : Nat) : Int)) = true := neB (by omega)
          have hd1 : decide (dg l j < dg m j) = false := by simp; omega
          clear hkk hk1 hk2 hlm hd hv
          go_wp2
          go_quiet (fail)
          go_wp2
          go_quiet (fail)
          go_wp2
          go_ret
          rw [hc.out]
          exact ⟨rfl, by first | exact dr3 _ _ _ _ | exact dr1 _ _⟩
  · have hl1 : ((l.length : Int) != (m.length : Int)) = true := neB (by omega)
    rcases Nat.lt_or_ge l.length m.length with hd | hd
    · have hc := Lib.hid (cmpV_lt (hlt hd))
      clear hl hlt hgt
      go_enter Try.func72, Try.ntmps72
      go_wp2_with fail
      refine ta.out.mono ?_
      rintro e w1 ⟨rfl, rfl⟩
      go_wp2_with fail
      refine tb.out.mono ?_
      rintro e w1 ⟨rfl, rfl⟩
      go_wp2
      go_ret
      rw [hc.out]
      exact ⟨rfl, 0, rfl⟩
    · have hc := Lib.hid (cmpV_gt (hgt (by omega)))
      clear hl hlt hgt
      go_enter Try.func72, Try.ntmps72
      go_wp2_with fail
      refine ta.out.mono ?_
      rintro e w1 ⟨rfl, rfl⟩
      go_wp2_with fail
      refine tb.out.mono ?_
      rintro e w1 ⟨rfl, rfl⟩
      go_wp2
      go_ret
      rw [hc.out]
      exact ⟨rfl, 0, rfl⟩
end Go.Proofs.Ytldhmjfjbalakaa

namespace Go.Proofs.Ytldhmjfjbalakaa
open Go.RowKit

theorem add64_at (x y c s c' : Nat) (hc : c ≤ 1) (hs : s < 18446744073709551616) (he : s + 18446744073709551616 * c' = x + y + c) (w : World) :
    (callFunc 97 #[.int .u64 (x : Int), .int .u64 (y : Int), .int .u64 (c : Int)]).run Try.prog w = .ok (.value (.tuple #[.int .u64 (s : Int), .int .u64 (c' : Int)])) w := by
  rw [Try.add64_run x y c hc w, show (x + y + c) % 18446744073709551616 = s by omega, show (x + y + c) / 18446744073709551616 = c' by omega]
theorem sub64_at (x y c s c' : Nat) (hc : c ≤ 1) (hx : x < 18446744073709551616) (hy : y < 18446744073709551616) (hs : s < 18446744073709551616) (he : s + y + c = x + 18446744073709551616 * c') (hc' : c' ≤ 1) (w : World) :
    (callFunc 88 #[.int .u64 (x : Int), .int .u64 (y : Int), .int .u64 (c : Int)]).run Try.prog w = .ok (.value (.tuple #[.int .u64 (s : Int), .int .u64 (c' : Int)])) w := by
  rw [Try.sub64_run x y c hc w, show (x + 18446744073709551616 - y - c) % 18446744073709551616 = s by omega, show (if x < y + c then 1 else 0 : Nat) = c' by split <;> omega]
theorem carry_of (x y c : Nat) (hx : x < 18446744073709551616) (hy : y < 18446744073709551616) (hc : c ≤ 1) : ∃ s c', s < 18446744073709551616 ∧ c' ≤ 1 ∧ s + 18446744073709551616 * c' = x + y + c :=
  ⟨(x + y + c) % 18446744073709551616, (x + y + c) / 18446744073709551616, by omega, by omega, by omega⟩
theorem borrow_of (x y c : Nat) (hx : x < 18446744073709551616) (hy : y < 18446744073709551616) (hc : c ≤ 1) : ∃ s c', s < 18446744073709551616 ∧ c' ≤ 1 ∧ s + y + c = x + 18446744073709551616 * c' := by
  by_cases h : y + c ≤ x
  · exact ⟨x - y - c, 0, by omega, by omega, by omega⟩
  · exact ⟨x + 18446744073709551616 - y - c, 1, by omega, by omega, by omega⟩
theorem dg_none {l : List Nat} {k : Nat} (h : l.length ≤ k) : dg l k = 0 := by
  rw [dg, List.getD_eq_getElem?_getD, List.getElem?_eq_none h]; rfl


set_option maxRecDepth 100000 in
set_option maxHeartbeats 1000000 in
theorem sub_no (P P' : Nat → Prop) (A A' : Option Addr) (c c' : Nat) (a b : List Nat) (w : World) (h : RN w P A c a) (h' : RN w P' A' c' b) (hlt : val 18446744073709551616 a < val 18446744073709551616 b) :
    Calls Try.prog 66 #[.slice A a.length c, .slice A' b.length c'] w fun e w' => e = .returned (.tuple #[.slice none 0 0, .bool false]) ∧ ∃ n, w' = w.drewN n := by
  have ta := Lib.hid (trim_any P A c a w h)
  have tb := Lib.hid (trim_any P' A' c' b w h')
  have tc := cmp_any P P' A A' c c' _ _ w h.trim h'.trim
  rw [val_digs (by omega), val_digs (by omega), cmpV_lt hlt] at tc
  have Tc := Lib.hid tc
  clear tc h h' hlt
  go_enter Try.func66, Try.ntmps66
  go_wp2_with fail
  refine ta.out.mono ?_
  rintro e w1 ⟨rfl, rfl⟩
  go_wp2_with fail
  refine tb.out.mono ?_
  rintro e w1 ⟨rfl, rfl⟩
  go_wp2_with fail
  refine Tc.out.mono ?_
  rintro e w1 ⟨rfl, n, rfl⟩
  go_wp2
  go_ret2
  exact ⟨rfl, n, rfl⟩

set_option maxRecDepth 100000 in
set_option maxHeartbeats 1000000 in
theorem sub_yes (P P' : Nat → Prop) (A A' : Option Addr) (c c' : Nat) (a b : List Nat) (w : World) (h : RN w P A c a) (h' : RN w P' A' c' b) (hP : ∀ b, P b → b < w.heap.size) (hP' : ∀ b, P' b → b < w.heap.size) (hl : a.length < 100000)
    (hge : val 18446744073709551616 b ≤ val 18446744073709551616 a) :
    Calls Try.prog 66 #[.slice A a.length c, .slice A' b.length c'] w fun e w' => ∃ A1 c1, e = .returned (.tuple #[.slice A1 (digs 18446744073709551616 (val 18446744073709551616 a - val 18446744073709551616 b)).length c1, .bool true]) ∧
      OB w' w.heap.size A1 c1 (digs 18446744073709551616 (val 18446744073709551616 a - val 18446744073709551616 b)) ∧ Below w.heap.size w w' := by
  have ta := Lib.hid (trim_any P A c a w h)
  have tb := Lib.hid (trim_any P' A' c' b w h')
  have tc := cmp_any P P' A A' c c' _ _ w h.trim h'.trim
  rw [val_digs (by omega), val_digs (by omega)] at tc
  have la := digs_length_le (B := 18446744073709551616) (by omega) h.2.1
  have hml := digs_length_mono (B := 18446744073709551616) (by omega) hge
  replace h := h.trim
  replace h' := h'.trim
  generalize val 18446744073709551616 a = x at *
  generalize val 18446744073709551616 b = y at *
  have hx := val_digs (B := 18446744073709551616) (by omega) x
  have hy := val_digs (B := 18446744073709551616) (by omega) y
  generalize digs 18446744073709551616 x = l at *
  generalize digs 18446744073709551616 y = m at *
  have hlen : l.length < 100000 := by omega
  clear la hl
  have hge' : val 18446744073709551616 m ≤ val 18446744073709551616 l := by rw [hx, hy]; exact hge
  have Hv := Lib.hid (show val 18446744073709551616 l - val 18446744073709551616 m = x - y by rw [hx, hy])
  have hcv : 0 ≤ cmpV x y := by rcases cmpV_cases x y with h | h | h <;> omega
  generalize cmpV x y = v at tc hcv
  have Tc := Lib.hid tc
  have Hge := Lib.hid hge'
  clear hx hy tc hge hge'
  obtain ⟨h1, h2, h3⟩ := h.cap
  obtain ⟨g1, g2, g3⟩ := h'.cap
  go_enter Try.func66, Try.ntmps66
  go_wp2_with fail
  refine ta.out.mono ?_
  rintro e w1 ⟨rfl, rfl⟩
  go_wp2_with fail
  refine tb.out.mono ?_
  rintro e w1 ⟨rfl, rfl⟩
  go_wp2_with fail
  refine Tc.out.mono ?_
  rintro e w1 ⟨rfl, n, rfl⟩
  have hmk := run_make_row' (P := Try.prog) 23 72 (.int .u64 0) 8 Try.underlying23 info64 rfl .i64 .i64 l.length (by omega) (by omega)
  go_wp2
  go_loopw [7, 23] (fun cv iv wr => ∃ (k cr : Nat) (o : List Nat), iv = .int .i64 (k : Int) ∧ cv = .int .u64 (cr : Int) ∧ k ≤ l.length ∧ cr ≤ 1 ∧ SubAt 18446744073709551616 l m o k cr ∧ Hid (o.length = l.length) ∧ Lim o ∧ Blk wr w.heap.size o ∧ Below w.heap.size w wr) (fun _ iv _ => l.length - (intOf iv).toNat)
  case atStart => exact ⟨0, 0, List.replicate l.length 0, rfl, rfl, by omega, by omega, SubAt.zero _ _ _ _, Lib.hid (by simp), ⟨by simp, by simp; omega⟩, Blk.made (w.drewN n) _, (below_drewN (Below.refl _ w) n).alloc (Nat.le_refl _) _⟩
  case round =>
    obtain ⟨k, cr, o, rfl, rfl, hk, hcr, hA, Ho, hLo, hblk, hB⟩ := hrel
    by_cases hlt : k < l.length
    · obtain ⟨ad, rfl, _, q1⟩ := (h.below hB hP).at_ hlt
      obtain ⟨s, cr', hs, hcr', he⟩ := borrow_of (dg l k) (dg m k) cr (h.2.dgLt k) (h'.2.dgLt k) hcr
      have hok : k < o.length := by have := Ho.out; omega
      have q3 := hblk.cell hok
      have q4 := hblk.free k
      have hA' := hA.step hok he
      have hblk' := hblk.set k s
      have hLo' := hLo.set k s hs
      have hB' := hB.setCell (p := ⟨w.heap.size, k, none⟩) (Nat.le_refl _) (.int .u64 (s : Int))
      have Ho' : Hid ((o.set k s).length = l.length) := Lib.hid (by rw [List.length_set]; exact Ho.out)
      have hl64 := h.2.dgLt k
      have hm64 := h'.2.dgLt k
      by_cases hm : k < m.length
      · obtain ⟨ae, rfl, _, q2⟩ := (h'.below hB hP').at_ hm
        have hsub := fun w => sub64_at (dg l k) (dg m k) cr s cr' hcr hl64 hm64 hs he hcr' w
        clear he hA hblk hLo hB hl64 hm64
        go_wp2
        go_roundw
        case rel => exact ⟨k + 1, cr', o.set k s, by go_num, rfl, by omega, hcr', hA', Ho', hLo', hblk', hB'⟩
        case measure => simp [intOf]; omega
      · have hsub := fun w => sub64_at (dg l k) 0 cr s cr' hcr hl64 (by omega) hs (by rw [dg_none (by omega : m.length ≤ k)] at he; exact he) hcr' w
        simp only [Int.cast_ofNat_Int] at hsub
        clear he hA hblk hLo hB hl64 hm64
        go_wp2
        go_roundw
        case rel => exact ⟨k + 1, cr', o.set k s, by go_num, rfl, by omega, hcr', hA', Ho', hLo', hblk', hB'⟩
        case measure => simp [intOf]; omega
    · obtain rfl : k = l.length := by omega
      have hfin := hA.fin Ho.out hLo.1 rfl hml Hge.out
      rw [Hv.out] at hfin
      have hOB : OB wr w.heap.size (some ⟨w.heap.size, 0, none⟩) l.length o := OB.of_blk hblk (Nat.le_refl _) hLo (by have := Ho.out; omega) (by unfold maxLen; omega)
      have ht := trim_any _ _ _ _ _ hOB.rn
      have hOB' := hOB.trim
      rw [hfin, Ho.out] at ht
      rw [hfin] at hOB'
      have Ht := Lib.hid ht
      clear hA hblk hLo ht hfin hOB
      go_wp2_with fail
      refine Ht.out.mono ?_
      rintro e w1 ⟨rfl, rfl⟩
      go_wp2
      go_ret2
      exact ⟨_, _, rfl, hOB', hB⟩
end Go.Proofs.Ytldhmjfjbalakaa
