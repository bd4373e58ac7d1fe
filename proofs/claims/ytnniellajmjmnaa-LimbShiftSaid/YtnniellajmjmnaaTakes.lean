/- What limb.takes and limb.gives compute. -/
import Derived.Test.YtnniellajmjmnaaGuess
namespace Go.Proofs.Ytnniellajmjmnaa
open Go.RowKit

/-- The block g begins with these limbs. -/
def Row (w : World) (g : Nat) (l : List Nat) : Prop := ∃ cur, w.heap[g]? = some (.cells cur 54 (0, 0)) ∧ ∀ (j : Nat) u, (nts l)[j]? = some u → cur[j]? = some u
section
variable {w w' w'' : World} {g f : Nat} {l : List Nat} {p : Addr}
theorem add_off (g f j : Nat) : (⟨g, f, none⟩ : Addr).add j = ⟨g, f + j, none⟩ := by
  rcases Nat.eq_zero_or_pos j with h | h
  · subst h; rfl
  · simp [Addr.add, Nat.pos_iff_ne_zero.1 h]
theorem Row.cell (h : Row w g l) (hp : p = ⟨g, f, none⟩) {j : Nat} (hj : f + j < l.length) : w.cell? (p.add j) = some (.int .u64 (dg l (f + j) : Int)) := by
  obtain ⟨cur, h1, h2⟩ := h
  rw [hp, add_off, blk_cell h1, h2 _ _ (nts_get hj)]
theorem Row.free (h : Row w g l) (hp : p = ⟨g, f, none⟩) (j : Nat) : w.frozen? (p.add j) = false := by
  obtain ⟨cur, h1, h2⟩ := h
  rw [hp, add_off, blk_free h1]
theorem Row.set (h : Row w g l) (hp : p = ⟨g, f, none⟩) (j x : Nat) : Row (w.setCell (p.add j) (.int .u64 (x : Int))) g (l.set (f + j) x) := by
  obtain ⟨cur, h1, h2⟩ := h
  rw [hp, add_off]
  refine ⟨cur.setIfInBounds (f + j) (.int .u64 (x : Int)), by simp [World.setCell, Array.getElem?_modify, h1], fun i u hu => ?_⟩
  rw [nts, List.map_set, List.getElem?_set] at hu
  rw [Array.getElem?_setIfInBounds]
  by_cases e : f + j = i
  · rw [if_pos e] at hu ⊢
    split at hu
    · rename_i hl
      have := h2 i _ (nts_get (by rw [← e]; simpa using hl))
      have hi := (Array.getElem?_eq_some_iff.1 this).1
      rw [if_pos (by omega)]
      exact hu
    · cases hu
  · rw [if_neg e] at hu ⊢
    exact h2 i u hu
theorem Row.lt (h : Row w g l) : g < w.heap.size := by obtain ⟨cur, h1, h2⟩ := h; exact blk_lt h1
theorem Row.drewN (h : Row w g l) (n : Nat) : Row (w.drewN n) g l := h
theorem Row.of_heap (h : Row w g l) (he : w'.heap[g]? = w.heap[g]?) : Row w' g l := by
  obtain ⟨cur, h1, h2⟩ := h
  exact ⟨cur, he.trans h1, h2⟩
theorem Row.below {B : Nat} (h : Row w g l) (hb : Below B w w') (hg : g < B) : Row w' g l := h.of_heap (hb.block g hg)
theorem Row.ob (h : Row w g l) {base c : Nat} (hg : base ≤ g) (hl : Lim l) (hc : l.length ≤ c) (hc' : c ≤ maxLen) : OB w base (some ⟨g, 0, none⟩) c l := by
  obtain ⟨cur, h1, h2⟩ := h
  exact ⟨hl, hc, hc', fun _ => ⟨g, cur, rfl, hg, h1, h2⟩⟩
theorem OB.row {base c : Nat} {A : Option Addr} (h : OB w base A c l) (h0 : 0 < l.length) : ∃ g, A = some ⟨g, 0, none⟩ ∧ base ≤ g ∧ Row w g l := by
  obtain ⟨h1, h2, h3, h4⟩ := h
  obtain ⟨g, cur, e, hg, h5, h6⟩ := h4 h0
  exact ⟨g, e, hg, cur, h5, h6⟩
theorem Row.blk (h : Blk w g l) : Row w g l := ⟨_, h, fun j u hu => by rw [List.getElem?_toArray]; exact hu⟩
/-- Nothing but the block g is touched. -/
structure Only (g : Nat) (w w' : World) : Prop where
  os : w'.os = w.os
  tape : w'.tape = w.tape
  output : w'.output = w.output
  size : w'.heap.size = w.heap.size
  block : ∀ k, k ≠ g → w'.heap[k]? = w.heap[k]?
theorem Only.refl (g : Nat) (w : World) : Only g w w := ⟨rfl, rfl, rfl, rfl, fun _ _ => rfl⟩
theorem Only.trans (h : Only g w w') (k : Only g w' w'') : Only g w w'' := ⟨k.os.trans h.os, k.tape.trans h.tape, k.output.trans h.output, k.size.trans h.size, fun i hi => (k.block i hi).trans (h.block i hi)⟩
theorem Only.setCell (h : Only g w w') (hp : p = ⟨g, f, none⟩) (j : Nat) (v : Value) : Only g w (w'.setCell (p.add j) v) := by
  have e : (p.add j).block = g := by rw [hp, add_off]
  refine ⟨h.os, h.tape, h.output, ?_, fun k hk => (Below.heap_setCell _ _ _ _ (by rw [e]; exact hk)).trans (h.block k hk)⟩
  have : (w'.setCell (p.add j) v).heap.size = w'.heap.size := by unfold World.setCell; split <;> simp
  exact this.trans h.size
theorem Only.drewN (h : Only g w w') (n : Nat) : Only g w (w'.drewN n) := ⟨h.os, h.tape, h.output, h.size, h.block⟩
theorem Only.below {B : Nat} (h : Only g w w') (hB : B ≤ g) : Below B w w' := ⟨h.os, h.tape, h.output, Nat.le_of_eq h.size.symm, fun k hk => h.block k (by omega)⟩
theorem RN.only {P : Nat → Prop} {A : Option Addr} {c : Nat} (h : RN w P A c l) (ho : Only g w w') (hP : ∀ b, P b → b ≠ g) : RN w' P A c l := h.keep fun q hq => World.cell?_of_block (w := w) (ho.block q.block (hP _ hq))
theorem Row.only {g' : Nat} (h : Row w g' l) (ho : Only g w w') (hg : g' ≠ g) : Row w' g' l := h.of_heap (ho.block g' hg)
end
theorem set_len {l : List Nat} {i x n : Nat} (h : l.length = n) : (l.set i x).length = n := by simpa using h
/-- What one round of 'takes' works out. -/
theorem takes_round (q v c x b : Nat) (hq : q < 18446744073709551616) (hv : v < 18446744073709551616) (hc : c < 18446744073709551616) (hx : x < 18446744073709551616) (hb : b ≤ 1) :
    ∃ hi lo s c1 t b' : Nat, lo < 18446744073709551616 ∧ lo + 18446744073709551616 * hi = q * v ∧ s < 18446744073709551616 ∧ s + 18446744073709551616 * c1 = lo + c + 0 ∧ hi + c1 < 18446744073709551616 ∧ s + 18446744073709551616 * (hi + c1) = q * v + c ∧
      t < 18446744073709551616 ∧ b' ≤ 1 ∧ t + s + b = x + 18446744073709551616 * b' := by
  have hm := mul_bound hq hv hc (show 0 < 18446744073709551616 by omega)
  refine ⟨q * v / 18446744073709551616, q * v % 18446744073709551616, (q * v % 18446744073709551616 + c) % 18446744073709551616, (q * v % 18446744073709551616 + c) / 18446744073709551616, ?_⟩
  obtain ⟨t, b', h1, h2, h3⟩ := borrow_of x ((q * v % 18446744073709551616 + c) % 18446744073709551616) b hx (Nat.mod_lt _ (by omega)) hb
  refine ⟨t, b', ?_⟩
  generalize q * v = p at *
  omega

set_option maxRecDepth 100000 in
set_option maxHeartbeats 2000000 in
theorem takes_any (g f : Nat) (p : Addr) (hp : p = ⟨g, f, none⟩) (P : Nat → Prop) (A : Option Addr) (c cx n q : Nat) (L y : List Nat) (w : World) (hr : Row w g L) (hL : Lim L) (h : RN w P A c y) (hP : ∀ b, P b → b ≠ g) (hn : y.length = n) (hf : f + n < L.length) (hq : q < 18446744073709551616) :
    Calls Try.prog 65 #[.slice (some p) (n + 1) cx, .slice A n c, .int .u64 (q : Int)] w fun e w' => ∃ (L' : List Nat) (b : Nat), e = .returned (.bool (decide (0 < b))) ∧ Row w' g L' ∧ Lim L' ∧ Only g w w' ∧
      L'.length = L.length ∧ val 18446744073709551616 L' + 18446744073709551616 ^ f * (q * val 18446744073709551616 y) = val 18446744073709551616 L + 18446744073709551616 ^ (f + n + 1) * b ∧ ∀ i, f + n + 1 ≤ i → dg L' i = dg L i := by
  obtain ⟨h1, h2, h3⟩ := h.cap
  have hn1 : n ≤ 1000000 := by omega
  have hnc : n ≤ c := by omega
  have Hp := Lib.hid hp
  clear hp h1 h2 h3
  go_enter Try.func65, Try.ntmps65
  go_wp2
  go_loopw [7, 8, 16] (fun cv bv iv wr => ∃ (j cr b : Nat) (l : List Nat), iv = .int .i64 (j : Int) ∧ cv = .int .u64 (cr : Int) ∧ bv = .int .u64 (b : Int) ∧ j ≤ n ∧ cr < 18446744073709551616 ∧ b ≤ 1 ∧ TakesAt 18446744073709551616 L y q f l j cr b ∧ Lim l ∧ Row wr g l ∧ Only g w wr) (fun _ _ iv _ => n - (intOf iv).toNat)
  case atStart => exact ⟨0, 0, 0, L, rfl, rfl, rfl, by omega, by omega, by omega, TakesAt.zero _ _ _ _ _, hL, hr, Only.refl _ _⟩
  case round =>
    obtain ⟨j, cr, b, l, rfl, rfl, rfl, hj, hcr, hb, hT, hl, hw, ho⟩ := hrel
    have hll := hT.1
    by_cases hlt : j < n
    · obtain ⟨ad, rfl, _, q1⟩ := (h.only ho hP).at_ (i := j) (by omega)
      obtain ⟨hi', lo, s, c1, t, b', b1, b2, b3, b4, b5, b6, b7, b8, b9⟩ := takes_round q (dg y j) cr (dg l (f + j)) b hq (h.2.dgLt j) hcr (hl.dgLt _) hb
      have hmul := Lib.hid (fun w => mul64_at q (dg y j) hi' lo hq (h.2.dgLt j) b1 b2 w)
      have hadd := fun w => add64_at lo cr 0 s c1 (by omega) b3 b4 w
      simp only [Int.cast_ofNat_Int] at hadd
      have hsub := fun w => sub64_at (dg l (f + j)) s b t b' hb (hl.dgLt _) b3 b7 b9 b8 w
      have q3 := hw.cell Hp.out (j := j) (by omega)
      have q4 := hw.free Hp.out j
      have hT' := hT.step (by omega) b6 b9
      have hw' := hw.set Hp.out j t
      have hl' := hl.set (f + j) t b7
      have ho' := ho.setCell Hp.out j (.int .u64 (t : Int))
      have k1 : (j : Int) < (n : Int) + 1 := by omega
      clear hT hl hw ho b1 b2 b3 b4 b6 b7 b9 hll hq hcr
      go_wp2_with fail
      refine (hmul.out _).mono ?_
      rintro e w1 ⟨rfl, rfl⟩
      go_wp2
      go_roundw
      case rel => exact ⟨j + 1, hi' + c1, b', l.set (f + j) t, by go_num, by go_num, rfl, by omega, b5, b8, hT', hl', hw', ho'⟩
      case measure => simp [intOf]; omega
    · obtain rfl : j = n := by omega
      obtain ⟨t, b', b7, b8, b9⟩ := borrow_of (dg l (f + j)) cr b (hl.dgLt _) hcr hb
      have hsub := fun w => sub64_at (dg l (f + j)) cr b t b' hb (hl.dgLt _) hcr b7 b9 b8 w
      have q3 := hw.cell Hp.out (j := j) (by omega)
      have q4 := hw.free Hp.out j
      have hT' := Lib.hid (hT.fin hn (by omega) b9)
      have hw' := hw.set Hp.out j t
      have hl' := hl.set (f + j) t b7
      have ho' := ho.setCell Hp.out j (.int .u64 (t : Int))
      have k1 : (j : Int) < (j : Int) + 1 := by omega
      clear hT hl hw ho b7 b9 hll hq hcr
      go_wp2
      go_ret
      exact ⟨l.set (f + j) t, b', by simp, hw', hl', ho', hT'.out⟩

set_option maxRecDepth 100000 in
set_option maxHeartbeats 2000000 in
theorem gives_any (g f : Nat) (p : Addr) (hp : p = ⟨g, f, none⟩) (P : Nat → Prop) (A : Option Addr) (c cx n : Nat) (L y : List Nat) (w : World) (hr : Row w g L) (hL : Lim L) (h : RN w P A c y) (hP : ∀ b, P b → b ≠ g) (hn : y.length = n) (hf : f + n < L.length) :
    Calls Try.prog 66 #[.slice (some p) (n + 1) cx, .slice A n c] w fun e w' => ∃ (L' : List Nat) (b : Nat), e = .returned (.tuple #[]) ∧ Row w' g L' ∧ Lim L' ∧ Only g w w' ∧
      L'.length = L.length ∧ val 18446744073709551616 L' + 18446744073709551616 ^ (f + n + 1) * b = val 18446744073709551616 L + 18446744073709551616 ^ f * val 18446744073709551616 y ∧ ∀ i, f + n + 1 ≤ i → dg L' i = dg L i := by
  obtain ⟨h1, h2, h3⟩ := h.cap
  have hn1 : n ≤ 1000000 := by omega
  have hnc : n ≤ c := by omega
  have Hp := Lib.hid hp
  clear hp h1 h2 h3
  go_enter Try.func66, Try.ntmps66
  go_wp2
  go_loopw [4, 9] (fun cv iv wr => ∃ (j cr : Nat) (l : List Nat), iv = .int .i64 (j : Int) ∧ cv = .int .u64 (cr : Int) ∧ j ≤ n ∧ cr ≤ 1 ∧ GivesAt 18446744073709551616 L y f l j cr ∧ Lim l ∧ Row wr g l ∧ Only g w wr) (fun _ iv _ => n - (intOf iv).toNat)
  case atStart => exact ⟨0, 0, L, rfl, rfl, by omega, by omega, GivesAt.zero _ _ _ _, hL, hr, Only.refl _ _⟩
  case round =>
    obtain ⟨j, cr, l, rfl, rfl, hj, hcr, hT, hl, hw, ho⟩ := hrel
    have hll := hT.1
    by_cases hlt : j < n
    · obtain ⟨ad, rfl, _, q1⟩ := (h.only ho hP).at_ (i := j) (by omega)
      obtain ⟨s, c', b7, b8, b9⟩ := carry_of (dg l (f + j)) (dg y j) cr (hl.dgLt _) (h.2.dgLt j) hcr
      have hadd := fun w => add64_at (dg l (f + j)) (dg y j) cr s c' hcr b7 b9 w
      have q3 := hw.cell Hp.out (j := j) (by omega)
      have q4 := hw.free Hp.out j
      have hT' := hT.step (by omega) b9
      have hw' := hw.set Hp.out j s
      have hl' := hl.set (f + j) s b7
      have ho' := ho.setCell Hp.out j (.int .u64 (s : Int))
      have k1 : (j : Int) < (n : Int) + 1 := by omega
      clear hT hl hw ho b7 b9 hll hcr
      go_wp2
      go_roundw
      case rel => exact ⟨j + 1, c', l.set (f + j) s, by go_num, rfl, by omega, b8, hT', hl', hw', ho'⟩
      case measure => simp [intOf]; omega
    · obtain rfl : j = n := by omega
      obtain ⟨t, b', b7, b8, b9⟩ := carry_of (dg l (f + j)) 0 cr (hl.dgLt _) (by omega) hcr
      have he : IntKind.u64.wrap ((dg l (f + j) : Int) + (cr : Int)) = (t : Int) := by
        have : (dg l (f + j) : Int) + (cr : Int) = (t : Int) + 18446744073709551616 * (b' : Int) := by omega
        rw [this]
        simp [IntKind.wrap, IntKind.bits, IntKind.signed]
        omega
      have q3 := hw.cell Hp.out (j := j) (by omega)
      have q4 := hw.free Hp.out j
      have hT' := Lib.hid (hT.fin hn (by omega) (x := t) (c' := b') (by omega))
      have hw' := hw.set Hp.out j t
      have hl' := hl.set (f + j) t b7
      have ho' := ho.setCell Hp.out j (.int .u64 (t : Int))
      have k1 : (j : Int) < (j : Int) + 1 := by omega
      clear hT hl hw ho b7 b9 hll hcr
      go_wp2
      go_end0
      exact ⟨l.set (f + j) t, b', rfl, hw', hl', ho', hT'.out⟩
end Go.Proofs.Ytnniellajmjmnaa
