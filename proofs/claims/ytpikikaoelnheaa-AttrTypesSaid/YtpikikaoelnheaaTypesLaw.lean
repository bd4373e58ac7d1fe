/- AttrTypes: the types that have a form come rising, as far as one likes: the walk of the law. -/
import Derived.Test.YtpikikaoelnheaaTypes
import Derived.Test.YtpikikaoelnheaaBegun
import Derived.Test.YtpikikaoelnheaaUp
import Derived.ControlIn
import Derived.Shelf.Abstract
namespace Go.Proofs.Ytpikikaoelnheaa
open Go.RowKit Go.Shelf

attribute [local go_sem] Oper.semAt_some

/-- One block alone has turned. -/
structure Only (g : Nat) (W W' : World) : Prop where
  os : W'.os = W.os
  tape : W'.tape = W.tape
  output : W'.output = W.output
  size : W'.heap.size = W.heap.size
  block : ∀ b, b ≠ g → W'.heap[b]? = W.heap[b]?
theorem Only.refl (g : Nat) (W : World) : Only g W W := ⟨rfl, rfl, rfl, rfl, fun _ _ => rfl⟩
theorem Only.set {g : Nat} {W W' : World} (h : Only g W W') (v : Value) : Only g W (W'.setCell ⟨g, 0, none⟩ v) :=
  ⟨h.os, h.tape, h.output, by simp [World.setCell, h.size], fun b hb => (Below.heap_setCell _ _ _ _ (by exact hb)).trans (h.block b hb)⟩
theorem Only.below {g B : Nat} {W W' : World} (h : Only g W W') (hB : B ≤ g) : Below B W W' := ⟨h.os, h.tape, h.output, Nat.le_of_eq h.size.symm, fun b hb => h.block b (by omega)⟩
theorem Only.keeps {g : Nat} {W W' : World} (h : Only g W W') {cs : Array Value} {t : TypeId} (hg : W.heap[g]? = some (.cells cs t (0, 0))) (B : Nat) : KeepsFrom B W W' :=
  ⟨Nat.le_of_eq h.size.symm, fun k o _ hk ho => (h.block k fun e => by subst e; rw [hg] at hk; cases hk; cases ho).trans hk⟩
theorem cells_kept {W W' : World} {row : Option Nat} {g : Nat} {cs : Array Value} {t : TypeId} (h : W.heap[g]? = some (.cells cs t (0, 0))) (hg : W.grownBy W' row) (hr : ∀ r, row = some r → ∃ o : Obj, W.heap[r]? = some o ∧ o.isCells = false) :
    W'.heap[g]? = some (.cells cs t (0, 0)) := (grownBy_keeps_cells hg hr h rfl).trans h

/-- The number in a box. -/
def numAt (w : World) (g : Nat) : Int := intOf ((w.cell? ⟨g, 0, none⟩).getD undef)
/-- The last type that came; below all, where none has. -/
def atv (k : Nat) : Int := if k = 0 then -1 else (tyAt (k - 1) : Int)
theorem tyAt_ok : ∀ n k, n ≤ 386 → k < cnt n → ∃ t, t < n ∧ formed t = true ∧ cnt t = k
  | 0, k, _, h => by simp [cnt, tysTo] at h
  | n + 1, k, hn, h => by
    by_cases hf : formed n = true
    · rw [cnt_yes hf] at h
      rcases Nat.lt_or_ge k (cnt n) with h1 | h1
      · obtain ⟨t, h2, h3, h4⟩ := tyAt_ok n k (by omega) h1
        exact ⟨t, by omega, h3, h4⟩
      · exact ⟨n, by omega, hf, by omega⟩
    · rw [cnt_no (by simpa using hf)] at h
      obtain ⟨t, h2, h3, h4⟩ := tyAt_ok n k (by omega) h
      exact ⟨t, by omega, h3, h4⟩
theorem tyAt_gap {k : Nat} (hk : k < cnt 386) : ∃ t : Nat, tyAt k = t ∧ t < 386 ∧ formOf (t : Int) ≠ 0 ∧ atv k < (t : Int) ∧ -1 ≤ atv k ∧ ∀ a : Nat, atv k < (a : Int) → a < t → formOf (a : Int) = 0 := by
  obtain ⟨t, h1, h2, h3⟩ := tyAt_ok 386 k (by omega) hk
  refine ⟨t, by rw [← h3]; exact tyAt_cnt h2 h1, h1, by simpa [formed] using h2, ?_⟩
  have hno : ∀ a : Nat, a < t → k ≤ cnt a → formOf (a : Int) = 0 := by
    intro a ha hc
    by_cases hf : formed a = true
    · have := cnt_yes hf
      have := cnt_mono (show a + 1 ≤ t by omega)
      omega
    · simpa [formed] using hf
  rcases Nat.eq_zero_or_pos k with h0 | h0
  · subst h0
    exact ⟨by simp [atv]; omega, by simp [atv], fun a _ ha => hno a ha (by omega)⟩
  · obtain ⟨p, p1, p2, p3⟩ := tyAt_ok 386 (k - 1) (by omega) (by omega)
    have hp : tyAt (k - 1) = p := by rw [← p3]; exact tyAt_cnt p2 p1
    have hpc := cnt_yes p2
    have hlt : p < t := by
      rcases Nat.lt_or_ge p t with h | h
      · exact h
      · have := cnt_mono h; omega
    rw [atv, if_neg (by omega), hp]
    exact ⟨by omega, by omega, fun a ha1 ha2 => hno a ha2 (by have := cnt_mono (show p + 1 ≤ a by omega); omega)⟩
theorem atv_last : atv (cnt 386) = 385 := by
  have h := cnt_yes (n := 385) (by decide)
  rw [atv, h, if_neg (by omega), Nat.add_sub_cancel, tyAt_cnt (by decide) (by omega)]
  rfl
theorem formOf_big {a : Nat} (h : 386 ≤ a) : formOf (a : Int) = 0 := by
  unfold formOf
  repeat rw [if_neg (by simp; omega)]
theorem atv_succ (k : Nat) : atv (k + 1) = (tyAt k : Int) := by simp [atv]

set_option maxRecDepth 100000 in
set_option maxHeartbeats 4000000 in
theorem attrTypes_any (most : Int) (w : World) :
    Calls Try.prog 7 #[.int .i64 most] w fun e w' => e = .returned (.bool true) ∧ Below w.heap.size w w' := by
  refine (callsIn_wide (n := 6)).1 ?_
  refine callsIn_of_wp_marks Try.func7 rfl trivial ?_ rfl
  simp only [Try.ntmps7, List.size_toArray, List.length_cons, List.length_nil, Nat.reduceAdd, Nat.reduceSub, Array.replicate_succ, Array.replicate_zero, List.push_toArray, List.append_toArray, List.nil_append, List.cons_append]
  gi_wp2
  have hw0 : Below w.heap.size w ((w.alloc (.cells #[.int .i64 most] 3)).alloc (.cells #[.bool false] 4)) := ((Below.refl _ w).alloc (Nat.le_refl _) _).alloc (by simp) _
  have hm0 : ((w.alloc (.cells #[.int .i64 most] 3)).alloc (.cells #[.bool false] 4)).heap[w.heap.size]? = some (.cells #[.int .i64 most] 3 (0, 0)) := (Below.heap_alloc _ _ _ (by simp)).trans (heap_alloc_new w _)
  have hr0 : ((w.alloc (.cells #[.int .i64 most] 3)).alloc (.cells #[.bool false] 4)).heap[w.heap.size + 1]? = some (.cells #[.bool false] 4 (0, 0)) := by
    have := heap_alloc_new (w.alloc (.cells #[.int .i64 most] 3)) (.cells #[.bool false] 4)
    simpa using this
  obtain ⟨W0, hW0⟩ : ∃ W0, (w.alloc (.cells #[.int .i64 most] 3)).alloc (.cells #[.bool false] 4) = W0 := ⟨_, rfl⟩
  rw [hW0] at hw0 hm0 hr0 ⊢
  clear hW0
  refine ⟨trivial, (callsIn_wide.2 (begun_any W0)).mono ?_⟩
  rintro e w1 ⟨rfl, hB1⟩
  have hm1 := (hB1.block _ (blk_lt hm0)).trans hm0
  have hr1 := (hB1.block _ (blk_lt hr0)).trans hr0
  have hw1 := hw0.trans (hB1.mono hw0.size)
  clear hm0 hr0 hw0 hB1
  gi_wp2
  have hb2 := heap_alloc_new w1 (.cells #[.bool true] 4)
  have hm2 := (Below.heap_alloc w1 (.cells #[.bool true] 4) _ (blk_lt hm1)).trans hm1
  have hr2 := (Below.heap_alloc w1 (.cells #[.bool true] 4) _ (blk_lt hr1)).trans hr1
  have hw2 := hw1.alloc hw1.size (.cells #[.bool true] 4)
  have hz2 : (w1.alloc (.cells #[.bool true] 4)).heap.size = w1.heap.size + 1 := by simp
  obtain ⟨gb, hgb⟩ : ∃ gb, w1.heap.size = gb := ⟨_, rfl⟩
  rw [hgb] at hb2 hz2 ⊢
  generalize w1.alloc (.cells #[.bool true] 4) = W2 at *
  have Hz2 := Lib.hid hz2
  clear hm1 hr1 hw1 hgb hz2
  refine ⟨trivial, (callsIn_wide.2 (types_any W2)).mono ?_⟩
  rintro e w' ⟨rfl, rfl⟩
  have hnil := fun w => eql_nil w (.func 51) #[] #[]
  gi_wp2
  obtain ⟨g, hg⟩ : ∃ g, W2.heap.size = g := ⟨_, rfl⟩
  have hk3 : ((W2.alloc (.cells #[.int .i64 0] 3)).alloc (.cells #[.int .i64 (-1)] 3)).heap[W2.heap.size]? = some (.cells #[.int .i64 0] 3 (0, 0)) := (Below.heap_alloc _ _ _ (by simp)).trans (heap_alloc_new W2 _)
  have ha3 : ((W2.alloc (.cells #[.int .i64 0] 3)).alloc (.cells #[.int .i64 (-1)] 3)).heap[W2.heap.size + 1]? = some (.cells #[.int .i64 (-1)] 3 (0, 0)) := by
    have := heap_alloc_new (W2.alloc (.cells #[.int .i64 0] 3)) (.cells #[.int .i64 (-1)] 3)
    simpa using this
  have hz3 : ((W2.alloc (.cells #[.int .i64 0] 3)).alloc (.cells #[.int .i64 (-1)] 3)).heap.size = W2.heap.size + 2 := by simp
  have hB3 : Below W2.heap.size W2 ((W2.alloc (.cells #[.int .i64 0] 3)).alloc (.cells #[.int .i64 (-1)] 3)) := ((Below.refl _ W2).alloc (Nat.le_refl _) _).alloc (by simp) _
  rw [hg] at hk3 ha3 hz3 hB3 ⊢
  generalize (W2.alloc (.cells #[.int .i64 0] 3)).alloc (.cells #[.int .i64 (-1)] 3) = W3 at *
  have Hz3 := Lib.hid hz3
  have zr : w.heap.size + 1 < g := by have := blk_lt hr2; omega
  have zm : w.heap.size < g := by omega
  have zb : gb < g := by have := blk_lt hb2; omega
  have Hg := Lib.hid hg
  clear hz3 hg hnil
  refine' wpIn_iter (by omega) (gf := 51) (lb := #[]) rfl (enters_of Try.func51 (by kernel_rfl) rfl)
    (types_seq W3) (fun _ _ => trivial) (fun _ _ _ _ _ _ _ _ => trivial) tplain_keeps (Below.refl _ _) (fun _ => rfl)
    (fun k W => (W.heap[g]? = some (.cells #[.int .i64 (k : Int)] 3 (0, 0)) ∧ W.heap[g + 1]? = some (.cells #[.int .i64 (atv k)] 3 (0, 0))) ∧ Below g W2 W)
    (fun k W => (W.heap[g]? = some (.cells #[.int .i64 (k : Int)] 3 (0, 0)) ∧ W.heap[g + 1]? = some (.cells #[.int .i64 (atv k)] 3 (0, 0))) ∧ Below g W2 W)
    (fun c _ W => (c = .ret ∧ W.heap[w.heap.size + 1]? = some (.cells #[.bool true] 4 (0, 0))) ∧ Below w.heap.size w W)
    ?hI ?hI' ?hIx (fun B k A C _ _ hi ht => ?hIT) (fun h => by cases h) ⟨⟨hk3, ha3⟩, hB3⟩ _ ?assign ?body ?done ?stop
  case hI => exact OwnFrom.and (Own.from (fun s A B row hs hg hr => ⟨cells_kept hs.1 hg hr, cells_kept hs.2 hg hr⟩) _) (ownFrom_below (Nat.le_of_eq Hg.out.symm) (by rw [Hz3.out]; omega))
  case hI' => exact OwnFrom.and (Own.from (fun s A B row hs hg hr => ⟨cells_kept hs.1 hg hr, cells_kept hs.2 hg hr⟩) _) (ownFrom_below (Nat.le_of_eq Hg.out.symm) (by rw [Hz3.out]; omega))
  case hIx => exact fun c => OwnFrom.and (Own.from (fun s A B row hs hg hr => ⟨hs.1, cells_kept hs.2 hg hr⟩) _) (ownFrom_below (Nat.le_refl _) (by rw [Hz3.out]; omega))
  case hIT =>
    refine ownFrom_plain (I := fun k W => (W.heap[g]? = some (.cells #[.int .i64 (k : Int)] 3 (0, 0)) ∧ W.heap[g + 1]? = some (.cells #[.int .i64 (atv k)] 3 (0, 0))) ∧ Below g W2 W) (B := W3.heap.size) ?_ hi ht
    exact OwnFrom.and (Own.from (fun s A B row hs hg hr => ⟨cells_kept hs.1 hg hr, cells_kept hs.2 hg hr⟩) _) (ownFrom_below (Nat.le_of_eq Hg.out.symm) (by rw [Hz3.out]; omega))
  case assign =>
    intro l k W K hK
    gi_wp2
    exact hK
  case body =>
    rintro l k W ⟨⟨hk, hat⟩, hB⟩ hlen
    obtain ⟨t, ht, ht1, ht2, ht3, ht4, ht5⟩ := tyAt_gap hlen
    obtain ⟨av, hav⟩ : ∃ av, atv k = av := ⟨_, rfl⟩
    have hk30 : cnt 386 ≤ 386 := by
      have := List.length_filter_le formed (List.range 386)
      simpa [cnt, tysTo] using this
    have hkb : k < 386 := by omega
    rw [hav] at hat ht3 ht4 ht5
    rw [ht]
    have Hnext := Lib.hid (show atv (k + 1) = (t : Int) by rw [atv_succ, ht])
    have Ht5 := Lib.hid ht5
    have Ht2 := Lib.hid ht2
    clear ht hav hlen hk30 ht5 ht2 hk3 ha3
    have c0 := blk_cell hat 0
    have c1 := blk_free hat 0
    simp only [List.getElem?_toArray, List.getElem?_cons_zero] at c0
    gi_wp2
    have hat' := blk_set hat 0 (.int .i64 (av + 1))
    gi_loopw [] (fun wr => ∃ a : Nat, av < (a : Int) ∧ a ≤ t ∧ wr.heap[g + 1]? = some (.cells #[.int .i64 (a : Int)] 3 (0, 0)) ∧ Only (g + 1) W wr) (fun wr => t - (numAt wr (g + 1)).toNat)
    case atStart => exact ⟨(av + 1).toNat, by omega, by omega, by rw [hat']; simp; omega, (Only.refl _ _).set _⟩
    case round =>
      obtain ⟨a, ha1, ha2, hw, hO⟩ := hrel
      have d0 := blk_cell hw 0
      have d1 := blk_free hw 0
      simp only [List.getElem?_toArray, List.getElem?_cons_zero] at d0
      clear c0 c1 hat'
      have e1 : numAt wr (g + 1) = (a : Int) := by simp [numAt, d0, intOf]
      by_cases hlt : a < t
      · have Hf := Lib.hid (refForm_any (a : Int) wr)
        rw [Ht5.out a ha1 hlt] at Hf
        have hs := blk_set hw 0 (.int .i64 ((a : Int) + 1))
        have e2 : numAt (wr.setCell ⟨g + 1, 0, none⟩ (.int .i64 ((a : Int) + 1))) (g + 1) = (a : Int) + 1 := by
          have := blk_cell hs 0
          simp at this
          simp [numAt, this, intOf]
        have Hs := Lib.hid hs
        have E1 := Lib.hid e1
        have E2 := Lib.hid e2
        have t7 : decide ((a : Int) < 70000) = true := decide_eq_true (by omega)
        have t8 : decide (a < 70000) = true := decide_eq_true (by omega)
        clear hs e1 e2
        gi_wp2
        refine ⟨trivial, (callsIn_wide.2 Hf.out).mono ?_⟩
        rintro e w' ⟨rfl, rfl⟩
        gi_wp2
        go_roundw
        case rel => exact ⟨a + 1, by omega, by omega, by rw [Hs.out]; simp, hO.set _⟩
        case measure => rw [E1.out, E2.out]; omega
      · obtain rfl : a = t := by omega
        have Hf := Lib.hid (refForm_any (a : Int) wr)
        have hf := Ht2.out
        obtain ⟨f, hfe⟩ : ∃ f, formOf (a : Int) = f := ⟨_, rfl⟩
        rw [hfe] at Hf hf
        have hf0 : (f == 0) = false := by simpa using hf
        have hB' : Below g W2 wr := hB.trans (hO.below (by omega))
        have hkw := (hO.block g (by omega)).trans hk
        have hrw := (hB'.block _ zr).trans hr2
        have k0 := blk_cell hkw 0
        have k1 := blk_free hkw 0
        have r0 := blk_cell hrw 0
        have r1 := blk_free hrw 0
        have m0 := blk_cell ((hB'.block _ zm).trans hm2) 0
        have b0 := blk_cell ((hB'.block _ zb).trans hb2) 0
        simp only [List.getElem?_toArray, List.getElem?_cons_zero] at k0 r0 m0 b0
        have Hkw := Lib.hid hkw
        have Hrw := Lib.hid hrw
        have hKeep := hO.keeps hat W3.heap.size
        have hBw : Below w.heap.size w wr := hw2.trans (hB'.mono (by omega))
        clear hfe hf hlt hkw hrw e1 hk hat hr2 hm2 hb2
        by_cases hmo : (k : Int) + 1 = most
        · have t1 : ((k : Int) + 1 == most) = true := by simp [hmo]
          clear hmo
          gi_wp2
          refine ⟨trivial, (callsIn_wide.2 Hf.out).mono ?_⟩
          rintro e w' ⟨rfl, rfl⟩
          gi_wp2
          refine ⟨hKeep.trans ((KeepsFrom.setCell _ _ _ _).trans (KeepsFrom.setCell _ _ _ _)), ⟨rfl, ?_⟩, (hBw.setCell (p := ⟨g, 0, none⟩) (by show w.heap.size ≤ g; omega) _).setCell (p := ⟨w.heap.size + 1, 0, none⟩) (by simp) _⟩
          simpa using blk_set ((Below.heap_setCell wr ⟨g, 0, none⟩ (.int .i64 ((k : Int) + 1)) (w.heap.size + 1) (by show _ ≠ g; omega)).trans Hrw.out) 0 (.bool true)
        · have t1 : ((k : Int) + 1 == most) = false := by simp [hmo]
          clear hmo
          gi_wp2
          refine ⟨trivial, (callsIn_wide.2 Hf.out).mono ?_⟩
          rintro e w' ⟨rfl, rfl⟩
          gi_wp2
          refine ⟨hKeep.trans (KeepsFrom.setCell _ _ _ _), trivial, ⟨by simpa using blk_set Hkw.out 0 (.int .i64 ((k : Int) + 1)), ?_⟩, hB'.setCell (p := ⟨g, 0, none⟩) (Nat.le_refl _) _⟩
          rw [Hnext.out]
          exact (Below.heap_setCell wr ⟨g, 0, none⟩ _ (g + 1) (by show _ ≠ g; omega)).trans hw
  case done =>
    rintro D W hD ⟨⟨_, hat⟩, hB⟩ hK
    rw [atv_last] at hat
    have c0 := blk_cell hat 0
    have c1 := blk_free hat 0
    simp only [List.getElem?_toArray, List.getElem?_cons_zero] at c0
    have hD' : g + 1 < D := by have := Hz3.out; omega
    clear hk3 ha3 hm2
    gi_wp2
    have hat' := blk_set hat 0 (.int .i64 386)
    gi_loopw [] (fun wr => ∃ a : Nat, 386 ≤ a ∧ a ≤ 70000 ∧ wr.heap[g + 1]? = some (.cells #[.int .i64 (a : Int)] 3 (0, 0)) ∧ Only (g + 1) W wr) (fun wr => 70000 - (numAt wr (g + 1)).toNat)
    case atStart => exact ⟨386, by omega, by omega, by rw [hat']; simp, (Only.refl _ _).set _⟩
    case round =>
      obtain ⟨a, ha1, ha2, hw, hO⟩ := hrel
      have d0 := blk_cell hw 0
      have d1 := blk_free hw 0
      simp only [List.getElem?_toArray, List.getElem?_cons_zero] at d0
      clear c0 c1 hat'
      by_cases hlt : a < 70000
      · have Hf := Lib.hid (refForm_any (a : Int) wr)
        rw [formOf_big ha1] at Hf
        have hs := blk_set hw 0 (.int .i64 ((a : Int) + 1))
        have e1 : numAt wr (g + 1) = (a : Int) := by simp [numAt, d0, intOf]
        have e2 : numAt (wr.setCell ⟨g + 1, 0, none⟩ (.int .i64 ((a : Int) + 1))) (g + 1) = (a : Int) + 1 := by
          have := blk_cell hs 0
          simp at this
          simp [numAt, this, intOf]
        have Hs := Lib.hid hs
        have E1 := Lib.hid e1
        have E2 := Lib.hid e2
        have t7 : decide ((a : Int) < 70000) = true := decide_eq_true (by omega)
        have t8 : decide (a < 70000) = true := decide_eq_true (by omega)
        clear hs e1 e2
        gi_wp2
        refine ⟨trivial, (callsIn_wide.2 Hf.out).mono ?_⟩
        rintro e w' ⟨rfl, rfl⟩
        gi_wp2
        go_roundw
        case rel => exact ⟨a + 1, by omega, by omega, by rw [Hs.out]; simp, hO.set _⟩
        case measure => rw [E1.out, E2.out]; omega
      · obtain rfl : a = 70000 := by omega
        have t7 : decide (((70000 : Nat) : Int) < 70000) = false := by decide
        have hB' : Below g W2 wr := hB.trans (hO.below (by omega))
        have hrw := (hB'.block _ zr).trans hr2
        have r0 := blk_cell hrw 0
        have r1 := blk_free hrw 0
        have b0 := blk_cell ((hB'.block _ zb).trans hb2) 0
        simp only [List.getElem?_toArray, List.getElem?_cons_zero] at r0 b0
        have hBw : Below w.heap.size w wr := hw2.trans (hB'.mono (by omega))
        have hKw := (hO.block D (by omega)).trans hK
        clear hlt hat hr2 hb2 hrw hK
        gi_wp2
        have hK' := (KeepsOthers.setCell wr ⟨w.heap.size + 1, 0, none⟩ (.bool true)).same D _ hKw rfl
        have hc4 : (wr.setCell ⟨w.heap.size + 1, 0, none⟩ (.bool true)).cell? ⟨w.heap.size + 1, 0, none⟩ = some (.bool true) := World.cell?_setCell_same' wr ⟨w.heap.size + 1, 0, none⟩ (.bool true) (by rw [r0]; rfl)
        have hc5 := cell_kept hc4 (grownBy_putObj' _ D (.deferred none)) (fun r e => by cases e; exact ⟨_, hK', rfl⟩)
        refine ⟨by simp, .inl ⟨_, _, rfl, run_takeDeferred hK', .bool true, ?_, rfl, (hBw.setCell (p := ⟨w.heap.size + 1, 0, none⟩) (by simp) _).trans (belowK_b (w := w) (Nat.le_refl _) _ D _ _ (by omega) hK' rfl rfl)⟩⟩
        simp [results, Try.f7, go_sem, hc5]
  case stop =>
    rintro D c k W hD _ _ ⟨⟨rfl, hr⟩, hB⟩ hK
    have hc1 := blk_cell hr 0
    simp only [List.getElem?_toArray, List.getElem?_cons_zero] at hc1
    have hD' : g + 1 < D := by have := Hz3.out; omega
    gi_wp2
    have hc5 := cell_kept hc1 (grownBy_putObj' _ D (.deferred none)) (fun r e => by cases e; exact ⟨_, hK, rfl⟩)
    refine ⟨by simp, .inl ⟨_, _, rfl, run_takeDeferred hK, .bool true, ?_, rfl, hB.trans (belowK_b (w := w) (Nat.le_refl _) _ D _ _ (by omega) hK rfl rfl)⟩⟩
    simp [results, Try.f7, go_sem, hc5]
end Go.Proofs.Ytpikikaoelnheaa
