/- MechAll: all mechanisms come, rising, as far as one likes: the walk of the law. -/
import Derived.Test.YtjldlfhhbomehaaMAll
namespace Go.Proofs.Ytjldlfhhbomehaa
open Go.RowKit Go.Shelf

attribute [local go_sem] Oper.semAt_some

/-- The count stands at k. -/
def NumAt (cb k : Nat) (w : World) : Prop := w.heap[cb]? = some (.cells #[.int .i64 (k : Int)] 3 (0, 0))

def mkinds : List Value := mtab.map fun r => .int .i64 r.kind
theorem mkinds_at {k : Nat} (hk : k < 24) : mkinds.toArray[k]? = some (.int .i64 (mrow k).kind) := by
  rw [List.getElem?_toArray, mkinds, List.getElem?_map, mrow_at hk]; rfl
set_option maxRecDepth 100000 in
set_option maxHeartbeats 1000000 in
theorem refAll_any (w : World) : Calls Try.prog 5 #[] w fun e w' => e = .returned (.slice (some ⟨w.heap.size, 0, none⟩) 24 24) ∧ w' = w.alloc (.cells mkinds.toArray 3) := by
  go_enter Try.func5, Try.ntmps5
  go_wp2
  go_ret
  exact ⟨rfl, by simp [mkinds, mtab]⟩

set_option maxRecDepth 100000 in
set_option maxHeartbeats 4000000 in
theorem mbegun_any (w : World) : Calls Try.prog 4 #[] w fun e w' => e = .returned (.bool true) ∧ Below w.heap.size w w' := by
  refine (callsIn_wide (n := 6)).1 ?_
  refine callsIn_of_wp_marks Try.func4 rfl trivial ?_ rfl
  simp only [Try.ntmps4, List.size_toArray, List.length_nil, Nat.reduceSub, Array.replicate_succ, Array.replicate_zero, List.push_toArray, List.append_toArray, List.nil_append, List.cons_append]
  gi_wp2
  refine ⟨trivial, (callsIn_wide.2 (key_any w)).mono ?_⟩
  rintro e w1 ⟨rfl, hB1⟩
  have hnil := fun w => eqlSeqI w (.func 12) #[] #[]
  gi_wp2
  refine ⟨trivial, (callsIn_wide.2 (allI_any w1)).mono ?_⟩
  rintro e w' ⟨rfl, rfl⟩
  gi_wp2
  obtain ⟨s, hs⟩ : ∃ s, w.heap.size = s := ⟨_, rfl⟩
  obtain ⟨g, hg⟩ : ∃ g, w1.heap.size = g := ⟨_, rfl⟩
  have hk0 := heap_alloc_new w1 (.cells #[.int .i64 0] 3)
  have hB2 : Below s w (w1.alloc (.cells #[.int .i64 0] 3)) := by rw [← hs]; exact hB1.alloc hB1.size _
  have hz2 : (w1.alloc (.cells #[.int .i64 0] 3)).heap.size = g + 1 := by simp [hg]
  have hsg : s ≤ g := by rw [← hs, ← hg]; exact hB1.size
  rw [hg] at hk0 ⊢
  generalize w1.alloc (.cells #[.int .i64 0] 3) = W1 at *
  have Hs := Lib.hid hs
  have hseq := allI_seq W1
  clear hnil hs hg hB1
  have hInv : ∀ W2 : World, OwnFrom W1.heap.size (fun (k : Nat) X => NumAt g k X ∧ Below s w X) := fun _ k X X' row h hg' hr =>
    ⟨(grownBy_keeps_cells hg' (fun r e => (hr r e).2) h.1 rfl).trans h.1, ownFrom_below (by have := Hs.out; omega) (by omega) k X X' row h.2 hg' hr⟩
  refine' wpIn_iter (by omega) (gf := 12) (lb := #[]) rfl (enters_of Try.func12 (by kernel_rfl) rfl)
    hseq (fun _ _ => trivial) (fun _ _ _ _ _ _ _ _ => trivial) tplain_keeps (Below.refl _ _) (fun _ => rfl)
    (fun k X => NumAt g k X ∧ Below s w X) (fun k X => NumAt g k X ∧ Below s w X) (fun _ _ _ => False)
    (hInv W1) (hInv W1) (fun _ _ _ _ _ h => h.elim) (fun _ _ _ _ => trivial) (fun A k X X' hA hk hi ht => ?hIT) (fun h => by cases h) ⟨hk0, hB2⟩ _ ?assign ?body ?done ?stop
  case hIT => exact ownFrom_plain (I := fun k X => NumAt g k X ∧ Below s w X) (B := W1.heap.size) (hInv W1) hi ht
  case assign =>
    intro l k X K hK
    gi_wp2
    exact hK
  case body =>
    rintro l k X ⟨hn, hB⟩ hlt _
    have c0 := blk_cell hn 0
    have c1 := blk_free hn 0
    simp only [List.getElem?_toArray, List.getElem?_cons_zero] at c0
    have hst := blk_set hn 0 (.int .i64 ((k : Int) + 1))
    have Hst := Lib.hid hst
    clear hst hn hseq
    gi_wp2
    exact ⟨Keeps.setCell _ _ _ _ (.inl (by show g < _; omega)) _, trivial, by simpa [NumAt] using Hst.out, hB.setCell (p := ⟨g, 0, none⟩) hsg _⟩
  case done =>
    rintro D X hD ⟨hn, hB⟩ hK
    have zX := hB.size
    have ha := uses_any X
    have hNum : ∀ Y, Below X.heap.size X Y → Y.cell? ⟨g, 0, none⟩ = some (.int .i64 24) := fun Y h => (h.cell (p := ⟨g, 0, none⟩) (blk_lt hn)).trans (by have := blk_cell hn 0; simpa using this)
    have HNum := Lib.hid hNum
    have HK := Lib.hid hK
    clear hn hNum hseq hK
    gi_wp2
    refine ⟨trivial, (callsIn_wide.2 ha).mono ?_⟩
    rintro e Y1 ⟨rfl, hY1⟩
    have n1 := HNum.out Y1 hY1
    gi_wp2
    refine ⟨trivial, (callsIn_wide.2 (param_any 592 (.inl rfl) Y1)).mono ?_⟩
    rintro e Y2 ⟨rfl, hY2⟩
    gi_wp2
    refine ⟨trivial, (callsIn_wide.2 (multi_any Y2)).mono ?_⟩
    rintro e Y3 ⟨rfl, hY3⟩
    gi_wp2
    refine ⟨trivial, (callsIn_wide.2 (may_any Y3)).mono ?_⟩
    rintro e Y4 ⟨rfl, hY4⟩
    have hY := ((hY1.trans (hY2.mono hY1.size)).trans (hY3.mono (by have := hY1.size; have := hY2.size; omega))).trans (hY4.mono (by have := hY1.size; have := hY2.size; have := hY3.size; omega))
    have hK4 := (hY.block _ (blk_lt HK.out)).trans HK.out
    gi_wp2
    refine ⟨by simp, .inl ⟨_, _, rfl, run_takeDeferred hK4, _, results_tmp rfl _ _ _, by simp, ?_⟩⟩
    have hS0 := Hs.out
    rw [hS0]
    exact (hB.trans (hY.mono (by omega))).trans (belowK_b (w := w) (Nat.le_of_eq hS0.symm) _ D _ _ (by omega) hK4 rfl rfl)
  case stop => exact fun _ _ _ _ _ _ _ h _ => h.elim

set_option maxRecDepth 100000 in
set_option maxHeartbeats 4000000 in
theorem mechAll_any (most : Int) (w : World) : Calls Try.prog 3 #[.int .i64 most] w fun e w' => e = .returned (.bool true) ∧ Below w.heap.size w w' := by
  refine (callsIn_wide (n := 6)).1 ?_
  refine callsIn_of_wp_marks Try.func3 rfl trivial ?_ rfl
  simp only [Try.ntmps3, List.size_toArray, List.length_cons, List.length_nil, Nat.reduceAdd, Nat.reduceSub, Array.replicate_succ, Array.replicate_zero, List.push_toArray, List.append_toArray, List.nil_append, List.cons_append]
  gi_wp2
  obtain ⟨s, hs⟩ : ∃ s, w.heap.size = s := ⟨_, rfl⟩
  have m0 := heap_alloc_new w (.cells #[.int .i64 most] 3)
  have m1 := heap_alloc_new (w.alloc (.cells #[.int .i64 most] 3)) (.cells #[.bool false] 4)
  have hB0 : Below s w ((w.alloc (.cells #[.int .i64 most] 3)).alloc (.cells #[.bool false] 4)) := by rw [← hs]; exact ((Below.refl _ w).alloc (Nat.le_refl _) _).alloc (by simp) _
  have hz0 : ((w.alloc (.cells #[.int .i64 most] 3)).alloc (.cells #[.bool false] 4)).heap.size = s + 2 := by simp [hs]
  replace m0 := (Below.heap_alloc (w.alloc (.cells #[.int .i64 most] 3)) (.cells #[.bool false] 4) w.heap.size (by simp)).trans m0
  rw [World.size_alloc] at m1
  rw [hs] at m0 m1 ⊢
  generalize (w.alloc (.cells #[.int .i64 most] 3)).alloc (.cells #[.bool false] 4) = W0 at *
  have Hs := Lib.hid hs
  clear hs
  refine ⟨trivial, (callsIn_wide.2 (mbegun_any W0)).mono ?_⟩
  rintro e w1 ⟨rfl, hB1⟩
  have hw1 := hB0.trans (hB1.mono (by omega))
  replace m0 := (hB1.block s (by omega)).trans m0
  replace m1 := (hB1.block (s + 1) (by omega)).trans m1
  obtain ⟨g, hg⟩ : ∃ g, w1.heap.size = g := ⟨_, rfl⟩
  have zg : s + 2 ≤ g := by rw [← hg]; have := hB1.size; omega
  have o0 := heap_alloc_new w1 (.cells #[.bool true] 4)
  have hB2 : Below g w1 (w1.alloc (.cells #[.bool true] 4)) := by rw [← hg]; exact (Below.refl _ w1).alloc (Nat.le_refl _) _
  have hz2 : (w1.alloc (.cells #[.bool true] 4)).heap.size = g + 1 := by simp [hg]
  rw [hg] at o0
  have Hg := Lib.hid hg
  clear hg hB0 hB1
  gi_wp2
  rw [Hg.out]
  generalize w1.alloc (.cells #[.bool true] 4) = W2 at *
  have hw2 := hw1.trans (hB2.mono (by omega))
  replace m0 := (hB2.block s (by omega)).trans m0
  replace m1 := (hB2.block (s + 1) (by omega)).trans m1
  refine ⟨trivial, (callsIn_wide.2 (refAll_any W2)).mono ?_⟩
  rintro e w' ⟨rfl, rfl⟩
  rw [hz2]
  obtain ⟨o1, o2, hz4, hB4⟩ : ((W2.alloc (.cells mkinds.toArray 3)).alloc (.cells #[.slice (some ⟨g + 1, 0, none⟩) 24 24] 23)).heap[g + 1]? = some (.cells mkinds.toArray 3 (0, 0)) ∧ ((W2.alloc (.cells mkinds.toArray 3)).alloc (.cells #[.slice (some ⟨g + 1, 0, none⟩) 24 24] 23)).heap[g + 2]? = some (.cells #[.slice (some ⟨g + 1, 0, none⟩) 24 24] 23 (0, 0)) ∧
      ((W2.alloc (.cells mkinds.toArray 3)).alloc (.cells #[.slice (some ⟨g + 1, 0, none⟩) 24 24] 23)).heap.size = g + 3 ∧ Below (g + 1) W2 ((W2.alloc (.cells mkinds.toArray 3)).alloc (.cells #[.slice (some ⟨g + 1, 0, none⟩) 24 24] 23)) := by
    have h1 := heap_alloc_new W2 (.cells mkinds.toArray 3)
    have h2 := heap_alloc_new (W2.alloc (.cells mkinds.toArray 3)) (.cells #[.slice (some ⟨g + 1, 0, none⟩) 24 24] 23)
    rw [World.size_alloc] at h2
    rw [hz2] at h1 h2
    exact ⟨(Below.heap_alloc _ _ _ (by simp; omega)).trans h1, h2, by simp [hz2], by rw [← hz2]; exact ((Below.refl _ W2).alloc (Nat.le_refl _) _).alloc (by simp) _⟩
  have Hz4 := Lib.hid hz4
  have hz3 : (W2.alloc (.cells mkinds.toArray 3)).heap.size = g + 2 := by simp [hz2]
  clear hB2 hz2 hz4
  gi_wp2
  generalize (W2.alloc (.cells mkinds.toArray 3)).alloc (.cells #[.slice (some ⟨g + 1, 0, none⟩) 24 24] 23) = W4 at *
  have hw4 := hw2.trans (hB4.mono (by omega))
  replace m0 := (hB4.block s (by omega)).trans m0
  replace m1 := (hB4.block (s + 1) (by omega)).trans m1
  replace o0 := (hB4.block g (by omega)).trans o0
  refine ⟨trivial, (callsIn_wide.2 (allI_any W4)).mono ?_⟩
  rintro e w' ⟨rfl, rfl⟩
  have hnil := fun w => eqlSeqI w (.func 12) #[] #[]
  gi_wp2
  have hk0 := heap_alloc_new W4 (.cells #[.int .i64 0] 3)
  have hB5 : Below (g + 3) W4 (W4.alloc (.cells #[.int .i64 0] 3)) := by rw [← Hz4.out]; exact (Below.refl _ W4).alloc (Nat.le_refl _) _
  have hz5 : (W4.alloc (.cells #[.int .i64 0] 3)).heap.size = g + 4 := by simp [Hz4.out]
  rw [Hz4.out] at hk0 ⊢
  generalize W4.alloc (.cells #[.int .i64 0] 3) = W5 at *
  have hw5 := hw4.trans (hB5.mono (by omega))
  replace m0 := (hB5.block s (by omega)).trans m0
  replace m1 := (hB5.block (s + 1) (by omega)).trans m1
  replace o0 := (hB5.block g (by omega)).trans o0
  replace o1 := (hB5.block (g + 1) (by omega)).trans o1
  replace o2 := (hB5.block (g + 2) (by omega)).trans o2
  have hseq := allI_seq W5
  clear hnil hB4 hB5 hw4 hw2 hw1 hz3
  have hInv : ∀ W2 : World, OwnFrom W5.heap.size (fun (k : Nat) X => NumAt (g + 3) k X ∧ Below (g + 3) W5 X) := fun _ k X X' row h hg' hr =>
    ⟨(grownBy_keeps_cells hg' (fun r e => (hr r e).2) h.1 rfl).trans h.1, ownFrom_below (by omega) (by omega) k X X' row h.2 hg' hr⟩
  refine' wpIn_iter (by omega) (gf := 12) (lb := #[]) rfl (enters_of Try.func12 (by kernel_rfl) rfl)
    hseq (fun _ _ => trivial) (fun _ _ _ _ _ _ _ _ => trivial) tplain_keeps (Below.refl _ _) (fun _ => rfl)
    (fun k X => NumAt (g + 3) k X ∧ Below (g + 3) W5 X) (fun k X => NumAt (g + 3) k X ∧ Below (g + 3) W5 X) (fun c _ X => c = .ret ∧ X.heap[s + 1]? = some (.cells #[.bool true] 4 (0, 0)) ∧ Below s w X)
    (hInv W5) (hInv W5) ?hIx (fun _ _ _ _ => trivial) (fun A k X X' hA hk hi ht => ?hIT) (fun h => by cases h) ⟨hk0, Below.refl _ _⟩ _ ?assign ?body ?done ?stop
  case hIx =>
    rintro c k X X' row ⟨h0, h1, h3⟩ hg hr
    have hr' := fun r e => (hr r e).2
    exact ⟨h0, (grownBy_keeps_cells hg hr' h1 rfl).trans h1, ownFrom_below (by have := Hs.out; omega) (by omega) k X X' row h3 hg hr⟩
  case hIT => exact ownFrom_plain (I := fun k X => NumAt (g + 3) k X ∧ Below (g + 3) W5 X) (B := W5.heap.size) (hInv W5) hi ht
  case assign =>
    intro l k X K hK
    gi_wp2
    exact hK
  case body =>
    rintro l k X ⟨hn, hB⟩ hlt _
    have zX := hB.size
    have b0 := blk_cell ((hB.block s (by omega)).trans m0) 0
    have hr := (hB.block (s + 1) (by omega)).trans m1
    have b1 := blk_cell hr 0
    have b2 := blk_free hr 0
    have b3 := blk_cell ((hB.block g (by omega)).trans o0) 0
    have b4 := (blk_cell ((hB.block (g + 1) (by omega)).trans o1) k).trans (mkinds_at hlt)
    have b5 := blk_cell ((hB.block (g + 2) (by omega)).trans o2) 0
    have b6 := blk_cell hn 0
    have b7 := blk_free hn 0
    simp only [List.getElem?_toArray, List.getElem?_cons_zero] at b0 b1 b3 b5 b6
    have hbw := hw5.trans (hB.mono (by omega))
    have hst := Lib.hid (blk_set hn 0 (.int .i64 ((k : Int) + 1)))
    have hB' := Lib.hid hB
    have hr2 := Lib.hid (blk_set ((Below.heap_setCell X ⟨g + 3, 0, none⟩ (.int .i64 ((k : Int) + 1)) (s + 1) (by show s + 1 ≠ g + 3; omega)).trans hr) 0 (.bool true))
    have hKe : Keeps W5.heap.size (W5.heap.size + 2) 3 X ((X.setCell ⟨g + 3, 0, none⟩ (.int .i64 ((k : Int) + 1))).setCell ⟨s + 1, 0, none⟩ (.bool true)) := (Keeps.setCell _ _ _ _ (.inl (by show g + 3 < _; omega)) _).trans (Keeps.setCell _ _ _ _ (.inl (by show s + 1 < _; omega)) _)
    have HKe := Lib.hid hKe
    clear hKe
    generalize (mrow k).kind = z at *
    have hkl : (k : Int) < 24 := by omega
    clear hr hn hB hseq hInv
    by_cases hmo : (k : Int) + 1 = most
    · have t1 : ((k : Int) + 1 == most) = true := by simp [hmo]
      clear hmo
      gi_wp2
      exact ⟨HKe.out, rfl, by simpa using hr2.out, (hbw.setCell (p := ⟨g + 3, 0, none⟩) (by show s ≤ g + 3; omega) _).setCell (p := ⟨s + 1, 0, none⟩) (by show s ≤ s + 1; omega) _⟩
    · have t1 : ((k : Int) + 1 == most) = false := by simp [hmo]
      clear hmo
      gi_wp2
      exact ⟨Keeps.setCell _ _ _ _ (.inl (by show g + 3 < _; omega)) _, trivial, by simpa [NumAt] using hst.out, hB'.out.setCell (p := ⟨g + 3, 0, none⟩) (Nat.le_refl _) _⟩
  case done =>
    rintro D X hD ⟨hn, hB⟩ hK
    have zX := hB.size
    have hr := (hB.block (s + 1) (by omega)).trans m1
    have b1 := blk_cell hr 0
    have b2 := blk_free hr 0
    have b3 := blk_cell ((hB.block g (by omega)).trans o0) 0
    have b5 := blk_cell ((hB.block (g + 2) (by omega)).trans o2) 0
    have b6 := blk_cell hn 0
    simp only [List.getElem?_toArray, List.getElem?_cons_zero] at b1 b3 b5 b6
    have hbw := hw5.trans (hB.mono (by omega))
    have zD : s + 1 < D := by omega
    clear hn hB hseq hInv
    gi_wp2
    have hK' := (KeepsOthers.setCell X ⟨s + 1, 0, none⟩ (.bool true)).same D _ hK rfl
    have hc4 : (X.setCell ⟨s + 1, 0, none⟩ (.bool true)).cell? ⟨s + 1, 0, none⟩ = some (.bool true) := World.cell?_setCell_same' X ⟨s + 1, 0, none⟩ (.bool true) (by rw [b1]; rfl)
    have hc5 := cell_kept hc4 (grownBy_putObj' _ D (.deferred none)) (fun r e => by cases e; exact ⟨_, hK', rfl⟩)
    refine ⟨by simp, .inl ⟨_, _, rfl, run_takeDeferred hK', .bool true, ?_, rfl, ?_⟩⟩
    · simp [results, Try.f3, go_sem, hc5]
    · rw [Hs.out]
      exact (hbw.setCell (p := ⟨s + 1, 0, none⟩) (by show s ≤ s + 1; omega) _).trans (belowK_b (w := w) (Nat.le_of_eq Hs.out.symm) _ D _ _ (by have := Hs.out; omega) hK' rfl rfl)
  case stop =>
    rintro D cc k X hD _ _ ⟨rfl, a1, a2⟩ hK
    have hc1 := blk_cell a1 0
    simp only [List.getElem?_toArray, List.getElem?_cons_zero] at hc1
    have zD : s + 1 < D := by omega
    clear hseq hInv
    gi_wp2
    have hc5 := cell_kept hc1 (grownBy_putObj' _ D (.deferred none)) (fun r e => by cases e; exact ⟨_, hK, rfl⟩)
    refine ⟨by simp, .inl ⟨_, _, rfl, run_takeDeferred hK, .bool true, ?_, rfl, ?_⟩⟩
    · simp [results, Try.f3, go_sem, hc5]
    · rw [Hs.out]
      exact a2.trans (belowK_b (w := w) (Nat.le_of_eq Hs.out.symm) _ D _ _ (by have := Hs.out; omega) hK rfl rfl)
end Go.Proofs.Ytjldlfhhbomehaa
