/- FindNone: no search, no objects: the walk of the law. -/
import Derived.Test.YtpikikaoelnheaaFindBegun
namespace Go.Proofs.Ytpikikaoelnheaa
open Go.RowKit Go.Shelf

attribute [local go_sem] Oper.semAt_some

theorem own_block {β : Type} (g : Nat) (cs : Array Value) (t : TypeId) : Own (fun (_ : β) W => W.heap[g]? = some (.cells cs t (0, 0))) := fun _ W _ _ hs hg hr => (grownBy_keeps_cells hg hr hs rfl).trans hs

set_option maxRecDepth 100000 in
set_option maxHeartbeats 4000000 in
theorem findNone_any (w : World) : Calls Try.prog 5 #[] w fun e w' => e = .returned (.bool true) ∧ Below w.heap.size w w' := by
  refine (callsIn_wide (n := 6)).1 ?_
  refine callsIn_of_wp_marks Try.func5 rfl trivial ?_ rfl
  simp only [Try.ntmps5, List.size_toArray, List.length_cons, List.length_nil, Nat.reduceAdd, Nat.reduceSub, Array.replicate_succ, Array.replicate_zero, List.push_toArray, List.append_toArray, List.nil_append, List.cons_append]
  gi_wp2
  refine ⟨trivial, (callsIn_wide.2 (next_nil 1 w)).mono ?_⟩
  rintro e w' ⟨rfl, rfl⟩
  gi_wp2
  refine ⟨trivial, (callsIn_wide.2 (filter_none none 0 0 true w)).mono ?_⟩
  rintro e w' ⟨rfl, rfl⟩
  obtain ⟨q0, q1, q2, z1, hB1⟩ := alloc3 w (.cells #[.nilFunc] 34) (.cells #[.slice none 0 0] 24) (.cells #[.bool true] 4)
  obtain ⟨s, hs⟩ : ∃ s, w.heap.size = s := ⟨_, rfl⟩
  rw [hs] at q0 q1 q2 z1 hB1 ⊢
  generalize ((w.alloc (.cells #[.nilFunc] 34)).alloc (.cells #[.slice none 0 0] 24)).alloc (.cells #[.bool true] 4) = W1 at *
  have hnil := fun w => eql_nil w (.func 47) #[] #[.pointer (some ⟨s, 0, none⟩), .pointer (some ⟨s + 1 + 1, 0, none⟩), .pointer (some ⟨s + 1, 0, none⟩)]
  have Hs := Lib.hid hs
  have Hz1 := Lib.hid z1
  clear hs z1 q1 q2
  gi_wp2
  have g0 := blk_cell q0 0
  simp only [List.getElem?_toArray, List.getElem?_cons_zero] at g0
  have hk0 := heap_alloc_new W1 (.cells #[.int .i64 0] 3)
  have hB2 : Below s w (W1.alloc (.cells #[.int .i64 0] 3)) := hB1.alloc (by rw [Hz1.out]; omega) _
  have hq := filter_nil_seq s (W1.alloc (.cells #[.int .i64 0] 3)) (by simp; have := Hz1.out; omega) ((World.cell?_alloc_lt W1 _ ⟨s, 0, none⟩ (by have := Hz1.out; show s < _; omega)).trans g0) (fun _ => #[.int .i64 0]) (fun _ _ => True)
  have hz2 : (W1.alloc (.cells #[.int .i64 0] 3)).heap.size = s + 4 := by simp [Hz1.out]
  have hz : W1.heap.size = s + 3 := Hz1.out
  rw [hz] at hk0 ⊢
  generalize W1.alloc (.cells #[.int .i64 0] 3) = W2 at *
  have Hq := Lib.hid hq
  have Hz2 := Lib.hid hz2
  clear hq hnil g0 q0 hz hz2 hB1
  refine' wpIn_iter (by omega) (gf := 47) (lb := #[.pointer (some ⟨s, 0, none⟩), .pointer (some ⟨s + 1 + 1, 0, none⟩), .pointer (some ⟨s + 1, 0, none⟩)]) rfl (enters_of Try.func47 (by kernel_rfl) rfl)
    Hq.out (fun _ _ => trivial) (fun _ _ _ _ _ _ _ _ => trivial) tplain_keeps (Below.refl _ _) (fun _ => rfl)
    (fun _ W => W.heap[s + 3]? = some (.cells #[.int .i64 0] 3 (0, 0)) ∧ Below s w W) (fun _ W => W.heap[s + 3]? = some (.cells #[.int .i64 0] 3 (0, 0)) ∧ Below s w W) (fun _ _ _ => False)
    ?hI ?hI (fun _ _ _ _ _ h => h.elim) (fun _ _ _ _ => trivial) (fun B k A C _ _ hi ht => ?hIT) (fun h => by cases h) ⟨hk0, hB2⟩ _ ?assign ?body ?done ?stop
  case hI => exact OwnFrom.and (Own.from (own_block _ _ _) _) (ownFrom_below (by rw [Hs.out]; omega) (by rw [Hz2.out]; omega))
  case hIT =>
    refine ownFrom_plain (I := fun _ W => W.heap[s + 3]? = some (.cells #[.int .i64 0] 3 (0, 0)) ∧ Below s w W) (B := W2.heap.size) ?_ hi ht
    exact OwnFrom.and (Own.from (own_block _ _ _) _) (ownFrom_below (by rw [Hs.out]; omega) (by rw [Hz2.out]; omega))
  case assign =>
    intro l k W K hK
    gi_wp2
    exact hK
  case body => exact fun l k W _ h _ => absurd h (by omega)
  case done =>
    rintro D W hD ⟨hk, hB⟩ hK
    have hzW := hB.size
    rw [Hs.out] at hzW
    gi_wp2
    refine ⟨trivial, (callsIn_wide.2 (new_nil W)).mono ?_⟩
    rintro e w3 ⟨rfl, hS, hB3⟩
    gi_wp2
    refine ⟨trivial, (callsIn_wide.2 (findBegun_any w3)).mono ?_⟩
    rintro e w4 ⟨rfl, hB4⟩
    have hB34 := hB3.trans (hB4.mono hB3.size)
    have hk4 := (hB34.block _ (blk_lt hk)).trans hk
    have k0 := blk_cell hk4 0
    simp only [List.getElem?_toArray, List.getElem?_cons_zero] at k0
    have hK4 := (hB34.block _ (blk_lt hK)).trans hK
    obtain ⟨A3, c3, hS1, hS2⟩ := hS
    have hR : SrchR w4 W.heap.size (fun _ => True) [] := ⟨A3, c3, (hB4.block _ (blk_lt hS1)).trans hS1, ⟨⟨by simp, by
      rcases hS2.2 with ⟨e1, e2⟩ | ⟨g', cap, cur, e1, h4, h5, h6, h7, h8⟩
      · injection e1 with e1 e2 e3
        subst e3
        unfold maxLen; omega
      · injection e1 with e1 e2 e3
        subst e3
        exact h7, rfl, fun h => absurd h (by simp)⟩, by simp⟩⟩
    have Hl1 := Lib.hid (left_nil w4)
    have Hl2 := Lib.hid (left_any W.heap.size _ [] w4 hR)
    have hBf : Below s w w4 := hB.trans (hB34.mono (by omega))
    clear hS1 hS2 hR hk hk4 hB3 hB4 hB34
    gi_wp2
    refine ⟨trivial, (callsIn_wide.2 Hl1.out).mono ?_⟩
    rintro e w' ⟨rfl, rfl⟩
    gi_wp2
    refine ⟨trivial, (callsIn_wide.2 Hl2.out).mono ?_⟩
    rintro e w' ⟨rfl, rfl⟩
    gi_wp2
    have hZ2 := Hz2.out
    have hS0 := Hs.out
    refine ⟨by simp, .inl ⟨_, _, rfl, run_takeDeferred hK4, _, results_tmp rfl _ _ _, by simp, ?_⟩⟩
    rw [hS0]
    exact hBf.trans (belowK_b (w := w) (Nat.le_of_eq hS0.symm) _ D _ _ (by omega) hK4 rfl rfl)
  case stop => exact fun _ _ _ _ _ _ _ h _ => h.elim
end Go.Proofs.Ytpikikaoelnheaa
