/- What attrs.copied computes. -/
import Derived.Test.YtpikikaoelnheaaPut
namespace Go.Proofs.Ytpikikaoelnheaa
open Go.RowKit

set_option maxRecDepth 100000 in
set_option maxHeartbeats 1000000 in
theorem copied_any (P : Nat → Prop) (a : Int × List Nat) (Aa : Option Addr) (ca : Nat) (w : World) (ha : RB w P Aa ca a.2) (hP : ∀ b, P b → b < w.heap.size) :
    Calls Try.prog 54 #[.agg #[.int .i64 a.1, .slice Aa a.2.length ca]] w fun e w' => ∃ A' c', e = .returned (.agg #[.int .i64 a.1, .slice A' a.2.length c']) ∧ RB w' (In w.heap.size w'.heap.size) A' c' a.2 ∧ Below w.heap.size w w' := by
  go_enter Try.func54, Try.ntmps54
  go_wp2_with fail
  obtain ⟨W, hW⟩ : ∃ W, (w.alloc (.cells #[.int .i64 a.1, .slice Aa a.2.length ca] 48)).alloc (.cells #[.int .i64 0, .slice none 0 0] 48) = W := ⟨_, rfl⟩
  have hb0 : W.heap[w.heap.size]? = some (.cells #[.int .i64 a.1, .slice Aa a.2.length ca] 48) := by
    rw [← hW]; exact (Below.heap_alloc _ _ _ (by simp)).trans (heap_alloc_new w _)
  have hb1 : W.heap[w.heap.size + 1]? = some (.cells #[.int .i64 0, .slice none 0 0] 48) := by
    rw [← hW]; have := heap_alloc_new (w.alloc (.cells #[.int .i64 a.1, .slice Aa a.2.length ca] 48)) (.cells #[.int .i64 0, .slice none 0 0] 48); rwa [World.size_alloc] at this
  have hsz : W.heap.size = w.heap.size + 2 := by rw [← hW]; simp
  have hBW : Below w.heap.size w W := by rw [← hW]; exact ((Below.refl _ w).alloc (Nat.le_refl _) _).alloc (by simp) _
  rw [hW]
  have x0 := blk_cell hb0 0
  have x1 := blk_cell hb0 1
  have y0 := blk_cell hb1 0
  have y1 := blk_cell hb1 1
  have f0 := blk_free hb1 0
  have f1 := blk_free hb1 1
  simp at x0 x1 y0 y1
  have haW : RB W P Aa ca a.2 := ha.below hBW hP
  have Hcall := Lib.hid (fun V (hV : RB V P Aa ca a.2) (hs : ∀ b, P b → b < V.heap.size) => clone_any P Aa ca a.2 V hV hs)
  have hPW : ∀ b, P b → b < W.heap.size := fun b hb => by have := hP b hb; omega
  have Hsz := Lib.hid hsz
  have hlt0 : w.heap.size < W.heap.size := by omega
  have hlt1 : w.heap.size + 1 < W.heap.size := by omega
  clear hW hsz hb0 hb1
  go_region_held3 (fun w' => w'.cell? ⟨w.heap.size, 0, none⟩ = some (.int .i64 a.1) ∧ w'.cell? ⟨w.heap.size, 1, none⟩ = some (.slice Aa a.2.length ca))
    (first
      | go_keep
      | ((try dsimp only); refine ⟨(hB1.cell (by simp; omega)).trans x0, (hB1.cell (by simp; omega)).trans x1⟩))
    (first
      | (go_at_call 52; refine (Hcall.out _ (by exact haW) (by exact hPW)).mono ?_; rintro e w1 ⟨A1, c1, rfl, hr, hB1⟩; have z0 := (hB1.cell (p := ⟨w.heap.size + 1, 0, none⟩) (by simp; omega)).trans y0; have z1 := (hB1.cell (p := ⟨w.heap.size + 1, 1, none⟩) (by simp; omega)).trans y1; have g0 := (hB1.frozen (p := ⟨w.heap.size + 1, 0, none⟩) (by simp; omega)).trans f0; have g1 := (hB1.frozen (p := ⟨w.heap.size + 1, 1, none⟩) (by simp; omega)).trans f1; have hs1 := hB1.size))
  go_wp2
  have hs1' : W.heap.size ≤ w1.heap.size := by simpa using hs1
  have hB1' : Below W.heap.size W w1 := ⟨hB1.os, hB1.tape, hB1.output, hB1.size, hB1.block⟩
  have hr' : RB w1 (In W.heap.size w1.heap.size) A1 c1 a.2 := hr
  refine bodyPost_ret (v := .agg #[.int .i64 a.1, .slice A1 a.2.length c1]) (by simp [results, Try.results54, go_sem, z0, z1]) rfl ⟨A1, c1, rfl, ?_, ?_⟩
  · refine ((hr'.setCell (p := ⟨w.heap.size + 1, 0, none⟩) (fun h => by have := h.1; simp at this; omega) _).setCell (p := ⟨w.heap.size + 1, 1, none⟩) (fun h => by have := h.1; simp at this; omega) _).mono fun b hb => ⟨by have := hb.1; omega, by have := hb.2; simpa [World.setCell] using this⟩
  · exact ((hBW.trans (hB1'.mono (by omega))).setCell (p := ⟨w.heap.size + 1, 0, none⟩) (by simp) _).setCell (p := ⟨w.heap.size + 1, 1, none⟩) (by simp) _
end Go.Proofs.Ytpikikaoelnheaa
