/- The reference's ReadParams: it answers with a curve, or none. ReadParams of the reference. zfield: an element; Zero. Montgomery's product on a row of fixed length: plain law. zfield: a field's record; below takes the prime off, if there is too much. zfield: Add. zfield: elements in Montgomery's form, plain laws. zfield: To. curve.of: a curve's numbers. curve.of for P-384 (printed from P-256's by a program). Elements of a field in memory: how they are read and laid; a curve's record in later worlds. Whether a point is on a curve: curve's own reckoning. Curves and points in memory; curve's of, none and on, in these words. The reference's curves: words, and its arithmetic modulo the prime. The reference's On. The reference's curves: Of. -/
import Derived.Test.YtendnkpiidhogaaGreatQ0c694fb6b9fd
import Derived.ChangeKeysEq
import Derived.Laws.StructEq
import Derived.StillTailTactics
import Derived.Deep.RegionHeld3
import Derived.RegionTactic
import Derived.Deep.RegionWith
import Derived.Sort.AtCall
import Derived.Deep.MidRow
import Derived.Deep.QuietTactic
import Derived.BigQuiet
import Derived.Deep.DeepCutAuto
import Derived.Laws.ResultCell
namespace Go.Proofs.YtendnkpiidhogaaGreat.At
open Go.RowKit Go.Shelf

attribute [local go_sem] Oper.semAt_some

set_option maxRecDepth 100000 in
set_option maxHeartbeats 4000000 in
theorem write11_t (P : Nat → Prop) (A : Option Addr) (c : Nat) (bs : List Nat) (w : World) (h : RB w P A c bs) (hP : ∀ b, P b → b < w.heap.size) (hl : bs.length ≤ 120) :
 Calls Tryz.prog 222 #[.agg #[.int .i64 6, .slice A bs.length c, .slice none 0 0]] w fun e w' => (∃ A1 c1 b1 b, e = .returned (.tuple #[.slice A1 (List.length b1) c1, .bool b]) ∧ RB w' (fun b => b < w'.heap.size) A1 c1 b1 ∧ b1.length ≤ 200) ∧ Below w.heap.size w w' := by
 have hE := (Below.refl w.heap.size w).alloc (Nat.le_refl _) (.cells #[.int .i64 6, .slice A bs.length c, .slice none 0 0] 172)
 have hb := h.below hE hP
 have hm := may11_t P A c bs _ hb (fun b hb => by have := hP b hb; simp; omega)
 have m0 : (w.alloc (.cells #[.int .i64 6, .slice A bs.length c, .slice none 0 0] 172)).cell? ⟨w.heap.size, 0, none⟩ = some (.int .i64 6) := by simp [go_sem]
 have m1 : (w.alloc (.cells #[.int .i64 6, .slice A bs.length c, .slice none 0 0] 172)).cell? ⟨w.heap.size, 1, none⟩ = some (.slice A bs.length c) := by simp [go_sem]
 have m2 : (w.alloc (.cells #[.int .i64 6, .slice A bs.length c, .slice none 0 0] 172)).cell? ⟨w.heap.size, 2, none⟩ = some (.slice none 0 0) := by simp [go_sem]
 have HM := Lib.hid hm
 have HE := Lib.hid hE
 have HB := Lib.hid hb
 have HP := Lib.hid hP
 have hz : w.heap.size < (w.alloc (.cells #[.int .i64 6, .slice A bs.length c, .slice none 0 0] 172)).heap.size := by simp
 have Hz := Lib.hid hz
 clear hE hb hm h hP hz
 go_enter Tryz.func222, Tryz.ntmps222
 go_wp2_with fail
 generalize w.alloc (.cells #[.int .i64 6, .slice A bs.length c, .slice none 0 0] 172) = W0 at *
 refine HM.out.mono ?_
 rintro e w1 ⟨⟨b, rfl⟩, hB1⟩
 have n0 := (hB1.cell (p := ⟨w.heap.size, 0, none⟩) Hz.out).trans m0
 have n1 := (hB1.cell (p := ⟨w.heap.size, 1, none⟩) Hz.out).trans m1
 have n2 := (hB1.cell (p := ⟨w.heap.size, 2, none⟩) Hz.out).trans m2
 have hs1 := hB1.size
 have hsE := HE.out.size
 have HB1 := Lib.hid (HE.out.trans (hB1.mono hsE))
 have hp := put11_t P A c bs w1 (HB.out.below hB1 (fun b hb => Nat.lt_of_lt_of_le (HP.out b hb) hsE)) (fun b hb => Nat.lt_of_lt_of_le (HP.out b hb) (Nat.le_trans hsE hs1)) hl
 have HPut := Lib.hid hp
 clear hB1 m0 m1 m2 hp
 cases b
 · go_wp2
   go_ret2
   exact ⟨⟨none, 0, [], false, rfl, RB.nil_ _ _, by simp⟩, HB1.out⟩
 go_wp2_with fail
 refine HPut.out.mono ?_
 rintro e w2 ⟨⟨A1, c1, b1, rfl, hr1, hl1⟩, hB2⟩
 have HR1 := Lib.hid hr1
 have hl2 : ¬ (65536 : Int) < (b1.length : Int) := by omega
 clear hr1
 go_wp2
 go_ret2
 exact ⟨⟨A1, c1, b1, true, rfl, HR1.out, hl1⟩, HB1.out.trans (hB2.mono (Nat.le_trans hsE hs1))⟩

set_option maxRecDepth 100000 in
set_option maxHeartbeats 4000000 in
theorem write12_t (P : Nat → Prop) (A : Option Addr) (c : Nat) (bs : List Nat) (w : World) (h : RB w P A c bs) (hP : ∀ b, P b → b < w.heap.size) (hl : bs.length ≤ 120) :
 Calls Tryz.prog 191 #[.agg #[.int .i64 6, .slice A bs.length c, .slice none 0 0]] w fun e w' => (∃ A1 c1 b1 b, e = .returned (.tuple #[.slice A1 (List.length b1) c1, .bool b]) ∧ RB w' (fun b => b < w'.heap.size) A1 c1 b1 ∧ b1.length ≤ 200) ∧ Below w.heap.size w w' := by
 have hE := (Below.refl w.heap.size w).alloc (Nat.le_refl _) (.cells #[.int .i64 6, .slice A bs.length c, .slice none 0 0] 172)
 have hm := write11_t P A c bs _ (h.below hE hP) (fun b hb => by have := hP b hb; simp; omega) hl
 have HM := Lib.hid hm
 have HE := Lib.hid hE
 clear hE hm h hP
 go_enter Tryz.func191, Tryz.ntmps191
 go_wp2_with fail
 refine HM.out.mono ?_
 rintro e w1 ⟨⟨A1, c1, b1, b, rfl, hr1, hl1⟩, hB1⟩
 have HR1 := Lib.hid hr1
 have HB1 := Lib.hid (HE.out.trans (hB1.mono (by simp)))
 clear hr1 hB1
 go_wp2
 go_ret2
 exact ⟨⟨A1, c1, b1, b, rfl, HR1.out, hl1⟩, HB1.out⟩

theorem all_small2 {l : List Int} (h : ∀ x ∈ l, 0 ≤ x ∧ x < 268435400) (k : Nat) : 0 ≤ l.getD k 0 ∧ l.getD k 0 < 268435400 := by
 rcases Nat.lt_or_ge k l.length with hk | hk
 · rw [List.getD_eq_getElem?_getD, List.getElem?_eq_getElem hk]; exact h _ (List.getElem_mem hk)
 · rw [List.getD_eq_getElem?_getD, List.getElem?_eq_none hk]; simp

set_option maxRecDepth 100000 in
set_option maxHeartbeats 4000000 in
theorem oid12_any (P : Nat → Prop) (g c : Nat) (l : List Int) (w : World) (hv : RI w P (some ⟨g, 0, none⟩) c l) (hP : ∀ b, P b → b < w.heap.size) (hl : 3 ≤ l.length ∧ l.length ≤ 12) (h0 : l.getD 0 0 = 1) (h1 : 0 ≤ l.getD 1 0 ∧ l.getD 1 0 ≤ 39) (ha : ∀ k, 0 ≤ l.getD k 0 ∧ l.getD k 0 < 268435400) :
 Calls Tryz.prog 221 #[.slice (some ⟨g, 0, none⟩) l.length c] w fun e w' => (∃ A1 bs c1, e = .returned (.agg #[.int .i64 6, .slice A1 (List.length bs) c1, .slice none 0 0]) ∧ RB w' (In w.heap.size w'.heap.size) A1 c1 bs ∧ bs.length ≤ 120) ∧ Below w.heap.size w w' := by
 have hB := (Below.refl w.heap.size w).alloc (Nat.le_refl _) (.cells #[.int .i64 0, .slice none 0 0, .slice none 0 0] 172)
 have hb := heap_alloc_new w (.cells #[.int .i64 0, .slice none 0 0, .slice none 0 0] 172)
 have hz : (w.alloc (.cells #[.int .i64 0, .slice none 0 0, .slice none 0 0] 172)).heap.size = w.heap.size + 1 := by simp
 have hO := refOid_any P g c l _ (hv.below hB hP) (fun b hb => by have := hP b hb; rw [hz]; omega) hl h0 h1 ha
 have HB := Lib.hid hB
 have H0 := Lib.hid hb
 have Hz := Lib.hid hz
 have HO := Lib.hid hO
 clear hB hb hz hO hv hP hl h0 h1 ha
 go_enter Tryz.func221, Tryz.ntmps221
 go_wp2_with fail
 obtain ⟨s, hs⟩ : ∃ s, w.heap.size = s := ⟨_, rfl⟩
 rw [hs] at HB H0 Hz ⊢
 have Hs := Lib.hid hs
 clear hs
 generalize w.alloc (.cells #[.int .i64 0, .slice none 0 0, .slice none 0 0] 172) = W1 at *
 refine HO.out.mono ?_
 rintro e w2 ⟨⟨A1, bs, c1, rfl, hr, hlb⟩, hB2⟩
 have h2 := (hB2.block s (by have := Hz.out; omega)).trans H0.out
 have hlt : s < w2.heap.size := by have := Hz.out; have := hB2.size; omega
 have HB3 := Lib.hid (HB.out.trans (hB2.mono (by have := Hz.out; omega)))
 have H2 := Lib.hid h2
 have HR := Lib.hid hr
 have q0 := blk_cell h2 0
 have q1 := blk_cell h2 1
 have q2 := blk_cell h2 2
 have p0 := blk_free h2 0
 have p1 := blk_free h2 1
 have p2 := blk_free h2 2
 simp only [List.getElem?_toArray, List.getElem?_cons_zero, List.getElem?_cons_succ] at q0 q1 q2
 clear h2 hB2 H0 hr
 go_wp2
 have r := set3a H2.out (.int .i64 6) (.slice A1 bs.length c1) (.slice none 0 0) (.cells #[.int .i64 6, .slice A1 bs.length c1, .slice none 0 0] 172)
 have r0 := blk_cell r 0
 have r1 := blk_cell r 1
 have r2 := blk_cell r 2
 simp only [List.getElem?_toArray, List.getElem?_cons_zero, List.getElem?_cons_succ] at r0 r1 r2
 have hr3 := (((HR.out.setCell (p := ⟨s, 0, none⟩) (fun h => by have := h.1; have := Hz.out; simp at *; omega) (.int .i64 6)).setCell (p := ⟨s, 1, none⟩) (fun h => by have := h.1; have := Hz.out; simp at *; omega) (.slice A1 bs.length c1)).setCell (p := ⟨s, 2, none⟩) (fun h => by have := h.1; have := Hz.out; simp at *; omega) (.slice none 0 0))
 refine bodyPost_ret (v := .agg #[.int .i64 6, .slice A1 bs.length c1, .slice none 0 0]) (by simp [results, Tryz.results221, go_sem, r0, r1, r2]) rfl ⟨⟨A1, bs, c1, rfl, ?_, hlb⟩, ?_⟩
 · refine (hr3.keep fun p hp => World.cell?_alloc_lt _ _ p ?_).mono fun b hb => ⟨?_, ?_⟩
   · have := hp.2; simpa using this
   · have := hb.1; have := Hz.out; have := Hs.out; omega
   · have := hb.2; simp; omega
 rw [Hs.out]
 exact (((HB3.out.setCell (p := ⟨s, 0, none⟩) (by simp) _).setCell (p := ⟨s, 1, none⟩) (by simp) _).setCell (p := ⟨s, 2, none⟩) (by simp) _).alloc (by simp; omega) _

set_option maxRecDepth 100000 in
set_option maxHeartbeats 4000000 in
theorem params12_1 (w : World) : Calls Tryz.prog 190 #[.int .i64 1] w fun e w' => (∃ A1 bs c1, e = .returned (.tuple #[.agg #[.int .i64 6, .slice A1 (List.length bs) c1, .slice none 0 0], .bool true]) ∧ RB w' (In w.heap.size w'.heap.size) A1 c1 bs ∧ bs.length ≤ 120) ∧ Below w.heap.size w w' := by
 have hB := ((Below.refl w.heap.size w).alloc (Nat.le_refl _) (.cells #[.int .i64 0, .slice none 0 0, .slice none 0 0] 172)).alloc (by simp) (.cells #[.int .i64 1, .int .i64 2, .int .i64 840, .int .i64 10045, .int .i64 3, .int .i64 1, .int .i64 7] 3)
 have hb := (Below.heap_alloc (w.alloc (.cells #[.int .i64 0, .slice none 0 0, .slice none 0 0] 172)) (.cells #[.int .i64 1, .int .i64 2, .int .i64 840, .int .i64 10045, .int .i64 3, .int .i64 1, .int .i64 7] 3) w.heap.size (by simp)).trans (heap_alloc_new w _)
 have hz : ((w.alloc (.cells #[.int .i64 0, .slice none 0 0, .slice none 0 0] 172)).alloc (.cells #[.int .i64 1, .int .i64 2, .int .i64 840, .int .i64 10045, .int .i64 3, .int .i64 1, .int .i64 7] 3)).heap.size = w.heap.size + 2 := by simp
 have hR := RI.fresh (P := fun b => b < w.heap.size + 2) (w.alloc (.cells #[.int .i64 0, .slice none 0 0, .slice none 0 0] 172)) #[.int .i64 1, .int .i64 2, .int .i64 840, .int .i64 10045, .int .i64 3, .int .i64 1, .int .i64 7] 3 [1, 2, 840, 10045, 3, 1, 7] 7 rfl rfl (by omega) (by simp)
 rw [World.size_alloc] at hR
 have hO := oid12_any (fun b => b < w.heap.size + 2) (w.heap.size + 1) 7 [1, 2, 840, 10045, 3, 1, 7] _ hR (fun b hb => by rw [hz]; exact hb) (by simp) rfl (by simp) (all_small2 (by simp))
 have HB := Lib.hid hB
 have H0 := Lib.hid hb
 have Hz := Lib.hid hz
 have HO := Lib.hid hO
 clear hB hb hz hO hR
 go_enter Tryz.func190, Tryz.ntmps190
 go_wp2_with fail
 obtain ⟨s, hs⟩ : ∃ s, w.heap.size = s := ⟨_, rfl⟩
 rw [hs] at HB H0 Hz HO ⊢
 have Hs := Lib.hid hs
 clear hs
 generalize (w.alloc (.cells #[.int .i64 0, .slice none 0 0, .slice none 0 0] 172)).alloc (.cells #[.int .i64 1, .int .i64 2, .int .i64 840, .int .i64 10045, .int .i64 3, .int .i64 1, .int .i64 7] 3) = W1 at *
 refine HO.out.mono ?_
 rintro e w2 ⟨⟨A1, bs, c1, rfl, hr, hlb⟩, hB2⟩
 have h2 := (hB2.block s (by have := Hz.out; omega)).trans H0.out
 have hlt : s < w2.heap.size := by have := Hz.out; have := hB2.size; omega
 have HB3 := Lib.hid (HB.out.trans (hB2.mono (by have := Hz.out; omega)))
 have H2 := Lib.hid h2
 have HR := Lib.hid hr
 have q0 := blk_cell h2 0
 have q1 := blk_cell h2 1
 have q2 := blk_cell h2 2
 have p0 := blk_free h2 0
 have p1 := blk_free h2 1
 have p2 := blk_free h2 2
 simp only [List.getElem?_toArray, List.getElem?_cons_zero, List.getElem?_cons_succ] at q0 q1 q2
 clear h2 hB2 H0 hr
 go_wp2
 have r := set3 H2.out (.int .i64 6) (.slice A1 bs.length c1) (.slice none 0 0)
 have r0 := blk_cell r 0
 have r1 := blk_cell r 1
 have r2 := blk_cell r 2
 simp only [List.getElem?_toArray, List.getElem?_cons_zero, List.getElem?_cons_succ] at r0 r1 r2
 have hr3 := (((HR.out.setCell (p := ⟨s, 0, none⟩) (fun h => by have := h.1; have := Hz.out; simp at *; omega) (.int .i64 6)).setCell (p := ⟨s, 1, none⟩) (fun h => by have := h.1; have := Hz.out; simp at *; omega) (.slice A1 bs.length c1)).setCell (p := ⟨s, 2, none⟩) (fun h => by have := h.1; have := Hz.out; simp at *; omega) (.slice none 0 0))
 refine bodyPost_ret (v := .tuple #[.agg #[.int .i64 6, .slice A1 bs.length c1, .slice none 0 0], .bool true]) (by simp [results, Tryz.results190, go_sem, r0, r1, r2]) rfl ⟨⟨A1, bs, c1, rfl, ?_, hlb⟩, ?_⟩
 · exact hr3.mono fun b hb => ⟨by have := hb.1; have := Hz.out; have := Hs.out; omega, by have := hb.2; simpa using this⟩
 rw [Hs.out]
 exact ((HB3.out.setCell (p := ⟨s, 0, none⟩) (by simp) _).setCell (p := ⟨s, 1, none⟩) (by simp) _).setCell (p := ⟨s, 2, none⟩) (by simp) _

set_option maxRecDepth 100000 in
set_option maxHeartbeats 4000000 in
theorem params12_2 (w : World) : Calls Tryz.prog 190 #[.int .i64 2] w fun e w' => (∃ A1 bs c1, e = .returned (.tuple #[.agg #[.int .i64 6, .slice A1 (List.length bs) c1, .slice none 0 0], .bool true]) ∧ RB w' (In w.heap.size w'.heap.size) A1 c1 bs ∧ bs.length ≤ 120) ∧ Below w.heap.size w w' := by
 have hB := ((Below.refl w.heap.size w).alloc (Nat.le_refl _) (.cells #[.int .i64 0, .slice none 0 0, .slice none 0 0] 172)).alloc (by simp) (.cells #[.int .i64 1, .int .i64 3, .int .i64 132, .int .i64 0, .int .i64 34] 3)
 have hb := (Below.heap_alloc (w.alloc (.cells #[.int .i64 0, .slice none 0 0, .slice none 0 0] 172)) (.cells #[.int .i64 1, .int .i64 3, .int .i64 132, .int .i64 0, .int .i64 34] 3) w.heap.size (by simp)).trans (heap_alloc_new w _)
 have hz : ((w.alloc (.cells #[.int .i64 0, .slice none 0 0, .slice none 0 0] 172)).alloc (.cells #[.int .i64 1, .int .i64 3, .int .i64 132, .int .i64 0, .int .i64 34] 3)).heap.size = w.heap.size + 2 := by simp
 have hR := RI.fresh (P := fun b => b < w.heap.size + 2) (w.alloc (.cells #[.int .i64 0, .slice none 0 0, .slice none 0 0] 172)) #[.int .i64 1, .int .i64 3, .int .i64 132, .int .i64 0, .int .i64 34] 3 [1, 3, 132, 0, 34] 5 rfl rfl (by omega) (by simp)
 rw [World.size_alloc] at hR
 have hO := oid12_any (fun b => b < w.heap.size + 2) (w.heap.size + 1) 5 [1, 3, 132, 0, 34] _ hR (fun b hb => by rw [hz]; exact hb) (by simp) rfl (by simp) (all_small2 (by simp))
 have HB := Lib.hid hB
 have H0 := Lib.hid hb
 have Hz := Lib.hid hz
 have HO := Lib.hid hO
 clear hB hb hz hO hR
 go_enter Tryz.func190, Tryz.ntmps190
 go_wp2_with fail
 obtain ⟨s, hs⟩ : ∃ s, w.heap.size = s := ⟨_, rfl⟩
 rw [hs] at HB H0 Hz HO ⊢
 have Hs := Lib.hid hs
 clear hs
 generalize (w.alloc (.cells #[.int .i64 0, .slice none 0 0, .slice none 0 0] 172)).alloc (.cells #[.int .i64 1, .int .i64 3, .int .i64 132, .int .i64 0, .int .i64 34] 3) = W1 at *
 refine HO.out.mono ?_
 rintro e w2 ⟨⟨A1, bs, c1, rfl, hr, hlb⟩, hB2⟩
 have h2 := (hB2.block s (by have := Hz.out; omega)).trans H0.out
 have hlt : s < w2.heap.size := by have := Hz.out; have := hB2.size; omega
 have HB3 := Lib.hid (HB.out.trans (hB2.mono (by have := Hz.out; omega)))
 have H2 := Lib.hid h2
 have HR := Lib.hid hr
 have q0 := blk_cell h2 0
 have q1 := blk_cell h2 1
 have q2 := blk_cell h2 2
 have p0 := blk_free h2 0
 have p1 := blk_free h2 1
 have p2 := blk_free h2 2
 simp only [List.getElem?_toArray, List.getElem?_cons_zero, List.getElem?_cons_succ] at q0 q1 q2
 clear h2 hB2 H0 hr
 go_wp2
 have r := set3 H2.out (.int .i64 6) (.slice A1 bs.length c1) (.slice none 0 0)
 have r0 := blk_cell r 0
 have r1 := blk_cell r 1
 have r2 := blk_cell r 2
 simp only [List.getElem?_toArray, List.getElem?_cons_zero, List.getElem?_cons_succ] at r0 r1 r2
 have hr3 := (((HR.out.setCell (p := ⟨s, 0, none⟩) (fun h => by have := h.1; have := Hz.out; simp at *; omega) (.int .i64 6)).setCell (p := ⟨s, 1, none⟩) (fun h => by have := h.1; have := Hz.out; simp at *; omega) (.slice A1 bs.length c1)).setCell (p := ⟨s, 2, none⟩) (fun h => by have := h.1; have := Hz.out; simp at *; omega) (.slice none 0 0))
 refine bodyPost_ret (v := .tuple #[.agg #[.int .i64 6, .slice A1 bs.length c1, .slice none 0 0], .bool true]) (by simp [results, Tryz.results190, go_sem, r0, r1, r2]) rfl ⟨⟨A1, bs, c1, rfl, ?_, hlb⟩, ?_⟩
 · exact hr3.mono fun b hb => ⟨by have := hb.1; have := Hz.out; have := Hs.out; omega, by have := hb.2; simpa using this⟩
 rw [Hs.out]
 exact ((HB3.out.setCell (p := ⟨s, 0, none⟩) (by simp) _).setCell (p := ⟨s, 1, none⟩) (by simp) _).setCell (p := ⟨s, 2, none⟩) (by simp) _

end Go.Proofs.YtendnkpiidhogaaGreat.At

namespace Go.Proofs.YtendnkpiidhogaaGreat.At
open Go.RowKit Go.Shelf

attribute [local go_sem] Oper.semAt_some

set_option maxRecDepth 100000 in
set_option maxHeartbeats 4000000 in
theorem Params12_1 (w : World) : Calls Tryz.prog 155 #[.int .i64 1] w fun e w' => (∃ A1 c1 b1 b, e = .returned (.tuple #[.slice A1 (List.length b1) c1, .bool b]) ∧ RB w' (fun b => b < w'.heap.size) A1 c1 b1) ∧ Below w.heap.size w w' := by
 go_enter Tryz.func155, Tryz.ntmps155
 go_wp2_with fail
 refine (params12_1 w).mono ?_
 rintro e w1 ⟨⟨A1, bs, c1, rfl, hr, hl⟩, hB1⟩
 have hs1 := hB1.size
 have hE := (Below.refl w1.heap.size w1).alloc (Nat.le_refl _) (.cells #[.int .i64 6, .slice A1 bs.length c1, .slice none 0 0] 172)
 have hw := write12_t _ A1 c1 bs _ (hr.below hE fun b hb => hb.2) (fun b hb => by have := hb.2; simp; omega) hl
 have HW := Lib.hid hw
 have HE := Lib.hid (hB1.trans (hE.mono hs1))
 clear hw hE hB1 hr
 go_wp2_with fail
 refine HW.out.mono ?_
 rintro e w2 ⟨⟨A2, c2, b2, b, rfl, hr2, hl2⟩, hB2⟩
 have HR2 := Lib.hid hr2
 have HB2 := Lib.hid (HE.out.trans (hB2.mono (by simp; omega)))
 clear hr2 hB2
 go_wp2
 go_ret2
 exact ⟨⟨A2, c2, b2, b, rfl, HR2.out⟩, HB2.out⟩

set_option maxRecDepth 100000 in
set_option maxHeartbeats 4000000 in
theorem Params12_2 (w : World) : Calls Tryz.prog 155 #[.int .i64 2] w fun e w' => (∃ A1 c1 b1 b, e = .returned (.tuple #[.slice A1 (List.length b1) c1, .bool b]) ∧ RB w' (fun b => b < w'.heap.size) A1 c1 b1) ∧ Below w.heap.size w w' := by
 go_enter Tryz.func155, Tryz.ntmps155
 go_wp2_with fail
 refine (params12_2 w).mono ?_
 rintro e w1 ⟨⟨A1, bs, c1, rfl, hr, hl⟩, hB1⟩
 have hs1 := hB1.size
 have hE := (Below.refl w1.heap.size w1).alloc (Nat.le_refl _) (.cells #[.int .i64 6, .slice A1 bs.length c1, .slice none 0 0] 172)
 have hw := write12_t _ A1 c1 bs _ (hr.below hE fun b hb => hb.2) (fun b hb => by have := hb.2; simp; omega) hl
 have HW := Lib.hid hw
 have HE := Lib.hid (hB1.trans (hE.mono hs1))
 clear hw hE hB1 hr
 go_wp2_with fail
 refine HW.out.mono ?_
 rintro e w2 ⟨⟨A2, c2, b2, b, rfl, hr2, hl2⟩, hB2⟩
 have HR2 := Lib.hid hr2
 have HB2 := Lib.hid (HE.out.trans (hB2.mono (by simp; omega)))
 clear hr2 hB2
 go_wp2
 go_ret2
 exact ⟨⟨A2, c2, b2, b, rfl, HR2.out⟩, HB2.out⟩

set_option maxRecDepth 100000 in
set_option maxHeartbeats 4000000 in
theorem readParams12_t (P : Nat → Prop) (A : Option Addr) (c : Nat) (bs : List Nat) (w : World) (h : RB w P A c bs) (hP : ∀ b, P b → b < w.heap.size) :
 Calls Tryz.prog 114 #[.slice A bs.length c] w fun e w' => (∃ (k : Int) (b : Bool), e = .returned (.tuple #[.int .i64 k, .bool b]) ∧ (b = true → k = 1 ∨ k = 2)) ∧ Below w.heap.size w w' := by
 go_enter Tryz.func114, Tryz.ntmps114
 go_wp2
 go_loopw [4] (fun i wr => ∃ z : Int, i = .int .i64 z ∧ Below w.heap.size w wr ∧ (z = 1 ∨ z = 2 ∨ z = 3)) (fun i _ => 3 - (intOf i).toNat)
 case atStart => exact ⟨1, rfl, Below.refl _ _, .inl rfl⟩
 case round =>
  obtain ⟨z, rfl, hB, hz⟩ := hrel
  have hs := hB.size
  rcases hz with rfl | rfl | rfl
  · go_wp2_with fail
    refine (Params12_1 wr).mono ?_
    rintro e w1 ⟨⟨A1, c1, b1, ok, rfl, hr1⟩, hB1⟩
    have HB1 := Lib.hid (hB.trans (hB1.mono hs))
    have hu := h.below HB1.out hP
    have s1 := hr1.strA (P := Tryz.prog) 33 5 9 Tryz.underlying33 Tryz.underlying5 Tryz.underlying9
    have s2 := hu.strA (P := Tryz.prog) 33 5 9 Tryz.underlying33 Tryz.underlying5 Tryz.underlying9
    by_cases he : b1 = bs
    · subst he
      clear hB1 hr1 hu
      go_wp2
      go_ret2
      exact ⟨⟨1, true, rfl, fun _ => .inl rfl⟩, HB1.out⟩
    · have hne : ((strB b1).toList == (strB bs).toList) = false := by
       rw [beq_eq_false_iff_ne]
       exact fun h1 => he (strB_inj hr1.2.1 hu.2.1 h1)
      clear hB1 hr1 hu he
      go_wp2
      go_roundw
      case rel => exact ⟨2, by go_num, HB1.out, .inr (.inl rfl)⟩
      case measure => first | (simp [intOf]; done) | (simp [intOf]; decide)
  · go_wp2_with fail
    refine (Params12_2 wr).mono ?_
    rintro e w1 ⟨⟨A1, c1, b1, ok, rfl, hr1⟩, hB1⟩
    have HB1 := Lib.hid (hB.trans (hB1.mono hs))
    have hu := h.below HB1.out hP
    have s1 := hr1.strA (P := Tryz.prog) 33 5 9 Tryz.underlying33 Tryz.underlying5 Tryz.underlying9
    have s2 := hu.strA (P := Tryz.prog) 33 5 9 Tryz.underlying33 Tryz.underlying5 Tryz.underlying9
    by_cases he : b1 = bs
    · subst he
      clear hB1 hr1 hu
      go_wp2
      go_ret2
      exact ⟨⟨2, true, rfl, fun _ => .inr rfl⟩, HB1.out⟩
    · have hne : ((strB b1).toList == (strB bs).toList) = false := by
       rw [beq_eq_false_iff_ne]
       exact fun h1 => he (strB_inj hr1.2.1 hu.2.1 h1)
      clear hB1 hr1 hu he
      go_wp2
      go_roundw
      case rel => exact ⟨3, by go_num, HB1.out, .inr (.inr rfl)⟩
      case measure => first | (simp [intOf]; done) | (simp [intOf]; decide)
  · go_wp2
    go_ret2
    exact ⟨⟨0, false, rfl, fun h => by cases h⟩, hB⟩
end Go.Proofs.YtendnkpiidhogaaGreat.At

namespace Go.Proofs.YtendnkpiidhogaaGreat
open Go.RowKit

def EV (l : List Nat) : Value := .agg (nts l).toArray
theorem six {l : List Nat} (h : l.length = 6) : ∃ a b c d e f, l = [a, b, c, d, e, f] := by
 match l, h with
 | [a, b, c, d, e, f], _ => exact ⟨a, b, c, d, e, f, rfl⟩
end Go.Proofs.YtendnkpiidhogaaGreat

namespace Go.Proofs.YtendnkpiidhogaaGreat

def MontT (B M : Nat) (a b : List Nat) (T i : Nat) : Prop := T < M + val B b ∧ ∃ k, T * B ^ i = val B (a.take i) * val B b + k * M
theorem MontT.zero {B M : Nat} (a b : List Nat) (hM : 0 < M) : MontT B M a b 0 0 := ⟨by omega, 0, by simp⟩
theorem MontT.step {B M inv i q T T2 T4 : Nat} {a b : List Nat} (hB : 2 ≤ B) (h : MontT B M a b T i) (ha : dg a i < B) (hq : q = (T + dg a i * val B b) % B * inv % B) (h2 : T2 = T + dg a i * val B b + q * M) (h4 : T2 = B * T4) : MontT B M a b T4 (i + 1) := by
 have hq' : q < B := by rw [hq]; exact Nat.mod_lt _ (by omega)
 obtain ⟨hb, k, hk⟩ := h
 refine ⟨mont_bound (by omega) h2 hb ha hq' h4, k + q * B ^ i, ?_⟩
 rw [Nat.pow_succ, show T4 * (B ^ i * B) = (B * T4) * B ^ i by rw [Nat.mul_comm (B ^ i), ← Nat.mul_assoc, Nat.mul_comm T4], ← h4]
 exact mont_eq h2 hk (val_take_getD B a i)

def FirstAt (B : Nat) (t b o : List Nat) (f j c : Nat) : Prop := o.length = t.length ∧ (∀ p, j ≤ p → dg o p = dg t p) ∧ val B (o.take j) + B ^ j * c = val B (t.take j) + f * val B (b.take j)
theorem FirstAt.zero (B : Nat) (t b : List Nat) (f : Nat) : FirstAt B t b t f 0 0 := ⟨rfl, fun _ _ => rfl, by simp⟩
theorem FirstAt.step {B f j c s c' : Nat} {t b o : List Nat} (h : FirstAt B t b o f j c) (hj : j < t.length) (he : s + B * c' = dg o j + f * dg b j + c) : FirstAt B t b (o.set j s) f (j + 1) c' := by
 obtain ⟨h1, h2, h3⟩ := h
 refine ⟨by simpa using h1, fun p hp => by rw [getD_set_ne (by omega)]; exact h2 p (by omega), ?_⟩
 rw [val_take_set B (by omega), val_take_getD, val_take_getD, Nat.pow_succ, Nat.mul_assoc]
 have e := congrArg (fun z => B ^ j * z) he
 simp only [Nat.mul_add] at e
 rw [h2 j (Nat.le_refl _)] at e
 have e2 : B ^ j * (f * dg b j) = f * (B ^ j * dg b j) := Nat.mul_left_comm _ _ _
 rw [Nat.mul_add f]
 omega
theorem FirstAt.fin {B f n c s c' : Nat} {t b o : List Nat} (h : FirstAt B t b o f n c) (hn : n + 2 ≤ t.length) (hb : b.take n = b ∨ val B (b.take n) = val B b) (he : s + B * c' = dg o n + c) :
    ((o.set n s).set (n + 1) c').length = t.length ∧ val B (((o.set n s).set (n + 1) c').take (n + 2)) = val B (t.take (n + 1)) + f * val B b := by
  obtain ⟨h1, h2, h3⟩ := h
  have hb' : val B (b.take n) = val B b := by rcases hb with h | h; · rw [h]
                                              · exact h
  refine ⟨by simpa using h1, ?_⟩
  rw [val_take_set B (by simp; omega), val_take_set B (by omega), val_take_getD B t n, Nat.pow_succ]
  have e := congrArg (fun z => B ^ n * z) he
  simp only [Nat.mul_add] at e
  rw [h2 n (Nat.le_refl _), ← Nat.mul_assoc] at e
  rw [hb'] at h3
  omega

def ShiftAt (B : Nat) (t m o : List Nat) (u k c : Nat) : Prop := o.length = t.length ∧ (∀ p, k ≤ p → dg o p = dg t p) ∧ B * val B (o.take k) + B ^ (k + 1) * c = val B (t.take (k + 1)) + u * val B (m.take (k + 1))
theorem ShiftAt.zero {B u c : Nat} {t m : List Nat} (he : B * c = dg t 0 + u * dg m 0) : ShiftAt B t m t u 0 c := by
 refine ⟨rfl, fun _ _ => rfl, ?_⟩
 rw [val_take_getD, val_take_getD]
 simp
 exact he
theorem ShiftAt.step {B u k c s c' : Nat} {t m o : List Nat} (h : ShiftAt B t m o u k c) (hk : k < t.length) (he : s + B * c' = dg o (k + 1) + u * dg m (k + 1) + c) : ShiftAt B t m (o.set k s) u (k + 1) c' := by
 obtain ⟨h1, h2, h3⟩ := h
 refine ⟨by simpa using h1, fun p hp => by rw [getD_set_ne (by omega)]; exact h2 p (by omega), ?_⟩
 rw [val_take_set B (by omega), val_take_getD B t (k + 1), val_take_getD B m (k + 1)]
 have e := congrArg (fun z => B ^ (k + 1) * z) he
 simp only [Nat.mul_add] at e
 rw [h2 (k + 1) (by omega)] at e
 have e2 : B ^ (k + 1) * (u * dg m (k + 1)) = u * (B ^ (k + 1) * dg m (k + 1)) := Nat.mul_left_comm _ _ _
 have e3 : B ^ (k + 1) * (B * c') = B ^ (k + 1 + 1) * c' := by rw [← Nat.mul_assoc, ← Nat.pow_succ]
 have e4 : B * (B ^ k * s) = B ^ (k + 1) * s := by rw [← Nat.mul_assoc, Nat.mul_comm B, ← Nat.pow_succ]
 rw [Nat.mul_add B, Nat.mul_add u, e4]
 omega
theorem ShiftAt.fin {B u k c s c' : Nat} {t m o : List Nat} (h : ShiftAt B t m o u k c) (hn : k + 3 ≤ t.length) (hm : val B (m.take (k + 1)) = val B m) (he : s + B * c' = dg o (k + 1) + c) :
 ((o.set k s).set (k + 1) (dg o (k + 2) + c')).length = t.length ∧ B * val B (((o.set k s).set (k + 1) (dg o (k + 2) + c')).take (k + 2)) = val B (t.take (k + 3)) + u * val B m := by
 obtain ⟨h1, h2, h3⟩ := h
 refine ⟨by simpa using h1, ?_⟩
 rw [val_take_set B (by simp; omega), val_take_set B (by omega), val_take_getD B t (k + 2), val_take_getD B t (k + 1), h2 (k + 2) (by omega)]
 have e := congrArg (fun z => B ^ (k + 1) * z) he
 simp only [Nat.mul_add] at e
 rw [h2 (k + 1) (by omega)] at e
 rw [hm] at h3
 have e3 : B ^ (k + 1) * (B * c') = B ^ (k + 2) * c' := by rw [← Nat.mul_assoc, ← Nat.pow_succ]
 have e4 : B * (B ^ k * s) = B ^ (k + 1) * s := by rw [← Nat.mul_assoc, Nat.mul_comm B, ← Nat.pow_succ]
 have e5 : B * (B ^ (k + 1) * (dg t (k + 2) + c')) = B ^ (k + 2) * dg t (k + 2) + B ^ (k + 2) * c' := by rw [← Nat.mul_assoc, Nat.mul_comm B, ← Nat.pow_succ, Nat.mul_add]
 rw [Nat.mul_add B, Nat.mul_add B, e4, e5]
 omega
end Go.Proofs.YtendnkpiidhogaaGreat

namespace Go.Proofs.YtendnkpiidhogaaGreat
open Go.RowKit

def fcells (n inv : Nat) (ml ol rl : List Nat) : List Value := .int .i64 (n : Int) :: (nts ml ++ .int .u64 (inv : Int) :: (nts ol ++ nts rl))
structure Fld (w : World) (g n inv : Nat) (ml ol rl : List Nat) : Prop where
 blk : w.heap[g]? = some (.cells (fcells n inv ml ol rl).toArray 231 (0, 0))
 m6 : ml.length = 6
 o6 : ol.length = 6
 r6 : rl.length = 6
variable {w w' : World} {g n inv : Nat} {ml ol rl : List Nat}
theorem Fld.below {B : Nat} (h : Fld w g n inv ml ol rl) (hb : Below B w w') (hg : g < B) : Fld w' g n inv ml ol rl := ⟨(hb.block g hg).trans h.blk, h.m6, h.o6, h.r6⟩
theorem Fld.lt (h : Fld w g n inv ml ol rl) : g < w.heap.size := blk_lt h.blk
theorem Fld.n0 (h : Fld w g n inv ml ol rl) : w.cell? ⟨g, 0, none⟩ = some (.int .i64 (n : Int)) := by
 rw [blk_cell h.blk 0]; rfl
def ARow (w : World) (g : Nat) (ty : TypeId) (l : List Nat) : Prop := w.heap[g]? = some (.cells (nts l).toArray ty (0, 0))
theorem ARow.cell {ty : TypeId} {l : List Nat} (h : ARow w g ty l) {i : Nat} (hi : i < l.length) : w.cell? ⟨g, i, none⟩ = some (.int .u64 (dg l i : Int)) := by
 rw [blk_cell h i, List.getElem?_toArray, nts_get hi]
theorem ARow.free {ty : TypeId} {l : List Nat} (h : ARow w g ty l) (i : Nat) : w.frozen? ⟨g, i, none⟩ = false := blk_free h i
theorem ARow.set {ty : TypeId} {l : List Nat} (h : ARow w g ty l) (i x : Nat) : ARow (w.setCell ⟨g, i, none⟩ (.int .u64 (x : Int))) g ty (l.set i x) := by
 have := blk_set h i (.int .u64 (x : Int))
 rw [ARow, this]
 simp [nts, List.map_set]
theorem ARow.below {ty : TypeId} {l : List Nat} {B : Nat} (h : ARow w g ty l) (hb : Below B w w') (hg : g < B) : ARow w' g ty l := (hb.block g hg).trans h
theorem ARow.lt {ty : TypeId} {l : List Nat} (h : ARow w g ty l) : g < w.heap.size := blk_lt h

theorem val_take_lt {B : Nat} {l : List Nat} (h : ∀ x ∈ l, x < B) (k : Nat) (hB : 0 < B := by omega) : val B (l.take k) < B ^ k := by
 have h1 := val_lt (B := B) (l := l.take k) fun x hx => h x (List.mem_of_mem_take hx)
 exact Nat.lt_of_lt_of_le h1 (Nat.pow_le_pow_right hB (by rw [List.length_take]; omega))
end Go.Proofs.YtendnkpiidhogaaGreat

namespace Go.Proofs.YtendnkpiidhogaaGreat
open Go.RowKit

structure FF (w : World) (g n inv M : Nat) (ml ol rl : List Nat) : Prop where
 fld : Fld w g n inv ml ol rl
 mlt : ∀ x ∈ ml, x < 18446744073709551616
 mval : val 18446744073709551616 ml = M
 mtake : val 18446744073709551616 (ml.take n) = M
 npos : 0 < n
 nle : n ≤ 6
 big : 1 < M
 invLt : inv < 18446744073709551616
 invV : (inv * M + 1) % 18446744073709551616 = 0
theorem FF.below {w w' : World} {g n inv M B : Nat} {ml ol rl : List Nat} (h : FF w g n inv M ml ol rl) (hb : Below B w w') (hg : g < B) : FF w' g n inv M ml ol rl :=
 ⟨h.fld.below hb hg, h.mlt, h.mval, h.mtake, h.npos, h.nle, h.big, h.invLt, h.invV⟩
theorem FF.room {w : World} {g n inv M : Nat} {ml ol rl : List Nat} (h : FF w g n inv M ml ol rl) : M < 18446744073709551616 ^ n := by rw [← h.mtake]; exact val_take_lt h.mlt n
structure Elt (M : Nat) (l : List Nat) : Prop where
 six : l.length = 6
 lim : ∀ x ∈ l, x < 18446744073709551616
 lt : val 18446744073709551616 l < M
theorem Elt.take {w : World} {g n inv M : Nat} {ml ol rl l : List Nat} (h : FF w g n inv M ml ol rl) (he : Elt M l) : val 18446744073709551616 (l.take n) = val 18446744073709551616 l := by
 have h1 := val_take_drop 18446744073709551616 l (n := n) (by rw [he.six]; exact h.nle)
 have h2 := h.room
 rcases Nat.eq_zero_or_pos (val 18446744073709551616 (l.drop n)) with h3 | h3
 · rw [h3] at h1; omega
 · have h4 : 18446744073709551616 ^ n * 1 ≤ 18446744073709551616 ^ n * val 18446744073709551616 (l.drop n) := Nat.mul_le_mul_left _ h3
   have h5 := he.lt
   omega
end Go.Proofs.YtendnkpiidhogaaGreat

namespace Go.Proofs.YtendnkpiidhogaaGreat
open Go.RowKit

structure FE (M n : Nat) (l : List Nat) (x : Nat) : Prop where
 elt : Elt M l
 form : val 18446744073709551616 l = x * 18446744073709551616 ^ n % M
end Go.Proofs.YtendnkpiidhogaaGreat

namespace Go.Proofs.YtendnkpiidhogaaGreat
open Go.RowKit

structure FR (w : World) (g n inv M : Nat) (ml ol rl : List Nat) : Prop where
 ff : FF w g n inv M ml ol rl
 oelt : Elt M ol
 oval : val 18446744073709551616 ol = 18446744073709551616 ^ n % M
 relt : Elt M rl
 rval : val 18446744073709551616 rl = 18446744073709551616 ^ n * 18446744073709551616 ^ n % M
theorem FR.below {w w' : World} {g n inv M B : Nat} {ml ol rl : List Nat} (h : FR w g n inv M ml ol rl) (hb : Below B w w') (hg : g < B) : FR w' g n inv M ml ol rl :=
 ⟨h.ff.below hb hg, h.oelt, h.oval, h.relt, h.rval⟩
end Go.Proofs.YtendnkpiidhogaaGreat

namespace Go.Proofs.YtendnkpiidhogaaGreat
open Go.RowKit

def kcells (size : Nat) (sp sn sb sx sy fp : Value) (tl fl : List Nat) : List Value := [Value.int .i64 (size : Int), sp, sn, sb, sx, sy, fp] ++ nts tl ++ nts fl
structure Num (w : World) (P : Nat → Prop) (k g size n inv M bb : Nat) (pl nl bl xl yl ml ol rl tl fl : List Nat) (Ap An Ab Ax Ay : Option Addr) (cp cn cb cx cy : Nat) : Prop where
 blk : w.heap[k]? = some (.cells (kcells size (.slice Ap pl.length cp) (.slice An nl.length cn) (.slice Ab bl.length cb) (.slice Ax xl.length cx) (.slice Ay yl.length cy) (.pointer (some ⟨g, 0, none⟩)) tl fl).toArray 162 (0, 0))
 p : RN w P Ap cp pl
 nn : RN w P An cn nl
 b : RN w P Ab cb bl
 x : RN w P Ax cx xl
 y : RN w P Ay cy yl
 fr : FR w g n inv M ml ol rl
 pv : val 18446744073709551616 pl = M
 three : FE M n tl 3
 fb : FE M n fl bb

def p256p : List Nat := [18446744073709551615, 4294967295, 0, 18446744069414584321]
def p256n : List Nat := [17562291160714782033, 13611842547513532036, 18446744073709551615, 18446744069414584320]
def p256b : List Nat := [4309448131093880907, 7285987128567378166, 12964664127075681980, 6540974713487397863]
def p256x : List Nat := [17627433388654248598, 8575836109218198432, 17923454489921339634, 7716867327612699207]
def p256y : List Nat := [14678990851816772085, 3156516839386865358, 10297457778147434006, 5756518291402817435]
def Lits (l : List Nat) : Prop := (∀ x ∈ l, x < 18446744073709551616) ∧ l.length ≤ 6
theorem RN.lits (w : World) (l : List Nat) (h : Lits l) : RN (w.alloc (.cells (nts l).toArray 139)) (In w.heap.size (w.heap.size + 1)) (some ⟨w.heap.size, 0, none⟩) l.length l := by
 have hb : Blk (w.alloc (.cells (nts l).toArray 139)) w.heap.size l := heap_alloc_new w _
 have := (OB.of_blk (c := l.length) hb (base := w.heap.size) (Nat.le_refl _) ⟨h.1, by have := h.2; omega⟩ (Nat.le_refl _) (by have := h.2; unfold maxLen; omega)).rn
 exact this.mono fun b hb => by have := hb.2; rw [World.size_alloc] at this; exact ⟨hb.1, this⟩
end Go.Proofs.YtendnkpiidhogaaGreat

namespace Go.Proofs.YtendnkpiidhogaaGreat
open Go.RowKit

def p384p : List Nat := [4294967295, 18446744069414584320, 18446744073709551614, 18446744073709551615, 18446744073709551615, 18446744073709551615]
def p384n : List Nat := [17072048233947408755, 6348401684107011962, 14367412456785391071, 18446744073709551615, 18446744073709551615, 18446744073709551615]
def p384b : List Nat := [3064076045283764975, 14291673747578343837, 221811693264799578, 1737717031765098770, 10992729701402291481, 12912154004749740004]
def p384x : List Nat := [4203087948775033527, 6125724927633205612, 6482722621138151992, 7934563412932533144, 10282218360005504372, 12288012358878168375]
def p384y : List Nat := [8809917716911230559, 747793036959711645, 16850834916486723776, 17938995913990739068, 6745997240412855337, 3897828414440483951]
end Go.Proofs.YtendnkpiidhogaaGreat

namespace Go.Proofs.YtendnkpiidhogaaGreat
open Go.RowKit

def BlkE (X : World) (b : Nat) (l : List Nat) : Prop := X.heap[b]? = some (.cells (nts l).toArray 160 (0, 0))
theorem BlkE.ext {X Y : World} {b : Nat} {l : List Nat} (h : BlkE X b l) (hE : Ext X Y) : BlkE Y b l := hE.at_ h
theorem BlkE.range {X : World} {b : Nat} {l : List Nat} (h : BlkE X b l) : X.rangeAt b 0 (nts l) := fun j v hv => by
 rw [Nat.zero_add, blk_cell h j]
 simpa using hv
theorem BlkE.lt {X : World} {b : Nat} {l : List Nat} (h : BlkE X b l) : b < X.heap.size := blk_lt h
theorem infoE : (Tryz.prog.info? 160).map (·.size) = some 6 := by kernel_rfl
theorem loadE {X : World} {b o : Nat} {l : List Nat} (h : X.rangeAt b o (nts l)) (h6 : l.length = 6) : (Instr.loadAt 160 (.pointer (some ⟨b, o, none⟩))).run Tryz.prog X = .ok (EV l) X :=
 run_loadAt_mid X b o 160 (nts l) _ h Tryz.underlying160 rfl (by rw [nts_length, h6]; exact infoE)
structure Lay (b : Nat) (l : List Nat) (X Y : World) : Prop where
 just : Just b X Y
 blk : BlkE Y b l
 size : Y.heap.size = X.heap.size
theorem Lay.ext {b : Nat} {l : List Nat} {w X Y : World} (h : Lay b l X Y) (hE : Ext w X) (hb : w.heap.size ≤ b) : Ext w Y := Below.trans hE (h.just.below hb hE.bsize)
theorem Lay.other {b c : Nat} {l : List Nat} {X Y : World} {o : Obj} (h : Lay b l X Y) (hc : c ≠ b) (hx : X.heap[c]? = some o) : Y.heap[c]? = some o := (h.just.block c (blk_lt hx) hc).trans hx
def VE (X : World) (M n b x : Nat) : Prop := ∃ l, BlkE X b l ∧ FE M n l x
theorem VE.ext {X Y : World} {M n b x : Nat} (h : VE X M n b x) (hE : Ext X Y) : VE Y M n b x := let ⟨l, h1, h2⟩ := h; ⟨l, h1.ext hE, h2⟩
theorem VE.load {X : World} {M n b x : Nat} (h : VE X M n b x) : ∃ l, (Instr.loadAt 160 (.pointer (some ⟨b, 0, none⟩))).run Tryz.prog X = .ok (EV l) X ∧ FE M n l x := let ⟨l, h1, h2⟩ := h; ⟨l, loadE h1.range h2.elt.six, h2⟩
section
variable {Q : Exit → Act → World → Prop} {ol : List Oper} {m : Nat} {L AL : List Nat} {R : Nat → (Nat → Value) → World → Prop} {a : Act} {w : World} {F : List Oper → Prop} {k n : Nat} {o : Oper} {l : List Oper} {u : Value}
end

section
variable {w X : World} {P0 : Nat → Prop} {k g size n inv M bb : Nat} {pl nl bl xl yl ml ol rl tl fl : List Nat} {Ap An Ab Ax Ay : Option Addr} {cp cn cb cx cy : Nat}
theorem Num.ext (h : Num w P0 k g size n inv M bb pl nl bl xl yl ml ol rl tl fl Ap An Ab Ax Ay cp cn cb cx cy) (hP : ∀ b, P0 b → b < w.heap.size) (hE : Ext w X) : Num X P0 k g size n inv M bb pl nl bl xl yl ml ol rl tl fl Ap An Ab Ax Ay cp cn cb cx cy :=
 ⟨hE.at_ h.blk, h.p.below hE hP, h.nn.below hE hP, h.b.below hE hP, h.x.below hE hP, h.y.below hE hP, h.fr.below hE h.fr.ff.fld.lt, h.pv, h.three, h.fb⟩
theorem Num.c_size (h : Num w P0 k g size n inv M bb pl nl bl xl yl ml ol rl tl fl Ap An Ab Ax Ay cp cn cb cx cy) : w.cell? ⟨k, 0, none⟩ = some (.int .i64 (size : Int)) := blk_cell h.blk 0
theorem Num.six (h : Num w P0 k g size n inv M bb pl nl bl xl yl ml ol rl tl fl Ap An Ab Ax Ay cp cn cb cx cy) {x : Nat} (hx : x < M) : (digs 18446744073709551616 x).length ≤ 6 :=
 digs_length_of_lt (by omega) (Nat.lt_of_lt_of_le (Nat.lt_trans hx h.fr.ff.room) (Nat.pow_le_pow_right (by omega) h.fr.ff.nle))
end
end Go.Proofs.YtendnkpiidhogaaGreat

namespace Go.Proofs.YtendnkpiidhogaaGreat
open Go.RowKit

def onB (M bb x y : Nat) : Bool := decide (x < M) && decide (y < M) && decide (y * y % M = ((x * x % M * x % M + M - 3 * x % M) % M + bb) % M)

end Go.Proofs.YtendnkpiidhogaaGreat

namespace Go.Proofs.YtendnkpiidhogaaGreat
open Go.RowKit

structure Crv where
 size : Nat
 n : Nat
 M : Nat
 bb : Nat
 pl : List Nat
 nl : List Nat
 bl : List Nat
 xl : List Nat
 yl : List Nat
def c256 : Crv := ⟨32, 4, val 18446744073709551616 p256p, val 18446744073709551616 p256b, p256p, p256n, p256b, p256x, p256y⟩
def c384 : Crv := ⟨48, 6, val 18446744073709551616 p384p, val 18446744073709551616 p384b, p384p, p384n, p384b, p384x, p384y⟩
def IsC (c : Int) (C : Crv) : Prop := (c = 1 ∧ C = c256) ∨ (c = 2 ∧ C = c384)
structure Crv.Fine (C : Crv) : Prop where
 three : 3 < C.M
 bb : C.bb < C.M
 room : C.M < 256 ^ C.size
 small : C.size ≤ 48
 pos : 32 ≤ C.size
 pv : val 18446744073709551616 C.pl = C.M
theorem IsC.fine {c : Int} {C : Crv} (h : IsC c C) : C.Fine := by
 rcases h with ⟨_, rfl⟩ | ⟨_, rfl⟩
 · exact ⟨by decide +kernel, by decide +kernel, by decide +kernel, by decide, by decide, rfl⟩
 · exact ⟨by decide +kernel, by decide +kernel, by decide +kernel, by decide, by decide, rfl⟩
def OfC (C : Crv) (w : World) (k : Nat) : Prop := ∃ (P0 : Nat → Prop) (g inv : Nat) (ml ol rl tl fl : List Nat) (Ap An Ab Ax Ay : Option Addr) (cp cn cb cx cy : Nat), Num w P0 k g C.size C.n inv C.M C.bb C.pl C.nl C.bl C.xl C.yl ml ol rl tl fl Ap An Ab Ax Ay cp cn cb cx cy ∧ ∀ b, P0 b → b < w.heap.size
theorem OfC.ext {C : Crv} {w X : World} {k : Nat} (h : OfC C w k) (hE : Ext w X) : OfC C X k := by
 obtain ⟨P0, g, inv, ml, ol, rl, tl, fl, Ap, An, Ab, Ax, Ay, cp, cn, cb, cx, cy, hn, hP⟩ := h
 exact ⟨P0, g, inv, ml, ol, rl, tl, fl, Ap, An, Ab, Ax, Ay, cp, cn, cb, cx, cy, hn.ext hP hE, fun b hb => Nat.lt_of_lt_of_le (hP b hb) hE.bsize⟩
theorem OfC.size {C : Crv} {w : World} {k : Nat} (h : OfC C w k) : w.cell? ⟨k, 0, none⟩ = some (.int .i64 (C.size : Int)) := by
 obtain ⟨P0, g, inv, ml, ol, rl, tl, fl, Ap, An, Ab, Ax, Ay, cp, cn, cb, cx, cy, hn, hP⟩ := h
 exact hn.c_size
abbrev infV : Value := .agg #[.bool true, .slice none 0 0, .slice none 0 0]
theorem pt_facts {W : World} {g : Nat} {ty : TypeId} {x0 x1 x2 : Value} (h : W.heap[g]? = some (.cells #[x0, x1, x2] ty (0, 0))) :
 W.cell? ⟨g, 0, none⟩ = some x0 ∧ W.cell? ⟨g, 1, none⟩ = some x1 ∧ W.cell? ⟨g, 2, none⟩ = some x2 ∧ W.frozen? ⟨g, 0, none⟩ = false ∧ W.frozen? ⟨g, 1, none⟩ = false ∧ W.frozen? ⟨g, 2, none⟩ = false :=
 ⟨blk_cell h 0, blk_cell h 1, blk_cell h 2, blk_free h 0, blk_free h 1, blk_free h 2⟩
theorem pt_one (b : Bool) (A A' : Option Addr) (n n' c c' : Nat) : (#[Value.bool b, .slice A n c, .slice A' n' c'] : Array Value).all (·.oneCell') = true := by simp [Value.oneCell']
theorem pt_set {W : World} {g : Nat} {ty : TypeId} {x0 x1 x2 : Value} (h : W.heap[g]? = some (.cells #[x0, x1, x2] ty (0, 0))) (y0 y1 y2 : Value) : (((W.setCell ⟨g, 0, none⟩ y0).setCell ⟨g, 1, none⟩ y1).setCell ⟨g, 2, none⟩ y2).heap[g]? = some (.cells #[y0, y1, y2] ty (0, 0)) :=
 blk_set (blk_set (blk_set h 0 y0) 1 y1) 2 y2
theorem pt_just (W : World) (g : Nat) (y0 y1 y2 : Value) : Just g W (((W.setCell ⟨g, 0, none⟩ y0).setCell ⟨g, 1, none⟩ y1).setCell ⟨g, 2, none⟩ y2) := (((Just.refl g W).set 0 y0).set 1 y1).set 2 y2
theorem pt_ext {w W : World} {g : Nat} (hE : Ext w W) (hg : w.heap.size ≤ g) (y0 y1 y2 : Value) : Ext w (((W.setCell ⟨g, 0, none⟩ y0).setCell ⟨g, 1, none⟩ y1).setCell ⟨g, 2, none⟩ y2) :=
 ((Below.setCell hE (p := ⟨g, 0, none⟩) hg y0).setCell (p := ⟨g, 1, none⟩) hg y1).setCell (p := ⟨g, 2, none⟩) hg y2
theorem OB.just {X Y : World} {base b : Nat} {A : Option Addr} {c : Nat} {l : List Nat} (h : OB X base A c l) (hj : Just b X Y) {cs : Array Value} {t : TypeId} (hb : X.heap[b]? = some (.cells cs t (0, 0))) (ht : t ≠ 139) : OB Y base A c l := by
 obtain ⟨h1, h2, h3, h4⟩ := h
 refine ⟨h1, h2, h3, fun hl => ?_⟩
 obtain ⟨g, cur, e, hg, hgc, hr⟩ := h4 hl
 refine ⟨g, cur, e, hg, hj.at_ (fun e => ?_) hgc, hr⟩
 subst e
 rw [hb] at hgc
 injection hgc with hgc
 injection hgc with _ hgc _
 exact ht hgc
theorem RB.mid {w : World} {P : Nat → Prop} {A : Option Addr} {c : Nat} {bs : List Nat} (h : RB w P A c bs) {k m c' : Nat} (hkm : k ≤ m) (hm : m ≤ bs.length) (hc : m - k ≤ c') (hc' : c' ≤ maxLen) {A' : Option Addr} (hA : k < m → A' = A.map (·.add k)) : RB w P A' c' ((bs.drop k).take (m - k)) := by
 have h1 := h.1.sub hkm hm hc hc' (A' := A') (by simpa using hA)
 have e : ((bys bs).drop (k * 1)).take ((m - k) * 1) = bys ((bs.drop k).take (m - k)) := by simp [bys, List.map_take, List.map_drop]
 rw [e] at h1
 have hl : ((bs.drop k).take (m - k)).length = m - k := by rw [List.length_take, List.length_drop]; omega
 refine ⟨by rw [hl]; exact h1, fun b hb => h.2.1 b (List.mem_of_mem_drop (List.mem_of_mem_take hb)), by rw [hl]; have := h.2.2; omega⟩
end Go.Proofs.YtendnkpiidhogaaGreat

namespace Go.Proofs.YtendnkpiidhogaaGreat
open Go.RowKit

def RC (w : World) (C : Crv) (v : Value) : Prop := ∃ (Ap An Ab Ax Ay : Option Addr) (cp cn cb cx cy : Nat),
 v = .agg #[.slice Ap (digs 4294967296 C.M).length cp, .slice An (digs 4294967296 (val 18446744073709551616 C.nl)).length cn, .slice Ab (digs 4294967296 C.bb).length cb, .slice Ax (digs 4294967296 (val 18446744073709551616 C.xl)).length cx, .slice Ay (digs 4294967296 (val 18446744073709551616 C.yl)).length cy, .int .i64 (C.size : Int)] ∧
 RU w Ap cp (digs 4294967296 C.M) ∧ RU w An cn (digs 4294967296 (val 18446744073709551616 C.nl)) ∧ RU w Ab cb (digs 4294967296 C.bb) ∧ RU w Ax cx (digs 4294967296 (val 18446744073709551616 C.xl)) ∧ RU w Ay cy (digs 4294967296 (val 18446744073709551616 C.yl))
theorem RC.ext {w X : World} {C : Crv} {v : Value} (h : RC w C v) (hE : Ext w X) : RC X C v := by
 obtain ⟨Ap, An, Ab, Ax, Ay, cp, cn, cb, cx, cy, e, h1, h2, h3, h4, h5⟩ := h
 exact ⟨Ap, An, Ab, Ax, Ay, cp, cn, cb, cx, cy, e, h1.up hE, h2.up hE, h3.up hE, h4.up hE, h5.up hE⟩
theorem infoRC : (Tryz.prog.info? 129).map (·.size) = some 6 := by kernel_rfl
theorem infoRP : (Tryz.prog.info? 92).map (·.size) = some 3 := by kernel_rfl

set_option maxRecDepth 100000 in
set_option maxHeartbeats 4000000 in
theorem times_any {C : Crv} {v : Value} (A A' : Option Addr) (c c' x y : Nat) (w : World) (hc : RC w C v) (h : RU w A c (digs 4294967296 x)) (h' : RU w A' c' (digs 4294967296 y)) (hl : (digs 4294967296 x).length < 40000) (hl' : (digs 4294967296 y).length < 40000) (h0 : 0 < C.M) :
 Calls Tryz.prog 187 #[v, .slice A (digs 4294967296 x).length c, .slice A' (digs 4294967296 y).length c'] w fun e w' => ∃ A1 c1, e = .returned (.slice A1 (digs 4294967296 (x * y % C.M)).length c1) ∧ RU w' A1 c1 (digs 4294967296 (x * y % C.M)) ∧ Ext w w' := by
 obtain ⟨Ap, An, Ab, Ax, Ay, cp, cn, cb, cx, cy, rfl, h1, h2, h3, h4, h5⟩ := hc
 have hE := fun o => Ext.alloc w o
 have hm := fun o => refMulMod_any A A' Ap c c' cp x y C.M (w.alloc o) (h.up (hE o)) (h'.up (hE o)) (h1.up (hE o)) hl hl' h0
 have Hm := Lib.hid hm
 clear hm hE
 go_enter Tryz.func187, Tryz.ntmps187
 go_wp2_with (go_at_call 220; refine (Hm.out _).mono ?_; rintro e w2 ⟨A1, c1, rfl, hO, hB⟩)
 go_ret
 exact ⟨A1, c1, rfl, hO, (Ext.alloc w _).trans hB⟩

theorem Tu.ext {w X : World} {b : Nat} (h : Tu w b) (hE : Ext w X) : Tu X b := let ⟨cur, hc⟩ := h; ⟨cur, hE.at_ hc⟩
theorem OB.rt1 {w : World} {base : Nat} {A : Option Addr} {c : Nat} {l : List Nat} (h : OB w base A c l) : RT w A c l := h.tt
theorem RT.ru {w : World} {A : Option Addr} {c : Nat} {l : List Nat} (h : RT w A c l) : RU w A c l := RN.mono h fun _ hb => hb.1
theorem RT.up {w X : World} {A : Option Addr} {c : Nat} {l : List Nat} (h : RT w A c l) (hE : Ext w X) : RT X A c l := (RN.below h hE fun _ hb => hb.1).mono fun _ hb => ⟨Nat.lt_of_lt_of_le hb.1 hE.bsize, hb.2.ext hE⟩
set_option maxRecDepth 100000 in
set_option maxHeartbeats 4000000 in
theorem minus_t {C : Crv} {v : Value} (A A' : Option Addr) (c c' x y : Nat) (w : World) (hc : RC w C v) (h : RU w A c (digs 4294967296 x)) (h' : RU w A' c' (digs 4294967296 y)) (hl : (digs 4294967296 x).length < 40000) (hlM : (digs 4294967296 C.M).length < 40000) (hxy : y ≤ x + C.M) (h0 : 0 < C.M) :
 Calls Tryz.prog 189 #[v, .slice A (digs 4294967296 x).length c, .slice A' (digs 4294967296 y).length c'] w fun e w' => ∃ A1 c1, e = .returned (.slice A1 (digs 4294967296 ((x + C.M - y) % C.M)).length c1) ∧ RT w' A1 c1 (digs 4294967296 ((x + C.M - y) % C.M)) ∧ Ext w w' := by
 obtain ⟨Ap, An, Ab, Ax, Ay, cp, cn, cb, cx, cy, rfl, h1, h2, h3, h4, h5⟩ := hc
 have hls : (digs 4294967296 (x + C.M)).length < 50000 := by
  have a1 := Nat.lt_of_lt_of_le (lt_pow_digs (B := 4294967296) (by omega) x) (Nat.pow_le_pow_right (by omega) (Nat.le_of_lt hl))
  have a2 := Nat.lt_of_lt_of_le (lt_pow_digs (B := 4294967296) (by omega) C.M) (Nat.pow_le_pow_right (by omega) (Nat.le_of_lt hlM))
  obtain ⟨k, hk⟩ : ∃ k, k = 40000 := ⟨_, rfl⟩
  rw [← hk] at a1 a2
  have := digs_length_of_lt (B := 4294967296) (n := k + 1) (by omega) (show x + C.M < 4294967296 ^ (k + 1) by rw [Nat.pow_succ]; generalize 4294967296 ^ k = R at *; omega)
  omega
 have hle : (digs 4294967296 (x + C.M - y)).length ≤ 50000 := by
  obtain ⟨k, hk⟩ : ∃ k, k = 50000 := ⟨_, rfl⟩
  rw [← hk] at hls ⊢
  exact digs_length_of_lt (by omega) (Nat.lt_of_le_of_lt (Nat.sub_le (x + C.M) y) (Nat.lt_of_lt_of_le (lt_pow_digs (B := 4294967296) (by omega) (x + C.M)) (Nat.pow_le_pow_right (by omega) (Nat.le_of_lt hls))))
 obtain ⟨q, hq⟩ : ∃ q, w.heap.size = q := ⟨_, rfl⟩
 obtain ⟨W0, hW0⟩ : ∃ W0, W0 = w.alloc (.cells #[.slice Ap (digs 4294967296 C.M).length cp, .slice An (digs 4294967296 (val 18446744073709551616 C.nl)).length cn, .slice Ab (digs 4294967296 C.bb).length cb, .slice Ax (digs 4294967296 (val 18446744073709551616 C.xl)).length cx, .slice Ay (digs 4294967296 (val 18446744073709551616 C.yl)).length cy, .int .i64 (C.size : Int)] 129) := ⟨_, rfl⟩
 have hE0 : Ext w W0 := by rw [hW0]; exact Ext.alloc _ _
 have b0 : W0.cell? ⟨q, 0, none⟩ = some (.slice Ap (digs 4294967296 C.M).length cp) := by rw [hW0, ← hq]; exact blk_cell (heap_alloc_new w _) 0
 have HE0 := Lib.hid hE0
 clear hE0
 go_enter Tryz.func189, Tryz.ntmps189
 go_upto_region 1 with fail
 rw [← hW0]
 have HW0 := Lib.hid hW0
 have Hq := Lib.hid hq
 clear hW0 hq
 refine Par.region_ext (by kernel_rfl) 10 [0, 0, 2, 7, 0, 31, 0, 64, 255, 511] [] (fun j f X => match j with
  | 0 => f 0 = .slice A (digs 4294967296 x).length c
  | 1 => f 1 = .pointer (some ⟨q, 0, none⟩)
  | 2 => f 2 = .slice Ap (digs 4294967296 C.M).length cp
  | 3 => ∃ A1 c1, f 3 = .slice A1 (digs 4294967296 (x + C.M)).length c1 ∧ RU X A1 c1 (digs 4294967296 (x + C.M))
  | 4 => f 4 = .slice A' (digs 4294967296 y).length c'
  | 5 => ∃ A1 c1, f 5 = .slice A1 (digs 4294967296 (x + C.M - y)).length c1 ∧ RT X A1 c1 (digs 4294967296 (x + C.M - y))
  | 6 => f 6 = .pointer (some ⟨q, 0, none⟩)
  | 7 => f 7 = .slice Ap (digs 4294967296 C.M).length cp
  | 8 => ∃ A1 c1, f 8 = .slice A1 (digs 4294967296 ((x + C.M - y) % C.M)).length c1 ∧ RT X A1 c1 (digs 4294967296 ((x + C.M - y) % C.M))
  | 9 => f 9 = (f 8)
  | _ => True) (by kernel_rfl) [(7, 0), (8, 1), (9, 2), (10, 3), (11, 4), (12, 5), (13, 6), (14, 7), (15, 8), (6, 9)] (by kernel_rfl) ?_
 refine Par.v0 1 9 ?_
 refine Par.v0 2 8 ?_
 refine Par.ld1 3 7 1 b0 ?_
 refine Par.c0 4 6 (fun f => #[f 0, f 2]) (F' := 188) (fun f X hX hR => ?_) ?_
 · have e0 : f 0 = _ := hR.out 0 rfl
   have e2 : f 2 = _ := hR.out 2 rfl
   simp only [e0, e2]
   refine (refAdd_any _ _ A Ap c cp x C.M X (h.up (HE0.out.trans hX)) (h1.up (HE0.out.trans hX)) (fun _ hb => hb) (fun _ hb => hb) (by omega) (by omega)).mono ?_
   rintro e w2 ⟨A1, c1, rfl, hO, hB⟩
   exact ⟨(.slice A1 (digs 4294967296 (x + C.M)).length c1), rfl, hB, fun Y hY => ⟨A1, c1, rfl, hO.ru.up hY⟩⟩
 refine Par.v0 5 5 ?_
 refine Par.c0 6 4 (fun f => #[f 3, f 4]) (F' := 159) (fun f X hX hR => ?_) ?_
 · obtain ⟨A3, c3, (e3 : f 3 = _), o3⟩ := hR.out 3 rfl
   have e4 : f 4 = _ := hR.out 4 rfl
   simp only [e3, e4]
   refine (refSub_any _ _ A3 A' c3 c' (x + C.M) y X o3 (h'.up (HE0.out.trans hX)) (fun _ hb => hb) (fun _ hb => hb) (by omega) hxy).mono ?_
   rintro e w2 ⟨A1, c1, rfl, hO, hB⟩
   exact ⟨(.slice A1 (digs 4294967296 (x + C.M - y)).length c1), rfl, hB, fun Y hY => ⟨A1, c1, rfl, (OB.rt1 hO).up hY⟩⟩
 refine Par.v0 7 3 ?_
 refine Par.ld1 8 2 6 b0 ?_
 refine Par.c0 9 1 (fun f => #[f 5, f 7]) (F' := 158) (fun f X hX hR => ?_) ?_
 · obtain ⟨A5, c5, (e5 : f 5 = _), o5⟩ := hR.out 5 rfl
   have e7 : f 7 = _ := hR.out 7 rfl
   simp only [e5, e7]
   refine (refMod_t A5 Ap c5 cp (x + C.M - y) C.M X o5 (h1.up (HE0.out.trans hX)) (by omega) h0).mono ?_
   rintro e w2 ⟨A1, c1, rfl, hO, hB⟩
   exact ⟨(.slice A1 (digs 4294967296 ((x + C.M - y) % C.M)).length c1), rfl, hB, fun Y hY => ⟨A1, c1, rfl, hO.up hY⟩⟩
 refine Par.S 10 0 [(7, 0), (8, 1), (9, 2), (10, 3), (11, 4), (12, 5), (13, 6), (14, 7), (15, 8)] (fun f X hX hR K hK => ?_) ?_
 · obtain ⟨A8, c8, (e8 : f 8 = _), o8⟩ := hR.out 8 rfl
   simp only [yA, yB, yC, yD, yE, e8]
   refine ⟨?_⟩
   go_simp
   exact hK.out _ ((f 8)) _ (by simp only [yA, yB, yC, yD, yE, e8]) (Ext.refl _) trivial (fun _ _ => rfl)
 refine Par.AllOps.fin ⟨fun f X hX hR hal hap => ?_⟩
 obtain ⟨A3, c3, (e3 : f 3 = _), o3⟩ := hR 3 (by decide)
 obtain ⟨A5, c5, (e5 : f 5 = _), o5⟩ := hR 5 (by decide)
 obtain ⟨A8, c8, (e8 : f 8 = _), o8⟩ := hR 8 (by decide)
 have e9 : f 9 = (f 8) := hR 9 (by decide)
 simp only [yA, yB, yD, yE, e3, e5, e8, e9]
 clear hR hal hap e3 e5 e8 e9
 refine Par.Chain.done ?_
 go_wp2
 go_ret
 exact ⟨A8, c8, rfl, o8, HE0.out.trans hX⟩
theorem minus_any {C : Crv} {v : Value} (A A' : Option Addr) (c c' x y : Nat) (w : World) (hc : RC w C v) (h : RU w A c (digs 4294967296 x)) (h' : RU w A' c' (digs 4294967296 y)) (hl : (digs 4294967296 x).length < 40000) (hlM : (digs 4294967296 C.M).length < 40000) (hxy : y ≤ x + C.M) (h0 : 0 < C.M) :
 Calls Tryz.prog 189 #[v, .slice A (digs 4294967296 x).length c, .slice A' (digs 4294967296 y).length c'] w fun e w' => ∃ A1 c1, e = .returned (.slice A1 (digs 4294967296 ((x + C.M - y) % C.M)).length c1) ∧ RU w' A1 c1 (digs 4294967296 ((x + C.M - y) % C.M)) ∧ Ext w w' :=
 (minus_t A A' c c' x y w hc h h' hl hlM hxy h0).mono fun _ _ ⟨A1, c1, he, hO, hB⟩ => ⟨A1, c1, he, hO.ru, hB⟩
end Go.Proofs.YtendnkpiidhogaaGreat

namespace Go.Proofs.YtendnkpiidhogaaGreat
open Go.RowKit

theorem digs_mod_len {x M k : Nat} (hM : 0 < M) (hl : (digs 4294967296 M).length ≤ k) : (digs 4294967296 (x % M)).length ≤ k :=
 digs_length_of_lt (by omega) (Nat.lt_of_lt_of_le (Nat.lt_trans (Nat.mod_lt x hM) (lt_pow_digs (B := 4294967296) (by omega) M)) (Nat.pow_le_pow_right (by omega) hl))
theorem digs_le_len {x M k : Nat} (hM : x ≤ M) (hl : (digs 4294967296 M).length ≤ k) : (digs 4294967296 x).length ≤ k :=
 digs_length_of_lt (by omega) (Nat.lt_of_lt_of_le (Nat.lt_of_le_of_lt hM (lt_pow_digs (B := 4294967296) (by omega) M)) (Nat.pow_le_pow_right (by omega) hl))
theorem Crv.Fine.len {C : Crv} (h : C.Fine) : (digs 4294967296 C.M).length ≤ 96 := by
 have h1 := h.room
 have h2 : (256 : Nat) ^ C.size ≤ 256 ^ 48 := Nat.pow_le_pow_right (by omega) h.small
 have h3 : (256 : Nat) ^ 48 ≤ 4294967296 ^ 96 := by decide +kernel
 exact digs_length_of_lt (by omega) (Nat.lt_of_lt_of_le h1 (Nat.le_trans h2 h3))

theorem cmpV_eq0 (a b : Nat) : (cmpV a b == 0) = decide (a = b) := by
 unfold cmpV
 split
 · rw [decide_eq_false (by omega)]; rfl
 · split
   · rw [decide_eq_true (by omega)]; rfl
   · rw [decide_eq_false (by omega)]; rfl

set_option maxRecDepth 100000 in
set_option maxHeartbeats 8000000 in
theorem refOn_any {C : Crv} {v : Value} (hF : C.Fine) (A A' : Option Addr) (c c' x y : Nat) (inf : Bool) (w : World) (hc : RC w C v) (h : RU w A c (digs 4294967296 x)) (h' : RU w A' c' (digs 4294967296 y)) :
 Calls Tryz.prog 154 #[v, .agg #[.bool inf, .slice A (digs 4294967296 x).length c, .slice A' (digs 4294967296 y).length c']] w fun e w' => e = .returned (.bool (inf || onB C.M C.bb x y)) ∧ Ext w w' := by
 have hcv := hc
 obtain ⟨Ap, An, Ab, Ax, Ay, cp, cn, cb, cx, cy, rfl, h1, h2, h3, h4, h5⟩ := hc
 obtain ⟨s, hs⟩ : ∃ s, C.size = s := ⟨_, rfl⟩
 have s1 : 32 ≤ s := by rw [← hs]; exact hF.pos
 have hs0 : ((s : Int) == 0) = false := by simp; omega
 obtain ⟨r, hr⟩ : ∃ r, (inf || onB C.M C.bb x y) = r := ⟨_, rfl⟩
 rw [hr, hs]
 rw [hs] at hcv
 have Hr := Lib.hid hr
 have HF := Lib.hid hF
 have L := Lib.hid hF.len
 have Hcv := Lib.hid hcv
 have hM0 : 0 < C.M := by have := hF.three; omega
 have HM0 := Lib.hid hM0
 clear hr hF hs hcv
 obtain ⟨q, hq⟩ : ∃ q, w.heap.size = q := ⟨_, rfl⟩
 obtain ⟨W0, hW0⟩ : ∃ W0, W0 = (w.alloc (.cells #[.slice Ap (digs 4294967296 C.M).length cp, .slice An (digs 4294967296 (val 18446744073709551616 C.nl)).length cn, .slice Ab (digs 4294967296 C.bb).length cb, .slice Ax (digs 4294967296 (val 18446744073709551616 C.xl)).length cx, .slice Ay (digs 4294967296 (val 18446744073709551616 C.yl)).length cy, .int .i64 (s : Int)] 129)).alloc (.cells #[.bool inf, .slice A (digs 4294967296 x).length c, .slice A' (digs 4294967296 y).length c'] 92) := ⟨_, rfl⟩
 have hE0 : Ext w W0 := by rw [hW0]; exact (Ext.alloc _ _).trans (Ext.alloc _ _)
 have hcb : W0.heap[q]? = some (.cells #[.slice Ap (digs 4294967296 C.M).length cp, .slice An (digs 4294967296 (val 18446744073709551616 C.nl)).length cn, .slice Ab (digs 4294967296 C.bb).length cb, .slice Ax (digs 4294967296 (val 18446744073709551616 C.xl)).length cx, .slice Ay (digs 4294967296 (val 18446744073709551616 C.yl)).length cy, .int .i64 (s : Int)] 129 (0, 0)) := by rw [hW0, ← hq]; exact (Ext.alloc _ _).at_ (heap_alloc_new w _)
 have hpb : W0.heap[q + 1]? = some (.cells #[.bool inf, .slice A (digs 4294967296 x).length c, .slice A' (digs 4294967296 y).length c'] 92 (0, 0)) := by rw [hW0, ← hq]; have := heap_alloc_new (w.alloc (.cells #[.slice Ap (digs 4294967296 C.M).length cp, .slice An (digs 4294967296 (val 18446744073709551616 C.nl)).length cn, .slice Ab (digs 4294967296 C.bb).length cb, .slice Ax (digs 4294967296 (val 18446744073709551616 C.xl)).length cx, .slice Ay (digs 4294967296 (val 18446744073709551616 C.yl)).length cy, .int .i64 (s : Int)] 129)) (.cells #[.bool inf, .slice A (digs 4294967296 x).length c, .slice A' (digs 4294967296 y).length c'] 92); rwa [World.size_alloc] at this
 have b0 : W0.cell? ⟨q, 0, none⟩ = some (.slice Ap (digs 4294967296 C.M).length cp) := blk_cell hcb 0
 have b2 : W0.cell? ⟨q, 2, none⟩ = some (.slice Ab (digs 4294967296 C.bb).length cb) := blk_cell hcb 2
 have p1 : W0.cell? ⟨q + 1, 1, none⟩ = some (.slice A (digs 4294967296 x).length c) := blk_cell hpb 1
 have p2 : W0.cell? ⟨q + 1, 2, none⟩ = some (.slice A' (digs 4294967296 y).length c') := blk_cell hpb 2
 have HE0 := Lib.hid hE0
 have HW0 := Lib.hid hW0
 clear hE0
 cases inf
 case true =>
  obtain rfl : r = true := by rw [← Hr.out]; rfl
  clear hW0 hq
  have hW0 := HW0.out
  go_enter Tryz.func154, Tryz.ntmps154
  go_wp2
  go_ret
  exact ⟨rfl, by have := HE0.out; rw [hW0] at this; exact this⟩
 case false =>
  rw [Bool.false_or] at Hr
  have arm1 := Lib.hid (fun X (hX : Ext W0 X) => refCmp_any _ _ A Ap c cp x C.M X (h.up (HE0.out.trans hX)) (h1.up (HE0.out.trans hX)))
  have arm2 := Lib.hid (fun X (hX : Ext W0 X) => refCmp_any _ _ A' Ap c' cp y C.M X (h'.up (HE0.out.trans hX)) (h1.up (HE0.out.trans hX)))
  by_cases hxM : x < C.M
  · have tx := Lib.hid (cmpV_lt hxM)
    by_cases hyM : y < C.M
    · have ty := Lib.hid (cmpV_lt hyM)
      obtain ⟨cvv, hcvv⟩ : ∃ cvv, cvv = Value.agg #[.slice Ap (digs 4294967296 C.M).length cp, .slice An (digs 4294967296 (val 18446744073709551616 C.nl)).length cn, .slice Ab (digs 4294967296 C.bb).length cb, .slice Ax (digs 4294967296 (val 18446744073709551616 C.xl)).length cx, .slice Ay (digs 4294967296 (val 18446744073709551616 C.yl)).length cy, .int .i64 (s : Int)] := ⟨_, rfl⟩
      rw [← hcvv] at Hcv
      have HV := Lib.hid hcvv
      obtain ⟨m2, hm2⟩ : ∃ m, x * x % C.M = m := ⟨_, rfl⟩
      obtain ⟨m3, hm3⟩ : ∃ m, m2 * x % C.M = m := ⟨_, rfl⟩
      obtain ⟨t3, ht3⟩ : ∃ m, 3 * x % C.M = m := ⟨_, rfl⟩
      obtain ⟨mi, hmi⟩ : ∃ m, (m3 + C.M - t3) % C.M = m := ⟨_, rfl⟩
      obtain ⟨rt, hrt⟩ : ∃ m, (mi + C.bb) % C.M = m := ⟨_, rfl⟩
      obtain ⟨yy, hyy⟩ : ∃ m, y * y % C.M = m := ⟨_, rfl⟩
      have K2 := Lib.hid (hm2 ▸ digs_mod_len (x := x * x) HM0.out L.out)
      have K3 := Lib.hid (hm3 ▸ digs_mod_len (x := m2 * x) HM0.out L.out)
      have Kt := Lib.hid (ht3 ▸ digs_mod_len (x := 3 * x) HM0.out L.out)
      have Ki := Lib.hid (hmi ▸ digs_mod_len (x := m3 + C.M - t3) HM0.out L.out)
      have Ky := Lib.hid (hyy ▸ digs_mod_len (x := y * y) HM0.out L.out)
      have Kx := Lib.hid (digs_le_len (Nat.le_of_lt hxM) L.out)
      have KY := Lib.hid (digs_le_len (Nat.le_of_lt hyM) L.out)
      have K0 := Lib.hid (digs_le_len (Nat.le_of_lt HF.out.three) L.out)
      have Kb := Lib.hid (digs_le_len (Nat.le_of_lt HF.out.bb) L.out)
      have Ks := Lib.hid (show (digs 4294967296 (mi + C.bb)).length ≤ 97 by
       have a1 := Nat.lt_of_lt_of_le (lt_pow_digs (B := 4294967296) (by omega) C.M) (Nat.pow_le_pow_right (by omega) L.out)
       have a2 := Nat.mod_lt (m3 + C.M - t3) HM0.out
       have a3 := HF.out.bb
       refine digs_length_of_lt (by omega) ?_
       rw [Nat.pow_succ]; generalize 4294967296 ^ 96 = R at *; omega)
      have Htm := Lib.hid (show t3 ≤ m3 + C.M by have := Nat.mod_lt (3 * x) HM0.out; omega)
      have Hmb := Lib.hid (show mi < C.M by have := Nat.mod_lt (m3 + C.M - t3) HM0.out; omega)
      have Hres := Lib.hid (show r = decide (yy = rt) by rw [← Hr.out, onB, decide_eq_true hxM, decide_eq_true hyM, hm2, hm3, ht3, hmi, hrt, hyy]; rfl)
      have E2 := Lib.hid hm2
      have E3 := Lib.hid hm3
      have Et := Lib.hid ht3
      have Ei := Lib.hid hmi
      have Er := Lib.hid hrt
      have Ey := Lib.hid hyy
      clear hcvv hm2 hm3 ht3 hmi hrt hyy hxM hyM
      go_enter Tryz.func154, Tryz.ntmps154
      go_upto_region 5 with fail
      rw [← hW0]
      clear hW0 hq
      refine Par.region_txt 14 [0, 1, 0, 4, 15, 31, 63, 127, 255, 127, 639, 2047, 4095, 8191] [] (fun j f X => match j with
       | 0 => f 0 = .pointer (some ⟨q + 1, 1, none⟩)
       | 1 => f 1 = .slice A (digs 4294967296 x).length c
       | 2 => f 2 = .pointer (some ⟨q, 0, none⟩)
       | 3 => f 3 = .slice Ap (digs 4294967296 C.M).length cp
       | 4 => f 4 = .int .i64 (-1)
       | 5 => f 5 = .bool false
       | 6 => f 6 = .bool false
       | 7 => f 7 = .pointer (some ⟨q + 1, 2, none⟩)
       | 8 => f 8 = .slice A' (digs 4294967296 y).length c'
       | 9 => f 9 = .pointer (some ⟨q, 0, none⟩)
       | 10 => f 10 = .slice Ap (digs 4294967296 C.M).length cp
       | 11 => f 11 = .int .i64 (-1)
       | 12 => f 12 = .bool false
       | 13 => f 13 = .bool false
       | _ => True) (by kernel_rfl) [(13, 0), (14, 1), (15, 2), (16, 3), (17, 4), (18, 5), (19, 6), (20, 7), (21, 8), (22, 9), (23, 10), (24, 11), (25, 12), (26, 13)] (by kernel_rfl) ?_
      refine Par.v0 1 13 ?_
      refine Par.ld1 2 12 0 p1 ?_
      refine Par.v0 3 11 ?_
      refine Par.ld1 4 10 2 b0 ?_
      refine Par.c0 5 9 (fun f => #[f 1, f 3]) (F' := 120) (fun f X hX hR => ?_) ?_
      · have e1 : f 1 = _ := hR.out 1 rfl
        have e3 : f 3 = _ := hR.out 3 rfl
        simp only [e1, e3]
        refine (arm1.out X hX).mono ?_
        rintro e w2 ⟨rfl, nq, rfl⟩
        rw [tx.out]
        exact ⟨(.int .i64 (-1)), rfl, (Ext.drewN _ _), fun _ _ => rfl⟩
      refine Par.S 6 8 [(13, 0), (14, 1), (15, 2), (16, 3), (17, 4)] (fun f X hX hR K hK => ?_) ?_
      · have e4 : f 4 = _ := hR.out 4 rfl
        simp only [yA, yB, yC, yD, yE, e4]
        refine ⟨?_⟩
        go_simp
        exact Par.k hK (s := by simp only [yA, yB, yC, yD, yE, e4])
      refine Par.v1 7 7 5 ?_
      refine Par.v1 8 6 6 ?_
      refine Par.S 9 5 [(13, 0), (14, 1), (15, 2), (16, 3), (17, 4), (18, 5), (19, 6), (20, 7), (22, 9), (23, 10)] (fun f X hX hR K hK => ?_) ?_
      · have e6 : f 6 = _ := hR.out 6 rfl
        have e7 : f 7 = _ := hR.out 7 rfl
        have x0 := hX.cell p2
        simp only [yA, yB, yC, yD, yE, e6, e7]
        refine ⟨Par.want (by kernel_rfl) ?_⟩
        go_simp
        exact Par.k hK (s := by simp only [yA, yB, yC, yD, yE, e6, e7])
      refine Par.v1 10 4 6 ?_
      refine Par.S 11 3 [(13, 0), (14, 1), (15, 2), (16, 3), (17, 4), (18, 5), (19, 6), (20, 7), (21, 8), (22, 9)] (fun f X hX hR K hK => ?_) ?_
      · have e6 : f 6 = _ := hR.out 6 rfl
        have e9 : f 9 = _ := hR.out 9 rfl
        have x0 := hX.cell b0
        simp only [yA, yB, yC, yD, yE, e6, e9]
        refine ⟨Par.want (by kernel_rfl) ?_⟩
        go_simp
        exact Par.k hK (s := by simp only [yA, yB, yC, yD, yE, e6, e9])
      refine Par.c1 12 2 6 (fun f => #[f 8, f 10]) (F' := 120) (fun f X hX hR => ?_) ?_
      · have e8 : f 8 = _ := hR.out 8 rfl
        have e10 : f 10 = _ := hR.out 10 rfl
        simp only [e8, e10]
        refine (arm2.out X hX).mono ?_
        rintro e w2 ⟨rfl, nq, rfl⟩
        rw [ty.out]
        exact ⟨(.int .i64 (-1)), rfl, (Ext.drewN _ _), fun _ _ => rfl⟩
      refine Par.S 13 1 [(13, 0), (14, 1), (15, 2), (16, 3), (17, 4), (18, 5), (19, 6), (20, 7), (21, 8), (22, 9), (23, 10), (24, 11)] (fun f X hX hR K hK => ?_) ?_
      · have e6 : f 6 = _ := hR.out 6 rfl
        have e11 : f 11 = _ := hR.out 11 rfl
        simp only [yA, yB, yC, yD, yE, e6, e11]
        refine ⟨Par.want (by kernel_rfl) ?_⟩
        go_simp
        exact Par.k hK (s := by simp only [yA, yB, yC, yD, yE, e6, e11])
      refine Par.v2 14 0 6 12 ?_
      refine Par.AllOps.fin ⟨fun f X hX hR hal hap => ?_⟩
      have e13 : f 13 = _ := hR 13 (by decide)
      simp only [yA, yB, yD, yE, e13]
      clear hR hal hap e13
      refine Par.Chain.done ?_
      have hE : Ext W0 X := hX
      clear hX
      go_upto_region 7 with fail
      have d1 := hE.cell p1
      refine Par.region_ext (by kernel_rfl) 11 [0, 0, 0, 4, 0, 16, 62, 0, 128, 511, 1023] [] (fun j f X => match j with
       | 0 => f 0 = cvv
       | 1 => f 1 = cvv
       | 2 => f 2 = .pointer (some ⟨q + 1, 1, none⟩)
       | 3 => f 3 = .slice A (digs 4294967296 x).length c
       | 4 => f 4 = .pointer (some ⟨q + 1, 1, none⟩)
       | 5 => f 5 = .slice A (digs 4294967296 x).length c
       | 6 => ∃ A1 c1, f 6 = .slice A1 (digs 4294967296 m2).length c1 ∧ RU X A1 c1 (digs 4294967296 m2)
       | 7 => f 7 = .pointer (some ⟨q + 1, 1, none⟩)
       | 8 => f 8 = .slice A (digs 4294967296 x).length c
       | 9 => ∃ A1 c1, f 9 = .slice A1 (digs 4294967296 m3).length c1 ∧ RU X A1 c1 (digs 4294967296 m3)
       | 10 => ∃ A1 c1, f 10 = .slice A1 (digs 4294967296 m3).length c1 ∧ RU X A1 c1 (digs 4294967296 m3)
       | _ => True) (by kernel_rfl) [(27, 0), (28, 1), (29, 2), (30, 3), (31, 4), (32, 5), (33, 6), (34, 7), (35, 8), (36, 9), (5, 10)] (by kernel_rfl) ?_
      refine Par.S 1 10 [(28, 1), (29, 2), (30, 3), (31, 4), (32, 5), (33, 6), (34, 7), (35, 8)] (fun f X hX hR K hK => ?_) ?_
      · simp only [yA, yB, yC, yD, yE]
        refine ⟨Par.want (by kernel_rfl) (wp_loadV 129 (.tmp 2) rfl rfl (hE.trans hX |>.at_ hcb) Tryz.underlying129 rfl infoRC HV.out ?_)⟩
        exact hK.out _ (cvv) _ (by simp only [yA, yB, yC, yD, yE]) (Ext.refl _) trivial (fun _ _ => rfl)
      refine Par.S 2 9 [(27, 0), (29, 2), (30, 3), (31, 4), (32, 5), (34, 7), (35, 8)] (fun f X hX hR K hK => ?_) ?_
      · simp only [yA, yB, yC, yD, yE]
        refine ⟨Par.want (by kernel_rfl) (wp_loadV 129 (.tmp 2) rfl rfl (hE.trans hX |>.at_ hcb) Tryz.underlying129 rfl infoRC HV.out ?_)⟩
        exact hK.out _ (cvv) _ (by simp only [yA, yB, yC, yD, yE]) (Ext.refl _) trivial (fun _ _ => rfl)
      refine Par.v0 3 8 ?_
      refine Par.ld1 4 7 2 d1 ?_
      refine Par.v0 5 6 ?_
      refine Par.ld1 6 5 4 d1 ?_
      refine Par.c0 7 4 (fun f => #[f 1, f 3, f 5]) (F' := 187) (fun f X hX hR => ?_) ?_
      · have e1 : f 1 = _ := hR.out 1 rfl
        have e3 : f 3 = _ := hR.out 3 rfl
        have e5 : f 5 = _ := hR.out 5 rfl
        simp only [e1, e3, e5]
        refine (times_any A A c c x x X (Hcv.out.ext (HE0.out.trans (hE.trans hX))) (h.up (HE0.out.trans (hE.trans hX))) (h.up (HE0.out.trans (hE.trans hX))) (by have := Kx.out; omega) (by have := Kx.out; omega) HM0.out).mono ?_
        rw [E2.out]
        rintro e w2 ⟨A1, c1, rfl, hO, hB⟩
        exact ⟨(.slice A1 (digs 4294967296 m2).length c1), rfl, hB, fun Y hY => ⟨A1, c1, rfl, hO.up hY⟩⟩
      refine Par.v0 8 3 ?_
      refine Par.ld1 9 2 7 d1 ?_
      refine Par.c0 10 1 (fun f => #[f 0, f 6, f 8]) (F' := 187) (fun f X hX hR => ?_) ?_
      · have e0 : f 0 = _ := hR.out 0 rfl
        obtain ⟨A6, c6, (e6 : f 6 = _), o6⟩ := hR.out 6 rfl
        have e8 : f 8 = _ := hR.out 8 rfl
        simp only [e0, e6, e8]
        refine (times_any A6 A c6 c m2 x X (Hcv.out.ext (HE0.out.trans (hE.trans hX))) o6 (h.up (HE0.out.trans (hE.trans hX))) (by have := K2.out; omega) (by have := Kx.out; omega) HM0.out).mono ?_
        rw [E3.out]
        rintro e w2 ⟨A1, c1, rfl, hO, hB⟩
        exact ⟨(.slice A1 (digs 4294967296 m3).length c1), rfl, hB, fun Y hY => ⟨A1, c1, rfl, hO.up hY⟩⟩
      refine Par.S 11 0 [(27, 0), (28, 1), (29, 2), (30, 3), (31, 4), (32, 5), (33, 6), (34, 7), (35, 8), (36, 9)] (fun f X hX hR K hK => ?_) ?_
      · obtain ⟨A9, c9, (e9 : f 9 = _), o9⟩ := hR.out 9 rfl
        simp only [yA, yB, yC, yD, yE, e9]
        refine ⟨?_⟩
        go_simp
        exact hK.out _ (.slice A9 (digs 4294967296 m3).length c9) _ (by simp only [yA, yB, yC, yD, yE, e9]) (Ext.refl _) trivial (fun Y hY => ⟨A9, c9, rfl, o9.up hY⟩)
      refine Par.AllOps.fin ⟨fun f X hX hR hal hap => ?_⟩
      obtain ⟨A6, c6, (e6 : f 6 = _), o6⟩ := hR 6 (by decide)
      obtain ⟨A9, c9, (e9 : f 9 = _), o9⟩ := hR 9 (by decide)
      obtain ⟨A10, c10, (e10 : f 10 = _), o10⟩ := hR 10 (by decide)
      simp only [yA, yB, yD, yE, e6, e9, e10]
      clear hR hal hap e6 e9 e10
      refine Par.Chain.done ?_
      replace hE := hE.trans hX
      clear hX d1 o6 o9
      go_upto_region 8 with fail
      have d1 := hE.cell p1
      refine Par.region_ext (by kernel_rfl) 6 [0, 0, 0, 4, 15, 31] [] (fun j f X => match j with
       | 0 => f 0 = cvv
       | 1 => ∃ A1 c1, f 1 = .slice A1 (digs 4294967296 3).length c1 ∧ RU X A1 c1 (digs 4294967296 3)
       | 2 => f 2 = .pointer (some ⟨q + 1, 1, none⟩)
       | 3 => f 3 = .slice A (digs 4294967296 x).length c
       | 4 => ∃ A1 c1, f 4 = .slice A1 (digs 4294967296 t3).length c1 ∧ RU X A1 c1 (digs 4294967296 t3)
       | 5 => ∃ A1 c1, f 5 = .slice A1 (digs 4294967296 t3).length c1 ∧ RU X A1 c1 (digs 4294967296 t3)
       | _ => True) (by kernel_rfl) [(37, 0), (38, 1), (39, 2), (40, 3), (41, 4), (6, 5)] (by kernel_rfl) ?_
      refine Par.S 1 5 [(38, 1), (39, 2), (40, 3)] (fun f X hX hR K hK => ?_) ?_
      · simp only [yA, yB, yC, yD, yE]
        refine ⟨Par.want (by kernel_rfl) (wp_loadV 129 (.tmp 2) rfl rfl (hE.trans hX |>.at_ hcb) Tryz.underlying129 rfl infoRC HV.out ?_)⟩
        exact hK.out _ (cvv) _ (by simp only [yA, yB, yC, yD, yE]) (Ext.refl _) trivial (fun _ _ => rfl)
      refine Par.c0 2 4 (fun _ => #[Value.int IntKind.u64 3]) (F' := 121) (fun f X hX hR => ?_) ?_
      · refine (refOf_any 3 X (by omega)).mono ?_
        rintro e w2 ⟨A1, c1, rfl, hO, hB⟩
        exact ⟨(.slice A1 (digs 4294967296 3).length c1), rfl, hB, fun Y hY => ⟨A1, c1, rfl, hO.ru.up hY⟩⟩
      refine Par.v0 3 3 ?_
      refine Par.ld1 4 2 2 d1 ?_
      refine Par.c0 5 1 (fun f => #[f 0, f 1, f 3]) (F' := 187) (fun f X hX hR => ?_) ?_
      · have e0 : f 0 = _ := hR.out 0 rfl
        obtain ⟨A1, c1, (e1 : f 1 = _), o1⟩ := hR.out 1 rfl
        have e3 : f 3 = _ := hR.out 3 rfl
        simp only [e0, e1, e3]
        refine (times_any A1 A c1 c 3 x X (Hcv.out.ext (HE0.out.trans (hE.trans hX))) o1 (h.up (HE0.out.trans (hE.trans hX))) (by have := K0.out; omega) (by have := Kx.out; omega) HM0.out).mono ?_
        rw [Et.out]
        rintro e w2 ⟨A1, c1, rfl, hO, hB⟩
        exact ⟨(.slice A1 (digs 4294967296 t3).length c1), rfl, hB, fun Y hY => ⟨A1, c1, rfl, hO.up hY⟩⟩
      refine Par.S 6 0 [(37, 0), (38, 1), (39, 2), (40, 3), (41, 4)] (fun f X hX hR K hK => ?_) ?_
      · obtain ⟨A4, c4, (e4 : f 4 = _), o4⟩ := hR.out 4 rfl
        simp only [yA, yB, yC, yD, yE, e4]
        refine ⟨?_⟩
        go_simp
        exact hK.out _ (.slice A4 (digs 4294967296 t3).length c4) _ (by simp only [yA, yB, yC, yD, yE, e4]) (Ext.refl _) trivial (fun Y hY => ⟨A4, c4, rfl, o4.up hY⟩)
      refine Par.AllOps.fin ⟨fun f X hX hR hal hap => ?_⟩
      obtain ⟨A1, c1, (e1 : f 1 = _), o1⟩ := hR 1 (by decide)
      obtain ⟨A4, c4, (e4 : f 4 = _), o4⟩ := hR 4 (by decide)
      obtain ⟨A5, c5, (e5 : f 5 = _), o5⟩ := hR 5 (by decide)
      simp only [yA, yB, yD, yE, e1, e4, e5]
      clear hR hal hap e1 e4 e5
      refine Par.Chain.done ?_
      have g10 := o10.up hX
      replace hE := hE.trans hX
      clear hX d1 o1 o4 o10
      go_upto_region 9 with fail
      have d0 := hE.cell b0
      have d2 := hE.cell b2
      refine Par.region_ext (by kernel_rfl) 11 [0, 0, 0, 7, 0, 16, 63, 0, 128, 511, 1023] [] (fun j f X => match j with
       | 0 => f 0 = cvv
       | 1 => f 1 = .slice A10 (digs 4294967296 m3).length c10
       | 2 => f 2 = .slice A5 (digs 4294967296 t3).length c5
       | 3 => ∃ A1 c1, f 3 = .slice A1 (digs 4294967296 mi).length c1 ∧ RU X A1 c1 (digs 4294967296 mi)
       | 4 => f 4 = .pointer (some ⟨q, 2, none⟩)
       | 5 => f 5 = .slice Ab (digs 4294967296 C.bb).length cb
       | 6 => ∃ A1 c1, f 6 = .slice A1 (digs 4294967296 (mi + C.bb)).length c1 ∧ RU X A1 c1 (digs 4294967296 (mi + C.bb))
       | 7 => f 7 = .pointer (some ⟨q, 0, none⟩)
       | 8 => f 8 = .slice Ap (digs 4294967296 C.M).length cp
       | 9 => ∃ A1 c1, f 9 = .slice A1 (digs 4294967296 rt).length c1 ∧ RU X A1 c1 (digs 4294967296 rt)
       | 10 => ∃ A1 c1, f 10 = .slice A1 (digs 4294967296 rt).length c1 ∧ RU X A1 c1 (digs 4294967296 rt)
       | _ => True) (by kernel_rfl) [(42, 0), (43, 1), (44, 2), (45, 3), (46, 4), (47, 5), (48, 6), (49, 7), (50, 8), (51, 9), (7, 10)] (by kernel_rfl) ?_
      refine Par.S 1 10 [(43, 1), (44, 2), (46, 4), (47, 5), (49, 7), (50, 8)] (fun f X hX hR K hK => ?_) ?_
      · simp only [yA, yB, yC, yD, yE]
        refine ⟨Par.want (by kernel_rfl) (wp_loadV 129 (.tmp 2) rfl rfl (hE.trans hX |>.at_ hcb) Tryz.underlying129 rfl infoRC HV.out ?_)⟩
        exact hK.out _ (cvv) _ (by simp only [yA, yB, yC, yD, yE]) (Ext.refl _) trivial (fun _ _ => rfl)
      refine Par.v0 2 9 ?_
      refine Par.v0 3 8 ?_
      refine Par.c0 4 7 (fun f => #[f 0, f 1, f 2]) (F' := 189) (fun f X hX hR => ?_) ?_
      · have e0 : f 0 = _ := hR.out 0 rfl
        have e1 : f 1 = _ := hR.out 1 rfl
        have e2 : f 2 = _ := hR.out 2 rfl
        simp only [e0, e1, e2]
        refine (minus_any A10 A5 c10 c5 m3 t3 X (Hcv.out.ext (HE0.out.trans (hE.trans hX))) (g10.up hX) (o5.up hX) (by have := K3.out; omega) (by have := L.out; omega) Htm.out HM0.out).mono ?_
        rw [Ei.out]
        rintro e w2 ⟨A1, c1, rfl, hO, hB⟩
        exact ⟨(.slice A1 (digs 4294967296 mi).length c1), rfl, hB, fun Y hY => ⟨A1, c1, rfl, hO.up hY⟩⟩
      refine Par.v0 5 6 ?_
      refine Par.ld1 6 5 4 d2 ?_
      refine Par.c0 7 4 (fun f => #[f 3, f 5]) (F' := 188) (fun f X hX hR => ?_) ?_
      · obtain ⟨A3, c3, (e3 : f 3 = _), o3⟩ := hR.out 3 rfl
        have e5 : f 5 = _ := hR.out 5 rfl
        simp only [e3, e5]
        refine (refAdd_any _ _ A3 Ab c3 cb mi C.bb X o3 (h3.up (HE0.out.trans (hE.trans hX))) (fun _ hb => hb) (fun _ hb => hb) (by have := Ki.out; omega) (by have := Kb.out; omega)).mono ?_
        rintro e w2 ⟨A1, c1, rfl, hO, hB⟩
        exact ⟨(.slice A1 (digs 4294967296 (mi + C.bb)).length c1), rfl, hB, fun Y hY => ⟨A1, c1, rfl, hO.ru.up hY⟩⟩
      refine Par.v0 8 3 ?_
      refine Par.ld1 9 2 7 d0 ?_
      refine Par.c0 10 1 (fun f => #[f 6, f 8]) (F' := 158) (fun f X hX hR => ?_) ?_
      · obtain ⟨A6, c6, (e6 : f 6 = _), o6⟩ := hR.out 6 rfl
        have e8 : f 8 = _ := hR.out 8 rfl
        simp only [e6, e8]
        refine (refMod_any A6 Ap c6 cp (mi + C.bb) C.M X o6 (h1.up (HE0.out.trans (hE.trans hX))) (by have := Ks.out; omega) HM0.out).mono ?_
        rw [Er.out]
        rintro e w2 ⟨A1, c1, rfl, hO, hB⟩
        exact ⟨(.slice A1 (digs 4294967296 rt).length c1), rfl, hB, fun Y hY => ⟨A1, c1, rfl, hO.up hY⟩⟩
      refine Par.S 11 0 [(42, 0), (43, 1), (44, 2), (45, 3), (46, 4), (47, 5), (48, 6), (49, 7), (50, 8), (51, 9)] (fun f X hX hR K hK => ?_) ?_
      · obtain ⟨A9, c9, (e9 : f 9 = _), o9⟩ := hR.out 9 rfl
        simp only [yA, yB, yC, yD, yE, e9]
        refine ⟨?_⟩
        go_simp
        exact hK.out _ (.slice A9 (digs 4294967296 rt).length c9) _ (by simp only [yA, yB, yC, yD, yE, e9]) (Ext.refl _) trivial (fun Y hY => ⟨A9, c9, rfl, o9.up hY⟩)
      refine Par.AllOps.fin ⟨fun f X hX hR hal hap => ?_⟩
      obtain ⟨A3, c3, (e3 : f 3 = _), o3⟩ := hR 3 (by decide)
      obtain ⟨A6, c6, (e6 : f 6 = _), o6⟩ := hR 6 (by decide)
      obtain ⟨A9, c9, (e9 : f 9 = _), o9⟩ := hR 9 (by decide)
      obtain ⟨A11, c11, (e10 : f 10 = _), o11⟩ := hR 10 (by decide)
      simp only [yA, yB, yD, yE, e3, e6, e9, e10]
      clear hR hal hap e3 e6 e9 e10
      refine Par.Chain.done ?_
      replace hE := hE.trans hX
      clear hX d0 d2 o3 o6 o9 g10 o5
      go_upto_region 10 with fail
      have d2 := hE.cell p2
      refine Par.region_txt 10 [0, 0, 2, 0, 8, 31, 0, 127, 255, 511] [] (fun j f X => match j with
       | 0 => f 0 = cvv
       | 1 => f 1 = .pointer (some ⟨q + 1, 2, none⟩)
       | 2 => f 2 = .slice A' (digs 4294967296 y).length c'
       | 3 => f 3 = .pointer (some ⟨q + 1, 2, none⟩)
       | 4 => f 4 = .slice A' (digs 4294967296 y).length c'
       | 5 => ∃ A1 c1, f 5 = .slice A1 (digs 4294967296 yy).length c1 ∧ RU X A1 c1 (digs 4294967296 yy)
       | 6 => f 6 = .slice A11 (digs 4294967296 rt).length c11
       | 7 => f 7 = .int .i64 (cmpV yy rt)
       | 8 => f 8 = .bool r
       | 9 => f 9 = .bool r
       | _ => True) (by kernel_rfl) [(52, 0), (53, 1), (54, 2), (55, 3), (56, 4), (57, 5), (58, 6), (59, 7), (60, 8), (4, 9)] (by kernel_rfl) ?_
      refine Par.S 1 9 [(53, 1), (54, 2), (55, 3), (56, 4), (58, 6)] (fun f X hX hR K hK => ?_) ?_
      · simp only [yA, yB, yC, yD, yE]
        refine ⟨Par.want (by kernel_rfl) (wp_loadV 129 (.tmp 2) rfl rfl (hE.trans hX |>.at_ hcb) Tryz.underlying129 rfl infoRC HV.out ?_)⟩
        exact hK.out _ (cvv) _ (by simp only [yA, yB, yC, yD, yE]) (Ext.refl _) trivial (fun _ _ => rfl)
      refine Par.v0 2 8 ?_
      refine Par.ld1 3 7 1 d2 ?_
      refine Par.v0 4 6 ?_
      refine Par.ld1 5 5 3 d2 ?_
      refine Par.c0 6 4 (fun f => #[f 0, f 2, f 4]) (F' := 187) (fun f X hX hR => ?_) ?_
      · have e0 : f 0 = _ := hR.out 0 rfl
        have e2 : f 2 = _ := hR.out 2 rfl
        have e4 : f 4 = _ := hR.out 4 rfl
        simp only [e0, e2, e4]
        refine (times_any A' A' c' c' y y X (Hcv.out.ext (HE0.out.trans (hE.trans hX))) (h'.up (HE0.out.trans (hE.trans hX))) (h'.up (HE0.out.trans (hE.trans hX))) (by have := KY.out; omega) (by have := KY.out; omega) HM0.out).mono ?_
        rw [Ey.out]
        rintro e w2 ⟨A1, c1, rfl, hO, hB⟩
        exact ⟨(.slice A1 (digs 4294967296 yy).length c1), rfl, hB, fun Y hY => ⟨A1, c1, rfl, hO.up hY⟩⟩
      refine Par.v0 7 3 ?_
      refine Par.c0 8 2 (fun f => #[f 5, f 6]) (F' := 120) (fun f X hX hR => ?_) ?_
      · obtain ⟨A5, c5, (e5 : f 5 = _), o5⟩ := hR.out 5 rfl
        have e6 : f 6 = _ := hR.out 6 rfl
        simp only [e5, e6]
        refine (refCmp_any _ _ A5 A11 c5 c11 yy rt X o5 (o11.up hX)).mono ?_
        rintro e w2 ⟨rfl, nq, rfl⟩
        exact ⟨(.int .i64 (cmpV yy rt)), rfl, (Ext.drewN _ _), fun _ _ => rfl⟩
      refine Par.S 9 1 [(52, 0), (53, 1), (54, 2), (55, 3), (56, 4), (57, 5), (58, 6), (59, 7)] (fun f X hX hR K hK => ?_) ?_
      · have e7 : f 7 = _ := hR.out 7 rfl
        simp only [yA, yB, yC, yD, yE, e7]
        refine ⟨?_⟩
        go_simp
        have hd : (cmpV yy rt == 0) = r := by rw [Hres.out]; exact cmpV_eq0 yy rt
        rw [hd]
        exact Par.k hK (s := by simp only [yA, yB, yC, yD, yE, e7])
      refine Par.v1 10 0 8 ?_
      refine Par.AllOps.fin ⟨fun f X hX hR hal hap => ?_⟩
      obtain ⟨A5, c5, (e5 : f 5 = _), o5⟩ := hR 5 (by decide)
      have e9 : f 9 = _ := hR 9 (by decide)
      simp only [yA, yB, yD, yE, e5, e9]
      clear hR hal hap e5 e9
      refine Par.Chain.done ?_
      go_wp2
      go_ret
      exact ⟨rfl, HE0.out.trans (hE.trans hX)⟩
    · obtain ⟨v, hv⟩ : ∃ v, cmpV y C.M = v := ⟨_, rfl⟩
      have hv0 : 0 ≤ v := by rw [← hv]; rcases cmpV_cases y C.M with h | h | h <;> omega
      have Hv := Lib.hid hv
      have HH := Lib.hid hyM
      clear hv hyM
      go_enter Tryz.func154, Tryz.ntmps154
      go_upto_region 5 with fail
      rw [← hW0]
      clear hW0 hq
      refine Par.region_txt 14 [0, 1, 0, 4, 15, 31, 63, 127, 255, 127, 639, 2047, 4095, 8191] [] (fun j f X => match j with
       | 0 => f 0 = .pointer (some ⟨q + 1, 1, none⟩)
       | 1 => f 1 = .slice A (digs 4294967296 x).length c
       | 2 => f 2 = .pointer (some ⟨q, 0, none⟩)
       | 3 => f 3 = .slice Ap (digs 4294967296 C.M).length cp
       | 4 => f 4 = .int .i64 (-1)
       | 5 => f 5 = .bool false
       | 6 => f 6 = .bool false
       | 7 => f 7 = .pointer (some ⟨q + 1, 2, none⟩)
       | 8 => f 8 = .slice A' (digs 4294967296 y).length c'
       | 9 => f 9 = .pointer (some ⟨q, 0, none⟩)
       | 10 => f 10 = .slice Ap (digs 4294967296 C.M).length cp
       | 11 => f 11 = .int .i64 v
       | 12 => f 12 = .bool true
       | 13 => f 13 = .bool true
       | _ => True) (by kernel_rfl) [(13, 0), (14, 1), (15, 2), (16, 3), (17, 4), (18, 5), (19, 6), (20, 7), (21, 8), (22, 9), (23, 10), (24, 11), (25, 12), (26, 13)] (by kernel_rfl) ?_
      refine Par.v0 1 13 ?_
      refine Par.ld1 2 12 0 p1 ?_
      refine Par.v0 3 11 ?_
      refine Par.ld1 4 10 2 b0 ?_
      refine Par.c0 5 9 (fun f => #[f 1, f 3]) (F' := 120) (fun f X hX hR => ?_) ?_
      · have e1 : f 1 = _ := hR.out 1 rfl
        have e3 : f 3 = _ := hR.out 3 rfl
        simp only [e1, e3]
        refine (arm1.out X hX).mono ?_
        rintro e w2 ⟨rfl, nq, rfl⟩
        rw [tx.out]
        exact ⟨(.int .i64 (-1)), rfl, (Ext.drewN _ _), fun _ _ => rfl⟩
      refine Par.S 6 8 [(13, 0), (14, 1), (15, 2), (16, 3), (17, 4)] (fun f X hX hR K hK => ?_) ?_
      · have e4 : f 4 = _ := hR.out 4 rfl
        simp only [yA, yB, yC, yD, yE, e4]
        refine ⟨?_⟩
        go_simp
        exact Par.k hK (s := by simp only [yA, yB, yC, yD, yE, e4])
      refine Par.v1 7 7 5 ?_
      refine Par.v1 8 6 6 ?_
      refine Par.S 9 5 [(13, 0), (14, 1), (15, 2), (16, 3), (17, 4), (18, 5), (19, 6), (20, 7), (22, 9), (23, 10)] (fun f X hX hR K hK => ?_) ?_
      · have e6 : f 6 = _ := hR.out 6 rfl
        have e7 : f 7 = _ := hR.out 7 rfl
        have x0 := hX.cell p2
        simp only [yA, yB, yC, yD, yE, e6, e7]
        refine ⟨Par.want (by kernel_rfl) ?_⟩
        go_simp
        exact Par.k hK (s := by simp only [yA, yB, yC, yD, yE, e6, e7])
      refine Par.v1 10 4 6 ?_
      refine Par.S 11 3 [(13, 0), (14, 1), (15, 2), (16, 3), (17, 4), (18, 5), (19, 6), (20, 7), (21, 8), (22, 9)] (fun f X hX hR K hK => ?_) ?_
      · have e6 : f 6 = _ := hR.out 6 rfl
        have e9 : f 9 = _ := hR.out 9 rfl
        have x0 := hX.cell b0
        simp only [yA, yB, yC, yD, yE, e6, e9]
        refine ⟨Par.want (by kernel_rfl) ?_⟩
        go_simp
        exact Par.k hK (s := by simp only [yA, yB, yC, yD, yE, e6, e9])
      refine Par.c1 12 2 6 (fun f => #[f 8, f 10]) (F' := 120) (fun f X hX hR => ?_) ?_
      · have e8 : f 8 = _ := hR.out 8 rfl
        have e10 : f 10 = _ := hR.out 10 rfl
        simp only [e8, e10]
        refine (arm2.out X hX).mono ?_
        rintro e w2 ⟨rfl, nq, rfl⟩
        rw [Hv.out]
        exact ⟨(.int .i64 v), rfl, (Ext.drewN _ _), fun _ _ => rfl⟩
      refine Par.S 13 1 [(13, 0), (14, 1), (15, 2), (16, 3), (17, 4), (18, 5), (19, 6), (20, 7), (21, 8), (22, 9), (23, 10), (24, 11)] (fun f X hX hR K hK => ?_) ?_
      · have e6 : f 6 = _ := hR.out 6 rfl
        have e11 : f 11 = _ := hR.out 11 rfl
        simp only [yA, yB, yC, yD, yE, e6, e11]
        refine ⟨Par.want (by kernel_rfl) ?_⟩
        go_simp
        exact Par.k hK (s := by simp only [yA, yB, yC, yD, yE, e6, e11])
      refine Par.v2 14 0 6 12 ?_
      refine Par.AllOps.fin ⟨fun f X hX hR hal hap => ?_⟩
      have e13 : f 13 = _ := hR 13 (by decide)
      simp only [yA, yB, yD, yE, e13]
      clear hR hal hap e13
      refine Par.Chain.done ?_
      go_wp2
      go_ret
      exact ⟨by rw [show r = false by rw [← Hr.out]; simp [onB, HH.out]]; rfl, HE0.out.trans hX⟩
  · obtain ⟨v, hv⟩ : ∃ v, cmpV x C.M = v := ⟨_, rfl⟩
    have hv0 : 0 ≤ v := by rw [← hv]; rcases cmpV_cases x C.M with h | h | h <;> omega
    have Hv := Lib.hid hv
    have HH := Lib.hid hxM
    clear hv hxM
    go_enter Tryz.func154, Tryz.ntmps154
    go_upto_region 5 with fail
    rw [← hW0]
    clear hW0 hq
    refine Par.region_txt 14 [0, 1, 0, 4, 15, 31, 63, 127, 255, 127, 639, 2047, 4095, 8191] [] (fun j f X => match j with
     | 0 => f 0 = .pointer (some ⟨q + 1, 1, none⟩)
     | 1 => f 1 = .slice A (digs 4294967296 x).length c
     | 2 => f 2 = .pointer (some ⟨q, 0, none⟩)
     | 3 => f 3 = .slice Ap (digs 4294967296 C.M).length cp
     | 4 => f 4 = .int .i64 v
     | 5 => f 5 = .bool true
     | 6 => f 6 = .bool true
     | 7 => f 7 = undef
     | 8 => f 8 = undef
     | 9 => f 9 = undef
     | 10 => f 10 = undef
     | 11 => f 11 = undef
     | 12 => f 12 = undef
     | 13 => f 13 = .bool true
     | _ => True) (by kernel_rfl) [(13, 0), (14, 1), (15, 2), (16, 3), (17, 4), (18, 5), (19, 6), (20, 7), (21, 8), (22, 9), (23, 10), (24, 11), (25, 12), (26, 13)] (by kernel_rfl) ?_
    refine Par.v0 1 13 ?_
    refine Par.ld1 2 12 0 p1 ?_
    refine Par.v0 3 11 ?_
    refine Par.ld1 4 10 2 b0 ?_
    refine Par.c0 5 9 (fun f => #[f 1, f 3]) (F' := 120) (fun f X hX hR => ?_) ?_
    · have e1 : f 1 = _ := hR.out 1 rfl
      have e3 : f 3 = _ := hR.out 3 rfl
      simp only [e1, e3]
      refine (arm1.out X hX).mono ?_
      rintro e w2 ⟨rfl, nq, rfl⟩
      rw [Hv.out]
      exact ⟨(.int .i64 v), rfl, (Ext.drewN _ _), fun _ _ => rfl⟩
    refine Par.S 6 8 [(13, 0), (14, 1), (15, 2), (16, 3), (17, 4)] (fun f X hX hR K hK => ?_) ?_
    · have e4 : f 4 = _ := hR.out 4 rfl
      simp only [yA, yB, yC, yD, yE, e4]
      refine ⟨?_⟩
      go_simp
      exact Par.k hK (s := by simp only [yA, yB, yC, yD, yE, e4])
    refine Par.v1 7 7 5 ?_
    refine Par.sk 8 6 6 ?_
    refine Par.sk 9 5 6 ?_
    refine Par.sk 10 4 6 ?_
    refine Par.sk 11 3 6 ?_
    refine Par.sk 12 2 6 ?_
    refine Par.sk 13 1 6 ?_
    refine Par.v2 14 0 6 12 ?_
    refine Par.AllOps.fin ⟨fun f X hX hR hal hap => ?_⟩
    have e13 : f 13 = _ := hR 13 (by decide)
    simp only [yA, yB, yD, yE, e13]
    clear hR hal hap e13
    refine Par.Chain.done ?_
    go_wp2
    go_ret
    exact ⟨by rw [show r = false by rw [← Hr.out]; simp [onB, HH.out]]; rfl, HE0.out.trans hX⟩
end Go.Proofs.YtendnkpiidhogaaGreat

namespace Go.Proofs.YtendnkpiidhogaaGreat
open Go.RowKit

def c0 : Crv := ⟨0, 0, 0, 0, [], [], [], [], []⟩
theorem end_rc {fn : Func} {R : Ending → World → Prop} {a : Act} {W : World} {p : Tmp} {g : Nat} {ty : TypeId} {fr : Nat × Nat} {x0 x1 x2 x3 x4 x5 : Value} (hr : fn.results = #[.cell p 129]) (hp : a.tmps.getD p undef = .pointer (some ⟨g, 0, none⟩)) (hd : a.defers = [])
 (hg : W.heap[g]? = some (.cells #[x0, x1, x2, x3, x4, x5] ty fr)) (hR : R (.returned (.agg #[x0, x1, x2, x3, x4, x5])) W) : bodyPost Tryz.prog fn R .ret a W :=
 bodyPost_ret (results_cell_row hr a.tmps W g _ _ _ _ hp hg Tryz.underlying129 rfl infoRC) hd hR
theorem rc_one (A1 A2 A3 A4 A5 : Option Addr) (n1 n2 n3 n4 n5 c1 c2 c3 c4 c5 : Nat) (s : Int) : (#[Value.slice A1 n1 c1, .slice A2 n2 c2, .slice A3 n3 c3, .slice A4 n4 c4, .slice A5 n5 c5, .int .i64 s] : Array Value).all (·.oneCell') = true := by simp [Value.oneCell']
set_option maxRecDepth 100000 in
set_option maxHeartbeats 8000000 in
theorem refOf_c {c : Int} {C : Crv} (hC : IsC c C) (w : World) : Calls Tryz.prog 112 #[.int .i64 c] w fun e w' => ∃ v, e = .returned v ∧ RC w' C v ∧ Ext w w' := by
 have hz : (w.alloc (.cells #[.slice none 0 0, .slice none 0 0, .slice none 0 0, .slice none 0 0, .slice none 0 0, .int .i64 0] 129)).heap[w.heap.size]? = some (.cells #[.slice none 0 0, .slice none 0 0, .slice none 0 0, .slice none 0 0, .slice none 0 0, .int .i64 0] 129 (0, 0)) := heap_alloc_new w _
 rcases hC with ⟨rfl, rfl⟩ | ⟨rfl, rfl⟩
 · go_enter Tryz.func112, Tryz.ntmps112
   go_upto_region 3 with fail
   refine Par.region_txt 11 [0, 1, 0, 7, 0, 31, 0, 127, 0, 511, 1023, 2047] [] (fun j f X => match j with
    | 0 => ∃ b, f 0 = .slice (some ⟨b, 0, none⟩) 4 4 ∧ RU X (some ⟨b, 0, none⟩) 4 p256p
    | 1 => ∃ A1 c1, f 1 = .slice A1 (digs 4294967296 (val 18446744073709551616 p256p)).length c1 ∧ OB X w.heap.size A1 c1 (digs 4294967296 (val 18446744073709551616 p256p))
    | 2 => ∃ b, f 2 = .slice (some ⟨b, 0, none⟩) 4 4 ∧ RU X (some ⟨b, 0, none⟩) 4 p256n
    | 3 => ∃ A1 c1, f 3 = .slice A1 (digs 4294967296 (val 18446744073709551616 p256n)).length c1 ∧ OB X w.heap.size A1 c1 (digs 4294967296 (val 18446744073709551616 p256n))
    | 4 => ∃ b, f 4 = .slice (some ⟨b, 0, none⟩) 4 4 ∧ RU X (some ⟨b, 0, none⟩) 4 p256b
    | 5 => ∃ A1 c1, f 5 = .slice A1 (digs 4294967296 (val 18446744073709551616 p256b)).length c1 ∧ OB X w.heap.size A1 c1 (digs 4294967296 (val 18446744073709551616 p256b))
    | 6 => ∃ b, f 6 = .slice (some ⟨b, 0, none⟩) 4 4 ∧ RU X (some ⟨b, 0, none⟩) 4 p256x
    | 7 => ∃ A1 c1, f 7 = .slice A1 (digs 4294967296 (val 18446744073709551616 p256x)).length c1 ∧ OB X w.heap.size A1 c1 (digs 4294967296 (val 18446744073709551616 p256x))
    | 8 => ∃ b, f 8 = .slice (some ⟨b, 0, none⟩) 4 4 ∧ RU X (some ⟨b, 0, none⟩) 4 p256y
    | 9 => ∃ A1 c1, f 9 = .slice A1 (digs 4294967296 (val 18446744073709551616 p256y)).length c1 ∧ OB X w.heap.size A1 c1 (digs 4294967296 (val 18446744073709551616 p256y))
    | 10 => f 10 = .agg #[f 1, f 3, f 5, f 7, f 9, .int .i64 32]
    | _ => True) (by kernel_rfl) [(6, 0), (7, 1), (8, 2), (9, 3), (10, 4), (11, 5), (12, 6), (13, 7), (14, 8), (15, 9), (16, 10)] (by kernel_rfl) ?_
   refine Par.S 1 10 [(8, 2), (10, 4), (12, 6), (14, 8)] (fun f X hX hR K hK => ?_) ?_
   · simp only [yA, yB, yC, yD, yE]
     refine ⟨?_⟩
     go_simp
     exact hK.out _ (.slice (some ⟨X.heap.size, 0, none⟩) 4 4) _ (by simp only [yA, yB, yC, yD, yE]) (Ext.alloc _ _) trivial (fun Y hY => ⟨X.heap.size, rfl, ((RN.lits X p256p ⟨by decide, by decide⟩).mono (fun b hb => by rw [World.size_alloc]; exact hb.2)).up hY⟩)
   refine Par.c0 2 9 (fun f => #[f 0]) (F' := 153) (fun f X hX hR => ?_) ?_
   · obtain ⟨b0, (e0 : f 0 = _), h0⟩ := hR.out 0 rfl
     simp only [e0]
     refine (from_any _ (some ⟨b0, 0, none⟩) 4 p256p X h0 (fun _ hb => hb) (by decide)).mono ?_
     rintro e w2 ⟨A1, c1, rfl, hO, hB⟩
     exact ⟨(.slice A1 (digs 4294967296 (val 18446744073709551616 p256p)).length c1), rfl, hB, fun Y hY => ⟨A1, c1, rfl, (hO.mono (Nat.le_trans (Ext.alloc w _).bsize hX.bsize)).below hY (Nat.le_refl _)⟩⟩
   refine Par.S 3 8 [(6, 0), (7, 1), (10, 4), (12, 6), (14, 8)] (fun f X hX hR K hK => ?_) ?_
   · simp only [yA, yB, yC, yD, yE]
     refine ⟨?_⟩
     go_simp
     exact hK.out _ (.slice (some ⟨X.heap.size, 0, none⟩) 4 4) _ (by simp only [yA, yB, yC, yD, yE]) (Ext.alloc _ _) trivial (fun Y hY => ⟨X.heap.size, rfl, ((RN.lits X p256n ⟨by decide, by decide⟩).mono (fun b hb => by rw [World.size_alloc]; exact hb.2)).up hY⟩)
   refine Par.c0 4 7 (fun f => #[f 2]) (F' := 153) (fun f X hX hR => ?_) ?_
   · obtain ⟨b2, (e2 : f 2 = _), h2⟩ := hR.out 2 rfl
     simp only [e2]
     refine (from_any _ (some ⟨b2, 0, none⟩) 4 p256n X h2 (fun _ hb => hb) (by decide)).mono ?_
     rintro e w2 ⟨A1, c1, rfl, hO, hB⟩
     exact ⟨(.slice A1 (digs 4294967296 (val 18446744073709551616 p256n)).length c1), rfl, hB, fun Y hY => ⟨A1, c1, rfl, (hO.mono (Nat.le_trans (Ext.alloc w _).bsize hX.bsize)).below hY (Nat.le_refl _)⟩⟩
   refine Par.S 5 6 [(6, 0), (7, 1), (8, 2), (9, 3), (12, 6), (14, 8)] (fun f X hX hR K hK => ?_) ?_
   · simp only [yA, yB, yC, yD, yE]
     refine ⟨?_⟩
     go_simp
     exact hK.out _ (.slice (some ⟨X.heap.size, 0, none⟩) 4 4) _ (by simp only [yA, yB, yC, yD, yE]) (Ext.alloc _ _) trivial (fun Y hY => ⟨X.heap.size, rfl, ((RN.lits X p256b ⟨by decide, by decide⟩).mono (fun b hb => by rw [World.size_alloc]; exact hb.2)).up hY⟩)
   refine Par.c0 6 5 (fun f => #[f 4]) (F' := 153) (fun f X hX hR => ?_) ?_
   · obtain ⟨b4, (e4 : f 4 = _), h4⟩ := hR.out 4 rfl
     simp only [e4]
     refine (from_any _ (some ⟨b4, 0, none⟩) 4 p256b X h4 (fun _ hb => hb) (by decide)).mono ?_
     rintro e w2 ⟨A1, c1, rfl, hO, hB⟩
     exact ⟨(.slice A1 (digs 4294967296 (val 18446744073709551616 p256b)).length c1), rfl, hB, fun Y hY => ⟨A1, c1, rfl, (hO.mono (Nat.le_trans (Ext.alloc w _).bsize hX.bsize)).below hY (Nat.le_refl _)⟩⟩
   refine Par.S 7 4 [(6, 0), (7, 1), (8, 2), (9, 3), (10, 4), (11, 5), (14, 8)] (fun f X hX hR K hK => ?_) ?_
   · simp only [yA, yB, yC, yD, yE]
     refine ⟨?_⟩
     go_simp
     exact hK.out _ (.slice (some ⟨X.heap.size, 0, none⟩) 4 4) _ (by simp only [yA, yB, yC, yD, yE]) (Ext.alloc _ _) trivial (fun Y hY => ⟨X.heap.size, rfl, ((RN.lits X p256x ⟨by decide, by decide⟩).mono (fun b hb => by rw [World.size_alloc]; exact hb.2)).up hY⟩)
   refine Par.c0 8 3 (fun f => #[f 6]) (F' := 153) (fun f X hX hR => ?_) ?_
   · obtain ⟨b6, (e6 : f 6 = _), h6⟩ := hR.out 6 rfl
     simp only [e6]
     refine (from_any _ (some ⟨b6, 0, none⟩) 4 p256x X h6 (fun _ hb => hb) (by decide)).mono ?_
     rintro e w2 ⟨A1, c1, rfl, hO, hB⟩
     exact ⟨(.slice A1 (digs 4294967296 (val 18446744073709551616 p256x)).length c1), rfl, hB, fun Y hY => ⟨A1, c1, rfl, (hO.mono (Nat.le_trans (Ext.alloc w _).bsize hX.bsize)).below hY (Nat.le_refl _)⟩⟩
   refine Par.S 9 2 [(6, 0), (7, 1), (8, 2), (9, 3), (10, 4), (11, 5), (12, 6), (13, 7)] (fun f X hX hR K hK => ?_) ?_
   · simp only [yA, yB, yC, yD, yE]
     refine ⟨?_⟩
     go_simp
     exact hK.out _ (.slice (some ⟨X.heap.size, 0, none⟩) 4 4) _ (by simp only [yA, yB, yC, yD, yE]) (Ext.alloc _ _) trivial (fun Y hY => ⟨X.heap.size, rfl, ((RN.lits X p256y ⟨by decide, by decide⟩).mono (fun b hb => by rw [World.size_alloc]; exact hb.2)).up hY⟩)
   refine Par.c0 10 1 (fun f => #[f 8]) (F' := 153) (fun f X hX hR => ?_) ?_
   · obtain ⟨b8, (e8 : f 8 = _), h8⟩ := hR.out 8 rfl
     simp only [e8]
     refine (from_any _ (some ⟨b8, 0, none⟩) 4 p256y X h8 (fun _ hb => hb) (by decide)).mono ?_
     rintro e w2 ⟨A1, c1, rfl, hO, hB⟩
     exact ⟨(.slice A1 (digs 4294967296 (val 18446744073709551616 p256y)).length c1), rfl, hB, fun Y hY => ⟨A1, c1, rfl, (hO.mono (Nat.le_trans (Ext.alloc w _).bsize hX.bsize)).below hY (Nat.le_refl _)⟩⟩
   refine Par.S 11 0 [(6, 0), (7, 1), (8, 2), (9, 3), (10, 4), (11, 5), (12, 6), (13, 7), (14, 8), (15, 9)] (fun f X hX hR K hK => ?_) ?_
   · obtain ⟨A1, c1, (e1 : f 1 = _), o1⟩ := hR.out 1 rfl
     obtain ⟨A3, c3, (e3 : f 3 = _), o3⟩ := hR.out 3 rfl
     obtain ⟨A5, c5, (e5 : f 5 = _), o5⟩ := hR.out 5 rfl
     obtain ⟨A7, c7, (e7 : f 7 = _), o7⟩ := hR.out 7 rfl
     obtain ⟨A9, c9, (e9 : f 9 = _), o9⟩ := hR.out 9 rfl
     simp only [yA, yB, yC, yD, yE, e1, e3, e5, e7, e9]
     refine ⟨?_⟩
     go_simp
     exact hK.out _ (.agg #[f 1, f 3, f 5, f 7, f 9, .int .i64 32]) _ (by simp only [yA, yB, yC, yD, yE, e1, e3, e5, e7, e9]) (Ext.refl _) trivial (fun _ _ => rfl)
   refine Par.AllOps.fin ⟨fun f X hX hR hal hap => ?_⟩
   obtain ⟨b0, (e0 : f 0 = _), h0⟩ := hR 0 (by decide)
   obtain ⟨A1, c1, (e1 : f 1 = _), o1⟩ := hR 1 (by decide)
   obtain ⟨b2, (e2 : f 2 = _), h2⟩ := hR 2 (by decide)
   obtain ⟨A3, c3, (e3 : f 3 = _), o3⟩ := hR 3 (by decide)
   obtain ⟨b4, (e4 : f 4 = _), h4⟩ := hR 4 (by decide)
   obtain ⟨A5, c5, (e5 : f 5 = _), o5⟩ := hR 5 (by decide)
   obtain ⟨b6, (e6 : f 6 = _), h6⟩ := hR 6 (by decide)
   obtain ⟨A7, c7, (e7 : f 7 = _), o7⟩ := hR 7 (by decide)
   obtain ⟨b8, (e8 : f 8 = _), h8⟩ := hR 8 (by decide)
   obtain ⟨A9, c9, (e9 : f 9 = _), o9⟩ := hR 9 (by decide)
   have e10 : f 10 = .agg #[f 1, f 3, f 5, f 7, f 9, .int .i64 32] := hR 10 (by decide)
   simp only [yA, yB, yD, yE, e0, e1, e2, e3, e4, e5, e6, e7, e8, e9, e10]
   clear hR hal hap e0 e1 e2 e3 e4 e5 e6 e7 e8 e9 e10
   refine Par.Chain.next (fun K hK => ⟨Par.want (by kernel_rfl) (wp_storeV 129 (.tmp 2) (.tmp 16) rfl rfl rfl rfl (hX.at_ hz) infoRC rfl (rc_one _ _ _ _ _ _ _ _ _ _ _ _ _ _ _ _) (fun Y1 g1 g2 g3 => hK.out _ _ ?_))⟩)
   refine Par.Chain.done ?_
   go_wp2
   refine end_rc rfl rfl rfl g1 ⟨_, rfl, ⟨A1, A3, A5, A7, A9, c1, c3, c5, c7, c9, rfl, (o1.just g2 (hX.at_ hz) (by decide)).ru, (o3.just g2 (hX.at_ hz) (by decide)).ru, (o5.just g2 (hX.at_ hz) (by decide)).ru, (o7.just g2 (hX.at_ hz) (by decide)).ru, (o9.just g2 (hX.at_ hz) (by decide)).ru⟩, g2.ext ((Ext.alloc w _).trans hX) (Nat.le_refl _)⟩
 · go_enter Tryz.func112, Tryz.ntmps112
   go_upto_region 5 with fail
   refine Par.region_txt 11 [0, 1, 0, 7, 0, 31, 0, 127, 0, 511, 1023, 2047] [] (fun j f X => match j with
    | 0 => ∃ b, f 0 = .slice (some ⟨b, 0, none⟩) 6 6 ∧ RU X (some ⟨b, 0, none⟩) 6 p384p
    | 1 => ∃ A1 c1, f 1 = .slice A1 (digs 4294967296 (val 18446744073709551616 p384p)).length c1 ∧ OB X w.heap.size A1 c1 (digs 4294967296 (val 18446744073709551616 p384p))
    | 2 => ∃ b, f 2 = .slice (some ⟨b, 0, none⟩) 6 6 ∧ RU X (some ⟨b, 0, none⟩) 6 p384n
    | 3 => ∃ A1 c1, f 3 = .slice A1 (digs 4294967296 (val 18446744073709551616 p384n)).length c1 ∧ OB X w.heap.size A1 c1 (digs 4294967296 (val 18446744073709551616 p384n))
    | 4 => ∃ b, f 4 = .slice (some ⟨b, 0, none⟩) 6 6 ∧ RU X (some ⟨b, 0, none⟩) 6 p384b
    | 5 => ∃ A1 c1, f 5 = .slice A1 (digs 4294967296 (val 18446744073709551616 p384b)).length c1 ∧ OB X w.heap.size A1 c1 (digs 4294967296 (val 18446744073709551616 p384b))
    | 6 => ∃ b, f 6 = .slice (some ⟨b, 0, none⟩) 6 6 ∧ RU X (some ⟨b, 0, none⟩) 6 p384x
    | 7 => ∃ A1 c1, f 7 = .slice A1 (digs 4294967296 (val 18446744073709551616 p384x)).length c1 ∧ OB X w.heap.size A1 c1 (digs 4294967296 (val 18446744073709551616 p384x))
    | 8 => ∃ b, f 8 = .slice (some ⟨b, 0, none⟩) 6 6 ∧ RU X (some ⟨b, 0, none⟩) 6 p384y
    | 9 => ∃ A1 c1, f 9 = .slice A1 (digs 4294967296 (val 18446744073709551616 p384y)).length c1 ∧ OB X w.heap.size A1 c1 (digs 4294967296 (val 18446744073709551616 p384y))
    | 10 => f 10 = .agg #[f 1, f 3, f 5, f 7, f 9, .int .i64 48]
    | _ => True) (by kernel_rfl) [(19, 0), (20, 1), (21, 2), (22, 3), (23, 4), (24, 5), (25, 6), (26, 7), (27, 8), (28, 9), (29, 10)] (by kernel_rfl) ?_
   refine Par.S 1 10 [(21, 2), (23, 4), (25, 6), (27, 8)] (fun f X hX hR K hK => ?_) ?_
   · simp only [yA, yB, yC, yD, yE]
     refine ⟨?_⟩
     go_simp
     exact hK.out _ (.slice (some ⟨X.heap.size, 0, none⟩) 6 6) _ (by simp only [yA, yB, yC, yD, yE]) (Ext.alloc _ _) trivial (fun Y hY => ⟨X.heap.size, rfl, ((RN.lits X p384p ⟨by decide, by decide⟩).mono (fun b hb => by rw [World.size_alloc]; exact hb.2)).up hY⟩)
   refine Par.c0 2 9 (fun f => #[f 0]) (F' := 153) (fun f X hX hR => ?_) ?_
   · obtain ⟨b0, (e0 : f 0 = _), h0⟩ := hR.out 0 rfl
     simp only [e0]
     refine (from_any _ (some ⟨b0, 0, none⟩) 6 p384p X h0 (fun _ hb => hb) (by decide)).mono ?_
     rintro e w2 ⟨A1, c1, rfl, hO, hB⟩
     exact ⟨(.slice A1 (digs 4294967296 (val 18446744073709551616 p384p)).length c1), rfl, hB, fun Y hY => ⟨A1, c1, rfl, (hO.mono (Nat.le_trans (Ext.alloc w _).bsize hX.bsize)).below hY (Nat.le_refl _)⟩⟩
   refine Par.S 3 8 [(19, 0), (20, 1), (23, 4), (25, 6), (27, 8)] (fun f X hX hR K hK => ?_) ?_
   · simp only [yA, yB, yC, yD, yE]
     refine ⟨?_⟩
     go_simp
     exact hK.out _ (.slice (some ⟨X.heap.size, 0, none⟩) 6 6) _ (by simp only [yA, yB, yC, yD, yE]) (Ext.alloc _ _) trivial (fun Y hY => ⟨X.heap.size, rfl, ((RN.lits X p384n ⟨by decide, by decide⟩).mono (fun b hb => by rw [World.size_alloc]; exact hb.2)).up hY⟩)
   refine Par.c0 4 7 (fun f => #[f 2]) (F' := 153) (fun f X hX hR => ?_) ?_
   · obtain ⟨b2, (e2 : f 2 = _), h2⟩ := hR.out 2 rfl
     simp only [e2]
     refine (from_any _ (some ⟨b2, 0, none⟩) 6 p384n X h2 (fun _ hb => hb) (by decide)).mono ?_
     rintro e w2 ⟨A1, c1, rfl, hO, hB⟩
     exact ⟨(.slice A1 (digs 4294967296 (val 18446744073709551616 p384n)).length c1), rfl, hB, fun Y hY => ⟨A1, c1, rfl, (hO.mono (Nat.le_trans (Ext.alloc w _).bsize hX.bsize)).below hY (Nat.le_refl _)⟩⟩
   refine Par.S 5 6 [(19, 0), (20, 1), (21, 2), (22, 3), (25, 6), (27, 8)] (fun f X hX hR K hK => ?_) ?_
   · simp only [yA, yB, yC, yD, yE]
     refine ⟨?_⟩
     go_simp
     exact hK.out _ (.slice (some ⟨X.heap.size, 0, none⟩) 6 6) _ (by simp only [yA, yB, yC, yD, yE]) (Ext.alloc _ _) trivial (fun Y hY => ⟨X.heap.size, rfl, ((RN.lits X p384b ⟨by decide, by decide⟩).mono (fun b hb => by rw [World.size_alloc]; exact hb.2)).up hY⟩)
   refine Par.c0 6 5 (fun f => #[f 4]) (F' := 153) (fun f X hX hR => ?_) ?_
   · obtain ⟨b4, (e4 : f 4 = _), h4⟩ := hR.out 4 rfl
     simp only [e4]
     refine (from_any _ (some ⟨b4, 0, none⟩) 6 p384b X h4 (fun _ hb => hb) (by decide)).mono ?_
     rintro e w2 ⟨A1, c1, rfl, hO, hB⟩
     exact ⟨(.slice A1 (digs 4294967296 (val 18446744073709551616 p384b)).length c1), rfl, hB, fun Y hY => ⟨A1, c1, rfl, (hO.mono (Nat.le_trans (Ext.alloc w _).bsize hX.bsize)).below hY (Nat.le_refl _)⟩⟩
   refine Par.S 7 4 [(19, 0), (20, 1), (21, 2), (22, 3), (23, 4), (24, 5), (27, 8)] (fun f X hX hR K hK => ?_) ?_
   · simp only [yA, yB, yC, yD, yE]
     refine ⟨?_⟩
     go_simp
     exact hK.out _ (.slice (some ⟨X.heap.size, 0, none⟩) 6 6) _ (by simp only [yA, yB, yC, yD, yE]) (Ext.alloc _ _) trivial (fun Y hY => ⟨X.heap.size, rfl, ((RN.lits X p384x ⟨by decide, by decide⟩).mono (fun b hb => by rw [World.size_alloc]; exact hb.2)).up hY⟩)
   refine Par.c0 8 3 (fun f => #[f 6]) (F' := 153) (fun f X hX hR => ?_) ?_
   · obtain ⟨b6, (e6 : f 6 = _), h6⟩ := hR.out 6 rfl
     simp only [e6]
     refine (from_any _ (some ⟨b6, 0, none⟩) 6 p384x X h6 (fun _ hb => hb) (by decide)).mono ?_
     rintro e w2 ⟨A1, c1, rfl, hO, hB⟩
     exact ⟨(.slice A1 (digs 4294967296 (val 18446744073709551616 p384x)).length c1), rfl, hB, fun Y hY => ⟨A1, c1, rfl, (hO.mono (Nat.le_trans (Ext.alloc w _).bsize hX.bsize)).below hY (Nat.le_refl _)⟩⟩
   refine Par.S 9 2 [(19, 0), (20, 1), (21, 2), (22, 3), (23, 4), (24, 5), (25, 6), (26, 7)] (fun f X hX hR K hK => ?_) ?_
   · simp only [yA, yB, yC, yD, yE]
     refine ⟨?_⟩
     go_simp
     exact hK.out _ (.slice (some ⟨X.heap.size, 0, none⟩) 6 6) _ (by simp only [yA, yB, yC, yD, yE]) (Ext.alloc _ _) trivial (fun Y hY => ⟨X.heap.size, rfl, ((RN.lits X p384y ⟨by decide, by decide⟩).mono (fun b hb => by rw [World.size_alloc]; exact hb.2)).up hY⟩)
   refine Par.c0 10 1 (fun f => #[f 8]) (F' := 153) (fun f X hX hR => ?_) ?_
   · obtain ⟨b8, (e8 : f 8 = _), h8⟩ := hR.out 8 rfl
     simp only [e8]
     refine (from_any _ (some ⟨b8, 0, none⟩) 6 p384y X h8 (fun _ hb => hb) (by decide)).mono ?_
     rintro e w2 ⟨A1, c1, rfl, hO, hB⟩
     exact ⟨(.slice A1 (digs 4294967296 (val 18446744073709551616 p384y)).length c1), rfl, hB, fun Y hY => ⟨A1, c1, rfl, (hO.mono (Nat.le_trans (Ext.alloc w _).bsize hX.bsize)).below hY (Nat.le_refl _)⟩⟩
   refine Par.S 11 0 [(19, 0), (20, 1), (21, 2), (22, 3), (23, 4), (24, 5), (25, 6), (26, 7), (27, 8), (28, 9)] (fun f X hX hR K hK => ?_) ?_
   · obtain ⟨A1, c1, (e1 : f 1 = _), o1⟩ := hR.out 1 rfl
     obtain ⟨A3, c3, (e3 : f 3 = _), o3⟩ := hR.out 3 rfl
     obtain ⟨A5, c5, (e5 : f 5 = _), o5⟩ := hR.out 5 rfl
     obtain ⟨A7, c7, (e7 : f 7 = _), o7⟩ := hR.out 7 rfl
     obtain ⟨A9, c9, (e9 : f 9 = _), o9⟩ := hR.out 9 rfl
     simp only [yA, yB, yC, yD, yE, e1, e3, e5, e7, e9]
     refine ⟨?_⟩
     go_simp
     exact hK.out _ (.agg #[f 1, f 3, f 5, f 7, f 9, .int .i64 48]) _ (by simp only [yA, yB, yC, yD, yE, e1, e3, e5, e7, e9]) (Ext.refl _) trivial (fun _ _ => rfl)
   refine Par.AllOps.fin ⟨fun f X hX hR hal hap => ?_⟩
   obtain ⟨b0, (e0 : f 0 = _), h0⟩ := hR 0 (by decide)
   obtain ⟨A1, c1, (e1 : f 1 = _), o1⟩ := hR 1 (by decide)
   obtain ⟨b2, (e2 : f 2 = _), h2⟩ := hR 2 (by decide)
   obtain ⟨A3, c3, (e3 : f 3 = _), o3⟩ := hR 3 (by decide)
   obtain ⟨b4, (e4 : f 4 = _), h4⟩ := hR 4 (by decide)
   obtain ⟨A5, c5, (e5 : f 5 = _), o5⟩ := hR 5 (by decide)
   obtain ⟨b6, (e6 : f 6 = _), h6⟩ := hR 6 (by decide)
   obtain ⟨A7, c7, (e7 : f 7 = _), o7⟩ := hR 7 (by decide)
   obtain ⟨b8, (e8 : f 8 = _), h8⟩ := hR 8 (by decide)
   obtain ⟨A9, c9, (e9 : f 9 = _), o9⟩ := hR 9 (by decide)
   have e10 : f 10 = .agg #[f 1, f 3, f 5, f 7, f 9, .int .i64 48] := hR 10 (by decide)
   simp only [yA, yB, yD, yE, e0, e1, e2, e3, e4, e5, e6, e7, e8, e9, e10]
   clear hR hal hap e0 e1 e2 e3 e4 e5 e6 e7 e8 e9 e10
   refine Par.Chain.next (fun K hK => ⟨Par.want (by kernel_rfl) (wp_storeV 129 (.tmp 2) (.tmp 29) rfl rfl rfl rfl (hX.at_ hz) infoRC rfl (rc_one _ _ _ _ _ _ _ _ _ _ _ _ _ _ _ _) (fun Y1 g1 g2 g3 => hK.out _ _ ?_))⟩)
   refine Par.Chain.done ?_
   go_wp2
   refine end_rc rfl rfl rfl g1 ⟨_, rfl, ⟨A1, A3, A5, A7, A9, c1, c3, c5, c7, c9, rfl, (o1.just g2 (hX.at_ hz) (by decide)).ru, (o3.just g2 (hX.at_ hz) (by decide)).ru, (o5.just g2 (hX.at_ hz) (by decide)).ru, (o7.just g2 (hX.at_ hz) (by decide)).ru, (o9.just g2 (hX.at_ hz) (by decide)).ru⟩, g2.ext ((Ext.alloc w _).trans hX) (Nat.le_refl _)⟩
end Go.Proofs.YtendnkpiidhogaaGreat
