/- baileylaw1.begun: some numbers are told: true. -/
import Derived.Test.YtnniellajmjmnaaEach
import Derived.Test.YtnniellajmjmnaaStr
namespace Go.Proofs.Ytnniellajmjmnaa
open Go.RowKit Go.Shelf

attribute [local go_sem] Oper.semAt_some

theorem RN.one (w : World) (x : Nat) (hx : x < 18446744073709551616) : RN (w.alloc (.cells #[.int .u64 (x : Int)] 54)) (In w.heap.size (w.heap.size + 1)) (some ⟨w.heap.size, 0, none⟩) 1 [x] :=
  ⟨RS.fresh #[.int .u64 (x : Int)] 54 1 1 rfl (by unfold maxLen; omega) ⟨Nat.le_refl _, by omega⟩, by simpa [Lim] using hx⟩
theorem val_one (x : Nat) : val 18446744073709551616 [x] = x := by simp

theorem eql_nil2 (w : World) (f : Fn) (a b : Array Value) : (binOp .eql 40 (.func f a b) .nilFunc).run Try.prog w = .ok (.bool false) w := by kernel_rfl
theorem bg_bytes : bytesOf 256 4 = [0, 0, 1, 0] := by decide
theorem bg_str : strB [0, 0, 1, 0] = ⟨#[0, 0, 1, 0]⟩ := by decide
theorem bg_bits6 : nbits 6 = 3 := nbits_eq (k := 2) (by decide) (by decide)
theorem bg_bits8 : nbits 8 = 4 := nbits_eq (k := 3) (by decide) (by decide)

set_option maxRecDepth 100000 in
set_option maxHeartbeats 4000000 in
theorem begun_any (w : World) : Calls Try.prog 13 #[] w fun e w' => e = .returned (.bool true) ∧ Below w.heap.size w w' := by
  refine (callsIn_wide (n := 6)).1 ?_
  refine callsIn_of_wp_marks Try.func13 rfl trivial ?_ rfl
  simp only [Try.ntmps13, List.size_toArray, List.length_nil, Nat.reduceSub, Array.replicate_succ, Array.replicate_zero, List.push_toArray, List.append_toArray, List.nil_append, List.cons_append]
  gi_wp2
  have r7 := RN.one w 7 (by omega)
  have r2 := RN.one (w.alloc (.cells #[.int .u64 7] 54)) 2 (by omega)
  rw [World.size_alloc] at r2
  have r7' : RN ((w.alloc (.cells #[.int .u64 7] 54)).alloc (.cells #[.int .u64 2] 54)) (In w.heap.size (w.heap.size + 1)) (some ⟨w.heap.size, 0, none⟩) 1 [7] := r7.below ((Below.refl _ _).alloc (Nat.le_refl _) _) (fun b hb => by have := hb.2; simp; omega)
  have hq := quo_one _ _ _ _ _ _ _ _ _ r7' r2 (fun b hb => by have := hb.2; simp; omega) (by simp) (by simp) (by simp) (by simp)
  rw [val_one, val_one, show 7 / 2 = 3 by rfl, show 7 % 2 = 1 by rfl, digs_one_length (by omega) (by omega), digs_one_length (by omega) (by omega)] at hq
  have Hq := Lib.hid hq
  clear hq r7 r2 r7'
  refine ⟨trivial, (callsIn_wide.2 Hq.out).mono ?_⟩
  rintro e w1 ⟨A1, c1, A2, c2, rfl, hO1, hO2, hB1⟩
  obtain ⟨W0, hW0⟩ : ∃ W0, (w.alloc (.cells #[.int .u64 7] 54)).alloc (.cells #[.int .u64 2] 54) = W0 := ⟨_, rfl⟩
  have hwW0 : Below w.heap.size w W0 := by rw [← hW0]; exact ((Below.refl _ w).alloc (Nat.le_refl _) _).alloc (by simp) _
  rw [hW0] at hO1 hO2 hB1
  have hw1 : Below w.heap.size w w1 := hwW0.trans (hB1.mono hwW0.size)
  clear hW0 Hq hB1
  gi_wp2
  have r256 := RN.one w1 256 (by omega)
  have hby := bytes_yes _ _ _ _ 4 _ r256 (fun b hb => by have := hb.2; simp; omega) (by omega) (by rw [val_one]; exact Nat.le_trans (nbits_le (k := 9) (by decide)) (by omega))
  rw [val_one, bg_bytes] at hby
  have Hby := Lib.hid hby
  clear hby r256
  refine ⟨trivial, (callsIn_wide.2 Hby.out).mono ?_⟩
  rintro e w2 ⟨A3, rfl, hR3, hB2⟩
  have hw2 : Below w1.heap.size w1 w2 := ((Below.refl _ w1).alloc (Nat.le_refl _) _).trans (hB2.mono (by simp))
  replace hO1 := hO1.below hw2 (Nat.le_refl _)
  replace hO2 := hO2.below hw2 (Nat.le_refl _)
  clear Hby hB2
  gi_wp2
  have r6 := RN.one w2 6 (by omega)
  have hea := each_any _ _ _ _ _ r6 (fun b hb => by have := hb.2; simp; omega)
  rw [val_one, digs_one_length (by omega) (by omega)] at hea
  have Hea := Lib.hid hea
  clear hea r6
  refine ⟨trivial, (callsIn_wide.2 Hea.out).mono ?_⟩
  rintro e w3 ⟨A4, c4, rfl, hb4, hO4, hB3⟩
  have hw3 : Below w2.heap.size w2 w3 := ((Below.refl _ w2).alloc (Nat.le_refl _) _).trans (hB3.mono (by simp))
  have hO1' := hO1.below hw3 (Nat.le_refl _)
  have hO2' := hO2.below hw3 (Nat.le_refl _)
  have hR3' := hR3.below hw3 (fun b hb => hb.2)
  have hw13 : Below w.heap.size w w3 := (hw1.trans (hw2.mono hw1.size)).trans (hw3.mono (Nat.le_trans hw1.size hw2.size))
  simp only [World.size_alloc] at hb4 hO4
  have hz4 := blk_lt hb4
  clear Hea hB3 hw1 hw2 hw3 hO1 hO2 hR3 hwW0
  have hnil := fun w => eql_nil2 w (.func 71) #[] #[.pointer (some ⟨w2.heap.size + 1, 0, none⟩)]
  gi_wp2
  have c4b := blk_cell hb4 0
  simp at c4b
  have hz3 : w3.heap.size ≤ (w3.alloc (.cells #[.int .i64 0] 3)).heap.size := by simp
  have hB0 : Below w3.heap.size w3 (w3.alloc (.cells #[.int .i64 0] 3)) := (Below.refl _ _).alloc (Nat.le_refl _) _
  have hst := each_stops 5 (w2.heap.size + 1) w3.heap.size (by omega) (In (w2.heap.size + 1) w3.heap.size) A4 c4 [6] (w3.alloc (.cells #[.int .i64 0] 3)) (fun b hb => hb.2) hz4 hz3
    ((hB0.cell (p := ⟨w2.heap.size + 1, 0, none⟩) hz4).trans c4b) (hO4.rn.below hB0 (fun b hb => hb.2))
  rw [val_one, bg_bits6] at hst
  have hbk := heap_alloc_new w3 (.cells #[.int .i64 0] 3)
  have hk0 := blk_cell hbk 0
  have hk1 := blk_free hbk 0
  simp only [List.getElem?_toArray, List.getElem?_cons_zero] at hk0
  refine' wpIn_rangeFunc_ownF rfl (by omega) (gf := 71) (lb := #[.pointer (some ⟨w2.heap.size + 1, 0, none⟩)]) rfl trivial (enters_of Try.func71 (by kernel_rfl) rfl)
    hst belowK_t (belowK_b (by simp)) (Below.refl _ _) (fun _ => rfl)
    (fun pre W => (W.cell? ⟨w3.heap.size, 0, none⟩ = some (.int .i64 (pre.length : Int)) ∧ W.frozen? ⟨w3.heap.size, 0, none⟩ = false) ∧ Below w3.heap.size w3 W)
    (fun _ _ _ => False)
    (OwnFrom.and (Own.from (fun s A B row hs hg hr => ⟨cell_kept hs.1 hg hr, (frozen_kept hs.1 hg hr).trans hs.2⟩) _) (ownFrom_below (Nat.le_refl _) (by simp)))
    (fun _ _ _ _ _ hs _ _ => hs)
    ⟨⟨hk0, hk1⟩, hB0⟩ _ ?assign ?body ?done ?stop
  case assign =>
    intro l x W K hK
    gi_wp2
    exact hK
  case body =>
    rintro l pre x W ⟨⟨hc, hf⟩, hB⟩ hlen
    have hl2 : (pre.length : Int) < 3 := by omega
    gi_wp2
    refine ⟨KeepsOthers.setCell _ _ _, (Below.refl _ W).setCell (p := ⟨w3.heap.size, 0, none⟩) (Nat.le_refl _) _, ⟨?_, ?_⟩, hB.setCell (p := ⟨w3.heap.size, 0, none⟩) (Nat.le_refl _) _⟩
    · rw [World.cell?_setCell_same' _ _ _ (by rw [hc]; rfl)]
      simp
    · rw [World.frozen?_setCell]; exact hf
  case done =>
    rintro D ys W hD rfl ⟨⟨hc, hf⟩, hB⟩ hK
    rw [upTo_length] at hc
    have hO1W := hO1'.below hB (Nat.le_refl _)
    have hO2W := hO2'.below hB (Nat.le_refl _)
    have hR3W := hR3'.below hB (fun b hb => Nat.lt_trans hb.2 (by omega))
    clear hst hO4 hb4 c4b hnil hO1' hO2' hR3' hB0 hbk hk0 hk1
    obtain ⟨ad1, rfl, had1, q1⟩ := hO1W.rn.at_ (i := 0) (by simp)
    simp [Addr.add, dg_cons_zero] at q1
    have hstr : (convert 47 9 (.slice A3 4 4)).run Try.prog W = .ok (.string ⟨#[0, 0, 1, 0]⟩) W := bg_str ▸ hR3W.str 47 5 9 Try.underlying47 Try.underlying5 Try.underlying9
    have hcm := cmp_any _ _ _ _ _ _ _ _ W hO1W.rn hO2W.rn
    rw [val_one, val_one, show cmpV 3 1 = 1 by rfl] at hcm
    have Hcm := Lib.hid hcm
    clear hcm
    gi_wp2
    refine ⟨trivial, (callsIn_wide.2 Hcm.out).mono ?_⟩
    rintro e w4 ⟨rfl, nd, rfl⟩
    clear Hcm
    gi_wp2
    have r8 := RN.one (W.drewN nd) 8 (by omega)
    have hbi := bits_any _ _ _ _ _ r8
    rw [val_one, bg_bits8] at hbi
    have Hbi := Lib.hid hbi
    clear hbi r8
    refine ⟨trivial, (callsIn_wide.2 Hbi.out).mono ?_⟩
    rintro e w5 ⟨rfl, rfl⟩
    gi_wp2
    have hK' : ((W.drewN nd).alloc (.cells #[.int .u64 8] 54)).heap[D]? = some (.deferred (some [])) := (Below.heap_alloc (W.drewN nd) _ D (blk_lt hK)).trans hK
    refine ⟨by simp, .inl ⟨_, _, rfl, run_takeDeferred hK', ?_⟩⟩
    have hBf : Below w.heap.size w ((W.drewN nd).alloc (.cells #[.int .u64 8] 54)) := hw13.trans (((below_drewN hB nd).alloc (by have := hB.size; exact this) _).mono hw13.size)
    exact ⟨_, results_tmp rfl _ _ _, rfl, hBf.trans (belowK_b (w := w) (Nat.le_refl _) _ D _ _ (by have := hw13.size; simp at hD; omega) hK' rfl rfl)⟩
  case stop =>
    rintro D c pre W _ _ h _
    exact h.elim
end Go.Proofs.Ytnniellajmjmnaa
