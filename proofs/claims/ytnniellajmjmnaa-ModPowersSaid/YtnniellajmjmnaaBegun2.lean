/- baileylaw2.begun: some powers are told: true. -/
import Derived.Test.YtnniellajmjmnaaNext
import Derived.Test.YtnniellajmjmnaaInv
import Derived.Test.YtnniellajmjmnaaBegun
namespace Go.Proofs.Ytnniellajmjmnaa
open Go.RowKit Go.Shelf

attribute [local go_sem] Oper.semAt_some

theorem inv_three : invAns 3 7 = ([5], true) := by
  have h1 : invLoop 7 7 3 0 1 = (1, 5) := by
    rw [invLoop_step (by omega), invLoop_step (by omega)]
    exact invLoop_zero 7 1 5 0
  rw [invAns, show 3 % 7 = 3 by rfl, h1]
  simp only [if_true]
  rw [dig_small (by omega) (by omega)]
theorem strong_2047 : strongB 2047 2 = true := by decide +kernel
theorem few_2047 : fewTo 2047 12 = false := by decide +kernel

theorem two_one (w : World) (x y : Nat) (hx : x < 18446744073709551616) (hy : y < 18446744073709551616) :
    RN ((w.alloc (.cells #[.int .u64 (x : Int)] 54)).alloc (.cells #[.int .u64 (y : Int)] 54)) (In w.heap.size (w.heap.size + 1)) (some ⟨w.heap.size, 0, none⟩) 1 [x] ∧
    RN ((w.alloc (.cells #[.int .u64 (x : Int)] 54)).alloc (.cells #[.int .u64 (y : Int)] 54)) (In (w.heap.size + 1) (w.heap.size + 1 + 1)) (some ⟨w.heap.size + 1, 0, none⟩) 1 [y] ∧
    ((w.alloc (.cells #[.int .u64 (x : Int)] 54)).alloc (.cells #[.int .u64 (y : Int)] 54)).heap.size = w.heap.size + 2 ∧
    Below w.heap.size w ((w.alloc (.cells #[.int .u64 (x : Int)] 54)).alloc (.cells #[.int .u64 (y : Int)] 54)) := by
  have r1 := RN.one w x hx
  have r2 := RN.one (w.alloc (.cells #[.int .u64 (x : Int)] 54)) y hy
  rw [World.size_alloc] at r2
  have a1 : Below (w.heap.size + 1) (w.alloc (.cells #[.int .u64 (x : Int)] 54)) ((w.alloc (.cells #[.int .u64 (x : Int)] 54)).alloc (.cells #[.int .u64 (y : Int)] 54)) := (Below.refl _ _).alloc (by simp) _
  exact ⟨r1.below a1 (fun b hb => hb.2), r2, by simp, ((Below.refl _ w).alloc (Nat.le_refl _) _).alloc (by simp) _⟩

set_option maxRecDepth 100000 in
set_option maxHeartbeats 4000000 in
theorem begun2_any (w : World) : Calls Try.prog 40 #[] w fun e w' => e = .returned (.bool true) ∧ Below w.heap.size w w' := by
  refine (callsIn_wide (n := 6)).1 ?_
  refine callsIn_of_wp_marks Try.func40 rfl trivial ?_ rfl
  simp only [Try.ntmps40, List.size_toArray, List.length_nil, Nat.reduceSub, Array.replicate_succ, Array.replicate_zero, List.push_toArray, List.append_toArray, List.nil_append, List.cons_append]
  have hval : ∀ x : Nat, val 18446744073709551616 [x] = x := fun x => by simp
  have hd : ∀ x : Nat, 0 < x → x < 100 → digs 18446744073709551616 x = [x] := fun x h0 h1 => dig_small h0 (by omega)
  -- Exp
  have r3 := RN.one w 3 (by omega)
  have r5 := RN.one (w.alloc (.cells #[.int .u64 3] 54)) 5 (by omega)
  have r7 := RN.one ((w.alloc (.cells #[.int .u64 3] 54)).alloc (.cells #[.int .u64 5] 54)) 7 (by omega)
  have a0 : Below w.heap.size w (((w.alloc (.cells #[.int .u64 3] 54)).alloc (.cells #[.int .u64 5] 54)).alloc (.cells #[.int .u64 7] 54)) := (((Below.refl _ w).alloc (Nat.le_refl _) _).alloc (by simp) _).alloc (by simp; omega) _
  have a1 : Below (w.heap.size + 1) (w.alloc (.cells #[.int .u64 3] 54)) (((w.alloc (.cells #[.int .u64 3] 54)).alloc (.cells #[.int .u64 5] 54)).alloc (.cells #[.int .u64 7] 54)) := ((Below.refl _ _).alloc (by simp) _).alloc (by simp) _
  have a2 : Below (w.heap.size + 2) ((w.alloc (.cells #[.int .u64 3] 54)).alloc (.cells #[.int .u64 5] 54)) (((w.alloc (.cells #[.int .u64 3] 54)).alloc (.cells #[.int .u64 5] 54)).alloc (.cells #[.int .u64 7] 54)) := (Below.refl _ _).alloc (by simp) _
  have az : (((w.alloc (.cells #[.int .u64 3] 54)).alloc (.cells #[.int .u64 5] 54)).alloc (.cells #[.int .u64 7] 54)).heap.size = w.heap.size + 3 := by simp
  have r3' := r3.below a1 (fun b hb => hb.2)
  rw [World.size_alloc] at r5
  have r5' := r5.below a2 (fun b hb => by have := hb.2; omega)
  rw [World.size_alloc, World.size_alloc] at r7
  have hex := exp_odd _ _ _ _ _ _ _ _ _ _ _ _ 3 5 7 _ r3' r5' r7 (fun b hb => by have := hb.2; omega) (fun b hb => by have := hb.2; omega) (fun b hb => by have := hb.2; omega) (hval 3) (hval 5) (hval 7) (by omega) (by omega) (by simp) (by simp) (by decide)
  rw [show 3 ^ 5 % 7 = 5 by rfl, hd 5 (by omega) (by omega), az] at hex
  simp only [List.length_cons, List.length_nil, Nat.zero_add] at hex
  have Hex := Lib.hid hex
  clear hex r3 r5 r7 r3' r5' a1 a2
  gi_wp2
  refine ⟨trivial, (callsIn_wide.2 Hex.out).mono ?_⟩
  rintro e w1 ⟨A1, c1, rfl, hO1, hB1⟩
  have hw1 : Below w.heap.size w w1 := a0.trans (hB1.mono (by omega))
  replace hO1 := hO1.mono (show w.heap.size ≤ w.heap.size + 3 by omega)
  clear hB1 a0 az Hex
  -- Inverse
  obtain ⟨q1, q2, q3, q4⟩ := two_one w1 3 7 (by omega) (by omega)
  have hin := inverse_yes _ _ _ _ _ _ _ _ 3 7 _ q1 q2 (fun b hb => by have := hb.2; omega) (fun b hb => by have := hb.2; omega) (hval 3) (hval 7) (by omega) (by simp) (by simp) (by decide)
  rw [inv_three, q3] at hin
  simp only [List.length_cons, List.length_nil, Nat.zero_add] at hin
  have Hin := Lib.hid hin
  clear hin q1 q2
  gi_wp2
  refine ⟨trivial, (callsIn_wide.2 Hin.out).mono ?_⟩
  rintro e w2 ⟨A2, c2, rfl, hO2, hB2⟩
  have hw2 : Below w1.heap.size w1 w2 := q4.trans (hB2.mono (by omega))
  replace hO1 := hO1.below hw2 (Nat.le_refl _)
  replace hO2 := hO2.mono (show w.heap.size ≤ w1.heap.size + 2 by have := hw1.size; omega)
  replace hw2 := hw1.trans (hw2.mono hw1.size)
  clear hB2 q3 q4 Hin hw1
  -- Next
  obtain ⟨q1, q2, q3, q4⟩ := two_one w2 8 3 (by omega) (by omega)
  have hnx := next_eight _ _ _ _ _ _ _ q1 q2 (fun b hb => by have := hb.2; omega) (fun b hb => by have := hb.2; omega)
  rw [q3] at hnx
  have Hnx := Lib.hid hnx
  clear hnx q1 q2
  gi_wp2
  refine ⟨trivial, (callsIn_wide.2 Hnx.out).mono ?_⟩
  rintro e w3 ⟨A3, c3, rfl, hO3, hB3⟩
  have hw3 : Below w2.heap.size w2 w3 := q4.trans (hB3.mono (by omega))
  replace hO1 := hO1.below hw3 (Nat.le_refl _)
  replace hO2 := hO2.below hw3 (Nat.le_refl _)
  replace hO3 := hO3.mono (show w.heap.size ≤ w2.heap.size + 2 by have := hw2.size; omega)
  replace hw3 := hw2.trans (hw3.mono hw2.size)
  clear hB3 q3 q4 Hnx hw2
  have hfw := Lib.hid (few_call w3)
  have hnil := fun w => seqNil w (.func 90) #[] #[]
  gi_wp2
  refine ⟨trivial, (callsIn_wide.2 hfw.out).mono ?_⟩
  rintro e w3' ⟨rfl, rfl⟩
  gi_wp2
  have hO1n := Lib.hid hO1
  have hO2n := Lib.hid hO2
  have hO3n := Lib.hid hO3
  have Hw3 := Lib.hid hw3
  have zw3 := hw3.size
  obtain ⟨q, hq⟩ : ∃ q, w3.heap.size = q := ⟨_, rfl⟩
  have bq := heap_alloc_new w3 (.cells #[.int .i64 0] 3)
  have hBq : Below q w3 (w3.alloc (.cells #[.int .i64 0] 3)) := by rw [← hq]; exact (Below.refl _ w3).alloc (Nat.le_refl _) _
  have hzq : (w3.alloc (.cells #[.int .i64 0] 3)).heap.size = q + 1 := by simp [hq]
  rw [hq] at bq zw3
  clear hO1 hO2 hO3 hw3 hfw
  generalize w3.alloc (.cells #[.int .i64 0] 3) = W0 at *
  have hseq := few_seq W0
  have zW0 : q < W0.heap.size := by omega
  have hInv : OwnFrom W0.heap.size (fun (k : Nat) X => X.heap[q]? = some (.cells #[.int .i64 (k : Int)] 3 (0, 0)) ∧ Below q W0 X) := by
    rintro k X X' row ⟨h1, h2⟩ hg' hr
    have hr' := fun r e => (hr r e).2
    exact ⟨(grownBy_keeps_cells hg' hr' h1 rfl).trans h1, ownFrom_below (by omega) (by omega) k X X' row h2 hg' hr⟩
  refine' wpIn_iterV (by omega) (gf := 90) (lb := #[]) rfl (enters_of Try.func90 (by kernel_rfl) rfl)
    hseq (fun _ _ => trivial) (fun _ _ _ _ _ _ _ _ => trivial) tplain_keeps (Below.refl _ _) (fun _ _ => rfl)
    (fun k b W l o o' hV hl hc => ?hVp)
    (fun k X => X.heap[q]? = some (.cells #[.int .i64 (k : Int)] 3 (0, 0)) ∧ Below q W0 X) (fun k X => X.heap[q]? = some (.cells #[.int .i64 (k : Int)] 3 (0, 0)) ∧ Below q W0 X) (fun _ _ _ => False)
    hInv hInv (fun _ _ _ _ _ h => h.elim) (fun _ _ _ _ => trivial) (fun B k A C _ _ hi ht => ?hIT) (fun h => by cases h) ⟨bq, Below.refl _ _⟩ _ ?assign ?body ?done ?stop
  case hVp => exact hV.same fun b o' ho hc' => (World.putObj_heap_other (fun e => by subst e; rw [hl] at ho; cases ho; rw [hc] at hc'; cases hc')).trans ho
  case hIT => exact ownFrom_plain hInv hi ht
  case assign =>
    intro l k b X K hK
    dsimp only [fewX]
    gi_wp2
    exact hK
  case body =>
    rintro l k b X ⟨h1, h2⟩ _ hlt _
    have y2 := blk_cell h1 0
    simp only [List.getElem?_toArray, List.getElem?_cons_zero] at y2
    have y3 := blk_free h1 0
    have zX := h2.size
    have hq4 : (X.setCell ⟨q, 0, none⟩ (.int .i64 ((k : Int) + 1))).heap[q]? = some (.cells #[.int .i64 (((k + 1 : Nat)) : Int)] 3 (0, 0)) := by simpa using blk_set h1 0 (.int .i64 ((k : Int) + 1))
    have hB4 : Below q W0 (X.setCell ⟨q, 0, none⟩ (.int .i64 ((k : Int) + 1))) := h2.setCell (p := ⟨q, 0, none⟩) (Nat.le_refl _) _
    have hK4 : Keeps W0.heap.size (W0.heap.size + 2) 0 X (X.setCell ⟨q, 0, none⟩ (.int .i64 ((k : Int) + 1))) := Keeps.setCell _ _ _ _ (.inl (by show q < _; omega)) _
    clear h1
    gi_wp2
    exact ⟨hK4, trivial, hq4, hB4⟩
  case done =>
    rintro D X hD ⟨h1, h2⟩ hK
    have y2 := blk_cell h1 0
    simp only [List.getElem?_toArray, List.getElem?_cons_zero] at y2
    have hBX : Below q w3 X := hBq.trans h2
    have o1 := hO1n.out.below hBX (by omega)
    have o2 := hO2n.out.below hBX (by omega)
    have o3 := hO3n.out.below hBX (by omega)
    obtain ⟨ad1, rfl, had1, p1⟩ := o1.rn.at_ (i := 0) (by simp)
    obtain ⟨ad2, rfl, had2, p2⟩ := o2.rn.at_ (i := 0) (by simp)
    obtain ⟨ad3, rfl, had3, p3⟩ := o3.rn.at_ (i := 0) (by simp)
    simp [Addr.add, dg_cons_zero] at p1 p2 p3
    -- Strong
    obtain ⟨q1, q2, q3, q4⟩ := two_one X 2047 2 (by omega) (by omega)
    have hst := strong_fine _ _ _ _ _ _ _ _ 2047 2 _ q1 q2 (fun b hb => by have := hb.2; omega) (fun b hb => by have := hb.2; omega) (hval 2047) (hval 2) (by omega) (by omega) (by decide) (by simp) (by simp)
    rw [strong_2047, q3] at hst
    simp only [List.length_cons, List.length_nil, Nat.zero_add] at hst
    have Hst := Lib.hid hst
    have hBw : Below w.heap.size w X := Hw3.out.trans (hBX.mono zw3)
    clear hst q1 q2 o1 o2 o3 had1 had2 had3 hO1n hO2n hO3n h1 hseq hInv bq
    gi_wp2
    refine ⟨trivial, (callsIn_wide.2 Hst.out).mono ?_⟩
    rintro e X1 ⟨rfl, hB1⟩
    have hBX1 : Below X.heap.size X X1 := q4.trans (hB1.mono (by omega))
    have hsz : X.heap.size ≤ X1.heap.size := hBX1.size
    have hzD := blk_lt hK
    have hK1 := (hBX1.block D hzD).trans hK
    have hB01 : Below w.heap.size w X1 := hBw.trans (hBX1.mono hBw.size)
    have zX1 := hB01.size
    clear Hst q3 q4 hB1 hBX hBX1 h2 y2 p1 p2 p3
    have r1 := RN.one X1 2047 (by omega)
    have hB2 : Below X1.heap.size X1 (X1.alloc (.cells #[.int .u64 2047] 54)) := (Below.refl _ X1).alloc (Nat.le_refl _) _
    have hz2 : (X1.alloc (.cells #[.int .u64 2047] 54)).heap.size = X1.heap.size + 1 := by simp
    have hK2 := (hB2.block D (blk_lt hK1)).trans hK1
    have hfw := Lib.hid (few_call (X1.alloc (.cells #[.int .u64 2047] 54)))
    have hpr := prob_few _ _ _ _ 2047 _ r1 (fun b hb => by have := hb.2; simp; omega) (hval 2047) (by omega) (by omega) (by decide) (by simp)
    rw [few_2047] at hpr
    simp only [List.length_cons, List.length_nil, Nat.zero_add] at hpr
    have Hpr := Lib.hid hpr
    clear hpr r1 hK
    gi_wp2
    refine ⟨trivial, (callsIn_wide.2 hfw.out).mono ?_⟩
    rintro e X2 ⟨rfl, rfl⟩
    gi_wp2
    refine ⟨trivial, (callsIn_wide.2 Hpr.out).mono ?_⟩
    rintro e X3 ⟨rfl, hB3⟩
    have hK3 := (hB3.block D (blk_lt hK2)).trans hK2
    have hB03 : Below w.heap.size w X3 := hB01.trans ((hB2.trans (hB3.mono (by simp))).mono zX1)
    clear hfw Hpr hB3 hB2
    gi_wp2
    refine ⟨by simp, .inl ⟨_, _, rfl, run_takeDeferred hK3, ?_⟩⟩
    exact ⟨_, results_tmp rfl _ _ _, rfl, hB03.trans (belowK_b (w := w) (Nat.le_refl _) _ D _ _ (by omega) hK3 rfl rfl)⟩
  case stop => exact fun _ _ _ _ _ _ _ h _ => h.elim
end Go.Proofs.Ytnniellajmjmnaa
