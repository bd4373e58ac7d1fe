/- mechs.All and the small questions that the law's beginning asks. -/
import Derived.Test.YtjldlfhhbomehaaMOf
namespace Go.Proofs.Ytjldlfhhbomehaa
open Go.RowKit Go.Shelf

attribute [local go_sem] Oper.semAt_some

theorem mo4176 : mechOf 4176 = ⟨4176, 512, 3, false, some 23⟩ := rfl
theorem mo4231 : mechOf 4231 = ⟨4231, 24, 31, true, some 26⟩ := rfl
theorem mo592 : mechOf 592 = ⟨592, 1, -1, true, none⟩ := rfl
theorem mo544 : mechOf 544 = ⟨544, 1, -1, true, none⟩ := rfl

set_option maxRecDepth 100000 in
set_option maxHeartbeats 1000000 in
theorem uses_any (w : World) : Calls Try.prog 8 #[.int .i64 4176] w fun e w' => e = .returned (.int .i64 512) ∧ Below w.heap.size w w' := by
  have h := of_any 4176 w
  rw [mo4176] at h
  simp only [MRow.val, fnv] at h
  have hf : ∀ w, Sem.run Try.prog (Instr.field 43 (.agg #[.int .i64 4176, .int .i64 512, .int .i64 3, .bool false, .func (.func 23) #[] #[]]) 1) w = .ok (.int .i64 512) w := fun w => by kernel_rfl
  go_enter Try.func8, Try.ntmps8
  go_wp2_with fail
  refine h.mono ?_
  rintro e w1 ⟨rfl, hB⟩
  go_wp2
  go_ret
  exact ⟨rfl, hB⟩
set_option maxRecDepth 100000 in
set_option maxHeartbeats 1000000 in
theorem multi_any (w : World) : Calls Try.prog 10 #[.int .i64 544] w fun e w' => e = .returned (.bool true) ∧ Below w.heap.size w w' := by
  have h := of_any 544 w
  rw [mo544] at h
  simp only [MRow.val, fnv] at h
  have hf : ∀ w, Sem.run Try.prog (Instr.field 43 (.agg #[.int .i64 544, .int .i64 1, .int .i64 (-1), .bool true, .nilFunc]) 3) w = .ok (.bool true) w := fun w => by kernel_rfl
  go_enter Try.func10, Try.ntmps10
  go_wp2_with fail
  refine h.mono ?_
  rintro e w1 ⟨rfl, hB⟩
  go_wp2
  go_ret
  exact ⟨rfl, hB⟩
set_option maxRecDepth 100000 in
set_option maxHeartbeats 1000000 in
theorem key_any (w : World) : Calls Try.prog 7 #[.int .i64 4231] w fun e w' => e = .returned (.tuple #[.int .i64 31, .bool true]) ∧ Below w.heap.size w w' := by
  have h := of_any 4231 w
  rw [mo4231] at h
  simp only [MRow.val, fnv] at h
  go_enter Try.func7, Try.ntmps7
  go_wp2_with fail
  refine h.mono ?_
  rintro e w1 ⟨rfl, hB⟩
  go_wp2
  go_ret2
  exact ⟨rfl, hB.alloc hB.size _⟩
set_option maxRecDepth 100000 in
set_option maxHeartbeats 1000000 in
theorem param_any (kind : Int) (hk : kind = 592 ∨ kind = 544) (w : World) : Calls Try.prog 9 #[.agg #[.int .i64 kind, .slice none 0 0]] w fun e w' => e = .returned (.bool true) ∧ Below w.heap.size w w' := by
  have h : Calls Try.prog 14 #[.int .i64 kind] (w.alloc (.cells #[.int .i64 kind, .slice none 0 0] 35)) fun e w' => e = .returned (.agg #[.int .i64 kind, .int .i64 1, .int .i64 (-1), .bool true, .nilFunc]) ∧ Below (w.heap.size + 1) (w.alloc (.cells #[.int .i64 kind, .slice none 0 0] 35)) w' := by
    have h := of_any kind (w.alloc (.cells #[.int .i64 kind, .slice none 0 0] 35))
    rcases hk with rfl | rfl
    · rw [mo592] at h; simpa [MRow.val, fnv] using h
    · rw [mo544] at h; simpa [MRow.val, fnv] using h
  have hB0 : Below w.heap.size w (w.alloc (.cells #[.int .i64 kind, .slice none 0 0] 35)) := (Below.refl _ w).alloc (Nat.le_refl _) _
  go_enter Try.func9, Try.ntmps9
  go_wp2_with fail
  have hb := heap_alloc_new w (.cells #[.int .i64 kind, .slice none 0 0] 35)
  have hz : (w.alloc (.cells #[.int .i64 kind, .slice none 0 0] 35)).heap.size = w.heap.size + 1 := by simp
  generalize w.alloc (.cells #[.int .i64 kind, .slice none 0 0] 35) = W at *
  refine h.mono ?_
  rintro e w1 ⟨rfl, hB⟩
  have c1 := (hB.cell (p := ⟨w.heap.size, 1, none⟩) (by show w.heap.size < _; omega)).trans (blk_cell hb 1)
  simp at c1
  have zW := hB.size
  have hlt : w.heap.size < w1.heap.size := by omega
  have hw := hB0.trans (hB.mono (by omega))
  clear h hb hB hB0 hk
  have hnn : ∀ w, Sem.run Try.prog (binOp .eql 41 .nilFunc .nilFunc) w = .ok (.bool true) w := fun w => by kernel_rfl
  go_wp2
  go_ret
  exact ⟨by simp, hw.alloc hw.size _⟩
set_option maxRecDepth 100000 in
set_option maxHeartbeats 1000000 in
theorem may_any (w : World) : Calls Try.prog 11 #[.int .i64 1, .agg #[.int .i64 544, .slice none 0 0], .slice none 0 0] w fun e w' => e = .returned (.int .i64 0) ∧ Below w.heap.size w w' := by
  have h : Calls Try.prog 14 #[.int .i64 544] (w.alloc (.cells #[.int .i64 544, .slice none 0 0] 35)) fun e w' => e = .returned (.agg #[.int .i64 544, .int .i64 1, .int .i64 (-1), .bool true, .nilFunc]) ∧ Below (w.heap.size + 1) (w.alloc (.cells #[.int .i64 544, .slice none 0 0] 35)) w' := by
    have h := of_any 544 (w.alloc (.cells #[.int .i64 544, .slice none 0 0] 35))
    rw [mo544] at h; simpa [MRow.val, fnv] using h
  have hB0 : Below w.heap.size w (w.alloc (.cells #[.int .i64 544, .slice none 0 0] 35)) := (Below.refl _ w).alloc (Nat.le_refl _) _
  have hp := fun W => param_any 544 (.inr rfl) W
  have Hp := Lib.hid hp
  clear hp
  go_enter Try.func11, Try.ntmps11
  go_wp2_with fail
  have hb := heap_alloc_new w (.cells #[.int .i64 544, .slice none 0 0] 35)
  have hz : (w.alloc (.cells #[.int .i64 544, .slice none 0 0] 35)).heap.size = w.heap.size + 1 := by simp
  generalize w.alloc (.cells #[.int .i64 544, .slice none 0 0] 35) = W at *
  refine h.mono ?_
  rintro e w1 ⟨rfl, hB⟩
  have c0 := (hB.cell (p := ⟨w.heap.size, 0, none⟩) (by show w.heap.size < _; omega)).trans (blk_cell hb 0)
  have c1 := (hB.cell (p := ⟨w.heap.size, 1, none⟩) (by show w.heap.size < _; omega)).trans (blk_cell hb 1)
  simp at c0 c1
  have zW := hB.size
  have hlt : w.heap.size < w1.heap.size := by omega
  have hw := hB0.trans (hB.mono (by omega))
  clear h hb hB hB0
  have hb1 : bits .and .i64 1 0 = 0 := by decide
  have hb2 : bits .and .i64 1 1 = 1 := by decide
  go_wp2_with fail
  refine (Hp.out _).mono ?_
  rintro e w2 ⟨rfl, hB2⟩
  have hw2 := (hw.alloc hw.size (.cells #[.int .i64 544, .int .i64 1, .int .i64 (-1), .bool true, .nilFunc] 43)).trans (hB2.mono (by simp; omega))
  go_wp2
  go_ret
  exact ⟨by simp, hw2⟩

theorem eqlSeqI (w : World) (f : Fn) (a b : Array Value) : (binOp .eql 26 (.func f a b) .nilFunc).run Try.prog w = .ok (.bool false) w := by kernel_rfl
set_option maxRecDepth 100000 in
set_option maxHeartbeats 1000000 in
theorem allI_any (w : World) : Calls Try.prog 6 #[] w fun e w' => e = .returned (.func (.func 12) #[] #[]) ∧ w = w' := by
  go_enter Try.func6, Try.ntmps6
  go_wp2
  go_ret
  exact ⟨rfl, rfl⟩

set_option maxRecDepth 100000 in
set_option maxHeartbeats 4000000 in
theorem allI_seq (w : World) : SeqAt Try.prog 12 #[] (fun k => #[.int .i64 (mrow k).kind]) NoNeed TPlain (fun _ _ => True) 3 24 true w := by
  intro n l' J J' Jx W hn hW hl' hOJ hOJ' hOx hNd hT _ hY h0
  have HT := Lib.hid hT
  have HY := Lib.hid hY
  have HO := Lib.hid hOJ
  have HO' := Lib.hid hOJ'
  have HOx := Lib.hid hOx
  clear hT hY hNd hOJ hOJ' hOx
  refine callsIn_wide.2 ((callsIn_wide (n := n + 2)).1 ?_)
  refine callsIn_of_wp_marks Try.func12 rfl trivial ?_ rfl
  simp only [Try.ntmps12, List.size_toArray, List.length_cons, List.length_nil, Nat.reduceAdd, Nat.reduceSub, Array.replicate_succ, Array.replicate_zero, List.push_toArray, List.append_toArray, List.nil_append, List.cons_append]
  gi_wp2
  refine ⟨trivial, (callsIn_wide.2 (all_any _)).mono ?_⟩
  rintro e w' ⟨rfl, rfl⟩
  obtain ⟨B, hB⟩ : ∃ B, W.heap.size = B := ⟨_, rfl⟩
  have ez : (W.alloc (.cells #[.func (.yield l') #[] #[]] 28)).heap.size = B + 1 := by simp [hB]
  have o0 := heap_alloc_new W (.cells #[.func (.yield l') #[] #[]] 28)
  have h0' := HO.out 0 W _ none h0 (World.grownBy_alloc W (.cells #[.func (.yield l') #[] #[]] 28) none) (fun r e => by cases e)
  have b0 : Below B W (W.alloc (.cells #[.func (.yield l') #[] #[]] 28)) := (Below.refl _ W).alloc (by omega) _
  rw [hB] at o0 hl' HT HY HO HO' HOx
  rw [ez, hB]
  generalize W.alloc (.cells #[.func (.yield l') #[] #[]] 28) = V at *
  have o1 := heap_alloc_new V (.cells mcells.toArray 43)
  have o2 := heap_alloc_new (V.alloc (.cells mcells.toArray 43)) (.cells #[.slice (some ⟨B + 1, 0, none⟩) 24 24] 51)
  have g1 := World.grownBy_alloc V (.cells mcells.toArray 43) none
  have g2 := World.grownBy_alloc (V.alloc (.cells mcells.toArray 43)) (.cells #[.slice (some ⟨B + 1, 0, none⟩) 24 24] 51) none
  have h0'' := HO.out 0 _ _ none (HO.out 0 _ _ none h0' g1 (fun r e => by cases e)) g2 (fun r e => by cases e)
  rw [World.size_alloc] at o2
  rw [ez] at o1 o2
  have p0 : ((V.alloc (.cells mcells.toArray 43)).alloc (.cells #[.slice (some ⟨B + 1, 0, none⟩) 24 24] 51)).heap[B]? = some (.cells #[.func (.yield l') #[] #[]] 28 (0, 0)) := (Below.heap_alloc _ _ _ (by simp; omega)).trans ((Below.heap_alloc _ _ _ (by omega)).trans o0)
  have p1 : ((V.alloc (.cells mcells.toArray 43)).alloc (.cells #[.slice (some ⟨B + 1, 0, none⟩) 24 24] 51)).heap[B + 1]? = some (.cells mcells.toArray 43 (0, 0)) := (Below.heap_alloc _ _ _ (by simp; omega)).trans o1
  have z1 : ((V.alloc (.cells mcells.toArray 43)).alloc (.cells #[.slice (some ⟨B + 1, 0, none⟩) 24 24] 51)).heap.size = B + 3 := by simp; omega
  generalize (V.alloc (.cells mcells.toArray 43)).alloc (.cells #[.slice (some ⟨B + 1, 0, none⟩) 24 24] 51) = W1 at *
  have HzB := Lib.hid hB
  have Hz1 := Lib.hid z1
  clear hB ez z1 o0 o1 g1 g2 h0 h0' b0
  gi_wp2
  have hseq := values_seq (B + 1) W1 p1 o2
  have hInv : ∀ E : Nat → World → Prop, OwnFrom B E → OwnFrom W1.heap.size (fun (k : Nat) X => E k X ∧ Stay B (B + 3) W1 X) := fun E hE k X X' row h hg hr => by
    refine ⟨ownFrom_mono hE (by have := Hz1.out; omega) k X X' row h.1 hg hr, h.2.trans ⟨hg.size, fun b h1 h2 => hg.block b (by have := h.2.1; have := Hz1.out; omega) fun e => ?_⟩⟩
    have := (hr b e.symm).1; have := Hz1.out; omega
  have HInv := Lib.hid hInv
  clear hInv o2 p1
  refine' wpIn_iterA (by omega) (gf := 31) (lb := #[.pointer (some ⟨B + 1 + 1, 0, none⟩)]) rfl (enters_of Try.func31 (by kernel_rfl) rfl)
    hseq (fun h k => Stay.trans h k) (fun X l o o' hl ho _ _ => ⟨by simp, fun i _ hi => World.putObj_heap_other (by have := Hz1.out; omega)⟩) tplain_keeps (Below.refl _ _) (fun _ => rfl)
    (fun k X => J k X ∧ Stay B (B + 3) W1 X) (fun k X => J' k X ∧ Stay B (B + 3) W1 X) (fun c _ X => c = .ret ∧ ∃ j, 0 < j ∧ j ≤ 24 ∧ Jx j X)
    (HInv.out J HO.out) (HInv.out J' HO'.out) ?hIx (fun _ _ _ _ => trivial) (fun A k X X' hA hk hi ht => ⟨HT.out k X X' hk hi.1 ht, hi.2.trans ⟨ht.size, fun b h1 h2 => ht.block b (by have := hi.2.1; have := Hz1.out; omega) (by simp)⟩⟩) (fun h => by cases h) ⟨h0'', Stay.refl _ _ _⟩
    (fun k a X => ∃ q, a = { tmps := #[.func (.yield l') #[] #[], .pointer (some ⟨B, 0, none⟩), .pointer (some ⟨q, 0, none⟩), .func (.func 31) #[] #[.pointer (some ⟨B + 1 + 1, 0, none⟩)], (mrow k).val, undef, undef, undef, undef, undef], defers := [] } ∧ InBlk W1.heap.size (mrow k) q X ∧ J' k X ∧ Stay B (B + 3) W1 X)
    (fun a k X X' row h hg hr => by
      obtain ⟨q, e, h1, h2⟩ := h
      exact ⟨q, e, InBlk.own (r := mrow) k X X' row h1 hg hr, HInv.out J' HO'.out k X X' row h2 hg hr⟩) ?assign ?body ?done ?stop
  case hIx =>
    rintro c k X X' row ⟨h1, j, h2, h3, h4⟩ hg hr
    exact ⟨h1, j, h2, h3, ownFrom_mono HOx.out (by have := Hz1.out; omega) j X X' row h4 hg hr⟩
  case assign =>
    intro l k X K hi hk hz hK
    have hK' := fun q a' (e : a' = _) h1 => hK a' (X.alloc (.cells (mrow k).cells.toArray 43)) ⟨q, e, h1, HInv.out J' HO'.out k X _ none hi (World.grownBy_alloc X _ none) (fun r e => by cases e)⟩ (Keeps.alloc _ _ _ _ _) ⟨by simp, fun i _ h => Below.heap_alloc _ _ _ (by have := Hz1.out; omega)⟩
    have hn' := heap_alloc_new X (.cells (mrow k).cells.toArray 43)
    have hk' := hK' X.heap.size _ rfl ⟨by omega, hn'⟩
    have HK := Lib.hid hk'
    clear hK hK' hn' hk'
    obtain ⟨⟨z0, z1, z2, b, f⟩, hr⟩ : ∃ r, mrow k = r := ⟨_, rfl⟩
    rw [hr] at HK ⊢
    simp only [MRow.val, MRow.cells] at HK ⊢
    clear hr hi
    cases f
    · simp only [fnv] at HK ⊢
      gi_wp2
      exact HK.out
    · simp only [fnv] at HK ⊢
      gi_wp2
      exact HK.out
  case body =>
    rintro l k a X ⟨q, rfl, ⟨hq, hblk⟩, hj, hst⟩ hlt hlen
    have zX := hst.1
    have y0 := blk_cell ((hst.2 B (Nat.le_refl _) (by omega)).trans p0) 0
    simp only [List.getElem?_toArray, List.getElem?_cons_zero] at y0
    obtain ⟨fn, tmps, assign, body, hy, hRo⟩ := HY.out k X hj hlt (by have := Hz1.out; omega)
    have hRo' := roundIn_any (l' := l) (m := n + 2 - 1 - 1 - 1) hRo
    have HRo := Lib.hid hRo'
    have q0 := blk_cell hblk 0
    simp only [MRow.cells, List.getElem?_toArray, List.getElem?_cons_zero] at q0
    have Hst := Lib.hid hst
    generalize (mrow k).val = v at *
    generalize (mrow k).kind = z at *
    clear hRo hRo' hj hblk hst
    gi_wp2
    refine HRo.out.mono ?_
    rintro e X3 (⟨rfl, hJ3, _, hf3⟩ | ⟨rfl, hJx3, hf3⟩)
    · gi_wp2
      have hs3 : ∀ b, B ≤ b → b < B + 3 → X3.heap[b]? = X.heap[b]? := fun b h1 h2 => hf3.cells b h1 h2 (by have := Hz1.out; omega)
      exact ⟨hf3.none.mono (by have := Hz1.out; omega) (Nat.le_refl _) (Nat.le_refl _), ⟨hf3.size, fun b h1 h2 => hs3 b (by omega) (by omega)⟩, hJ3, Hst.out.trans ⟨hf3.size, hs3⟩⟩
    · gi_wp2
      exact ⟨hf3.none.mono (by have := Hz1.out; omega) (Nat.le_refl _) (Nat.le_refl _), rfl, k + 1, by omega, by omega, hJx3⟩
  case done =>
    rintro D X hD ⟨hj, _⟩ hK
    have hj' := HO'.out _ X _ (some D) hj (grownBy_putObj' X D (.deferred none)) (fun r e => by cases e; exact ⟨by have := Hz1.out; omega, _, hK, rfl⟩)
    clear hj
    gi_wp2
    exact ⟨by simp, .inl ⟨_, _, rfl, run_takeDeferred hK, _, results_none rfl _ _ _, ⟨_, rfl⟩, .inl hj'⟩⟩
  case stop =>
    rintro D c k X hD _ _ ⟨rfl, j, hj0, hj1, hj⟩ hK
    have hj' := HOx.out j X _ (some D) hj (grownBy_putObj' X D (.deferred none)) (fun r e => by cases e; exact ⟨by have := Hz1.out; omega, _, hK, rfl⟩)
    clear hj
    gi_wp2
    exact ⟨by simp, .inl ⟨_, _, rfl, run_takeDeferred hK, _, results_none rfl _ _ _, ⟨_, rfl⟩, .inr ⟨j, hj0, hj1, hj'⟩⟩⟩
end Go.Proofs.Ytjldlfhhbomehaa
