/- slices.Insert, the other two ways: no room; at the end. -/
import Derived.Test.YtpikikaoelnheaaInsert
namespace Go.Proofs.Ytpikikaoelnheaa
open Go.RowKit

theorem wpList_append_eq {P : Program} (w : World) {ops : Array Oper} {rest : List Oper} {o : Oper} {a : Act} {Q : Exit → Act → World → Prop} (hgd : o.guard = none) (d s : Operand) (t t' : TypeId)
    (ho : o.op = .call { callee := .builtin .append, args := #[d, s], argTypes := #[t, t'] }) (v u : Value) (hd : a.eval d = v) (hs : a.eval s = u) {v' : Value} {w' : World}
    (hr : (Builtin.append_ #[t, t'] o.type #[v, u]).run P w = .ok v' w') (h : wpList P ops Q rest (a.put o.dst v') w') : wpList P ops Q (o :: rest) a w :=
  wpList_plain hgd fun K hK => by
    unfold Oper.wp execOp
    simp only [ho, resolve, invoke, builtin, Sem.run_bind, Sem.run_pure, Result.andThen_ok, List.map_toArray, List.map_cons, List.map_nil, hd, hs, hr]
    exact hK _ _ h

/-- What lies in the new row behind the two copies. -/
def insNew (R D : List Value) (i : Nat) (y z : Value) : List Value :=
  let X1 := R.take (i * 2) ++ [y, z] ++ R.drop (i * 2 + 2)
  X1.take ((i + 1) * 2) ++ D ++ X1.drop ((i + 1) * 2 + D.length)
theorem insNew_take (R D : List Value) (i n : Nat) (y z : Value) (hi : i < n) (hR : (n + 1) * 2 ≤ R.length) (hD : D.length = (n - i) * 2) :
    (insNew R D i y z).take ((n + 1) * 2) = R.take (i * 2) ++ [y, z] ++ D := by
  unfold insNew
  have h3 : (R.take (i * 2)).length = i * 2 := by simp; omega
  have e1 : (R.take (i * 2) ++ [y, z] ++ R.drop (i * 2 + 2)).take ((i + 1) * 2) = R.take (i * 2) ++ [y, z] := by
    rw [List.take_append_of_le_length (by simp; omega), List.take_of_length_le (by simp; omega)]
  simp only [e1]
  rw [List.take_append_of_le_length (by simp; omega), List.take_of_length_le (by simp; omega)]

set_option maxRecDepth 100000 in
set_option maxHeartbeats 2000000 in
/-- There is no room. -/
theorem insert_grow (g n c i G : Nat) (cs : List Value) (y z : Value) (w : World) (hi : i < n) (hnc : n ≤ c) (hroom : c < n + 1) (hn : n ≤ 1000000)
    (hcs : ∀ j v, cs[j]? = some v → w.cell? ⟨g, j, none⟩ = some v) (hcl : cs.length = n * 2) (hgl : g < w.heap.size) (hG : w.heap[G]? = some (.cells #[y, z] 48 (0, 0))) (h1 : ∀ v ∈ cs, v.oneCell' = true) (hy : y.oneCell' = true ∧ z.oneCell' = true) :
    Calls Try.prog 55 #[.slice (some ⟨g, 0, none⟩) n c, .int .i64 i, .slice (some ⟨G, 0, none⟩) 1 1] w fun e w' => ∃ c' R, e = .returned (.slice (some ⟨w.heap.size, 0, none⟩) (n + 1) c') ∧ n + 1 ≤ c' ∧ c' ≤ maxLen ∧ R.length = c' * 2 ∧ R.take (i * 2) = cs.take (i * 2) ∧
      w'.heap[w.heap.size]? = some (.cells (insNew R (cs.drop (i * 2)) i y z).toArray 48 (0, 0)) ∧ w.grownBy w' none := by
  obtain ⟨i1, hj, hy0, hy1, hy2⟩ := info_parts info48
  have hi48 : (Try.prog.info? 48).map (·.size) = some 2 := by rw [hj]; simp [hy1]
  have hGl := blk_lt hG
  obtain ⟨c', hc'⟩ : ∃ c', c' = grownCap w (n + 1) c 48 := ⟨_, rfl⟩
  have hc1 : n + 1 ≤ c' := by rw [hc']; exact grownCap_ge w _ _ _
  have hc2 : c' ≤ maxLen := by rw [hc']; exact grownCap_le_maxLen w (n + 1) c 48 (by unfold maxLen; omega)
  obtain ⟨R, hR⟩ : ∃ R : List Value, R = cs.take (i * 2) ++ (Builtin.zeroCells (Value.agg #[.int .i64 0, .slice none 0 0]).cells (n + 1 - i)).toList ++ (Builtin.zeroCells (Value.agg #[.int .i64 0, .slice none 0 0]).cells (c' - (n + 1))).toList := ⟨_, rfl⟩
  have hRa : (cs.take (i * 2)).toArray ++ Builtin.zeroCells (Value.agg #[.int .i64 0, .slice none 0 0]).cells (n + 1 - i) ++ Builtin.zeroCells (Value.agg #[.int .i64 0, .slice none 0 0]).cells (c' - (n + 1)) = R.toArray := by
    rw [hR]; apply Array.ext'; simp
  have hz2c : (Value.agg #[.int .i64 0, .slice none 0 0]).cells.size = 2 := rfl
  have hRl : R.length = c' * 2 := by
    rw [hR]; simp [size_zeroCells, hz2c]; omega
  have hRt : R.take (i * 2) = cs.take (i * 2) := by
    rw [hR, List.append_assoc, List.take_append_of_le_length (by simp; omega), List.take_take]
    simp
  have hDl : (cs.drop (i * 2)).length = (n - i) * 2 := by simp; omega
  have hgH : g ≠ w.heap.size := by omega
  have hGH : G ≠ w.heap.size := by omega
  have hrz : ∀ ty, (Builtin.append_ #[24, 3] ty #[.slice (some ⟨g, 0, none⟩) i c, .int .i64 ((n : Int) + 1 - (i : Int))]).run Try.prog w =
      .ok (.slice (some ⟨w.heap.size, 0, none⟩) (n + 1) c') (w.drew.alloc (.cells R.toArray 48)) := fun ty => by
    have hold : (Builtin.firstCells i1.size i (.slice (some ⟨g, 0, none⟩) i c)).run Try.prog w.drew = .ok (cs.take (i * 2)).toArray w.drew := by
      rw [hy1]
      exact run_firstCells_some w.drew 2 i ⟨g, 0, none⟩ i c (cs.take (i * 2)) (by simp; omega) (fun j v hj => by
        have hadd : (⟨g, 0, none⟩ : Addr).add j = ⟨g, j, none⟩ := by unfold Addr.add; split <;> simp_all
        rw [hadd]
        rw [List.getElem?_take] at hj
        split at hj
        · exact hcs j v hj
        · cases hj)
    have h := Lib.run_append_grow_zeros w 24 3 ty 48 i1 _ .i64 .i64 Try.underlying24 Try.underlying3 hj hy0 (some ⟨g, 0, none⟩) i c (cs.take (i * 2)) hold (n + 1 - i) (by omega) (by omega) (by omega) (by omega) (by rw [hy2]; omega) (by rw [hy2, show i + (n + 1 - i) = n + 1 by omega]; exact growslice_fits hroom (by omega))
    rw [show i + (n + 1 - i) = n + 1 by omega, ← hc', hRa] at h
    rw [show (n : Int) + 1 - (i : Int) = ((n + 1 - i : Nat) : Int) by omega]
    exact h
  obtain ⟨X1, hX1⟩ : ∃ X1, X1 = R.take (i * 2) ++ [y, z] ++ R.drop (i * 2 + 2) := ⟨_, rfl⟩
  have hl1 : X1.length = c' * 2 := by rw [hX1]; simp; omega
  have hX2 : insNew R (cs.drop (i * 2)) i y z = X1.take ((i + 1) * 2) ++ cs.drop (i * 2) ++ X1.drop ((i + 1) * 2 + (cs.drop (i * 2)).length) := by rw [hX1]; rfl
  have hcpA : ∀ (W : World), W.heap[w.heap.size]? = some (.cells R.toArray 48 (0, 0)) → W.heap[G]? = some (.cells #[y, z] 48 (0, 0)) → ∀ ty dl dc, 1 ≤ dl → (Builtin.copy_ #[24, 24] ty #[.slice (some ⟨w.heap.size, i * 2, none⟩) dl dc, .slice (some ⟨G, 0, none⟩) 1 1]).run Try.prog W = .ok (goInt 1) (W.setRow w.heap.size X1.toArray) := fun W hW hWG ty dl dc hdl => by
    have := run_copy_rowN (P := Try.prog) W 24 24 ty 48 w.heap.size (i * 2) dl dc ⟨G, 0, none⟩ 1 1 2 1 R.toArray 48 [y, z] Try.underlying24 hi48 hW
      (by show 1 = min 1 dl; omega) rfl (World.news_of_block hWG) (by simp [hRl]; omega) (by simp [hy])
    rw [this, hX1]
    rfl
  have hcpB : ∀ (W : World), W.heap[w.heap.size]? = some (.cells X1.toArray 48 (0, 0)) → (∀ j v, cs[j]? = some v → W.cell? ⟨g, j, none⟩ = some v) → ∀ ty dc, (Builtin.copy_ #[24, 24] ty #[.slice (some ⟨w.heap.size, (i + 1) * 2, none⟩) (n - i) dc, .slice (some ⟨g, i * 2, none⟩) (n - i) (c - i)]).run Try.prog W = .ok (goInt ((n - i : Nat) : Int)) (W.setRow w.heap.size (insNew R (cs.drop (i * 2)) i y z).toArray) := fun W hW hWc ty dc => by
    have := run_copy_rowN (P := Try.prog) W 24 24 ty 48 w.heap.size ((i + 1) * 2) (n - i) dc ⟨g, i * 2, none⟩ (n - i) (c - i) 2 (n - i) X1.toArray 48 (cs.drop (i * 2)) Try.underlying24 hi48 hW
      (by show n - i = min (n - i) (n - i); omega) hDl (fun j v hj => by
        have hadd : (⟨g, i * 2, none⟩ : Addr).add j = ⟨g, i * 2 + j, none⟩ := by unfold Addr.add; split <;> simp_all
        rw [hadd]
        rw [List.getElem?_drop] at hj
        exact hWc _ v hj) (by rw [hDl]; simp [hl1]; omega) (fun v hv => h1 v (List.mem_of_mem_drop hv))
    rw [this, hX2]
  obtain ⟨W1, hW1⟩ : ∃ W1, W1 = (w.alloc (.cells R.toArray 48)).drew := ⟨_, rfl⟩
  have hA1 : W1.heap[w.heap.size]? = some (.cells R.toArray 48 (0, 0)) := by rw [hW1]; exact heap_alloc_new w _
  have hA2 : W1.heap[G]? = some (.cells #[y, z] 48 (0, 0)) := by rw [hW1]; exact (Below.heap_alloc w _ G hGl).trans hG
  have hA3 : ∀ j v, cs[j]? = some v → W1.cell? ⟨g, j, none⟩ = some v := fun j v h => by rw [hW1]; exact (World.cell?_alloc_lt w _ ⟨g, j, none⟩ hgl).trans (hcs j v h)
  have hA4 : w.grownBy W1 (some w.heap.size) := by rw [hW1]; exact ⟨rfl, rfl, rfl, by show w.heap.size ≤ (w.alloc _).heap.size; simp, fun k hk _ => Below.heap_alloc w _ k hk⟩
  have hrz' : ∀ ty, (Builtin.append_ #[24, 3] ty #[.slice (some ⟨g, 0, none⟩) i c, .int .i64 ((n : Int) + 1 - (i : Int))]).run Try.prog w = .ok (.slice (some ⟨w.heap.size, 0, none⟩) (n + 1) c') W1 := fun ty => by rw [hW1]; exact hrz ty
  clear hrz hW1
  have hcA := fun ty dl dc h => hcpA W1 hA1 hA2 ty dl dc h
  have hB1 : (W1.setRow w.heap.size X1.toArray).drew.heap[w.heap.size]? = some (.cells X1.toArray 48 (0, 0)) := setRow_heap W1 _ _ _ 48 _ hA1
  have hB2 : ∀ j v, cs[j]? = some v → (W1.setRow w.heap.size X1.toArray).drew.cell? ⟨g, j, none⟩ = some v := fun j v h => (World.cell?_of_block (w := W1) (setRow_other W1 _ g _ hgH)).trans (hA3 j v h)
  have hcB := fun ty dc => hcpB _ hB1 hB2 ty dc
  have hfin : Hid (((W1.setRow w.heap.size X1.toArray).drew.setRow w.heap.size (insNew R (cs.drop (i * 2)) i y z).toArray).heap[w.heap.size]? = some (.cells (insNew R (cs.drop (i * 2)) i y z).toArray 48 (0, 0)) ∧ w.grownBy ((W1.setRow w.heap.size X1.toArray).drew.setRow w.heap.size (insNew R (cs.drop (i * 2)) i y z).toArray) none) := by
    refine ⟨setRow_heap _ _ _ _ 48 _ hB1, ?_⟩
    have h2 := grownBy_setRow hA4 X1.toArray
    have h3 : w.grownBy (W1.setRow w.heap.size X1.toArray).drew (some w.heap.size) := ⟨h2.os, h2.tape, h2.output, h2.size, h2.block⟩
    have h4 := grownBy_setRow h3 (insNew R (cs.drop (i * 2)) i y z).toArray
    exact ⟨h4.os, h4.tape, h4.output, h4.size, fun k hk _ => h4.block k hk (by intro e; injection e with e; omega)⟩
  have hz2 : ((i : Int) == (n : Int)) = false := by simp; omega
  have hw1 : IntKind.i64.wrap ((i : Int) + 1) = (i : Int) + 1 := by rw [IntKind.wrap_i64]; omega
  have hw2 : IntKind.i64.wrap ((n : Int) + 1) = (n : Int) + 1 := by rw [IntKind.wrap_i64]; omega
  have hw3 : IntKind.i64.wrap ((n : Int) + 1 - (i : Int)) = (n : Int) + 1 - (i : Int) := by rw [IntKind.wrap_i64]; omega
  have htn : ((i : Int) + 1).toNat = i + 1 := by omega
  have hb1 : ¬ c = i := by omega
  have hb1' : ¬ c' = i := by omega
  have hb2' : ¬ c' = i + 1 := by omega
  have hb3 : i ≤ n := by omega
  have hb4 : (0 : Int) ≤ (i : Int) + 1 := by omega
  have hb5 : (i : Int) + 1 ≤ (n : Int) + 1 := by omega
  have hb6 : (i : Int) ≤ (n : Int) + 1 := by omega
  have hb7 : (i : Int) ≤ (n : Int) := by omega
  have hc263 : c' ≤ 9223372036854775807 := hc2
  have Hpost := Lib.hid (And.intro hc1 (And.intro hc2 (And.intro hRl hRt)))
  clear hcpA hcpB hA1 hA2 hA3 hA4 hB1 hB2 hc2 hRl hRt hX1 hX2 hl1 hR hRa hc' hG hcs hcl hDl
  go_enter Try.func55, Try.ntmps55
  go_wp2_with (first
    | (at_builtin; refine wpList_append_eq _ rfl (.tmp 34) (.tmp 39) 24 3 rfl _ _ rfl rfl (hrz' _) ?_)
    | (refine wpList_copy_eq _ rfl (.tmp 43) (.tmp 44) 24 24 rfl _ _ rfl rfl (hcA _ _ _ (by omega)) ?_))
  go_region_law (refine step_copy_eq rfl _ _ 24 24 rfl _ _ (by simp [Act.eval, Act.put]) (by simp [Act.eval, Act.put]) (hcB _ _) ?_)
  go_wp2
  go_ret
  exact ⟨c', R, rfl, Hpost.out.1, Hpost.out.2.1, Hpost.out.2.2.1, Hpost.out.2.2.2, hfin.out.1, hfin.out.2⟩

set_option maxRecDepth 100000 in
set_option maxHeartbeats 2000000 in
/-- At the end. -/
theorem insert_end (base n c G : Nat) (A : Option Addr) (cs : List Value) (y z : Value) (w : World) (hn : n ≤ 1000000) (hown : w.ownsRow base 48 2 (.slice A n c) n cs) (hbase : base ≤ w.heap.size)
    (hG : w.heap[G]? = some (.cells #[y, z] 48 (0, 0))) (hy : y.oneCell' = true ∧ z.oneCell' = true) :
    Calls Try.prog 55 #[.slice A n c, .int .i64 n, .slice (some ⟨G, 0, none⟩) 1 1] w fun e w' => ∃ A' c', e = .returned (.slice A' (n + 1) c') ∧ w'.ownsRow base 48 2 (.slice A' (n + 1) c') (n + 1) (cs ++ [y, z]) ∧ w.grownBy w' (Value.slice A n c).ownBlock ∧
      ((Value.slice A' (n + 1) c').ownBlock = (Value.slice A n c).ownBlock ∨ (Value.slice A' (n + 1) c').ownBlock = some w.heap.size) := by
  have hr : RS w (fun _ => True) 2 (some ⟨G, 0, none⟩) 1 1 [y, z] := ⟨Nat.le_refl _, by unfold maxLen; omega, rfl, fun _ => ⟨_, rfl, trivial, World.news_of_block hG⟩⟩
  have hnc : n ≤ c ∧ c ≤ maxLen := by have := RS.of_own hown; exact ⟨this.1, this.2.1⟩
  have hc1 := hnc.1
  have hc2 : c ≤ 9223372036854775807 := hnc.2
  clear hG hnc
  by_cases hcn : c = n
  · subst hcn
    go_enter Try.func55, Try.ntmps55
    go_wp2_with (at_builtin; refine app48 rfl (.tmp 23) (.tmp 24) rfl base (.slice A c c) c cs rfl hown (fun _ => True) (some ⟨G, 0, none⟩) 1 1 [y, z] rfl hr (by simp [hy]) (c + 1) rfl (by omega) hbase ?_; intro A' c' w1 h2 h3 h4)
    go_ret
    exact ⟨A', c', rfl, h2, h3, h4⟩
  · go_enter Try.func55, Try.ntmps55
    go_wp2_with (at_builtin; refine app48 rfl (.tmp 23) (.tmp 24) rfl base (.slice A n c) n cs rfl hown (fun _ => True) (some ⟨G, 0, none⟩) 1 1 [y, z] rfl hr (by simp [hy]) (n + 1) rfl (by omega) hbase ?_; intro A' c' w1 h2 h3 h4)
    go_ret
    exact ⟨A', c', rfl, h2, h3, h4⟩

/-- Insert of one attribute, at any place. -/
theorem insert_any (base n c p G : Nat) (A : Option Addr) (cs : List Value) (y z : Value) (w : World) (hp : p ≤ n) (hn : n ≤ 1000000) (hown : w.ownsRow base 48 2 (.slice A n c) n cs) (hbase : base ≤ w.heap.size)
    (hG : w.heap[G]? = some (.cells #[y, z] 48 (0, 0))) (hne : (Value.slice A n c).ownBlock ≠ some G) (h1 : ∀ v ∈ cs, v.oneCell' = true) (hy : y.oneCell' = true ∧ z.oneCell' = true) :
    Calls Try.prog 55 #[.slice A n c, .int .i64 p, .slice (some ⟨G, 0, none⟩) 1 1] w fun e w' => ∃ A' c', e = .returned (.slice A' (n + 1) c') ∧ w'.ownsRow base 48 2 (.slice A' (n + 1) c') (n + 1) (cs.take (p * 2) ++ [y, z] ++ cs.drop (p * 2)) ∧ w.grownBy w' (Value.slice A n c).ownBlock ∧
      ((Value.slice A' (n + 1) c').ownBlock = (Value.slice A n c).ownBlock ∨ (Value.slice A' (n + 1) c').ownBlock = some w.heap.size) := by
  have hl := hown.1
  by_cases hpn : p = n
  · subst hpn
    rw [List.take_of_length_le (by omega), List.drop_eq_nil_of_le (by omega), List.append_nil]
    exact insert_end base p c G A cs y z w hn hown hbase hG hy
  · obtain ⟨_, ⟨e, h0⟩ | ⟨g, cap, cur, e, hg, hh, h5, h6, h7, h8⟩⟩ := hown
    · omega
    · injection e with e1 e2 e3
      subst e1 e3
      have hgl := blk_lt hh
      by_cases hroom : n + 1 ≤ c
      · have hh' : w.heap[g]? = some (.cells cur.toList.toArray 48 (0, 0)) := by simpa using hh
        refine (insert_room g n c p G cur.toList y z w (by omega) hroom hn hh' (by simpa using h7) hG (by intro e; exact hne (by rw [e]; rfl)) (by rw [h8]; exact h1) hy).mono ?_
        rintro e w' ⟨rfl, h9, h10⟩
        refine ⟨_, _, rfl, ⟨by simp; omega, .inr ⟨g, c, _, rfl, hg, h9, hroom, h6, ?_, ?_⟩⟩, h10, .inl rfl⟩
        · simp [insCells]; omega
        · rw [List.toList_toArray, insCells_take _ _ _ _ _ (by omega) (by simp; omega), h8]
      · refine (insert_grow g n c p G cs y z w (by omega) h5 (by omega) hn (fun j v hj => ?_) hl hgl hG h1 hy).mono ?_
        · rw [blk_cell hh]
          have : cur.toList[j]? = some v := by
            rw [← h8] at hj
            rw [List.getElem?_take] at hj
            split at hj
            · exact hj
            · cases hj
          simpa using this
        · rintro e w' ⟨c', R, rfl, h9, h10, h11, h12, h13, h14⟩
          refine ⟨_, _, rfl, ⟨by simp; omega, .inr ⟨w.heap.size, c', _, rfl, hbase, h13, h9, h10, ?_, ?_⟩⟩, ⟨h14.os, h14.tape, h14.output, h14.size, fun k hk _ => h14.block k hk (by simp)⟩, .inr rfl⟩
          · simp [insNew]; omega
          · rw [List.toList_toArray, insNew_take _ _ _ n _ _ (by omega) (by omega) (by simp; omega), h12]
end Go.Proofs.Ytpikikaoelnheaa
