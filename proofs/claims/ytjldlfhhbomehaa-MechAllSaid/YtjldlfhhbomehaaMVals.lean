/- slices.Values over the table of mechanisms; the table. -/
import Derived.Test.YtjldlfhhbomehaaRows
import Derived.Test.YtjldlfhhbomehaaChecked
import Derived.Test.YtjldlfhhbomehaaBase
import Derived.Test.YtjldlfhhbomehaaIter
import Derived.TacticsInMore
import Derived.LoopNIn
import Derived.LoopIn
import Derived.ControlIn
import Derived.Shelf.Abstract
import Derived.Deep.RegionHeld3
import Derived.Deep.Slices
import Derived.Lib.Hide
import Derived.Laws.EntriesVeiled
import Derived.Stop.RegionWithIn
namespace Go.Proofs.Ytjldlfhhbomehaa
open Go.RowKit Go.Shelf

attribute [local go_sem] Oper.semAt_some

theorem add0 (g j : Nat) : (⟨g, 0, none⟩ : Addr).add j = ⟨g, j, none⟩ := by
  unfold Addr.add; split <;> simp_all

/-- A mechanism: kind, uses, key, parts, parameter. -/
structure MRow where
  kind : Int
  uses : Int
  key : Int
  multi : Bool
  param : Option Nat
def fnv : Option Nat → Value
  | none => .nilFunc
  | some n => .func (.func n) #[] #[]
def MRow.val (r : MRow) : Value := .agg #[.int .i64 r.kind, .int .i64 r.uses, .int .i64 r.key, .bool r.multi, fnv r.param]
def MRow.cells (r : MRow) : List Value := [.int .i64 r.kind, .int .i64 r.uses, .int .i64 r.key, .bool r.multi, fnv r.param]
def mtab : List MRow := [⟨0, 64, 0, false, none⟩, ⟨1, 414, 0, false, none⟩, ⟨9, 408, 0, false, some 21⟩, ⟨13, 6, 0, false, some 22⟩, ⟨64, 6, 0, true, none⟩, ⟨67, 6, 0, true, some 22⟩,
  ⟨544, 1, -1, true, none⟩, ⟨592, 1, -1, true, none⟩, ⟨593, 6, 16, true, none⟩, ⟨608, 1, -1, true, none⟩, ⟨624, 1, -1, true, none⟩, ⟨848, 32, 16, false, none⟩, ⟨4160, 64, 3, false, none⟩, ⟨4161, 6, 3, false, none⟩, ⟨4164, 6, 3, true, none⟩,
  ⟨4176, 512, 3, false, some 23⟩, ⟨4224, 32, 31, false, none⟩, ⟨4225, 24, 31, true, none⟩, ⟨4226, 24, 31, true, some 24⟩, ⟨4229, 408, 31, true, some 24⟩, ⟨4230, 24, 31, true, some 25⟩, ⟨4231, 24, 31, true, some 26⟩, ⟨4234, 6, 31, true, none⟩, ⟨8457, 384, 31, false, none⟩]
def mcells : List Value := mtab.flatMap MRow.cells
def mrow (k : Nat) : MRow := mtab.getD k ⟨0, 0, 0, false, none⟩
theorem flat5 (l : List MRow) : ∀ (k : Nat) r, l[k]? = some r → ∀ i, i < 5 → (l.flatMap MRow.cells)[k * 5 + i]? = r.cells[i]? := by
  induction l with
  | nil => intro k r h; simp at h
  | cons a l ih =>
    intro k r h i hi
    have h5 : a.cells.length = 5 := rfl
    rw [List.flatMap_cons]
    cases k with
    | zero =>
      simp at h
      subst h
      rw [List.getElem?_append_left (by omega), Nat.zero_mul, Nat.zero_add]
    | succ k =>
      rw [List.getElem?_append_right (by omega), show (k + 1) * 5 + i - a.cells.length = k * 5 + i by omega]
      exact ih k r (by simpa using h) i hi
theorem mtab_len : mtab.length = 24 := rfl
theorem mrow_at {k : Nat} (hk : k < 24) : mtab[k]? = some (mrow k) := by
  have : k < mtab.length := hk
  rw [mrow, List.getD_eq_getElem?_getD, List.getElem?_eq_getElem this]; rfl
theorem mcells_at : ∀ k, k < 24 → mcells.toArray[k * 5]? = some (.int .i64 (mrow k).kind) ∧ mcells.toArray[k * 5 + 1]? = some (.int .i64 (mrow k).uses) ∧ mcells.toArray[k * 5 + 2]? = some (.int .i64 (mrow k).key) ∧ mcells.toArray[k * 5 + 3]? = some (.bool (mrow k).multi) ∧ mcells.toArray[k * 5 + 4]? = some (fnv (mrow k).param) := by
  intro k hk
  have h := flat5 mtab k _ (mrow_at hk)
  simp only [List.getElem?_toArray]
  exact ⟨h 0 (by omega), h 1 (by omega), h 2 (by omega), h 3 (by omega), h 4 (by omega)⟩

set_option maxRecDepth 100000 in
set_option maxHeartbeats 1000000 in
theorem values_any (A : Option Addr) (c n : Nat) (w : World) :
    Calls Try.prog 20 #[.slice A n c] w fun e w' => e = .returned (.func (.func 31) #[] #[.pointer (some ⟨w.heap.size, 0, none⟩)]) ∧ w' = w.alloc (.cells #[.slice A n c] 51) := by
  go_enter Try.func20, Try.ntmps20
  go_wp2
  go_ret
  exact ⟨rfl, rfl⟩

set_option maxRecDepth 100000 in
set_option maxHeartbeats 4000000 in
theorem all_any (w : World) :
    Calls Try.prog 13 #[] w fun e w' => e = .returned (.func (.func 31) #[] #[.pointer (some ⟨w.heap.size + 1, 0, none⟩)]) ∧
      w' = (w.alloc (.cells mcells.toArray 43)).alloc (.cells #[.slice (some ⟨w.heap.size, 0, none⟩) 24 24] 51) := by
  go_enter Try.func13, Try.ntmps13
  go_wp2_with fail
  refine (values_any _ _ _ _).mono ?_
  rintro e w' ⟨rfl, rfl⟩
  go_wp2
  go_ret
  exact ⟨by simp, by simp [mcells, mtab, MRow.cells, fnv]⟩

/-- Blocks lo to hi lie as they lay. -/
def Stay (lo hi : Nat) (W W' : World) : Prop := W.heap.size ≤ W'.heap.size ∧ ∀ k, lo ≤ k → k < hi → W'.heap[k]? = W.heap[k]?
theorem Stay.trans {lo hi : Nat} {a b c : World} (h : Stay lo hi a b) (k : Stay lo hi b c) : Stay lo hi a c := ⟨Nat.le_trans h.1 k.1, fun i h1 h2 => (k.2 i h1 h2).trans (h.2 i h1 h2)⟩
theorem Stay.refl (lo hi : Nat) (w : World) : Stay lo hi w w := ⟨Nat.le_refl _, fun _ _ _ => rfl⟩
theorem Stay.below {lo hi B : Nat} {w w' : World} (h : Below B w w') (hB : hi ≤ B) : Stay lo hi w w' := ⟨h.size, fun k _ h2 => h.block k (by omega)⟩

set_option maxRecDepth 100000 in
set_option maxHeartbeats 2000000 in
theorem values_seq (g : Nat) (w : World) (h1 : w.heap[g]? = some (.cells mcells.toArray 43 (0, 0))) (h2 : w.heap[g + 1]? = some (.cells #[.slice (some ⟨g, 0, none⟩) 24 24] 51 (0, 0))) :
    SeqAt Try.prog 31 #[.pointer (some ⟨g + 1, 0, none⟩)] (fun k => #[(mrow k).val]) NoNeed TPlain (Stay g (g + 2)) 0 24 true w := by
  intro n l' J J' Jx W _ hW _ _ _ _ _ hT _ hY h0
  have zg := blk_lt h2
  have k1 := (hW.block g (by omega)).trans h1
  have k2 := (hW.block (g + 1) zg).trans h2
  have HT := Lib.hid hT
  have HY := Lib.hid hY
  have c0 := blk_cell k2 0
  simp only [List.getElem?_toArray, List.getElem?_cons_zero] at c0
  have zW := hW.size
  clear hT hY h1 h2
  refine callsIn_of_wp Try.func31 rfl trivial ?_ rfl
  simp only [Try.ntmps31, List.size_toArray, List.length_cons, List.length_nil, Nat.reduceAdd, Nat.reduceSub, Array.replicate_succ, Array.replicate_zero, List.push_toArray, List.append_toArray, List.nil_append, List.cons_append]
  gi_wp2
  gi_loopw [7] (fun i wr => ∃ k : Nat, k ≤ 24 ∧ i = .int .i64 (k : Int) ∧ J k wr ∧ Stay g (g + 2) W wr) (fun i _ => 24 - (intOf i).toNat)
  case atStart => exact ⟨0, by omega, rfl, h0, Stay.refl _ _ _⟩
  case round =>
    obtain ⟨k, hk, rfl, hj, hB⟩ := hrel
    by_cases hlt : k < 24
    · have q1 := (hB.2 g (Nat.le_refl _) (by omega)).trans k1
      obtain ⟨m0, m1, m2, m3, m4⟩ := mcells_at k hlt
      have d0 := (blk_cell q1 (k * 5)).trans m0
      have d1 := (blk_cell q1 (k * 5 + 1)).trans m1
      have d2 := (blk_cell q1 (k * 5 + 2)).trans m2
      have d3 := (blk_cell q1 (k * 5 + 3)).trans m3
      have d4 := (blk_cell q1 (k * 5 + 4)).trans m4
      clear c0 k2 m0 m1 m2 m3 m4 q1
      obtain ⟨⟨z0, z1, z2, b, f⟩, hr⟩ : ∃ r, mrow k = r := ⟨_, rfl⟩
      rw [hr] at d0 d1 d2 d3 d4
      simp only [] at d0 d1 d2 d3 d4
      have Hr := Lib.hid hr
      clear hr
      cases f
      · simp only [fnv] at d4
        have hz := HT.out k wr _ hk hj (World.grownBy_alloc wr (.cells #[.int .i64 z0, .int .i64 z1, .int .i64 z2, .bool b, .nilFunc] 43) none)
        obtain ⟨fn, tmps, assign, body, hy, hRo⟩ := HY.out k _ hz hlt (by have := hB.1; simp; omega)
        rw [Hr.out] at hy
        simp only [MRow.val, fnv] at hy
        have hst : Stay g (g + 2) wr (wr.alloc (.cells #[.int .i64 z0, .int .i64 z1, .int .i64 z2, .bool b, .nilFunc] 43)) := ⟨by simp, fun i _ h => Below.heap_alloc _ _ _ (by have := hB.1; omega)⟩
        gi_wp2
        refine hRo.mono ?_
        rintro e W3 (⟨rfl, hJ3, hk3, _⟩ | ⟨rfl, hJx3, _⟩)
        · gi_wp2
          go_roundw
          case rel => exact ⟨k + 1, by omega, by go_num, hJ3, (hB.trans hst).trans hk3⟩
          case measure => simp [intOf]; omega
        · gi_wp2
          refine bodyPost_ret (results_none rfl _ _ _) rfl ?_
          exact ⟨⟨_, rfl⟩, .inr ⟨k + 1, by omega, by omega, hJx3⟩⟩
      · rename_i fi
        simp only [fnv] at d4
        have hz := HT.out k wr _ hk hj (World.grownBy_alloc wr (.cells #[.int .i64 z0, .int .i64 z1, .int .i64 z2, .bool b, .func (.func fi) #[] #[]] 43) none)
        obtain ⟨fn, tmps, assign, body, hy, hRo⟩ := HY.out k _ hz hlt (by have := hB.1; simp; omega)
        rw [Hr.out] at hy
        simp only [MRow.val, fnv] at hy
        have hst : Stay g (g + 2) wr (wr.alloc (.cells #[.int .i64 z0, .int .i64 z1, .int .i64 z2, .bool b, .func (.func fi) #[] #[]] 43)) := ⟨by simp, fun i _ h => Below.heap_alloc _ _ _ (by have := hB.1; omega)⟩
        gi_wp2
        refine hRo.mono ?_
        rintro e W3 (⟨rfl, hJ3, hk3, _⟩ | ⟨rfl, hJx3, _⟩)
        · gi_wp2
          go_roundw
          case rel => exact ⟨k + 1, by omega, by go_num, hJ3, (hB.trans hst).trans hk3⟩
          case measure => simp [intOf]; omega
        · gi_wp2
          refine bodyPost_ret (results_none rfl _ _ _) rfl ?_
          exact ⟨⟨_, rfl⟩, .inr ⟨k + 1, by omega, by omega, hJx3⟩⟩
    · obtain rfl : k = 24 := by omega
      have hj' := HT.out 24 _ _ (Nat.le_refl _) hj (World.grownBy.refl wr none)
      gi_wp2
      go_end0
      exact ⟨⟨_, rfl⟩, .inl hj'⟩
end Go.Proofs.Ytjldlfhhbomehaa
