/- What slices.Insert computes at attributes, one value being inserted into a row of the caller's own. -/
import Derived.Test.YtpikikaoelnheaaCopied
import Derived.Lib.AppendZerosOnto
import Derived.Lib.Overlaps
import Derived.Laws.IdiomCopy
import Derived.Laws.Externs
import Derived.Laws.CopyOwn
import Derived.Deep.RegionLaw
namespace Go.Proofs.Ytpikikaoelnheaa
open Go.RowKit

/-- copy of elements of more than one cell. -/
theorem run_copy_rowN {P : Program} (w : World) (dT sT ty elem : TypeId) (g o dLen dCap : Nat) (a : Addr) (sLen sCap size n : Nat) (cur : Array Value) (t : TypeId) (cs : List Value)
    (hu : P.underlying dT = some (.slice elem)) (hs : (P.info? elem).map (·.size) = some size)
    (hg : w.heap[g]? = some (.cells cur t (0, 0))) (hn : n = Nat.min sLen dLen) (hl : cs.length = n * size)
    (hsrc : ∀ j v, cs[j]? = some v → w.cell? (a.add j) = some v) (hfit : o + cs.length ≤ cur.size) (h1 : ∀ v ∈ cs, v.oneCell' = true) :
    (Builtin.copy_ #[dT, sT] ty #[.slice (some ⟨g, o, none⟩) dLen dCap, .slice (some a) sLen sCap]).run P w =
      .ok (goInt n) (w.setRow g (cur.toList.take o ++ cs ++ cur.toList.drop (o + cs.length)).toArray) := by
  have hld := run_loadCells_list (P := P) w a cs hsrc
  have hst := run_storeCells_at P g o t cs 0 cur w hg (by simpa using hfit) h1
  cases hq : P.info? elem with
  | none => simp [hq] at hs
  | some i =>
    have hi : i.size = size := by simpa [hq] using hs
    rw [hl] at hld
    simp [Builtin.copy_, run_underlying hu, Builtin.lenOf, Builtin.firstCells, sizeOf, typeInfo, hq, hi, ← hn, hld, hst]

theorem wp_copy_eq {P : Program} (w : World) {o : Oper} {a : Act} {K : Act → World → Prop} {Q : Exit → Act → World → Prop} (d s : Operand) (t t' : TypeId)
    (ho : o.op = .call { callee := .builtin .copy, args := #[d, s], argTypes := #[t, t'] }) (v u : Value) (hd : a.eval d = v) (hs : a.eval s = u) {v' : Value} {w' : World}
    (hr : (Builtin.copy_ #[t, t'] o.type #[v, u]).run P w = .ok v' w') (h : K (a.put o.dst v') w') : o.wp P a w K Q := by
  unfold Oper.wp execOp
  simp only [ho, resolve, invoke, builtin, Sem.run_bind, Sem.run_pure, Result.andThen_ok, List.map_toArray, List.map_cons, List.map_nil, hd, hs, hr]
  exact h
theorem wpList_copy_eq {P : Program} (w : World) {ops : Array Oper} {rest : List Oper} {o : Oper} {a : Act} {Q : Exit → Act → World → Prop} (hgd : o.guard = none) (d s : Operand) (t t' : TypeId)
    (ho : o.op = .call { callee := .builtin .copy, args := #[d, s], argTypes := #[t, t'] }) (v u : Value) (hd : a.eval d = v) (hs : a.eval s = u) {v' : Value} {w' : World}
    (hr : (Builtin.copy_ #[t, t'] o.type #[v, u]).run P w = .ok v' w') (h : wpList P ops Q rest (a.put o.dst v') w') : wpList P ops Q (o :: rest) a w :=
  wpList_plain hgd fun _ hK => wp_copy_eq w d s t t' ho v u hd hs hr (hK _ _ h)
theorem step_copy_eq {P : Program} {ops : Array Oper} {o : Oper} {a : Act} {w : World} {K : Act → World → Prop} {Q : Exit → Act → World → Prop} {E : Prop}
    (hg : o.guard = none) (d x : Operand) (dT sT : TypeId) (hop : o.op = Op.call { callee := Callee.builtin Builtin.copy, args := #[d, x], argTypes := #[dT, sT] })
    (v u : Value) (hd : a.eval d = v) (hx : a.eval x = u) {v' : Value} {w' : World} (hr : (Builtin.copy_ #[dT, sT] o.type #[v, u]).run P w = .ok v' w') (hK : K (a.put o.dst v') w') :
    if Region.wanted o (yielded ops a.tmps) = true then Oper.wp P o a w K Q else E := by
  have hw : Region.wanted o (yielded ops a.tmps) = true := by simp [Region.wanted, hg]
  rw [if_pos hw]
  exact wp_copy_eq w d x dT sT hop v u hd hx hr hK

theorem grownBy_setRow {w w1 : World} {g : Nat} (h : w.grownBy w1 (some g)) (cs : Array Value) : w.grownBy (w1.setRow g cs) (some g) :=
  ⟨h.os, h.tape, h.output, by simpa [World.setRow] using h.size, fun k hk hne => (setRow_other w1 g k cs (fun e => hne (by rw [e]))).trans (h.block k hk hne)⟩

/-- What lies in the row behind the two copies. -/
def insCells (cur : List Value) (i n : Nat) (y z : Value) : List Value :=
  let X1 := cur.take ((i + 1) * 2) ++ (cur.drop (i * 2)).take ((n - i) * 2) ++ cur.drop ((i + 1) * 2 + (n - i) * 2)
  X1.take (i * 2) ++ [y, z] ++ X1.drop (i * 2 + 2)
theorem insCells_take (cur : List Value) (i n : Nat) (y z : Value) (hi : i < n) (hn : (n + 1) * 2 ≤ cur.length) :
    (insCells cur i n y z).take ((n + 1) * 2) = (cur.take (n * 2)).take (i * 2) ++ [y, z] ++ (cur.take (n * 2)).drop (i * 2) := by
  have h1 : (cur.take ((i + 1) * 2)).length = (i + 1) * 2 := by simp; omega
  have h2 : ((cur.drop (i * 2)).take ((n - i) * 2)).length = (n - i) * 2 := by simp; omega
  unfold insCells
  have e1 : ∀ A B C : List Value, A.length = (i + 1) * 2 → (A ++ B ++ C).take (i * 2) = A.take (i * 2) := fun A B C h => by
    rw [List.append_assoc, List.take_append_of_le_length (by omega)]
  have e2 : ∀ A B C : List Value, A.length = (i + 1) * 2 → (A ++ B ++ C).drop (i * 2 + 2) = B ++ C := fun A B C h => by
    rw [show i * 2 + 2 = A.length by omega, List.append_assoc, List.drop_left]
  simp only [e1 _ _ _ h1, e2 _ _ _ h1]
  rw [List.take_take, show min (i * 2) ((i + 1) * 2) = i * 2 by omega, List.take_take, show min (i * 2) (n * 2) = i * 2 by omega]
  have h3 : (cur.take (i * 2)).length = i * 2 := by simp; omega
  rw [← List.append_assoc, List.take_append_of_le_length (by simp; omega), List.take_of_length_le (by simp; omega)]
  congr 1
  rw [List.drop_take]
  congr 1
  omega

set_option maxRecDepth 100000 in
set_option maxHeartbeats 2000000 in
/-- There is room. -/
theorem insert_room (g n c i G : Nat) (cur : List Value) (y z : Value) (w : World) (hi : i < n) (hroom : n + 1 ≤ c) (hn : n ≤ 1000000)
    (hg : w.heap[g]? = some (.cells cur.toArray 48 (0, 0))) (hcur : cur.length = c * 2) (hG : w.heap[G]? = some (.cells #[y, z] 48 (0, 0))) (hne : G ≠ g) (h1 : ∀ v ∈ cur.take (n * 2), v.oneCell' = true) (hy : y.oneCell' = true ∧ z.oneCell' = true) :
    Calls Try.prog 55 #[.slice (some ⟨g, 0, none⟩) n c, .int .i64 i, .slice (some ⟨G, 0, none⟩) 1 1] w fun e w' => e = .returned (.slice (some ⟨g, 0, none⟩) (n + 1) c) ∧ w'.heap[g]? = some (.cells (insCells cur i n y z).toArray 48 (0, 0)) ∧ w.grownBy w' (some g) := by
  have hov : ∀ (A : Addr) lb cb (W : World), A.block = g → W.shape? G = some (48, 2) → W.shape? g = some (48, c * 2) → W.frozen? ⟨G, 0, none⟩ = false → W.frozen? ⟨G, 2, none⟩ = false → (callFunc 59 #[.slice (some ⟨G, 0, none⟩) 1 1, .slice (some A) lb cb]).run Try.prog W = .ok (.value (.bool false)) W := fun A lb cb W hA s1 s2 f1 f2 => by
    rw [run_callFunc_extern Try.func59 (by kernel_rfl) (by kernel_rfl) (by kernel_rfl) (e := Extern.SlicesOverlaps.overlaps #[24, 24] #[4]) (by kernel_rfl),
      Lib.run_overlaps_apart W 24 4 48 Try.underlying24 2 (fun w => by kernel_rfl) ⟨G, 0, none⟩ A 1 1 lb cb (by rw [hA]; exact hne) 48 48 2 (c * 2) s1 (by rw [hA]; exact s2) (by omega) f1 f2]
    rfl
  have s1 : w.shape? G = some (48, 2) := by simp [World.shape?, hG]
  have s2 : w.shape? g = some (48, c * 2) := by simp [World.shape?, hg, hcur]
  have f1 : w.frozen? ⟨G, 0, none⟩ = false := blk_free hG 0
  have f2 : w.frozen? ⟨G, 2, none⟩ = false := blk_free hG 2
  have hov1 := fun off lb cb => hov ⟨g, off, none⟩ lb cb w rfl s1 s2 f1 f2
  have hi48 : (Try.prog.info? 48).map (·.size) = some 2 := by
    obtain ⟨i1, hj, hy0, hy1, hy2⟩ := info_parts info48
    rw [hj]; simp [hy1]
  obtain ⟨X1, hX1⟩ : ∃ X1, X1 = cur.take ((i + 1) * 2) ++ (cur.drop (i * 2)).take ((n - i) * 2) ++ cur.drop ((i + 1) * 2 + (n - i) * 2) := ⟨_, rfl⟩
  have hl1 : X1.length = c * 2 := by rw [hX1]; simp; omega
  have hl2 : ((cur.drop (i * 2)).take ((n - i) * 2)).length = (n - i) * 2 := by simp; omega
  have hX2 : insCells cur i n y z = X1.take (i * 2) ++ [y, z] ++ X1.drop (i * 2 + 2) := by rw [hX1]; rfl
  have hcp1 : ∀ ty, (Builtin.copy_ #[24, 24] ty #[.slice (some ⟨g, (i + 1) * 2, none⟩) (n - i) (c - (i + 1)), .slice (some ⟨g, i * 2, none⟩) (n + 1 - i) (c - i)]).run Try.prog w.drew = .ok (goInt ((n - i : Nat) : Int)) (w.drew.setRow g X1.toArray) := fun ty => by
    have := run_copy_rowN (P := Try.prog) w.drew 24 24 ty 48 g ((i + 1) * 2) (n - i) (c - (i + 1)) ⟨g, i * 2, none⟩ (n + 1 - i) (c - i) 2 (n - i) cur.toArray 48 ((cur.drop (i * 2)).take ((n - i) * 2)) Try.underlying24 hi48 hg
      (by show n - i = min (n + 1 - i) (n - i); omega) hl2 (fun j v hj => by
        have hadd : (⟨g, i * 2, none⟩ : Addr).add j = ⟨g, i * 2 + j, none⟩ := by unfold Addr.add; split <;> simp_all
        rw [hadd, show w.drew.cell? _ = w.cell? _ from rfl, blk_cell hg]
        rw [List.getElem?_take] at hj
        split at hj
        · rw [List.getElem?_drop] at hj; simpa using hj
        · cases hj) (by rw [hl2]; simp; omega) (fun v hv => h1 v (by rw [show (n - i) * 2 = n * 2 - i * 2 by omega, ← List.drop_take] at hv; exact List.mem_of_mem_drop hv))
    rw [this, hX1, hl2]
  have hcp2 : ∀ ty dl dc, 1 ≤ dl → (Builtin.copy_ #[24, 24] ty #[.slice (some ⟨g, i * 2, none⟩) dl dc, .slice (some ⟨G, 0, none⟩) 1 1]).run Try.prog (w.drew.setRow g X1.toArray) = .ok (goInt 1) ((w.drew.setRow g X1.toArray).setRow g (insCells cur i n y z).toArray) := fun ty dl dc hdl => by
    have := run_copy_rowN (P := Try.prog) (w.drew.setRow g X1.toArray) 24 24 ty 48 g (i * 2) dl dc ⟨G, 0, none⟩ 1 1 2 1 X1.toArray 48 [y, z] Try.underlying24 hi48 (setRow_heap w.drew g _ _ 48 _ hg)
      (by show 1 = min 1 dl; omega) rfl (World.news_of_block ((setRow_other w.drew g G _ hne).trans hG)) (by simp [hl1]; omega) (by simp [hy])
    rw [this, hX2]
    rfl
  have hz2 : ((i : Int) == (n : Int)) = false := by simp; omega
  have hw1 : IntKind.i64.wrap ((i : Int) + 1) = (i : Int) + 1 := by rw [IntKind.wrap_i64]; omega
  have hw2 : IntKind.i64.wrap ((n : Int) + 1) = (n : Int) + 1 := by rw [IntKind.wrap_i64]; omega
  have htn : ((i : Int) + 1).toNat = i + 1 := by omega
  have htm : ((n : Int) + 1).toNat = n + 1 := by omega
  have hb1 : ¬ c = i := by omega
  have hb2 : ¬ c = i + 1 := by omega
  have hb3 : i ≤ n := by omega
  have hb4 : (0 : Int) ≤ (i : Int) + 1 := by omega
  have hb5 : (i : Int) + 1 ≤ (n : Int) + 1 := by omega
  have hb6 : (i : Int) ≤ (n : Int) + 1 := by omega
  have Hg := Lib.hid hg
  have hfin : Hid ((((w.drew.setRow g X1.toArray).setRow g (insCells cur i n y z).toArray)).heap[g]? = some (.cells (insCells cur i n y z).toArray 48 (0, 0)) ∧ w.grownBy ((w.drew.setRow g X1.toArray).setRow g (insCells cur i n y z).toArray) (some g)) := ⟨setRow_heap _ g _ _ 48 _ (setRow_heap w.drew g _ _ 48 _ hg), grownBy_setRow (grownBy_setRow (⟨rfl, rfl, rfl, Nat.le_refl _, fun _ _ _ => rfl⟩ : w.grownBy w.drew (some g)) _) _⟩
  clear hov s1 s2 f1 f2 hG hg hX2 hl1 hl2 hX1
  go_enter Try.func55, Try.ntmps55
  go_wp2_with fail
  go_region_law (refine step_copy_eq rfl _ _ 24 24 rfl _ _ (by simp [Act.eval, Act.put]) (by simp [Act.eval, Act.put]) (hcp1 _) ?_)
  go_wp2_with (refine wpList_copy_eq _ rfl (.tmp 80) (.tmp 81) 24 24 rfl _ _ rfl rfl (hcp2 _ _ _ (by omega)) ?_)
  go_ret
  exact ⟨rfl, hfin.out⟩
end Go.Proofs.Ytpikikaoelnheaa
