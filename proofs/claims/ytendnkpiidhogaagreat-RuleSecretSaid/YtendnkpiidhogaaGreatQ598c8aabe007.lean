/- curve.of: a curve's numbers. curve.of for P-384 (printed from P-256's by a program). Elements of a field in memory: how they are read and laid; a curve's record in later worlds. Whether a point is on a curve: curve's own reckoning. Curves and points in memory; curve's of, none and on, in these words. curve: the numbers of a curve, and whether a point is on it. What the reference's Quo computes: quotient and remainder. What baileyref2's Mod and Mul compute. The reference's curves: words, and its arithmetic modulo the prime. The reference's On. The reference's curves: Of. A curve or none: its order and size. zfield: One and From. -/
import Derived.Test.YtendnkpiidhogaaGreatQ3aedd1132131
import Derived.Sort.AtCall
import Derived.Deep.RegionHeld3
import Derived.Deep.MidRow
import Derived.Deep.QuietTactic
import Derived.BigQuiet
import Derived.Deep.DeepCutAuto
import Derived.Laws.ResultCell
namespace Go.Proofs.YtendnkpiidhogaaGreat
open Go.RowKit

def kcells (size : Nat) (sp sn sb sx sy fp : Value) (tl fl : List Nat) : List Value := [Value.int .i64 (size : Int), sp, sn, sb, sx, sy, fp] ++ nts tl ++ nts fl
structure Num (w : World) (P : Nat → Prop) (k g size n inv M bb : Nat) (pl nl bl xl yl ml ol rl tl fl : List Nat) (Ap An Ab Ax Ay : Option Addr) (cp cn cb cx cy : Nat) : Prop where
 blk : w.heap[k]? = some (.cells (kcells size (.slice Ap pl.length cp) (.slice An nl.length cn) (.slice Ab bl.length cb) (.slice Ax xl.length cx) (.slice Ay yl.length cy) (.pointer (some ⟨g, 0, none⟩)) tl fl).toArray 162 (0, 0))
 p : RN w P Ap cp pl
 nn : RN w P An cn nl
 b : RN w P Ab cb bl
 x : RN w P Ax cx xl
 y : RN w P Ay cy yl
 fr : FR w g n inv M ml ol rl
 pv : val 18446744073709551616 pl = M
 three : FE M n tl 3
 fb : FE M n fl bb

theorem set6 {w : World} {g i : Nat} {v a b c d e f : Value} (j : Nat) (h1 : i < j) (_h2 : i < 100) (h : w.cell? ⟨g, i, none⟩ = some v) :
 ((((((w.setCell ⟨g, j, none⟩ a).setCell ⟨g, j + 1, none⟩ b).setCell ⟨g, j + 2, none⟩ c).setCell ⟨g, j + 3, none⟩ d).setCell ⟨g, j + 4, none⟩ e).setCell ⟨g, j + 5, none⟩ f).cell? ⟨g, i, none⟩ = some v := by
 have key : ∀ (w : World) (k : Nat) (u : Value), i < k → (w.setCell ⟨g, k, none⟩ u).cell? ⟨g, i, none⟩ = w.cell? ⟨g, i, none⟩ := fun w k u hk => by
  have hne : k ≠ i := by omega
  simp [go_sem]
 rw [key _ _ _ (by omega), key _ _ _ (by omega), key _ _ _ (by omega), key _ _ _ (by omega), key _ _ _ (by omega), key _ _ _ (by omega)]
 exact h
theorem kcells_zero {w : World} {k size : Nat} {sp sn sb sx sy fp : Value} {ty : TypeId} (h : w.heap[k]? = some (.cells (kcells size sp sn sb sx sy fp z6 z6).toArray ty (0, 0))) : ∀ i, 7 ≤ i → i < 19 → w.cell? ⟨k, i, none⟩ = some (.int .u64 0) ∧ w.frozen? ⟨k, i, none⟩ = false := by
 intro i h1 h2
 refine ⟨?_, blk_free h i⟩
 rw [blk_cell h i]
 obtain ⟨j, rfl⟩ : ∃ j, i = j + 7 := ⟨i - 7, by omega⟩
 match j, h2 with
 | 0, _ | 1, _ | 2, _ | 3, _ | 4, _ | 5, _ | 6, _ | 7, _ | 8, _ | 9, _ | 10, _ | 11, _ => rfl
 | j + 12, h2 => omega
theorem six_mid {w : World} {g j : Nat} {ty : TypeId} {x0 x1 x2 x3 x4 x5 a b c d e f : Value} (pre post : List Value) (hj : pre.length = j) (h : w.heap[g]? = some (.cells (pre ++ x0 :: x1 :: x2 :: x3 :: x4 :: x5 :: post).toArray ty (0, 0))) :
 ((((((w.setCell ⟨g, j, none⟩ a).setCell ⟨g, j + 1, none⟩ b).setCell ⟨g, j + 2, none⟩ c).setCell ⟨g, j + 3, none⟩ d).setCell ⟨g, j + 4, none⟩ e).setCell ⟨g, j + 5, none⟩ f).heap[g]? = some (.cells (pre ++ a :: b :: c :: d :: e :: f :: post).toArray ty (0, 0)) := by
 subst hj
 rw [blk_set (blk_set (blk_set (blk_set (blk_set (blk_set h pre.length a) (pre.length + 1) b) (pre.length + 2) c) (pre.length + 3) d) (pre.length + 4) e) (pre.length + 5) f]
 simp only [List.setIfInBounds_toArray]
 rw [List.set_append_right _ _ (by omega), List.set_append_right _ _ (by omega), List.set_append_right _ _ (by omega), List.set_append_right _ _ (by omega), List.set_append_right _ _ (by omega), List.set_append_right _ _ (by omega)]
 simp
theorem twelve {w : World} {g size : Nat} {sp sn sb sx sy fp : Value} {ty : TypeId} (h : w.heap[g]? = some (.cells (kcells size sp sn sb sx sy fp z6 z6).toArray ty (0, 0))) (u0 u1 u2 u3 u4 u5 v0 v1 v2 v3 v4 v5 : Nat) :
 ((((((((((((w.setCell ⟨g, 7, none⟩ (.int .u64 (u0 : Int))).setCell ⟨g, 8, none⟩ (.int .u64 (u1 : Int))).setCell ⟨g, 9, none⟩ (.int .u64 (u2 : Int))).setCell ⟨g, 10, none⟩ (.int .u64 (u3 : Int))).setCell ⟨g, 11, none⟩ (.int .u64 (u4 : Int))).setCell ⟨g, 12, none⟩ (.int .u64 (u5 : Int))).setCell ⟨g, 13, none⟩ (.int .u64 (v0 : Int))).setCell ⟨g, 14, none⟩ (.int .u64 (v1 : Int))).setCell ⟨g, 15, none⟩ (.int .u64 (v2 : Int))).setCell ⟨g, 16, none⟩ (.int .u64 (v3 : Int))).setCell ⟨g, 17, none⟩ (.int .u64 (v4 : Int))).setCell ⟨g, 18, none⟩ (.int .u64 (v5 : Int))).heap[g]? = some (.cells (kcells size sp sn sb sx sy fp [u0, u1, u2, u3, u4, u5] [v0, v1, v2, v3, v4, v5]).toArray ty (0, 0)) ∧
 (∀ b, b ≠ g → ((((((((((((w.setCell ⟨g, 7, none⟩ (.int .u64 (u0 : Int))).setCell ⟨g, 8, none⟩ (.int .u64 (u1 : Int))).setCell ⟨g, 9, none⟩ (.int .u64 (u2 : Int))).setCell ⟨g, 10, none⟩ (.int .u64 (u3 : Int))).setCell ⟨g, 11, none⟩ (.int .u64 (u4 : Int))).setCell ⟨g, 12, none⟩ (.int .u64 (u5 : Int))).setCell ⟨g, 13, none⟩ (.int .u64 (v0 : Int))).setCell ⟨g, 14, none⟩ (.int .u64 (v1 : Int))).setCell ⟨g, 15, none⟩ (.int .u64 (v2 : Int))).setCell ⟨g, 16, none⟩ (.int .u64 (v3 : Int))).setCell ⟨g, 17, none⟩ (.int .u64 (v4 : Int))).setCell ⟨g, 18, none⟩ (.int .u64 (v5 : Int))).heap[b]? = w.heap[b]?) ∧ ((((((((((((w.setCell ⟨g, 7, none⟩ (.int .u64 (u0 : Int))).setCell ⟨g, 8, none⟩ (.int .u64 (u1 : Int))).setCell ⟨g, 9, none⟩ (.int .u64 (u2 : Int))).setCell ⟨g, 10, none⟩ (.int .u64 (u3 : Int))).setCell ⟨g, 11, none⟩ (.int .u64 (u4 : Int))).setCell ⟨g, 12, none⟩ (.int .u64 (u5 : Int))).setCell ⟨g, 13, none⟩ (.int .u64 (v0 : Int))).setCell ⟨g, 14, none⟩ (.int .u64 (v1 : Int))).setCell ⟨g, 15, none⟩ (.int .u64 (v2 : Int))).setCell ⟨g, 16, none⟩ (.int .u64 (v3 : Int))).setCell ⟨g, 17, none⟩ (.int .u64 (v4 : Int))).setCell ⟨g, 18, none⟩ (.int .u64 (v5 : Int))).heap.size = w.heap.size ∧ ∀ B w0, B ≤ g → Below B w0 w → Below B w0 ((((((((((((w.setCell ⟨g, 7, none⟩ (.int .u64 (u0 : Int))).setCell ⟨g, 8, none⟩ (.int .u64 (u1 : Int))).setCell ⟨g, 9, none⟩ (.int .u64 (u2 : Int))).setCell ⟨g, 10, none⟩ (.int .u64 (u3 : Int))).setCell ⟨g, 11, none⟩ (.int .u64 (u4 : Int))).setCell ⟨g, 12, none⟩ (.int .u64 (u5 : Int))).setCell ⟨g, 13, none⟩ (.int .u64 (v0 : Int))).setCell ⟨g, 14, none⟩ (.int .u64 (v1 : Int))).setCell ⟨g, 15, none⟩ (.int .u64 (v2 : Int))).setCell ⟨g, 16, none⟩ (.int .u64 (v3 : Int))).setCell ⟨g, 17, none⟩ (.int .u64 (v4 : Int))).setCell ⟨g, 18, none⟩ (.int .u64 (v5 : Int))) := by
 refine ⟨?_, ?_, by simp [World.setCell], ?_⟩
 · have h1 := six_mid [Value.int .i64 (size : Int), sp, sn, sb, sx, sy, fp] (nts z6) (j := 7) (ty := ty) (x0 := .int .u64 0) (x1 := .int .u64 0) (x2 := .int .u64 0) (x3 := .int .u64 0) (x4 := .int .u64 0) (x5 := .int .u64 0) rfl (a := .int .u64 (u0 : Int)) (b := .int .u64 (u1 : Int)) (c := .int .u64 (u2 : Int)) (d := .int .u64 (u3 : Int)) (e := .int .u64 (u4 : Int)) (f := .int .u64 (u5 : Int)) (h.trans (by simp [kcells, nts, z6]))
   have h2 := six_mid ([Value.int .i64 (size : Int), sp, sn, sb, sx, sy, fp] ++ nts [u0, u1, u2, u3, u4, u5]) [] (j := 13) (ty := ty) (x0 := .int .u64 0) (x1 := .int .u64 0) (x2 := .int .u64 0) (x3 := .int .u64 0) (x4 := .int .u64 0) (x5 := .int .u64 0) (by simp [nts]) (a := .int .u64 (v0 : Int)) (b := .int .u64 (v1 : Int)) (c := .int .u64 (v2 : Int)) (d := .int .u64 (v3 : Int)) (e := .int .u64 (v4 : Int)) (f := .int .u64 (v5 : Int)) (h1.trans (by simp [nts, z6]))
   exact h2.trans (by simp [kcells, nts])
 · intro b hb
   repeat rw [Below.heap_setCell _ _ _ _ hb]
 · intro B w0 hB h0
   exact ((((((((((((h0.setCell (p := ⟨g, 7, none⟩) hB (.int .u64 (u0 : Int))).setCell (p := ⟨g, 8, none⟩) hB (.int .u64 (u1 : Int))).setCell (p := ⟨g, 9, none⟩) hB (.int .u64 (u2 : Int))).setCell (p := ⟨g, 10, none⟩) hB (.int .u64 (u3 : Int))).setCell (p := ⟨g, 11, none⟩) hB (.int .u64 (u4 : Int))).setCell (p := ⟨g, 12, none⟩) hB (.int .u64 (u5 : Int))).setCell (p := ⟨g, 13, none⟩) hB (.int .u64 (v0 : Int))).setCell (p := ⟨g, 14, none⟩) hB (.int .u64 (v1 : Int))).setCell (p := ⟨g, 15, none⟩) hB (.int .u64 (v2 : Int))).setCell (p := ⟨g, 16, none⟩) hB (.int .u64 (v3 : Int))).setCell (p := ⟨g, 17, none⟩) hB (.int .u64 (v4 : Int))).setCell (p := ⟨g, 18, none⟩) hB (.int .u64 (v5 : Int)))
def p256p : List Nat := [18446744073709551615, 4294967295, 0, 18446744069414584321]
def p256n : List Nat := [17562291160714782033, 13611842547513532036, 18446744073709551615, 18446744069414584320]
def p256b : List Nat := [4309448131093880907, 7285987128567378166, 12964664127075681980, 6540974713487397863]
def p256x : List Nat := [17627433388654248598, 8575836109218198432, 17923454489921339634, 7716867327612699207]
def p256y : List Nat := [14678990851816772085, 3156516839386865358, 10297457778147434006, 5756518291402817435]
def Lits (l : List Nat) : Prop := (∀ x ∈ l, x < 18446744073709551616) ∧ l.length ≤ 6
theorem RN.lits (w : World) (l : List Nat) (h : Lits l) : RN (w.alloc (.cells (nts l).toArray 139)) (In w.heap.size (w.heap.size + 1)) (some ⟨w.heap.size, 0, none⟩) l.length l := by
 have hb : Blk (w.alloc (.cells (nts l).toArray 139)) w.heap.size l := heap_alloc_new w _
 have := (OB.of_blk (c := l.length) hb (base := w.heap.size) (Nat.le_refl _) ⟨h.1, by have := h.2; omega⟩ (Nat.le_refl _) (by have := h.2; unfold maxLen; omega)).rn
 exact this.mono fun b hb => by have := hb.2; rw [World.size_alloc] at this; exact ⟨hb.1, this⟩
theorem five_lits (w : World) (l1 l2 l3 l4 l5 : List Nat) (o : Obj) (h1 : Lits l1) (h2 : Lits l2) (h3 : Lits l3) (h4 : Lits l4) (h5 : Lits l5) :
 ∀ W, W = (((((w.alloc (.cells (nts l1).toArray 139)).alloc (.cells (nts l2).toArray 139)).alloc (.cells (nts l3).toArray 139)).alloc (.cells (nts l4).toArray 139)).alloc (.cells (nts l5).toArray 139)).alloc o →
 RN W (In w.heap.size (w.heap.size + 5)) (some ⟨w.heap.size, 0, none⟩) l1.length l1 ∧ RN W (In w.heap.size (w.heap.size + 5)) (some ⟨w.heap.size + 1, 0, none⟩) l2.length l2 ∧ RN W (In w.heap.size (w.heap.size + 5)) (some ⟨w.heap.size + 1 + 1, 0, none⟩) l3.length l3 ∧
 RN W (In w.heap.size (w.heap.size + 5)) (some ⟨w.heap.size + 1 + 1 + 1, 0, none⟩) l4.length l4 ∧ RN W (In w.heap.size (w.heap.size + 5)) (some ⟨w.heap.size + 1 + 1 + 1 + 1, 0, none⟩) l5.length l5 ∧ W.heap[w.heap.size + 1 + 1 + 1 + 1 + 1]? = some o ∧ W.heap.size = w.heap.size + 6 ∧ Below w.heap.size w W := by
 rintro W rfl
 have r1 := RN.lits w l1 h1
 have r2 := RN.lits (w.alloc (.cells (nts l1).toArray 139)) l2 h2
 have r3 := RN.lits ((w.alloc (.cells (nts l1).toArray 139)).alloc (.cells (nts l2).toArray 139)) l3 h3
 have r4 := RN.lits (((w.alloc (.cells (nts l1).toArray 139)).alloc (.cells (nts l2).toArray 139)).alloc (.cells (nts l3).toArray 139)) l4 h4
 have r5 := RN.lits ((((w.alloc (.cells (nts l1).toArray 139)).alloc (.cells (nts l2).toArray 139)).alloc (.cells (nts l3).toArray 139)).alloc (.cells (nts l4).toArray 139)) l5 h5
 have e := heap_alloc_new (((((w.alloc (.cells (nts l1).toArray 139)).alloc (.cells (nts l2).toArray 139)).alloc (.cells (nts l3).toArray 139)).alloc (.cells (nts l4).toArray 139)).alloc (.cells (nts l5).toArray 139)) o
 have b6 : Below (w.heap.size + 5) (((((w.alloc (.cells (nts l1).toArray 139)).alloc (.cells (nts l2).toArray 139)).alloc (.cells (nts l3).toArray 139)).alloc (.cells (nts l4).toArray 139)).alloc (.cells (nts l5).toArray 139)) ((((((w.alloc (.cells (nts l1).toArray 139)).alloc (.cells (nts l2).toArray 139)).alloc (.cells (nts l3).toArray 139)).alloc (.cells (nts l4).toArray 139)).alloc (.cells (nts l5).toArray 139)).alloc o) := (Below.refl _ _).alloc (by simp <;> omega) _
 simp only [World.size_alloc] at r2 r3 r4 r5 e
 have s4 := (r4.below ((Below.refl (w.heap.size + 4) _).alloc (by simp <;> omega) (.cells (nts l5).toArray 139)) (fun b hb => by have := hb.2; omega)).below b6 (fun b hb => by have := hb.2; omega)
 have s3 := ((r3.below ((Below.refl (w.heap.size + 3) _).alloc (by simp <;> omega) (.cells (nts l4).toArray 139)) (fun b hb => by have := hb.2; omega)).below ((Below.refl (w.heap.size + 4) _).alloc (by simp <;> omega) (.cells (nts l5).toArray 139)) (fun b hb => by have := hb.2; omega)).below b6 (fun b hb => by have := hb.2; omega)
 have s2 := (((r2.below ((Below.refl (w.heap.size + 2) _).alloc (by simp) (.cells (nts l3).toArray 139)) (fun b hb => by have := hb.2; omega)).below ((Below.refl (w.heap.size + 3) _).alloc (by simp <;> omega) (.cells (nts l4).toArray 139)) (fun b hb => by have := hb.2; omega)).below ((Below.refl (w.heap.size + 4) _).alloc (by simp <;> omega) (.cells (nts l5).toArray 139)) (fun b hb => by have := hb.2; omega)).below b6 (fun b hb => by have := hb.2; omega)
 have s1 := ((((r1.below ((Below.refl (w.heap.size + 1) _).alloc (by simp) (.cells (nts l2).toArray 139)) (fun b hb => by have := hb.2; omega)).below ((Below.refl (w.heap.size + 2) _).alloc (by simp) (.cells (nts l3).toArray 139)) (fun b hb => by have := hb.2; omega)).below ((Below.refl (w.heap.size + 3) _).alloc (by simp <;> omega) (.cells (nts l4).toArray 139)) (fun b hb => by have := hb.2; omega)).below ((Below.refl (w.heap.size + 4) _).alloc (by simp <;> omega) (.cells (nts l5).toArray 139)) (fun b hb => by have := hb.2; omega)).below b6 (fun b hb => by have := hb.2; omega)
 have s5 := r5.below b6 (fun b hb => by have := hb.2; omega)
 refine ⟨s1.mono ?_, s2.mono ?_, s3.mono ?_, s4.mono ?_, s5.mono ?_, e, by simp, ?_⟩
 any_goals (intro b hb; have h1 := hb.1; have h2 := hb.2; exact ⟨by omega, by omega⟩)
 exact ((((((Below.refl _ w).alloc (Nat.le_refl _) _).alloc (by simp) _).alloc (by simp <;> omega) _).alloc (by simp <;> omega) _).alloc (by simp <;> omega) _).alloc (by simp <;> omega) _

set_option maxRecDepth 100000 in
set_option maxHeartbeats 8000000 in
theorem of_p256 (w : World) : Calls Tryz.prog 136 #[.int .i64 1] w fun e w' => ∃ k g inv ml ol rl tl fl, e = .returned (.pointer (some ⟨k, 0, none⟩)) ∧ w.heap.size ≤ k ∧
 Num w' (In w.heap.size w'.heap.size) k g 32 4 inv (val 18446744073709551616 p256p) (val 18446744073709551616 p256b) p256p p256n p256b p256x p256y ml ol rl tl fl (some ⟨w.heap.size, 0, none⟩) (some ⟨w.heap.size + 1, 0, none⟩) (some ⟨w.heap.size + 1 + 1, 0, none⟩) (some ⟨w.heap.size + 1 + 1 + 1, 0, none⟩) (some ⟨w.heap.size + 1 + 1 + 1 + 1, 0, none⟩) 4 4 4 4 4 ∧ Below w.heap.size w w' := by
 obtain ⟨z, hz⟩ : ∃ z, z = World.alloc (((((w.alloc (.cells (nts p256p).toArray 139)).alloc (.cells (nts p256n).toArray 139)).alloc (.cells (nts p256b).toArray 139)).alloc (.cells (nts p256x).toArray 139)).alloc (.cells (nts p256y).toArray 139)) (.cells (kcells 32 (.slice (some ⟨w.heap.size, 0, none⟩) 4 4) (.slice (some ⟨w.heap.size + 1, 0, none⟩) 4 4) (.slice (some ⟨w.heap.size + 1 + 1, 0, none⟩) 4 4) (.slice (some ⟨w.heap.size + 1 + 1 + 1, 0, none⟩) 4 4) (.slice (some ⟨w.heap.size + 1 + 1 + 1 + 1, 0, none⟩) 4 4) (.pointer none) z6 z6).toArray 162) := ⟨_, rfl⟩
 obtain ⟨q1, q2, q3, q4, q5, q6, q7, q8⟩ := five_lits w p256p p256n p256b p256x p256y _ ⟨by decide, by decide⟩ ⟨by decide, by decide⟩ ⟨by decide, by decide⟩ ⟨by decide, by decide⟩ ⟨by decide, by decide⟩ z hz
 have hd : digs 18446744073709551616 (val 18446744073709551616 p256p) = p256p := digs_val (by omega) (by decide) (by decide)
 have hdl : (digs 18446744073709551616 (val 18446744073709551616 p256p)).length = 4 := by rw [hd]; rfl
 have hM1 : 1 < val 18446744073709551616 p256p := by decide +kernel
 have hMo : val 18446744073709551616 p256p % 2 = 1 := by decide +kernel
 have hM3 : 3 < val 18446744073709551616 p256p := by decide +kernel
 have hbM : val 18446744073709551616 p256b < val 18446744073709551616 p256p := by decide +kernel
 have hnew := znew_any _ _ _ p256p _ z q1 rfl hM1 hMo (by decide) (by rw [hdl]; omega)
 rw [hdl, q7] at hnew
 obtain ⟨M, hM⟩ : ∃ M, val 18446744073709551616 p256p = M := ⟨_, rfl⟩
 rw [hM] at hnew hM1 hMo hM3 hbM ⊢
 have Hnew := Lib.hid hnew
 have hb1 : p256p.length = 4 := rfl
 have Hz := Lib.hid hz
 have H2 := Hnew.out
 rw [hz, hb1] at H2
 have Hn2 := Lib.hid H2
 obtain ⟨K, hK⟩ : ∃ K, w.heap.size + 1 + 1 + 1 + 1 + 1 = K := ⟨_, rfl⟩
 clear hd hdl hnew H2 Hnew hz
 go_enter Tryz.func136, Tryz.ntmps136
 go_wp2_with fail
 refine Hn2.out.mono ?_
 rintro e w2 ⟨g, inv, ml, ol, rl, rfl, hg, hFR, hB2⟩
 rw [← Hz.out] at hB2
 rw [hK] at q6
 have hs2 := hB2.size
 have hG2 := (hB2.block K (by omega)).trans q6
 have k6 := blk_cell hG2 6
 rw [show (kcells 32 (.slice (some ⟨w.heap.size, 0, none⟩) 4 4) (.slice (some ⟨w.heap.size + 1, 0, none⟩) 4 4) (.slice (some ⟨w.heap.size + 1 + 1, 0, none⟩) 4 4) (.slice (some ⟨w.heap.size + 1 + 1 + 1, 0, none⟩) 4 4) (.slice (some ⟨w.heap.size + 1 + 1 + 1 + 1, 0, none⟩) 4 4) (.pointer none) z6 z6).toArray[6]? = some (.pointer none) by rfl] at k6
 have kf := blk_free hG2 6
 have hG3 := blk_set hG2 6 (.pointer (some ⟨g, 0, none⟩))
 rw [show (kcells 32 (.slice (some ⟨w.heap.size, 0, none⟩) 4 4) (.slice (some ⟨w.heap.size + 1, 0, none⟩) 4 4) (.slice (some ⟨w.heap.size + 1 + 1, 0, none⟩) 4 4) (.slice (some ⟨w.heap.size + 1 + 1 + 1, 0, none⟩) 4 4) (.slice (some ⟨w.heap.size + 1 + 1 + 1 + 1, 0, none⟩) 4 4) (.pointer none) z6 z6).toArray.setIfInBounds 6 (.pointer (some ⟨g, 0, none⟩)) = (kcells 32 (.slice (some ⟨w.heap.size, 0, none⟩) 4 4) (.slice (some ⟨w.heap.size + 1, 0, none⟩) 4 4) (.slice (some ⟨w.heap.size + 1 + 1, 0, none⟩) 4 4) (.slice (some ⟨w.heap.size + 1 + 1 + 1, 0, none⟩) 4 4) (.slice (some ⟨w.heap.size + 1 + 1 + 1 + 1, 0, none⟩) 4 4) (.pointer (some ⟨g, 0, none⟩)) z6 z6).toArray by rfl] at hG3
 have hgK : g ≠ K := by omega
 have hFR3 : FR (w2.setCell ⟨K, 6, none⟩ (.pointer (some ⟨g, 0, none⟩))) g 4 inv M ml ol rl := ⟨⟨⟨(Below.heap_setCell _ _ _ _ hgK).trans hFR.ff.fld.blk, hFR.ff.fld.m6, hFR.ff.fld.o6, hFR.ff.fld.r6⟩, hFR.ff.mlt, hFR.ff.mval, hFR.ff.mtake, hFR.ff.npos, hFR.ff.nle, hFR.ff.big, hFR.ff.invLt, hFR.ff.invV⟩, hFR.oelt, hFR.oval, hFR.relt, hFR.rval⟩
 have hB3 : Below K z (w2.setCell ⟨K, 6, none⟩ (.pointer (some ⟨g, 0, none⟩))) := (hB2.mono (show K ≤ w.heap.size + 6 by omega)).setCell (p := ⟨K, 6, none⟩) (Nat.le_refl _) _
 have hz3 : (w2.setCell ⟨K, 6, none⟩ (.pointer (some ⟨g, 0, none⟩))).heap.size = w2.heap.size := by simp [World.setCell]
 go_upto_region 9 with fail
 generalize w2.setCell ⟨K, 6, none⟩ (.pointer (some ⟨g, 0, none⟩)) = w3 at *
 have c6 := blk_cell hG3 6
 have c3 := blk_cell hG3 3
 rw [show (kcells 32 (.slice (some ⟨w.heap.size, 0, none⟩) 4 4) (.slice (some ⟨w.heap.size + 1, 0, none⟩) 4 4) (.slice (some ⟨w.heap.size + 1 + 1, 0, none⟩) 4 4) (.slice (some ⟨w.heap.size + 1 + 1 + 1, 0, none⟩) 4 4) (.slice (some ⟨w.heap.size + 1 + 1 + 1 + 1, 0, none⟩) 4 4) (.pointer (some ⟨g, 0, none⟩)) z6 z6).toArray[6]? = some (.pointer (some ⟨g, 0, none⟩)) by rfl] at c6
 rw [show (kcells 32 (.slice (some ⟨w.heap.size, 0, none⟩) 4 4) (.slice (some ⟨w.heap.size + 1, 0, none⟩) 4 4) (.slice (some ⟨w.heap.size + 1 + 1, 0, none⟩) 4 4) (.slice (some ⟨w.heap.size + 1 + 1 + 1, 0, none⟩) 4 4) (.slice (some ⟨w.heap.size + 1 + 1 + 1 + 1, 0, none⟩) 4 4) (.pointer (some ⟨g, 0, none⟩)) z6 z6).toArray[3]? = some (.slice (some ⟨w.heap.size + 1 + 1, 0, none⟩) 4 4) by rfl] at c3
 have hK3 : K < w3.heap.size := blk_lt hG3
 have q33 : RN w3 (In w.heap.size (w.heap.size + 5)) (some ⟨w.heap.size + 1 + 1, 0, none⟩) 4 p256b := q3.below hB3 (fun b hb => by have := hb.2; omega)
 have hof := of_any 3 w3.drew (by omega)
 rw [show digs 18446744073709551616 3 = [3] by rw [digs_pos (by omega) (by omega), Nat.mod_eq_of_lt (by omega), Nat.div_eq_of_lt (by omega), digs_zero]] at hof
 have hg3 : g < w3.heap.size := hFR3.ff.fld.lt
 have ht1 := fun (X : World) (hX : Below w3.heap.size w3 X) (A1 : Option Addr) (c1 : Nat) (hO : OB X w3.heap.size A1 c1 [3]) => zto_any _ A1 c1 [3] X (hFR3.below hX hg3) hO.rn (fun b hb => hb.2) (by simp) (by simp; exact hM3)
 have ht2 := fun (X : World) (hX : Below w3.heap.size w3 X) => zto_any _ _ 4 p256b X (hFR3.below hX hg3) (q33.below hX (fun b hb => by have := hb.2; omega)) (fun b hb => by have := hb.2; have := hX.size; omega) (by decide) hbM
 have Hof := Lib.hid hof
 have Ht1 := Lib.hid ht1
 have Ht2 := Lib.hid ht2
 clear hof ht1 ht2
 have c6d : w3.drew.cell? ⟨K, 6, none⟩ = some (.pointer (some ⟨g, 0, none⟩)) := c6
 have c3d : w3.drew.cell? ⟨K, 3, none⟩ = some (.slice (some ⟨w.heap.size + 1 + 1, 0, none⟩) 4 4) := c3
 go_region_held3 (fun w' => w'.cell? ⟨K, 6, none⟩ = some (.pointer (some ⟨g, 0, none⟩)) ∧ w'.cell? ⟨K, 3, none⟩ = some (.slice (some ⟨w.heap.size + 1 + 1, 0, none⟩) 4 4))
  (first | with_reducible exact ⟨set6 7 (by decide) (by decide) c63, set6 7 (by decide) (by decide) c33⟩ | with_reducible exact ⟨set6 13 (by decide) (by decide) (set6 7 (by decide) (by decide) c63), set6 13 (by decide) (by decide) (set6 7 (by decide) (by decide) c33)⟩ | exact ⟨c6, c3⟩ | exact ⟨c61, c31⟩ | exact ⟨c62, c32⟩ | exact ⟨c63, c33⟩)
  (first
   | (go_at_call 168; refine Hof.out.mono ?_; rintro e x1 ⟨A1, cc1, rfl, hO1, hx1'⟩; have hx1 : Below w3.heap.size w3 x1 := ⟨hx1'.os, hx1'.tape, hx1'.output, hx1'.size, hx1'.block⟩; have hO1' : OB x1 w3.heap.size A1 cc1 [3] := hO1; have c61 := (hx1.cell (p := ⟨K, 6, none⟩) hK3).trans c6; have c31 := (hx1.cell (p := ⟨K, 3, none⟩) hK3).trans c3; have T1 := Lib.hid (Ht1.out x1 hx1 A1 cc1 hO1'))
   | (go_at_call_has 172 A1; refine T1.out.mono ?_; rintro e x2 ⟨o3, rfl, hf3, hx2⟩; obtain ⟨u0, u1, u2, u3, u4, u5, hoe⟩ := six hf3.elt.six; have hve : EV o3 = .agg #[.int .u64 (u0 : Int), .int .u64 (u1 : Int), .int .u64 (u2 : Int), .int .u64 (u3 : Int), .int .u64 (u4 : Int), .int .u64 (u5 : Int)] := (by rw [hoe]; rfl); rw [hve]; clear hve; have Hoe := Lib.hid hoe; clear hoe; have hx12 := hx1.trans (hx2.mono hx1.size); have c62 := (hx12.cell (p := ⟨K, 6, none⟩) hK3).trans c6; have c32 := (hx12.cell (p := ⟨K, 3, none⟩) hK3).trans c3; have T2 := Lib.hid (Ht2.out x2 hx12))
   | (go_at_call 172; refine T2.out.mono ?_; rintro e x3 ⟨ob, rfl, hfb, hx3⟩; obtain ⟨v0, v1, v2, v3, v4, v5, hob⟩ := six hfb.elt.six; have hvb : EV ob = .agg #[.int .u64 (v0 : Int), .int .u64 (v1 : Int), .int .u64 (v2 : Int), .int .u64 (v3 : Int), .int .u64 (v4 : Int), .int .u64 (v5 : Int)] := (by rw [hob]; rfl); rw [hvb]; clear hvb; have Hob := Lib.hid hob; clear hob; have hx13 := hx12.trans (hx3.mono hx12.size); have c63 := (hx13.cell (p := ⟨K, 6, none⟩) hK3).trans c6; have c33 := (hx13.cell (p := ⟨K, 3, none⟩) hK3).trans c3; have hGx := (hx13.block K hK3).trans hG3; have dz := kcells_zero hGx; obtain ⟨d7, y7⟩ := dz 7 (by decide) (by decide); obtain ⟨d8, y8⟩ := dz 8 (by decide) (by decide); obtain ⟨d9, y9⟩ := dz 9 (by decide) (by decide); obtain ⟨d10, y10⟩ := dz 10 (by decide) (by decide); obtain ⟨d11, y11⟩ := dz 11 (by decide) (by decide); obtain ⟨d12, y12⟩ := dz 12 (by decide) (by decide); obtain ⟨d13, y13⟩ := dz 13 (by decide) (by decide); obtain ⟨d14, y14⟩ := dz 14 (by decide) (by decide); obtain ⟨d15, y15⟩ := dz 15 (by decide) (by decide); obtain ⟨d16, y16⟩ := dz 16 (by decide) (by decide); obtain ⟨d17, y17⟩ := dz 17 (by decide) (by decide); obtain ⟨d18, y18⟩ := dz 18 (by decide) (by decide); clear dz))
 obtain ⟨t1, t2, t3, t4⟩ := twelve hGx u0 u1 u2 u3 u4 u5 v0 v1 v2 v3 v4 v5
 have hB9 := t4 w.heap.size w (by omega) (q8.trans ((hB3.trans (hx13.mono (by omega))).mono (by have := q8.size; omega)))
 have hFR9 := hFR3.below hx13 hg3
 have hs3 : w3.heap.size ≤ x3.heap.size := hx13.size
 clear c61 c31 c62 c32 c63 c33 T1 T2 hGx hx1' hx1 hx2 hx3 hx12
 generalize ((((((((((((x3.setCell ⟨K, 7, none⟩ (.int .u64 (u0 : Int))).setCell ⟨K, 8, none⟩ (.int .u64 (u1 : Int))).setCell ⟨K, 9, none⟩ (.int .u64 (u2 : Int))).setCell ⟨K, 10, none⟩ (.int .u64 (u3 : Int))).setCell ⟨K, 11, none⟩ (.int .u64 (u4 : Int))).setCell ⟨K, 12, none⟩ (.int .u64 (u5 : Int))).setCell ⟨K, 13, none⟩ (.int .u64 (v0 : Int))).setCell ⟨K, 14, none⟩ (.int .u64 (v1 : Int))).setCell ⟨K, 15, none⟩ (.int .u64 (v2 : Int))).setCell ⟨K, 16, none⟩ (.int .u64 (v3 : Int))).setCell ⟨K, 17, none⟩ (.int .u64 (v4 : Int))).setCell ⟨K, 18, none⟩ (.int .u64 (v5 : Int))) = w9 at *
 have hFR9' : FR w9 g 4 inv M ml ol rl := ⟨⟨⟨(t2 g hgK).trans hFR9.ff.fld.blk, hFR9.ff.fld.m6, hFR9.ff.fld.o6, hFR9.ff.fld.r6⟩, hFR9.ff.mlt, hFR9.ff.mval, hFR9.ff.mtake, hFR9.ff.npos, hFR9.ff.nle, hFR9.ff.big, hFR9.ff.invLt, hFR9.ff.invV⟩, hFR9.oelt, hFR9.oval, hFR9.relt, hFR9.rval⟩
 have hz9 : w.heap.size + 6 ≤ w9.heap.size := by have := hB3.size; omega
 have hkeep : ∀ (l : List Nat) (A : Option Addr) (c : Nat), RN z (In w.heap.size (w.heap.size + 5)) A c l → RN w9 (In w.heap.size w9.heap.size) A c l := fun l A c hR =>
  (hR.keep fun q hq => World.cell?_of_block ((t2 q.block (by have := hq.2; omega)).trans ((hx13.block q.block (by have := hq.2; omega)).trans (hB3.block q.block (by have := hq.2; omega))))).mono fun b hb => ⟨hb.1, by have := hb.2; omega⟩
 have r1 := hkeep _ _ _ q1
 have r2 := hkeep _ _ _ q2
 have r3 := hkeep _ _ _ q3
 have r4 := hkeep _ _ _ q4
 have r5 := hkeep _ _ _ q5
 have ho3 := Hoe.out
 have hob := Hob.out
 rw [← ho3, ← hob] at t1
 have hfin : Num w9 (In w.heap.size w9.heap.size) K g 32 4 inv M (val 18446744073709551616 p256b) p256p p256n p256b p256x p256y ml ol rl o3 ob (some ⟨w.heap.size, 0, none⟩) (some ⟨w.heap.size + 1, 0, none⟩) (some ⟨w.heap.size + 1 + 1, 0, none⟩) (some ⟨w.heap.size + 1 + 1 + 1, 0, none⟩) (some ⟨w.heap.size + 1 + 1 + 1 + 1, 0, none⟩) 4 4 4 4 4 :=
  ⟨t1, r1, r2, r3, r4, r5, hFR9', hM, by have := hf3; simpa using this, hfb⟩
 have Hfin := Lib.hid hfin
 have HB9 := Lib.hid hB9
 clear hfin hB9 t1 t2 t3 t4 r1 r2 r3 r4 r5 hkeep hFR9 hFR9' hf3 hfb hFR3 hG3 q1 q2 q3 q4 q5 q6 q8
 go_wp2
 go_ret
 exact ⟨K, g, inv, ml, ol, rl, o3, ob, rfl, by omega, Hfin.out, HB9.out⟩
end Go.Proofs.YtendnkpiidhogaaGreat

namespace Go.Proofs.YtendnkpiidhogaaGreat
open Go.RowKit

def p384p : List Nat := [4294967295, 18446744069414584320, 18446744073709551614, 18446744073709551615, 18446744073709551615, 18446744073709551615]
def p384n : List Nat := [17072048233947408755, 6348401684107011962, 14367412456785391071, 18446744073709551615, 18446744073709551615, 18446744073709551615]
def p384b : List Nat := [3064076045283764975, 14291673747578343837, 221811693264799578, 1737717031765098770, 10992729701402291481, 12912154004749740004]
def p384x : List Nat := [4203087948775033527, 6125724927633205612, 6482722621138151992, 7934563412932533144, 10282218360005504372, 12288012358878168375]
def p384y : List Nat := [8809917716911230559, 747793036959711645, 16850834916486723776, 17938995913990739068, 6745997240412855337, 3897828414440483951]
set_option maxRecDepth 100000 in
set_option maxHeartbeats 8000000 in
theorem of_p384 (w : World) : Calls Tryz.prog 136 #[.int .i64 2] w fun e w' => ∃ k g inv ml ol rl tl fl, e = .returned (.pointer (some ⟨k, 0, none⟩)) ∧ w.heap.size ≤ k ∧
 Num w' (In w.heap.size w'.heap.size) k g 48 6 inv (val 18446744073709551616 p384p) (val 18446744073709551616 p384b) p384p p384n p384b p384x p384y ml ol rl tl fl (some ⟨w.heap.size, 0, none⟩) (some ⟨w.heap.size + 1, 0, none⟩) (some ⟨w.heap.size + 1 + 1, 0, none⟩) (some ⟨w.heap.size + 1 + 1 + 1, 0, none⟩) (some ⟨w.heap.size + 1 + 1 + 1 + 1, 0, none⟩) 6 6 6 6 6 ∧ Below w.heap.size w w' := by
 obtain ⟨z, hz⟩ : ∃ z, z = World.alloc (((((w.alloc (.cells (nts p384p).toArray 139)).alloc (.cells (nts p384n).toArray 139)).alloc (.cells (nts p384b).toArray 139)).alloc (.cells (nts p384x).toArray 139)).alloc (.cells (nts p384y).toArray 139)) (.cells (kcells 48 (.slice (some ⟨w.heap.size, 0, none⟩) 6 6) (.slice (some ⟨w.heap.size + 1, 0, none⟩) 6 6) (.slice (some ⟨w.heap.size + 1 + 1, 0, none⟩) 6 6) (.slice (some ⟨w.heap.size + 1 + 1 + 1, 0, none⟩) 6 6) (.slice (some ⟨w.heap.size + 1 + 1 + 1 + 1, 0, none⟩) 6 6) (.pointer none) z6 z6).toArray 162) := ⟨_, rfl⟩
 obtain ⟨q1, q2, q3, q4, q5, q6, q7, q8⟩ := five_lits w p384p p384n p384b p384x p384y _ ⟨by decide, by decide⟩ ⟨by decide, by decide⟩ ⟨by decide, by decide⟩ ⟨by decide, by decide⟩ ⟨by decide, by decide⟩ z hz
 have hd : digs 18446744073709551616 (val 18446744073709551616 p384p) = p384p := digs_val (by omega) (by decide) (by decide)
 have hdl : (digs 18446744073709551616 (val 18446744073709551616 p384p)).length = 6 := by rw [hd]; rfl
 have hM1 : 1 < val 18446744073709551616 p384p := by decide +kernel
 have hMo : val 18446744073709551616 p384p % 2 = 1 := by decide +kernel
 have hM3 : 3 < val 18446744073709551616 p384p := by decide +kernel
 have hbM : val 18446744073709551616 p384b < val 18446744073709551616 p384p := by decide +kernel
 have hnew := znew_any _ _ _ p384p _ z q1 rfl hM1 hMo (by decide) (by rw [hdl]; omega)
 rw [hdl, q7] at hnew
 obtain ⟨M, hM⟩ : ∃ M, val 18446744073709551616 p384p = M := ⟨_, rfl⟩
 rw [hM] at hnew hM1 hMo hM3 hbM ⊢
 have Hnew := Lib.hid hnew
 have hb1 : p384p.length = 6 := rfl
 have Hz := Lib.hid hz
 have H2 := Hnew.out
 rw [hz, hb1] at H2
 have Hn2 := Lib.hid H2
 obtain ⟨K, hK⟩ : ∃ K, w.heap.size + 1 + 1 + 1 + 1 + 1 = K := ⟨_, rfl⟩
 clear hd hdl hnew H2 Hnew hz
 go_enter Tryz.func136, Tryz.ntmps136
 go_wp2_with fail
 refine Hn2.out.mono ?_
 rintro e w2 ⟨g, inv, ml, ol, rl, rfl, hg, hFR, hB2⟩
 rw [← Hz.out] at hB2
 rw [hK] at q6
 have hs2 := hB2.size
 have hG2 := (hB2.block K (by omega)).trans q6
 have k6 := blk_cell hG2 6
 rw [show (kcells 48 (.slice (some ⟨w.heap.size, 0, none⟩) 6 6) (.slice (some ⟨w.heap.size + 1, 0, none⟩) 6 6) (.slice (some ⟨w.heap.size + 1 + 1, 0, none⟩) 6 6) (.slice (some ⟨w.heap.size + 1 + 1 + 1, 0, none⟩) 6 6) (.slice (some ⟨w.heap.size + 1 + 1 + 1 + 1, 0, none⟩) 6 6) (.pointer none) z6 z6).toArray[6]? = some (.pointer none) by rfl] at k6
 have kf := blk_free hG2 6
 have hG3 := blk_set hG2 6 (.pointer (some ⟨g, 0, none⟩))
 rw [show (kcells 48 (.slice (some ⟨w.heap.size, 0, none⟩) 6 6) (.slice (some ⟨w.heap.size + 1, 0, none⟩) 6 6) (.slice (some ⟨w.heap.size + 1 + 1, 0, none⟩) 6 6) (.slice (some ⟨w.heap.size + 1 + 1 + 1, 0, none⟩) 6 6) (.slice (some ⟨w.heap.size + 1 + 1 + 1 + 1, 0, none⟩) 6 6) (.pointer none) z6 z6).toArray.setIfInBounds 6 (.pointer (some ⟨g, 0, none⟩)) = (kcells 48 (.slice (some ⟨w.heap.size, 0, none⟩) 6 6) (.slice (some ⟨w.heap.size + 1, 0, none⟩) 6 6) (.slice (some ⟨w.heap.size + 1 + 1, 0, none⟩) 6 6) (.slice (some ⟨w.heap.size + 1 + 1 + 1, 0, none⟩) 6 6) (.slice (some ⟨w.heap.size + 1 + 1 + 1 + 1, 0, none⟩) 6 6) (.pointer (some ⟨g, 0, none⟩)) z6 z6).toArray by rfl] at hG3
 have hgK : g ≠ K := by omega
 have hFR3 : FR (w2.setCell ⟨K, 6, none⟩ (.pointer (some ⟨g, 0, none⟩))) g 6 inv M ml ol rl := ⟨⟨⟨(Below.heap_setCell _ _ _ _ hgK).trans hFR.ff.fld.blk, hFR.ff.fld.m6, hFR.ff.fld.o6, hFR.ff.fld.r6⟩, hFR.ff.mlt, hFR.ff.mval, hFR.ff.mtake, hFR.ff.npos, hFR.ff.nle, hFR.ff.big, hFR.ff.invLt, hFR.ff.invV⟩, hFR.oelt, hFR.oval, hFR.relt, hFR.rval⟩
 have hB3 : Below K z (w2.setCell ⟨K, 6, none⟩ (.pointer (some ⟨g, 0, none⟩))) := (hB2.mono (show K ≤ w.heap.size + 6 by omega)).setCell (p := ⟨K, 6, none⟩) (Nat.le_refl _) _
 have hz3 : (w2.setCell ⟨K, 6, none⟩ (.pointer (some ⟨g, 0, none⟩))).heap.size = w2.heap.size := by simp [World.setCell]
 go_upto_region 9 with fail
 generalize w2.setCell ⟨K, 6, none⟩ (.pointer (some ⟨g, 0, none⟩)) = w3 at *
 have c6 := blk_cell hG3 6
 have c3 := blk_cell hG3 3
 rw [show (kcells 48 (.slice (some ⟨w.heap.size, 0, none⟩) 6 6) (.slice (some ⟨w.heap.size + 1, 0, none⟩) 6 6) (.slice (some ⟨w.heap.size + 1 + 1, 0, none⟩) 6 6) (.slice (some ⟨w.heap.size + 1 + 1 + 1, 0, none⟩) 6 6) (.slice (some ⟨w.heap.size + 1 + 1 + 1 + 1, 0, none⟩) 6 6) (.pointer (some ⟨g, 0, none⟩)) z6 z6).toArray[6]? = some (.pointer (some ⟨g, 0, none⟩)) by rfl] at c6
 rw [show (kcells 48 (.slice (some ⟨w.heap.size, 0, none⟩) 6 6) (.slice (some ⟨w.heap.size + 1, 0, none⟩) 6 6) (.slice (some ⟨w.heap.size + 1 + 1, 0, none⟩) 6 6) (.slice (some ⟨w.heap.size + 1 + 1 + 1, 0, none⟩) 6 6) (.slice (some ⟨w.heap.size + 1 + 1 + 1 + 1, 0, none⟩) 6 6) (.pointer (some ⟨g, 0, none⟩)) z6 z6).toArray[3]? = some (.slice (some ⟨w.heap.size + 1 + 1, 0, none⟩) 6 6) by rfl] at c3
 have hK3 : K < w3.heap.size := blk_lt hG3
 have q33 : RN w3 (In w.heap.size (w.heap.size + 5)) (some ⟨w.heap.size + 1 + 1, 0, none⟩) 6 p384b := q3.below hB3 (fun b hb => by have := hb.2; omega)
 have hof := of_any 3 w3.drew (by omega)
 rw [show digs 18446744073709551616 3 = [3] by rw [digs_pos (by omega) (by omega), Nat.mod_eq_of_lt (by omega), Nat.div_eq_of_lt (by omega), digs_zero]] at hof
 have hg3 : g < w3.heap.size := hFR3.ff.fld.lt
 have ht1 := fun (X : World) (hX : Below w3.heap.size w3 X) (A1 : Option Addr) (c1 : Nat) (hO : OB X w3.heap.size A1 c1 [3]) => zto_any _ A1 c1 [3] X (hFR3.below hX hg3) hO.rn (fun b hb => hb.2) (by simp) (by simp; exact hM3)
 have ht2 := fun (X : World) (hX : Below w3.heap.size w3 X) => zto_any _ _ 6 p384b X (hFR3.below hX hg3) (q33.below hX (fun b hb => by have := hb.2; omega)) (fun b hb => by have := hb.2; have := hX.size; omega) (by decide) hbM
 have Hof := Lib.hid hof
 have Ht1 := Lib.hid ht1
 have Ht2 := Lib.hid ht2
 clear hof ht1 ht2
 have c6d : w3.drew.cell? ⟨K, 6, none⟩ = some (.pointer (some ⟨g, 0, none⟩)) := c6
 have c3d : w3.drew.cell? ⟨K, 3, none⟩ = some (.slice (some ⟨w.heap.size + 1 + 1, 0, none⟩) 6 6) := c3
 go_region_held3 (fun w' => w'.cell? ⟨K, 6, none⟩ = some (.pointer (some ⟨g, 0, none⟩)) ∧ w'.cell? ⟨K, 3, none⟩ = some (.slice (some ⟨w.heap.size + 1 + 1, 0, none⟩) 6 6))
  (first | with_reducible exact ⟨set6 7 (by decide) (by decide) c63, set6 7 (by decide) (by decide) c33⟩ | with_reducible exact ⟨set6 13 (by decide) (by decide) (set6 7 (by decide) (by decide) c63), set6 13 (by decide) (by decide) (set6 7 (by decide) (by decide) c33)⟩ | exact ⟨c6, c3⟩ | exact ⟨c61, c31⟩ | exact ⟨c62, c32⟩ | exact ⟨c63, c33⟩)
  (first
   | (go_at_call 168; refine Hof.out.mono ?_; rintro e x1 ⟨A1, cc1, rfl, hO1, hx1'⟩; have hx1 : Below w3.heap.size w3 x1 := ⟨hx1'.os, hx1'.tape, hx1'.output, hx1'.size, hx1'.block⟩; have hO1' : OB x1 w3.heap.size A1 cc1 [3] := hO1; have c61 := (hx1.cell (p := ⟨K, 6, none⟩) hK3).trans c6; have c31 := (hx1.cell (p := ⟨K, 3, none⟩) hK3).trans c3; have T1 := Lib.hid (Ht1.out x1 hx1 A1 cc1 hO1'))
   | (go_at_call_has 172 A1; refine T1.out.mono ?_; rintro e x2 ⟨o3, rfl, hf3, hx2⟩; obtain ⟨u0, u1, u2, u3, u4, u5, hoe⟩ := six hf3.elt.six; have hve : EV o3 = .agg #[.int .u64 (u0 : Int), .int .u64 (u1 : Int), .int .u64 (u2 : Int), .int .u64 (u3 : Int), .int .u64 (u4 : Int), .int .u64 (u5 : Int)] := (by rw [hoe]; rfl); rw [hve]; clear hve; have Hoe := Lib.hid hoe; clear hoe; have hx12 := hx1.trans (hx2.mono hx1.size); have c62 := (hx12.cell (p := ⟨K, 6, none⟩) hK3).trans c6; have c32 := (hx12.cell (p := ⟨K, 3, none⟩) hK3).trans c3; have T2 := Lib.hid (Ht2.out x2 hx12))
   | (go_at_call 172; refine T2.out.mono ?_; rintro e x3 ⟨ob, rfl, hfb, hx3⟩; obtain ⟨v0, v1, v2, v3, v4, v5, hob⟩ := six hfb.elt.six; have hvb : EV ob = .agg #[.int .u64 (v0 : Int), .int .u64 (v1 : Int), .int .u64 (v2 : Int), .int .u64 (v3 : Int), .int .u64 (v4 : Int), .int .u64 (v5 : Int)] := (by rw [hob]; rfl); rw [hvb]; clear hvb; have Hob := Lib.hid hob; clear hob; have hx13 := hx12.trans (hx3.mono hx12.size); have c63 := (hx13.cell (p := ⟨K, 6, none⟩) hK3).trans c6; have c33 := (hx13.cell (p := ⟨K, 3, none⟩) hK3).trans c3; have hGx := (hx13.block K hK3).trans hG3; have dz := kcells_zero hGx; obtain ⟨d7, y7⟩ := dz 7 (by decide) (by decide); obtain ⟨d8, y8⟩ := dz 8 (by decide) (by decide); obtain ⟨d9, y9⟩ := dz 9 (by decide) (by decide); obtain ⟨d10, y10⟩ := dz 10 (by decide) (by decide); obtain ⟨d11, y11⟩ := dz 11 (by decide) (by decide); obtain ⟨d12, y12⟩ := dz 12 (by decide) (by decide); obtain ⟨d13, y13⟩ := dz 13 (by decide) (by decide); obtain ⟨d14, y14⟩ := dz 14 (by decide) (by decide); obtain ⟨d15, y15⟩ := dz 15 (by decide) (by decide); obtain ⟨d16, y16⟩ := dz 16 (by decide) (by decide); obtain ⟨d17, y17⟩ := dz 17 (by decide) (by decide); obtain ⟨d18, y18⟩ := dz 18 (by decide) (by decide); clear dz))
 obtain ⟨t1, t2, t3, t4⟩ := twelve hGx u0 u1 u2 u3 u4 u5 v0 v1 v2 v3 v4 v5
 have hB9 := t4 w.heap.size w (by omega) (q8.trans ((hB3.trans (hx13.mono (by omega))).mono (by have := q8.size; omega)))
 have hFR9 := hFR3.below hx13 hg3
 have hs3 : w3.heap.size ≤ x3.heap.size := hx13.size
 clear c61 c31 c62 c32 c63 c33 T1 T2 hGx hx1' hx1 hx2 hx3 hx12
 generalize ((((((((((((x3.setCell ⟨K, 7, none⟩ (.int .u64 (u0 : Int))).setCell ⟨K, 8, none⟩ (.int .u64 (u1 : Int))).setCell ⟨K, 9, none⟩ (.int .u64 (u2 : Int))).setCell ⟨K, 10, none⟩ (.int .u64 (u3 : Int))).setCell ⟨K, 11, none⟩ (.int .u64 (u4 : Int))).setCell ⟨K, 12, none⟩ (.int .u64 (u5 : Int))).setCell ⟨K, 13, none⟩ (.int .u64 (v0 : Int))).setCell ⟨K, 14, none⟩ (.int .u64 (v1 : Int))).setCell ⟨K, 15, none⟩ (.int .u64 (v2 : Int))).setCell ⟨K, 16, none⟩ (.int .u64 (v3 : Int))).setCell ⟨K, 17, none⟩ (.int .u64 (v4 : Int))).setCell ⟨K, 18, none⟩ (.int .u64 (v5 : Int))) = w9 at *
 have hFR9' : FR w9 g 6 inv M ml ol rl := ⟨⟨⟨(t2 g hgK).trans hFR9.ff.fld.blk, hFR9.ff.fld.m6, hFR9.ff.fld.o6, hFR9.ff.fld.r6⟩, hFR9.ff.mlt, hFR9.ff.mval, hFR9.ff.mtake, hFR9.ff.npos, hFR9.ff.nle, hFR9.ff.big, hFR9.ff.invLt, hFR9.ff.invV⟩, hFR9.oelt, hFR9.oval, hFR9.relt, hFR9.rval⟩
 have hz9 : w.heap.size + 6 ≤ w9.heap.size := by have := hB3.size; omega
 have hkeep : ∀ (l : List Nat) (A : Option Addr) (c : Nat), RN z (In w.heap.size (w.heap.size + 5)) A c l → RN w9 (In w.heap.size w9.heap.size) A c l := fun l A c hR =>
  (hR.keep fun q hq => World.cell?_of_block ((t2 q.block (by have := hq.2; omega)).trans ((hx13.block q.block (by have := hq.2; omega)).trans (hB3.block q.block (by have := hq.2; omega))))).mono fun b hb => ⟨hb.1, by have := hb.2; omega⟩
 have r1 := hkeep _ _ _ q1
 have r2 := hkeep _ _ _ q2
 have r3 := hkeep _ _ _ q3
 have r4 := hkeep _ _ _ q4
 have r5 := hkeep _ _ _ q5
 have ho3 := Hoe.out
 have hob := Hob.out
 rw [← ho3, ← hob] at t1
 have hfin : Num w9 (In w.heap.size w9.heap.size) K g 48 6 inv M (val 18446744073709551616 p384b) p384p p384n p384b p384x p384y ml ol rl o3 ob (some ⟨w.heap.size, 0, none⟩) (some ⟨w.heap.size + 1, 0, none⟩) (some ⟨w.heap.size + 1 + 1, 0, none⟩) (some ⟨w.heap.size + 1 + 1 + 1, 0, none⟩) (some ⟨w.heap.size + 1 + 1 + 1 + 1, 0, none⟩) 6 6 6 6 6 :=
  ⟨t1, r1, r2, r3, r4, r5, hFR9', hM, by have := hf3; simpa using this, hfb⟩
 have Hfin := Lib.hid hfin
 have HB9 := Lib.hid hB9
 clear hfin hB9 t1 t2 t3 t4 r1 r2 r3 r4 r5 hkeep hFR9 hFR9' hf3 hfb hFR3 hG3 q1 q2 q3 q4 q5 q6 q8
 go_wp2
 go_ret
 exact ⟨K, g, inv, ml, ol, rl, o3, ob, rfl, by omega, Hfin.out, HB9.out⟩
end Go.Proofs.YtendnkpiidhogaaGreat

namespace Go.Proofs.YtendnkpiidhogaaGreat
open Go.RowKit

def BlkE (X : World) (b : Nat) (l : List Nat) : Prop := X.heap[b]? = some (.cells (nts l).toArray 160 (0, 0))
theorem BlkE.ext {X Y : World} {b : Nat} {l : List Nat} (h : BlkE X b l) (hE : Ext X Y) : BlkE Y b l := hE.at_ h
theorem BlkE.range {X : World} {b : Nat} {l : List Nat} (h : BlkE X b l) : X.rangeAt b 0 (nts l) := fun j v hv => by
 rw [Nat.zero_add, blk_cell h j]
 simpa using hv
theorem BlkE.lt {X : World} {b : Nat} {l : List Nat} (h : BlkE X b l) : b < X.heap.size := blk_lt h
theorem infoE : (Tryz.prog.info? 160).map (·.size) = some 6 := by kernel_rfl
theorem loadE {X : World} {b o : Nat} {l : List Nat} (h : X.rangeAt b o (nts l)) (h6 : l.length = 6) : (Instr.loadAt 160 (.pointer (some ⟨b, o, none⟩))).run Tryz.prog X = .ok (EV l) X :=
 run_loadAt_mid X b o 160 (nts l) _ h Tryz.underlying160 rfl (by rw [nts_length, h6]; exact infoE)
structure Lay (b : Nat) (l : List Nat) (X Y : World) : Prop where
 just : Just b X Y
 blk : BlkE Y b l
 size : Y.heap.size = X.heap.size
theorem storeE {X : World} {b : Nat} {l : List Nat} {cs : List Value} (h : X.heap[b]? = some (.cells cs.toArray 160 (0, 0))) (hc : cs.length = 6) (h6 : l.length = 6) :
 ∃ Y, (Instr.storeAt 160 (.pointer (some ⟨b, 0, none⟩)) (EV l)).run Tryz.prog X = .ok () Y ∧ Lay b l X Y := by
 have ht : X.there b 0 (nts l).toArray.size := fun j hj => by
  have hj' : j < 6 := by simpa [nts, h6] using hj
  refine ⟨?_, blk_free h _⟩
  rw [Nat.zero_add, blk_cell h j]
  simp [hc, hj']
 have hr := run_storeAt_mid (P := Tryz.prog) X b 0 160 (nts l).toArray ht (by rw [List.size_toArray, nts_length, h6]; exact infoE) (all_oneCell_toArray (oneCell_nts l))
 obtain ⟨a0, a1, a2, a3, a4, a5, rfl⟩ := six h6
 obtain ⟨c0, c1, c2, c3, c4, c5, rfl⟩ : ∃ a b c d e f, cs = [a, b, c, d, e, f] := by
  match cs, hc with
  | [a, b, c, d, e, f], _ => exact ⟨a, b, c, d, e, f, rfl⟩
 refine ⟨_, hr, ?_⟩
 have e : X.setCells b 0 (nts [a0, a1, a2, a3, a4, a5]).toArray.toList = ((((((X.setCell ⟨b, 0, none⟩ (.int .u64 (a0 : Int))).setCell ⟨b, 0 + 1, none⟩ (.int .u64 (a1 : Int))).setCell ⟨b, 0 + 2, none⟩ (.int .u64 (a2 : Int))).setCell ⟨b, 0 + 3, none⟩ (.int .u64 (a3 : Int))).setCell ⟨b, 0 + 4, none⟩ (.int .u64 (a4 : Int))).setCell ⟨b, 0 + 5, none⟩ (.int .u64 (a5 : Int))) := rfl
 rw [e]
 refine ⟨((((((Just.refl b X).set _ _).set _ _).set _ _).set _ _).set _ _).set _ _, ?_, by simp [World.setCell]⟩
 exact six_mid [] [] (j := 0) rfl h
theorem wp_loadE {op : Oper} {a : Act} {X : World} {K : Act → World → Prop} {Q : Exit → Act → World → Prop} (x : Operand) (ho : op.op = .load 160 x) {b o : Nat} {l : List Nat} (hx : a.eval x = .pointer (some ⟨b, o, none⟩)) (h : X.rangeAt b o (nts l)) (h6 : l.length = 6) (hK : K (a.put op.dst (EV l)) X) : op.wp Tryz.prog a X K Q :=
 wp_load_mid 160 x ho b o hx (nts l) _ h Tryz.underlying160 rfl (by rw [nts_length, h6]; exact infoE) hK
theorem wp_storeE {op : Oper} {a : Act} {X : World} {K : Act → World → Prop} {Q : Exit → Act → World → Prop} (x y : Operand) (ho : op.op = .store 160 x y) (hd : op.dst = none) {b : Nat} {l : List Nat} {cs : List Value}
 (hx : a.eval x = .pointer (some ⟨b, 0, none⟩)) (hy : a.eval y = EV l) (h : X.heap[b]? = some (.cells cs.toArray 160 (0, 0))) (hc : cs.length = 6) (h6 : l.length = 6) (hK : ∀ Y, Lay b l X Y → K a Y) : op.wp Tryz.prog a X K Q := by
 obtain ⟨Y, hr, hl⟩ := storeE h hc h6
 unfold Oper.wp execOp
 simp only [ho, hx, hy, Sem.run_bind, hr, Result.andThen_ok]
 rw [Sem.run_pure]
 show K (a.put op.dst undef) Y
 rw [hd]
 exact hK Y hl
theorem Lay.ext {b : Nat} {l : List Nat} {w X Y : World} (h : Lay b l X Y) (hE : Ext w X) (hb : w.heap.size ≤ b) : Ext w Y := Below.trans hE (h.just.below hb hE.bsize)
theorem Lay.other {b c : Nat} {l : List Nat} {X Y : World} {o : Obj} (h : Lay b l X Y) (hc : c ≠ b) (hx : X.heap[c]? = some o) : Y.heap[c]? = some o := (h.just.block c (blk_lt hx) hc).trans hx
def VE (X : World) (M n b x : Nat) : Prop := ∃ l, BlkE X b l ∧ FE M n l x
theorem VE.ext {X Y : World} {M n b x : Nat} (h : VE X M n b x) (hE : Ext X Y) : VE Y M n b x := let ⟨l, h1, h2⟩ := h; ⟨l, h1.ext hE, h2⟩
theorem VE.load {X : World} {M n b x : Nat} (h : VE X M n b x) : ∃ l, (Instr.loadAt 160 (.pointer (some ⟨b, 0, none⟩))).run Tryz.prog X = .ok (EV l) X ∧ FE M n l x := let ⟨l, h1, h2⟩ := h; ⟨l, loadE h1.range h2.elt.six, h2⟩
theorem Lay.ve {b c x M n : Nat} {l : List Nat} {X Y : World} (h : Lay b l X Y) (hc : c ≠ b) (hx : VE X M n c x) : VE Y M n c x := let ⟨o, h1, h2⟩ := hx; ⟨o, h.other hc h1, h2⟩
theorem Lay.mk' {b x M n : Nat} {l : List Nat} {X Y : World} (h : Lay b l X Y) (hf : FE M n l x) : VE Y M n b x := ⟨l, h.blk, hf⟩

section
variable {Q : Exit → Act → World → Prop} {ol : List Oper} {m : Nat} {L AL : List Nat} {R : Nat → (Nat → Value) → World → Prop} {a : Act} {w : World} {F : List Oper → Prop} {k n : Nat} {o : Oper} {l : List Oper} {u : Value}
theorem lE (k' n' j : Nat) {b i M n1 z : Nat} {e : List Nat} {x : Operand} (h : ∀ X, Ext w X → X.rangeAt b i (nts e)) (hf : FE M n1 e z) (hs : Par.AllOps (Par.StepO Tryz.prog ol Q Ext m L AL R a w) F k' n' l) (hr : ∀ f X, R j (Par.mask (fun i => L.getD i 0) j f) X → f j = u := by exact fun _ _ h => h) (hR : ∀ f X, (∃ o, f k = EV o ∧ FE M n1 o z) → R k (Par.mask (fun i => L.getD i 0) k f) X := by exact fun _ _ h => h) (hk : k + 1 = k' := by rfl) (hn : n' + 1 = n := by rfl) (ha : AL.contains k = false := by kernel_rfl)
 (hj : (L.getD k 0).testBit j = true := by kernel_rfl)
 (hw : ∀ f, Region.wanted o (yielded ol.toArray (Par.put ol.toArray (Par.nd (fun i => L.getD i 0) k) (Par.upd f j u) (List.range m) a).tmps) = true := by intro _; kernel_rfl)
 (ho : o.op = .load 160 x := by rfl) (hx : ∀ f, (Par.put ol.toArray (Par.nd (fun i => L.getD i 0) k) (Par.upd f j u) (List.range m) a).eval x = .pointer (some ⟨b, i, none⟩) := by intro _; kernel_rfl) : Par.AllOps (Par.StepO Tryz.prog ol Q Ext m L AL R a w) F k n (o :: l) :=
 Par.vx (v := EV e) (fun f => Par.upd f j u) hs (fun f X h => Par.upd_self (hr f X (h j hj))) (fun f X h => hR f X ⟨e, h, hf⟩) hk hn ha hw (fun f X hX => by
  have hrun := run_loadAt_mid (P := Tryz.prog) X b i 160 (nts e) _ (h X hX) Tryz.underlying160 rfl (by rw [nts_length, hf.elt.six]; exact infoE)
  unfold execOp
  simp only [ho, Sem.run_bind, hx, hrun, Result.andThen_ok]
  rfl)
theorem lX (k' n' : Nat) {b i M n1 z : Nat} {x : Operand} (h : ∀ X, Ext w X → ∃ e, X.rangeAt b i (nts e) ∧ FE M n1 e z) (hs : Par.AllOps (Par.StepO Tryz.prog ol Q Ext m L AL R a w) F k' n' l) (hR : ∀ f X, (∃ o, f k = EV o ∧ FE M n1 o z) → R k (Par.mask (fun i => L.getD i 0) k f) X := by exact fun _ _ h => h) (hk : k + 1 = k' := by rfl) (hn : n' + 1 = n := by rfl) (ha : AL.contains k = false := by kernel_rfl)
 (hw : ∀ f, Region.wanted o (yielded ol.toArray (Par.put ol.toArray (Par.nd (fun i => L.getD i 0) k) f (List.range m) a).tmps) = true := by intro _; kernel_rfl)
 (ho : o.op = .load 160 x := by rfl) (hx : ∀ f, (Par.put ol.toArray (Par.nd (fun i => L.getD i 0) k) f (List.range m) a).eval x = .pointer (some ⟨b, i, none⟩) := by intro _; kernel_rfl) : Par.AllOps (Par.StepO Tryz.prog ol Q Ext m L AL R a w) F k n (o :: l) :=
 Par.vy hs hk hn ha hw (fun f X hX => by
  obtain ⟨e, h1, hf⟩ := h X hX
  have hrun := run_loadAt_mid (P := Tryz.prog) X b i 160 (nts e) _ h1 Tryz.underlying160 rfl (by rw [nts_length, hf.elt.six]; exact infoE)
  refine ⟨EV e, ?_, fun Y _ => hR _ _ ⟨e, by simp [Par.upd], hf⟩⟩
  unfold execOp
  simp only [ho, Sem.run_bind, hx, hrun, Result.andThen_ok]
  rfl)
theorem fc (k' n' i j j' : Nat) {F' : FuncId} {pf : Value} {M n1 x y z z' : Nat} (hc : ∀ X, Ext w X → ∀ o1 o2, FE M n1 o1 x → FE M n1 o2 y → Calls Tryz.prog F' #[pf, EV o1, EV o2] X fun e w' => ∃ o, e = .returned (EV o) ∧ FE M n1 o z' ∧ Ext X w') (hz : z' = z) (hs : Par.AllOps (Par.StepO Tryz.prog ol Q Ext m L AL R a w) F k' n' l)
 (hr : ∀ f X, R i (Par.mask (fun i => L.getD i 0) i f) X → f i = pf := by exact fun _ _ h => h) (h1 : ∀ f X, R j (Par.mask (fun i => L.getD i 0) j f) X → ∃ o, f j = EV o ∧ FE M n1 o x := by exact fun _ _ h => h) (h2 : ∀ f X, R j' (Par.mask (fun i => L.getD i 0) j' f) X → ∃ o, f j' = EV o ∧ FE M n1 o y := by exact fun _ _ h => h)
 (hR : ∀ f X, (∃ o, f k = EV o ∧ FE M n1 o z) → R k (Par.mask (fun i => L.getD i 0) k f) X := by exact fun _ _ h => h) (hk : k + 1 = k' := by rfl) (hn : n' + 1 = n := by rfl) (ha : AL.contains k = false := by kernel_rfl) (hi : (L.getD k 0).testBit i = true := by kernel_rfl) (hj : (L.getD k 0).testBit j = true := by kernel_rfl) (hj' : (L.getD k 0).testBit j' = true := by kernel_rfl)
 (hw : ∀ f, Region.wanted o (yielded ol.toArray (Par.put ol.toArray (Par.nd (fun i => L.getD i 0) k) f (List.range m) a).tmps) = true := by intro _; kernel_rfl)
 (hrun : ∀ f X, (execOp (Par.put ol.toArray (Par.nd (fun i => L.getD i 0) k) f (List.range m) a).eval o).run Tryz.prog X = .ok (.enter F' #[f i, f j, f j']) X := by intro _ _; kernel_rfl) : Par.AllOps (Par.StepO Tryz.prog ol Q Ext m L AL R a w) F k n (o :: l) :=
 Par.cx (args := fun f => #[f i, f j, f j']) hs hk hn ha (fun f _ _ => hw f) hrun fun f X hX h => by
  obtain ⟨o1, e1, g1⟩ := h1 f X (h.out j hj)
  obtain ⟨o2, e2, g2⟩ := h2 f X (h.out j' hj')
  rw [hr f X (h.out i hi), e1, e2]
  refine (hc X hX o1 o2 g1 g2).mono ?_
  rintro e w' ⟨v, rfl, hv, hE⟩
  exact ⟨EV v, rfl, hE, fun Y _ => hR _ _ ⟨v, by simp [Par.upd], hz ▸ hv⟩⟩
end

section
variable {w X : World} {P0 : Nat → Prop} {k g size n inv M bb : Nat} {pl nl bl xl yl ml ol rl tl fl : List Nat} {Ap An Ab Ax Ay : Option Addr} {cp cn cb cx cy : Nat}
theorem Num.ext (h : Num w P0 k g size n inv M bb pl nl bl xl yl ml ol rl tl fl Ap An Ab Ax Ay cp cn cb cx cy) (hP : ∀ b, P0 b → b < w.heap.size) (hE : Ext w X) : Num X P0 k g size n inv M bb pl nl bl xl yl ml ol rl tl fl Ap An Ab Ax Ay cp cn cb cx cy :=
 ⟨hE.at_ h.blk, h.p.below hE hP, h.nn.below hE hP, h.b.below hE hP, h.x.below hE hP, h.y.below hE hP, h.fr.below hE h.fr.ff.fld.lt, h.pv, h.three, h.fb⟩
theorem Num.c_size (h : Num w P0 k g size n inv M bb pl nl bl xl yl ml ol rl tl fl Ap An Ab Ax Ay cp cn cb cx cy) : w.cell? ⟨k, 0, none⟩ = some (.int .i64 (size : Int)) := blk_cell h.blk 0
theorem Num.c_p (h : Num w P0 k g size n inv M bb pl nl bl xl yl ml ol rl tl fl Ap An Ab Ax Ay cp cn cb cx cy) : w.cell? ⟨k, 1, none⟩ = some (.slice Ap pl.length cp) := blk_cell h.blk 1
theorem Num.c_n (h : Num w P0 k g size n inv M bb pl nl bl xl yl ml ol rl tl fl Ap An Ab Ax Ay cp cn cb cx cy) : w.cell? ⟨k, 2, none⟩ = some (.slice An nl.length cn) := blk_cell h.blk 2
theorem Num.c_x (h : Num w P0 k g size n inv M bb pl nl bl xl yl ml ol rl tl fl Ap An Ab Ax Ay cp cn cb cx cy) : w.cell? ⟨k, 4, none⟩ = some (.slice Ax xl.length cx) := blk_cell h.blk 4
theorem Num.c_y (h : Num w P0 k g size n inv M bb pl nl bl xl yl ml ol rl tl fl Ap An Ab Ax Ay cp cn cb cx cy) : w.cell? ⟨k, 5, none⟩ = some (.slice Ay yl.length cy) := blk_cell h.blk 5
theorem Num.c_f (h : Num w P0 k g size n inv M bb pl nl bl xl yl ml ol rl tl fl Ap An Ab Ax Ay cp cn cb cx cy) : w.cell? ⟨k, 6, none⟩ = some (.pointer (some ⟨g, 0, none⟩)) := blk_cell h.blk 6
theorem Num.r_three (h : Num w P0 k g size n inv M bb pl nl bl xl yl ml ol rl tl fl Ap An Ab Ax Ay cp cn cb cx cy) : w.rangeAt k 7 (nts tl) := fun j v hv => by
 rw [blk_cell h.blk]
 obtain ⟨a, b, c, d, e, f, rfl⟩ := six h.three.elt.six
 match j, hv with
 | 0, hv | 1, hv | 2, hv | 3, hv | 4, hv | 5, hv => exact hv
 | j + 6, hv => simp [nts] at hv
theorem Num.r_fb (h : Num w P0 k g size n inv M bb pl nl bl xl yl ml ol rl tl fl Ap An Ab Ax Ay cp cn cb cx cy) : w.rangeAt k 13 (nts fl) := fun j v hv => by
 rw [blk_cell h.blk]
 obtain ⟨a, b, c, d, e, f, rfl⟩ := six h.three.elt.six
 obtain ⟨a, b, c, d, e, f, rfl⟩ := six h.fb.elt.six
 match j, hv with
 | 0, hv | 1, hv | 2, hv | 3, hv | 4, hv | 5, hv => exact hv
 | j + 6, hv => simp [nts] at hv
theorem Num.six (h : Num w P0 k g size n inv M bb pl nl bl xl yl ml ol rl tl fl Ap An Ab Ax Ay cp cn cb cx cy) {x : Nat} (hx : x < M) : (digs 18446744073709551616 x).length ≤ 6 :=
 digs_length_of_lt (by omega) (Nat.lt_of_lt_of_le (Nat.lt_trans hx h.fr.ff.room) (Nat.pow_le_pow_right (by omega) h.fr.ff.nle))
end
end Go.Proofs.YtendnkpiidhogaaGreat

namespace Go.Proofs.YtendnkpiidhogaaGreat
open Go.RowKit

def onB (M bb x y : Nat) : Bool := decide (x < M) && decide (y < M) && decide (y * y % M = ((x * x % M * x % M + M - 3 * x % M) % M + bb) % M)

set_option maxRecDepth 100000 in
set_option maxHeartbeats 8000000 in
theorem on_any {P0 : Nat → Prop} {k g size n inv M bb : Nat} {pl nl bl xl yl ml ol rl tl fl : List Nat} {Ap An Ab Ax Ay : Option Addr} {cp cn cb cx cy : Nat} (Pa Pb : Nat → Prop) (A A' : Option Addr) (c c' : Nat) (a b : List Nat) (inf : Bool) (w : World)
 (hk : Num w P0 k g size n inv M bb pl nl bl xl yl ml ol rl tl fl Ap An Ab Ax Ay cp cn cb cx cy) (hP0 : ∀ b, P0 b → b < w.heap.size) (h : RN w Pa A c a) (h' : RN w Pb A' c' b) (hPa : ∀ b, Pa b → b < w.heap.size) (hPb : ∀ b, Pb b → b < w.heap.size) (hM3 : 3 < M) (_hbM : bb < M) :
 Calls Tryz.prog 138 #[.pointer (some ⟨k, 0, none⟩), .agg #[.bool inf, .slice A a.length c, .slice A' b.length c']] w fun e w' => e = .returned (.bool (inf || onB M bb (val 18446744073709551616 a) (val 18446744073709551616 b))) ∧ Below w.heap.size w w' := by
 cases inf
 case true =>
  go_enter Tryz.func138, Tryz.ntmps138
  go_wp2
  go_ret
  exact ⟨rfl, (Below.refl _ w).alloc (Nat.le_refl _) _⟩
 case false =>
  rw [Bool.false_or]
  have hkl := blk_lt hk.blk
  have hgl := hk.fr.ff.fld.lt
  obtain ⟨W0, hW0⟩ : ∃ W0, W0 = w.alloc (.cells #[.bool false, .slice A a.length c, .slice A' b.length c'] 114) := ⟨_, rfl⟩
  have hB0 : Ext w W0 := by rw [hW0]; exact Ext.alloc _ _
  have hz0 : W0.heap.size = w.heap.size + 1 := by rw [hW0]; simp
  obtain ⟨q, hq⟩ : ∃ q, w.heap.size = q := ⟨_, rfl⟩
  have hbx : W0.heap[q]? = some (.cells #[.bool false, .slice A a.length c, .slice A' b.length c'] 114 (0, 0)) := by rw [hW0, ← hq]; exact heap_alloc_new w _
  have b0 : W0.cell? ⟨q, 0, none⟩ = some (.bool false) := blk_cell hbx 0
  have b1 : W0.cell? ⟨q, 1, none⟩ = some (.slice A a.length c) := blk_cell hbx 1
  have b2 : W0.cell? ⟨q, 2, none⟩ = some (.slice A' b.length c') := blk_cell hbx 2
  have hn := Lib.hid (hk.ext hP0 hB0)
  have hP0' : ∀ b, P0 b → b < W0.heap.size := fun b hb => by have := hP0 b hb; omega
  have hPa' : ∀ b, Pa b → b < W0.heap.size := fun b hb => by have := hPa b hb; omega
  have hPb' : ∀ b, Pb b → b < W0.heap.size := fun b hb => by have := hPb b hb; omega
  have ha := h.below hB0 hPa
  have hb := h'.below hB0 hPb
  have Hqs := Lib.hid (show q ≤ W0.heap.size by omega)
  have k1 := hn.out.c_p
  have k6 := hn.out.c_f
  have hpv := Lib.hid hk.pv
  obtain ⟨x, hx⟩ : ∃ x, val 18446744073709551616 a = x := ⟨_, rfl⟩
  obtain ⟨y, hy⟩ : ∃ y, val 18446744073709551616 b = y := ⟨_, rfl⟩
  rw [hx, hy]
  obtain ⟨r, hr⟩ : ∃ r, onB M bb x y = r := ⟨_, rfl⟩
  rw [hr]
  have Hr := Lib.hid hr
  have Hx := Lib.hid hx
  have Hy := Lib.hid hy
  have HB0 := Lib.hid hB0
  have Hz0 := Lib.hid hz0
  clear hx hy hz0 hB0 hk hr
  go_enter Tryz.func138, Tryz.ntmps138
  go_upto_region 3 with fail
  rw [← hW0]
  have HW0 := Lib.hid hW0
  have Hq := Lib.hid hq
  clear hW0 hq
  by_cases hxM : x < M
  · by_cases hyM : y < M
    · have HxM := cmpV_lt hxM
      have HyM := cmpV_lt hyM
      have tx := Lib.hid HxM
      have ty := Lib.hid HyM
      clear HxM HyM
      refine Par.region_ext (by kernel_rfl) 18 [0, 1, 0, 4, 12, 28, 63, 127, 255, 511, 1023, 511, 2559, 6655, 14847, 32767, 65535, 131071] [] (fun j f X => match j with
       | 0 => f 0 = .pointer (some ⟨q, 1, none⟩)
       | 1 => f 1 = .slice A a.length c
       | 2 => f 2 = .pointer (some ⟨k, 0, none⟩)
       | 3 => f 3 = .pointer (some ⟨k, 0, none⟩)
       | 4 => f 4 = .pointer (some ⟨k, 1, none⟩)
       | 5 => f 5 = .slice Ap pl.length cp
       | 6 => f 6 = .int .i64 (-1)
       | 7 => f 7 = .bool false
       | 8 => f 8 = .bool false
       | 9 => f 9 = .pointer (some ⟨q, 2, none⟩)
       | 10 => f 10 = .slice A' b.length c'
       | 11 => f 11 = .pointer (some ⟨k, 0, none⟩)
       | 12 => f 12 = .pointer (some ⟨k, 0, none⟩)
       | 13 => f 13 = .pointer (some ⟨k, 1, none⟩)
       | 14 => f 14 = .slice Ap pl.length cp
       | 15 => f 15 = .int .i64 (-1)
       | 16 => f 16 = .bool false
       | 17 => f 17 = .bool false
       | _ => True) (by kernel_rfl) [(17, 0), (18, 1), (19, 2), (20, 3), (21, 4), (22, 5), (23, 6), (24, 7), (25, 8), (26, 9), (27, 10), (28, 11), (29, 12), (30, 13), (31, 14), (32, 15), (33, 16), (34, 17)] (by kernel_rfl) ?_
      refine Par.v0 1 17 ?_
      refine Par.ld1 2 16 0 b1 ?_
      refine Par.v0 3 15 ?_
      refine Par.v1 4 14 2 ?_
      refine Par.v1 5 13 3 ?_
      refine Par.ld1 6 12 4 k1 ?_
      refine Par.c0 7 11 (fun f => #[f 1, f 5]) (F' := 128) (fun f X hX hR => ?_) ?_
      · have e1 : f 1 = _ := hR.out 1 rfl
        have e5 : f 5 = _ := hR.out 5 rfl
        simp only [e1, e5]
        refine (cmp_any Pa P0 A Ap c cp a pl X (ha.below hX hPa') (hn.out.p.below hX hP0')).mono ?_
        rintro e w2 ⟨rfl, nq, rfl⟩
        rw [Hx.out, hpv.out, tx.out]
        exact ⟨_, rfl, (Ext.drewN _ _), fun _ _ => rfl⟩
      refine Par.S 8 10 [(17, 0), (18, 1), (19, 2), (20, 3), (21, 4), (22, 5), (23, 6)] (fun f X hX hR K hK => ?_) ?_
      · have e6 : f 6 = _ := hR.out 6 rfl
        simp only [yA, yB, yC, yD, yE, e6]
        refine ⟨?_⟩
        go_simp
        exact Par.k hK (s := by simp only [yA, yB, yC, yD, yE, e6])
      refine Par.v1 9 9 7 ?_
      refine Par.v1 10 8 8 ?_
      refine Par.S 11 7 [(17, 0), (18, 1), (19, 2), (20, 3), (21, 4), (22, 5), (23, 6), (24, 7), (25, 8), (26, 9), (28, 11), (29, 12), (30, 13), (31, 14)] (fun f X hX hR K hK => ?_) ?_
      · have e8 : f 8 = _ := hR.out 8 rfl
        have e9 : f 9 = _ := hR.out 9 rfl
        have x0 := hX.cell b2
        simp only [yA, yB, yC, yD, yE, e8, e9]
        refine ⟨Par.want (by kernel_rfl) ?_⟩
        go_simp
        exact Par.k hK (s := by simp only [yA, yB, yC, yD, yE, e8, e9])
      refine Par.v1 12 6 8 ?_
      refine Par.v2 13 5 8 11 ?_
      refine Par.v2 14 4 8 12 ?_
      refine Par.S 15 3 [(17, 0), (18, 1), (19, 2), (20, 3), (21, 4), (22, 5), (23, 6), (24, 7), (25, 8), (26, 9), (27, 10), (28, 11), (29, 12), (30, 13)] (fun f X hX hR K hK => ?_) ?_
      · have e8 : f 8 = _ := hR.out 8 rfl
        have e13 : f 13 = _ := hR.out 13 rfl
        have x0 := hX.cell k1
        simp only [yA, yB, yC, yD, yE, e8, e13]
        refine ⟨Par.want (by kernel_rfl) ?_⟩
        go_simp
        exact Par.k hK (s := by simp only [yA, yB, yC, yD, yE, e8, e13])
      refine Par.c1 16 2 8 (fun f => #[f 10, f 14]) (F' := 128) (fun f X hX hR => ?_) ?_
      · have e10 : f 10 = _ := hR.out 10 rfl
        have e14 : f 14 = _ := hR.out 14 rfl
        simp only [e10, e14]
        refine (cmp_any Pb P0 A' Ap c' cp b pl X (hb.below hX hPb') (hn.out.p.below hX hP0')).mono ?_
        rintro e w2 ⟨rfl, nq, rfl⟩
        rw [Hy.out, hpv.out, ty.out]
        exact ⟨_, rfl, (Ext.drewN _ _), fun _ _ => rfl⟩
      refine Par.S 17 1 [(17, 0), (18, 1), (19, 2), (20, 3), (21, 4), (22, 5), (23, 6), (24, 7), (25, 8), (26, 9), (27, 10), (28, 11), (29, 12), (30, 13), (31, 14), (32, 15)] (fun f X hX hR K hK => ?_) ?_
      · have e8 : f 8 = _ := hR.out 8 rfl
        have e15 : f 15 = _ := hR.out 15 rfl
        simp only [yA, yB, yC, yD, yE, e8, e15]
        refine ⟨Par.want (by kernel_rfl) ?_⟩
        go_simp
        exact Par.k hK (s := by simp only [yA, yB, yC, yD, yE, e8, e15])
      refine Par.v2 18 0 8 16 ?_
      refine Par.AllOps.fin ⟨fun f X hX hR hal hap => ?_⟩
      have e17 : f 17 = _ := hR 17 (by decide)
      simp only [yA, yB, yD, yE, e17]
      clear hR hal hap e17
      refine Par.Chain.done ?_
      have hE : Ext W0 X := hX
      clear hX
      have k6' := hE.cell k6
      go_upto_region 6 with fail
      clear k6'
      rename World => X3
      have d1 := hE.cell b1
      have d2 := hE.cell b2
      refine Par.region_ext (by kernel_rfl) 12 [0, 0, 2, 6, 15, 0, 0, 64, 223, 511, 0, 0, 4095, 8191] [10, 11] (fun j f X => match j with
       | 0 => f 0 = .pointer (some ⟨g, 0, none⟩)
       | 1 => f 1 = .pointer (some ⟨q, 1, none⟩)
       | 2 => f 2 = .slice A a.length c
       | 3 => ∃ A1 c1, f 3 = .slice A1 (digs 18446744073709551616 x).length c1 ∧ OB X q A1 c1 (digs 18446744073709551616 x)
       | 4 => ∃ o, f 4 = EV o ∧ FE M n o x
       | 5 => f 5 = .pointer (some ⟨g, 0, none⟩)
       | 6 => f 6 = .pointer (some ⟨q, 2, none⟩)
       | 7 => f 7 = .slice A' b.length c'
       | 8 => ∃ A1 c1, f 8 = .slice A1 (digs 18446744073709551616 y).length c1 ∧ OB X q A1 c1 (digs 18446744073709551616 y)
       | 9 => ∃ o, f 9 = EV o ∧ FE M n o y
       | 10 => ∃ b, f 10 = .pointer (some ⟨b, 0, none⟩) ∧ X3.heap.size ≤ b ∧ X.heap[b]? = some (.cells #[.int .u64 0, .int .u64 0, .int .u64 0, .int .u64 0, .int .u64 0, .int .u64 0] 160 (0, 0))
       | 11 => ∃ b, f 11 = .pointer (some ⟨b, 0, none⟩) ∧ X3.heap.size ≤ b ∧ X.heap[b]? = some (.cells #[.int .u64 0, .int .u64 0, .int .u64 0, .int .u64 0, .int .u64 0, .int .u64 0] 160 (0, 0))
       | _ => True) (by kernel_rfl) [(39, 0), (40, 1), (41, 2), (42, 3), (43, 4), (44, 5), (45, 6), (46, 7), (47, 8), (48, 9), (6, 10), (7, 11)] (by kernel_rfl) ?_
      refine Par.v0 1 11 ?_
      refine Par.v0 2 10 ?_
      refine Par.ld1 3 9 1 d1 ?_
      refine Par.c0 4 8 (fun f => #[f 2]) (F' := 173) (fun f X hX hR => ?_) ?_
      · have e2 : f 2 = _ := hR.out 2 rfl
        simp only [e2]
        refine (norm_any Pa A c a X (ha.below (hE.trans hX) hPa')).mono ?_
        rw [Hx.out]
        rintro e w2 ⟨A1, c1, rfl, hO, hB⟩
        exact ⟨_, rfl, hB, fun Y hY => ⟨A1, c1, rfl, (hO.mono (Nat.le_trans Hqs.out (hE.trans hX).bsize)).below hY (Nat.le_refl _)⟩⟩
      refine Par.c0 5 7 (fun f => #[f 0, f 3]) (F' := 172) (fun f X hX hR => ?_) ?_
      · have e0 : f 0 = _ := hR.out 0 rfl
        obtain ⟨A3, c3, (e3 : f 3 = _), o3⟩ := hR.out 3 rfl
        simp only [e0, e3]
        refine (zto_any _ A3 c3 _ X (hn.out.ext hP0' (hE.trans hX)).fr o3.rn (fun b hb => hb.2) (hn.out.six hxM) (by rw [val_digs (by omega)]; exact hxM)).mono ?_
        rintro e w2 ⟨o, rfl, ho, hB⟩
        rw [val_digs (by omega)] at ho
        exact ⟨(EV o), rfl, hB, fun Y hY => ⟨o, rfl, ho⟩⟩
      refine Par.v0 6 6 ?_
      refine Par.v0 7 5 ?_
      refine Par.ld1 8 4 6 d2 ?_
      refine Par.c0 9 3 (fun f => #[f 7]) (F' := 173) (fun f X hX hR => ?_) ?_
      · have e7 : f 7 = _ := hR.out 7 rfl
        simp only [e7]
        refine (norm_any Pb A' c' b X (hb.below (hE.trans hX) hPb')).mono ?_
        rw [Hy.out]
        rintro e w2 ⟨A1, c1, rfl, hO, hB⟩
        exact ⟨_, rfl, hB, fun Y hY => ⟨A1, c1, rfl, (hO.mono (Nat.le_trans Hqs.out (hE.trans hX).bsize)).below hY (Nat.le_refl _)⟩⟩
      refine Par.c0 10 2 (fun f => #[f 5, f 8]) (F' := 172) (fun f X hX hR => ?_) ?_
      · have e5 : f 5 = _ := hR.out 5 rfl
        obtain ⟨A8, c8, (e8 : f 8 = _), o8⟩ := hR.out 8 rfl
        simp only [e5, e8]
        refine (zto_any _ A8 c8 _ X (hn.out.ext hP0' (hE.trans hX)).fr o8.rn (fun b hb => hb.2) (hn.out.six hyM) (by rw [val_digs (by omega)]; exact hyM)).mono ?_
        rintro e w2 ⟨o, rfl, ho, hB⟩
        rw [val_digs (by omega)] at ho
        exact ⟨(EV o), rfl, hB, fun Y hY => ⟨o, rfl, ho⟩⟩
      refine Par.al 11 1 ?_
      refine Par.al 12 0 ?_
      refine Par.AllOps.fin ⟨fun f X hX hR hal hap => ?_⟩
      obtain ⟨A3, c3, (e3 : f 3 = _), o3⟩ := hR 3 (by decide)
      obtain ⟨o4, (e4 : f 4 = _), h4⟩ := hR 4 (by decide)
      obtain ⟨A8, c8, (e8 : f 8 = _), o8⟩ := hR 8 (by decide)
      obtain ⟨o9, (e9 : f 9 = _), h9⟩ := hR 9 (by decide)
      obtain ⟨b10, (e10 : f 10 = _), l10, h10⟩ := hR 10 (by decide)
      obtain ⟨b11, (e11 : f 11 = _), l11, h11⟩ := hR 11 (by decide)
      have n11_10 : b11 ≠ b10 := fun e => hap 11 10 (by decide) (by decide) rfl rfl (by decide) (by rw [e11, e10, e])
      simp only [yA, yB, yD, yE, e3, e4, e8, e9, e10, e11]
      clear hR hal hap e3 e4 e8 e9 e10 e11
      refine Par.Chain.next (fun K hK => ⟨Par.want (by kernel_rfl) (wp_storeE (.tmp 6) (.tmp 43) rfl rfl rfl rfl h10 rfl h4.elt.six (fun Y1 hl1 => hK.out _ _ ?_))⟩)
      refine Par.Chain.next (fun K hK => ⟨Par.want (by kernel_rfl) (wp_storeE (.tmp 7) (.tmp 48) rfl rfl rfl rfl (hl1.other n11_10 h11) rfl h9.elt.six (fun Y2 hl2 => hK.out _ _ ?_))⟩)
      refine Par.Chain.done ?_
      have v1 : VE Y2 M n b10 x := hl2.ve (Ne.symm n11_10) (hl1.mk' h4)
      have v2 : VE Y2 M n b11 y := hl2.mk' h9
      have hE7 : Ext W0 Y2 := hl2.ext (hl1.ext (hE.trans hX) (Nat.le_trans hE.bsize l10)) (Nat.le_trans hE.bsize l11)
      clear hl1 hl2 o3 h4 o8 h9 h10 h11 l10 l11 hX hE d1 d2
      have hE := hE7
      clear hE7
      go_upto_region 7 with fail
      refine Par.region_ext (by kernel_rfl) 20 [0, 0, 0, 0, 0, 0, 56, 0, 128, 384, 896, 2044, 0, 8190, 0, 16384, 49152, 114688, 262143, 0, 1048575] [19] (fun j f X => match j with
       | 0 => f 0 = .pointer (some ⟨g, 0, none⟩)
       | 1 => f 1 = .pointer (some ⟨g, 0, none⟩)
       | 2 => f 2 = .pointer (some ⟨g, 0, none⟩)
       | 3 => f 3 = .pointer (some ⟨g, 0, none⟩)
       | 4 => ∃ o, f 4 = EV o ∧ FE M n o x
       | 5 => ∃ o, f 5 = EV o ∧ FE M n o x
       | 6 => ∃ o, f 6 = EV o ∧ FE M n o (x * x)
       | 7 => f 7 = .pointer (some ⟨k, 0, none⟩)
       | 8 => f 8 = .pointer (some ⟨k, 0, none⟩)
       | 9 => f 9 = .pointer (some ⟨k, 7, none⟩)
       | 10 => f 10 = EV tl
       | 11 => ∃ o, f 11 = EV o ∧ FE M n o (x * x + M - 3)
       | 12 => ∃ o, f 12 = EV o ∧ FE M n o x
       | 13 => ∃ o, f 13 = EV o ∧ FE M n o ((x * x + M - 3) * x)
       | 14 => f 14 = .pointer (some ⟨k, 0, none⟩)
       | 15 => f 15 = .pointer (some ⟨k, 0, none⟩)
       | 16 => f 16 = .pointer (some ⟨k, 13, none⟩)
       | 17 => f 17 = EV fl
       | 18 => ∃ o, f 18 = EV o ∧ FE M n o ((x * x + M - 3) * x + bb)
       | 19 => ∃ b, f 19 = .pointer (some ⟨b, 0, none⟩) ∧ Y2.heap.size ≤ b ∧ X.heap[b]? = some (.cells #[.int .u64 0, .int .u64 0, .int .u64 0, .int .u64 0, .int .u64 0, .int .u64 0] 160 (0, 0))
       | _ => True) (by kernel_rfl) [(49, 0), (50, 1), (51, 2), (52, 3), (53, 4), (54, 5), (55, 6), (56, 7), (57, 8), (58, 9), (59, 10), (60, 11), (61, 12), (62, 13), (63, 14), (64, 15), (65, 16), (66, 17), (67, 18), (8, 19)] (by kernel_rfl) ?_
      refine Par.v0 1 19 ?_
      refine Par.v0 2 18 ?_
      refine Par.v0 3 17 ?_
      refine Par.v0 4 16 ?_
      refine lX 5 15 (fun X hX => let ⟨o, hbl, ho⟩ := v1.ext hX; ⟨o, hbl.range, ho⟩) ?_
      refine lX 6 14 (fun X hX => let ⟨o, hbl, ho⟩ := v1.ext hX; ⟨o, hbl.range, ho⟩) ?_
      refine Par.c0 7 13 (fun f => #[f 3, f 4, f 5]) (F' := 175) (fun f X hX hR => ?_) ?_
      · have e3 : f 3 = _ := hR.out 3 rfl
        obtain ⟨o4, (e4 : f 4 = _), h4⟩ := hR.out 4 rfl
        obtain ⟨o5, (e5 : f 5 = _), h5⟩ := hR.out 5 rfl
        simp only [e3, e4, e5]
        refine (fmul_any X (hn.out.ext hP0' (hE.trans hX)).fr.ff h4 h5).mono ?_
        rintro e w2 ⟨o, rfl, ho, hB⟩
        exact ⟨(EV o), rfl, hB, fun Y hY => ⟨o, rfl, ho⟩⟩
      refine Par.v0 8 12 ?_
      refine Par.v1 9 11 7 ?_
      refine Par.v1 10 10 8 ?_
      refine Par.S 11 9 [(49, 0), (50, 1), (51, 2), (52, 3), (53, 4), (54, 5), (55, 6), (56, 7), (57, 8), (58, 9), (61, 12), (63, 14), (64, 15), (65, 16), (66, 17), (8, 19)] (fun f X hX hR K hK => ?_) ?_
      · have e9 : f 9 = _ := hR.out 9 rfl
        simp only [yA, yB, yC, yD, yE, e9]
        refine ⟨Par.want (by kernel_rfl) (wp_loadE (.tmp 58) rfl rfl (hn.out.ext hP0' (hE.trans hX)).r_three hn.out.three.elt.six ?_)⟩
        exact hK.out _ (EV tl) _ (by simp only [yA, yB, yC, yD, yE, e9]) (Ext.refl _) trivial (fun _ _ => rfl)
      refine Par.c0 12 8 (fun f => #[f 2, f 6, f 10]) (F' := 176) (fun f X hX hR => ?_) ?_
      · have e2 : f 2 = _ := hR.out 2 rfl
        obtain ⟨o6, (e6 : f 6 = _), h6⟩ := hR.out 6 rfl
        have e10 : f 10 = _ := hR.out 10 rfl
        simp only [e2, e6, e10]
        refine (fsub_any X (hn.out.ext hP0' (hE.trans hX)).fr.ff h6 hn.out.three (by omega)).mono ?_
        rintro e w2 ⟨o, rfl, ho, hB⟩
        exact ⟨(EV o), rfl, hB, fun Y hY => ⟨o, rfl, ho⟩⟩
      refine lX 13 7 (fun X hX => let ⟨o, hbl, ho⟩ := v1.ext hX; ⟨o, hbl.range, ho⟩) ?_
      refine Par.c0 14 6 (fun f => #[f 1, f 11, f 12]) (F' := 175) (fun f X hX hR => ?_) ?_
      · have e1 : f 1 = _ := hR.out 1 rfl
        obtain ⟨o11, (e11 : f 11 = _), h11⟩ := hR.out 11 rfl
        obtain ⟨o12, (e12 : f 12 = _), h12⟩ := hR.out 12 rfl
        simp only [e1, e11, e12]
        refine (fmul_any X (hn.out.ext hP0' (hE.trans hX)).fr.ff h11 h12).mono ?_
        rintro e w2 ⟨o, rfl, ho, hB⟩
        exact ⟨(EV o), rfl, hB, fun Y hY => ⟨o, rfl, ho⟩⟩
      refine Par.v0 15 5 ?_
      refine Par.v1 16 4 14 ?_
      refine Par.v1 17 3 15 ?_
      refine Par.S 18 2 [(49, 0), (50, 1), (51, 2), (52, 3), (53, 4), (54, 5), (55, 6), (56, 7), (57, 8), (58, 9), (59, 10), (60, 11), (61, 12), (62, 13), (63, 14), (64, 15), (65, 16), (8, 19)] (fun f X hX hR K hK => ?_) ?_
      · have e16 : f 16 = _ := hR.out 16 rfl
        simp only [yA, yB, yC, yD, yE, e16]
        refine ⟨Par.want (by kernel_rfl) (wp_loadE (.tmp 65) rfl rfl (hn.out.ext hP0' (hE.trans hX)).r_fb hn.out.fb.elt.six ?_)⟩
        exact hK.out _ (EV fl) _ (by simp only [yA, yB, yC, yD, yE, e16]) (Ext.refl _) trivial (fun _ _ => rfl)
      refine Par.c0 19 1 (fun f => #[f 0, f 13, f 17]) (F' := 174) (fun f X hX hR => ?_) ?_
      · have e0 : f 0 = _ := hR.out 0 rfl
        obtain ⟨o13, (e13 : f 13 = _), h13⟩ := hR.out 13 rfl
        have e17 : f 17 = _ := hR.out 17 rfl
        simp only [e0, e13, e17]
        refine (fadd_any X (hn.out.ext hP0' (hE.trans hX)).fr.ff h13 hn.out.fb).mono ?_
        rintro e w2 ⟨o, rfl, ho, hB⟩
        exact ⟨(EV o), rfl, hB, fun Y hY => ⟨o, rfl, ho⟩⟩
      refine Par.al 20 0 ?_
      refine Par.AllOps.fin ⟨fun f X hX hR hal hap => ?_⟩
      obtain ⟨o4, (e4 : f 4 = _), h4⟩ := hR 4 (by decide)
      obtain ⟨o5, (e5 : f 5 = _), h5⟩ := hR 5 (by decide)
      obtain ⟨o6, (e6 : f 6 = _), h6⟩ := hR 6 (by decide)
      obtain ⟨o11, (e11 : f 11 = _), h11⟩ := hR 11 (by decide)
      obtain ⟨o12, (e12 : f 12 = _), h12⟩ := hR 12 (by decide)
      obtain ⟨o13, (e13 : f 13 = _), h13⟩ := hR 13 (by decide)
      obtain ⟨o18, (e18 : f 18 = _), h18⟩ := hR 18 (by decide)
      obtain ⟨b19, (e19 : f 19 = _), l19, h19⟩ := hR 19 (by decide)
      simp only [yA, yB, yD, yE, e4, e5, e6, e11, e12, e13, e18, e19]
      clear hR hal hap e4 e5 e6 e11 e12 e13 e18 e19
      refine Par.Chain.next (fun K hK => ⟨Par.want (by kernel_rfl) (wp_storeE (.tmp 8) (.tmp 67) rfl rfl rfl rfl h19 rfl h18.elt.six (fun Y3 hl1 => hK.out _ _ ?_))⟩)
      refine Par.Chain.done ?_
      have v3 : VE Y3 M n b19 ((x * x + M - 3) * x + bb) := hl1.mk' h18
      have nb : b11 ≠ b19 := by have := (let ⟨_, h, _⟩ := v2; h.lt : b11 < Y2.heap.size); omega
      have v4 : VE Y3 M n b11 y := hl1.ve nb (v2.ext hX)
      have hE8 : Ext W0 Y3 := hl1.ext (hE.trans hX) (Nat.le_trans hE.bsize l19)
      clear hl1 h4 h5 h6 h11 h12 h13 h18 h19 l19 hX hE v1 v2
      have hE := hE8
      clear hE8
      go_upto_region 8 with fail
      refine Par.region_ext (by kernel_rfl) 9 [0, 0, 0, 0, 14, 0, 63, 127, 255] [] (fun j f X => match j with
       | 0 => f 0 = .pointer (some ⟨g, 0, none⟩)
       | 1 => f 1 = .pointer (some ⟨g, 0, none⟩)
       | 2 => ∃ o, f 2 = EV o ∧ FE M n o y
       | 3 => ∃ o, f 3 = EV o ∧ FE M n o y
       | 4 => ∃ o, f 4 = EV o ∧ FE M n o (y * y)
       | 5 => ∃ o, f 5 = EV o ∧ FE M n o ((x * x + M - 3) * x + bb)
       | 6 => ∃ o, f 6 = EV o ∧ FE M n o (y * y + M - ((x * x + M - 3) * x + bb) % M)
       | 7 => f 7 = .bool r
       | 8 => f 8 = .bool r
       | _ => True) (by kernel_rfl) [(68, 0), (69, 1), (70, 2), (71, 3), (72, 4), (73, 5), (74, 6), (75, 7), (4, 8)] (by kernel_rfl) ?_
      refine Par.v0 1 8 ?_
      refine Par.v0 2 7 ?_
      refine lX 3 6 (fun X hX => let ⟨o, hbl, ho⟩ := v4.ext hX; ⟨o, hbl.range, ho⟩) ?_
      refine lX 4 5 (fun X hX => let ⟨o, hbl, ho⟩ := v4.ext hX; ⟨o, hbl.range, ho⟩) ?_
      refine Par.c0 5 4 (fun f => #[f 1, f 2, f 3]) (F' := 175) (fun f X hX hR => ?_) ?_
      · have e1 : f 1 = _ := hR.out 1 rfl
        obtain ⟨o2, (e2 : f 2 = _), h2⟩ := hR.out 2 rfl
        obtain ⟨o3, (e3 : f 3 = _), h3⟩ := hR.out 3 rfl
        simp only [e1, e2, e3]
        refine (fmul_any X (hn.out.ext hP0' (hE.trans hX)).fr.ff h2 h3).mono ?_
        rintro e w2 ⟨o, rfl, ho, hB⟩
        exact ⟨(EV o), rfl, hB, fun Y hY => ⟨o, rfl, ho⟩⟩
      refine lX 6 3 (fun X hX => let ⟨o, hbl, ho⟩ := v3.ext hX; ⟨o, hbl.range, ho⟩) ?_
      refine Par.c0 7 2 (fun f => #[f 0, f 4, f 5]) (F' := 176) (fun f X hX hR => ?_) ?_
      · have e0 : f 0 = _ := hR.out 0 rfl
        obtain ⟨o4, (e4 : f 4 = _), h4⟩ := hR.out 4 rfl
        obtain ⟨o5, (e5 : f 5 = _), h5⟩ := hR.out 5 rfl
        simp only [e0, e4, e5]
        refine (fsub_any X (hn.out.ext hP0' (hE.trans hX)).fr.ff h4 h5.mod (Nat.le_of_lt (Nat.mod_lt _ (by omega)))).mono ?_
        rintro e w2 ⟨o, rfl, ho, hB⟩
        exact ⟨(EV o), rfl, hB, fun Y hY => ⟨o, rfl, ho⟩⟩
      refine Par.c0 8 1 (fun f => #[f 6]) (F' := 177) (fun f X hX hR => ?_) ?_
      · obtain ⟨o6, (e6 : f 6 = _), h6⟩ := hR.out 6 rfl
        simp only [e6]
        refine (zero_any o6 X h6.elt.six).mono ?_
        rintro e w2 ⟨rfl, hB⟩
        have hd : decide (o6 = [0, 0, 0, 0, 0, 0]) = r := by rw [← Hr.out, onB, decide_eq_true hxM, decide_eq_true hyM, Bool.true_and, Bool.true_and]; exact decide_eq_decide.2 ((h6.zero_iff (hn.out.ext hP0' (hE.trans hX)).fr.ff).trans (curve_eq hM3))
        rw [hd]
        exact ⟨_, rfl, hB, fun _ _ => rfl⟩
      refine Par.v1 9 0 7 ?_
      refine Par.AllOps.fin ⟨fun f X hX hR hal hap => ?_⟩
      obtain ⟨o2, (e2 : f 2 = _), h2⟩ := hR 2 (by decide)
      obtain ⟨o3, (e3 : f 3 = _), h3⟩ := hR 3 (by decide)
      obtain ⟨o4, (e4 : f 4 = _), h4⟩ := hR 4 (by decide)
      obtain ⟨o5, (e5 : f 5 = _), h5⟩ := hR 5 (by decide)
      obtain ⟨o6, (e6 : f 6 = _), h6⟩ := hR 6 (by decide)
      have e8 : f 8 = _ := hR 8 (by decide)
      simp only [yA, yB, yD, yE, e2, e3, e4, e5, e6, e8]
      clear hR hal hap e2 e3 e4 e5 e6 e8
      refine Par.Chain.done ?_
      go_wp2
      go_ret
      exact ⟨rfl, HB0.out.trans (hE.trans hX)⟩
    · have tx := Lib.hid (cmpV_lt hxM)
      obtain ⟨v, hv⟩ : ∃ v, cmpV y M = v := ⟨_, rfl⟩
      have hv0 : 0 ≤ v := by rw [← hv]; rcases cmpV_cases y M with h | h | h <;> omega
      have Hv := Lib.hid hv
      have HH := Lib.hid hyM
      clear hv hyM
      refine Par.region_ext (by kernel_rfl) 18 [0, 1, 0, 4, 12, 28, 63, 127, 255, 511, 1023, 511, 2559, 6655, 14847, 32767, 65535, 131071] [] (fun j f X => match j with
       | 0 => f 0 = .pointer (some ⟨q, 1, none⟩)
       | 1 => f 1 = .slice A a.length c
       | 2 => f 2 = .pointer (some ⟨k, 0, none⟩)
       | 3 => f 3 = .pointer (some ⟨k, 0, none⟩)
       | 4 => f 4 = .pointer (some ⟨k, 1, none⟩)
       | 5 => f 5 = .slice Ap pl.length cp
       | 6 => f 6 = .int .i64 (-1)
       | 7 => f 7 = .bool false
       | 8 => f 8 = .bool false
       | 9 => f 9 = .pointer (some ⟨q, 2, none⟩)
       | 10 => f 10 = .slice A' b.length c'
       | 11 => f 11 = .pointer (some ⟨k, 0, none⟩)
       | 12 => f 12 = .pointer (some ⟨k, 0, none⟩)
       | 13 => f 13 = .pointer (some ⟨k, 1, none⟩)
       | 14 => f 14 = .slice Ap pl.length cp
       | 15 => f 15 = .int .i64 v
       | 16 => f 16 = .bool true
       | 17 => f 17 = .bool true
       | _ => True) (by kernel_rfl) [(17, 0), (18, 1), (19, 2), (20, 3), (21, 4), (22, 5), (23, 6), (24, 7), (25, 8), (26, 9), (27, 10), (28, 11), (29, 12), (30, 13), (31, 14), (32, 15), (33, 16), (34, 17)] (by kernel_rfl) ?_
      refine Par.v0 1 17 ?_
      refine Par.ld1 2 16 0 b1 ?_
      refine Par.v0 3 15 ?_
      refine Par.v1 4 14 2 ?_
      refine Par.v1 5 13 3 ?_
      refine Par.ld1 6 12 4 k1 ?_
      refine Par.c0 7 11 (fun f => #[f 1, f 5]) (F' := 128) (fun f X hX hR => ?_) ?_
      · have e1 : f 1 = _ := hR.out 1 rfl
        have e5 : f 5 = _ := hR.out 5 rfl
        simp only [e1, e5]
        refine (cmp_any Pa P0 A Ap c cp a pl X (ha.below hX hPa') (hn.out.p.below hX hP0')).mono ?_
        rintro e w2 ⟨rfl, nq, rfl⟩
        rw [Hx.out, hpv.out, tx.out]
        exact ⟨_, rfl, (Ext.drewN _ _), fun _ _ => rfl⟩
      refine Par.S 8 10 [(17, 0), (18, 1), (19, 2), (20, 3), (21, 4), (22, 5), (23, 6)] (fun f X hX hR K hK => ?_) ?_
      · have e6 : f 6 = _ := hR.out 6 rfl
        simp only [yA, yB, yC, yD, yE, e6]
        refine ⟨?_⟩
        go_simp
        exact Par.k hK (s := by simp only [yA, yB, yC, yD, yE, e6])
      refine Par.v1 9 9 7 ?_
      refine Par.v1 10 8 8 ?_
      refine Par.S 11 7 [(17, 0), (18, 1), (19, 2), (20, 3), (21, 4), (22, 5), (23, 6), (24, 7), (25, 8), (26, 9), (28, 11), (29, 12), (30, 13), (31, 14)] (fun f X hX hR K hK => ?_) ?_
      · have e8 : f 8 = _ := hR.out 8 rfl
        have e9 : f 9 = _ := hR.out 9 rfl
        have x0 := hX.cell b2
        simp only [yA, yB, yC, yD, yE, e8, e9]
        refine ⟨Par.want (by kernel_rfl) ?_⟩
        go_simp
        exact Par.k hK (s := by simp only [yA, yB, yC, yD, yE, e8, e9])
      refine Par.v1 12 6 8 ?_
      refine Par.v2 13 5 8 11 ?_
      refine Par.v2 14 4 8 12 ?_
      refine Par.S 15 3 [(17, 0), (18, 1), (19, 2), (20, 3), (21, 4), (22, 5), (23, 6), (24, 7), (25, 8), (26, 9), (27, 10), (28, 11), (29, 12), (30, 13)] (fun f X hX hR K hK => ?_) ?_
      · have e8 : f 8 = _ := hR.out 8 rfl
        have e13 : f 13 = _ := hR.out 13 rfl
        have x0 := hX.cell k1
        simp only [yA, yB, yC, yD, yE, e8, e13]
        refine ⟨Par.want (by kernel_rfl) ?_⟩
        go_simp
        exact Par.k hK (s := by simp only [yA, yB, yC, yD, yE, e8, e13])
      refine Par.c1 16 2 8 (fun f => #[f 10, f 14]) (F' := 128) (fun f X hX hR => ?_) ?_
      · have e10 : f 10 = _ := hR.out 10 rfl
        have e14 : f 14 = _ := hR.out 14 rfl
        simp only [e10, e14]
        refine (cmp_any Pb P0 A' Ap c' cp b pl X (hb.below hX hPb') (hn.out.p.below hX hP0')).mono ?_
        rintro e w2 ⟨rfl, nq, rfl⟩
        rw [Hy.out, hpv.out, Hv.out]
        exact ⟨_, rfl, (Ext.drewN _ _), fun _ _ => rfl⟩
      refine Par.S 17 1 [(17, 0), (18, 1), (19, 2), (20, 3), (21, 4), (22, 5), (23, 6), (24, 7), (25, 8), (26, 9), (27, 10), (28, 11), (29, 12), (30, 13), (31, 14), (32, 15)] (fun f X hX hR K hK => ?_) ?_
      · have e8 : f 8 = _ := hR.out 8 rfl
        have e15 : f 15 = _ := hR.out 15 rfl
        simp only [yA, yB, yC, yD, yE, e8, e15]
        refine ⟨Par.want (by kernel_rfl) ?_⟩
        go_simp
        exact Par.k hK (s := by simp only [yA, yB, yC, yD, yE, e8, e15])
      refine Par.v2 18 0 8 16 ?_
      refine Par.AllOps.fin ⟨fun f X hX hR hal hap => ?_⟩
      have e17 : f 17 = _ := hR 17 (by decide)
      simp only [yA, yB, yD, yE, e17]
      clear hR hal hap e17
      refine Par.Chain.done ?_
      go_wp2
      go_ret
      exact ⟨by rw [show r = false by rw [← Hr.out]; simp [onB, HH.out]]; rfl, HB0.out.trans hX⟩
  · obtain ⟨v, hv⟩ : ∃ v, cmpV x M = v := ⟨_, rfl⟩
    have hv0 : 0 ≤ v := by rw [← hv]; rcases cmpV_cases x M with h | h | h <;> omega
    have Hv := Lib.hid hv
    have HH := Lib.hid hxM
    clear hv hxM
    refine Par.region_ext (by kernel_rfl) 18 [0, 1, 0, 4, 12, 28, 63, 127, 255, 511, 1023, 511, 2559, 6655, 14847, 32767, 65535, 131071] [] (fun j f X => match j with
     | 0 => f 0 = .pointer (some ⟨q, 1, none⟩)
     | 1 => f 1 = .slice A a.length c
     | 2 => f 2 = .pointer (some ⟨k, 0, none⟩)
     | 3 => f 3 = .pointer (some ⟨k, 0, none⟩)
     | 4 => f 4 = .pointer (some ⟨k, 1, none⟩)
     | 5 => f 5 = .slice Ap pl.length cp
     | 6 => f 6 = .int .i64 v
     | 7 => f 7 = .bool true
     | 8 => f 8 = .bool true
     | 9 => f 9 = undef
     | 10 => f 10 = undef
     | 11 => f 11 = undef
     | 12 => f 12 = undef
     | 13 => f 13 = undef
     | 14 => f 14 = undef
     | 15 => f 15 = undef
     | 16 => f 16 = undef
     | 17 => f 17 = .bool true
     | _ => True) (by kernel_rfl) [(17, 0), (18, 1), (19, 2), (20, 3), (21, 4), (22, 5), (23, 6), (24, 7), (25, 8), (26, 9), (27, 10), (28, 11), (29, 12), (30, 13), (31, 14), (32, 15), (33, 16), (34, 17)] (by kernel_rfl) ?_
    refine Par.v0 1 17 ?_
    refine Par.ld1 2 16 0 b1 ?_
    refine Par.v0 3 15 ?_
    refine Par.v1 4 14 2 ?_
    refine Par.v1 5 13 3 ?_
    refine Par.ld1 6 12 4 k1 ?_
    refine Par.c0 7 11 (fun f => #[f 1, f 5]) (F' := 128) (fun f X hX hR => ?_) ?_
    · have e1 : f 1 = _ := hR.out 1 rfl
      have e5 : f 5 = _ := hR.out 5 rfl
      simp only [e1, e5]
      refine (cmp_any Pa P0 A Ap c cp a pl X (ha.below hX hPa') (hn.out.p.below hX hP0')).mono ?_
      rintro e w2 ⟨rfl, nq, rfl⟩
      rw [Hx.out, hpv.out, Hv.out]
      exact ⟨_, rfl, (Ext.drewN _ _), fun _ _ => rfl⟩
    refine Par.S 8 10 [(17, 0), (18, 1), (19, 2), (20, 3), (21, 4), (22, 5), (23, 6)] (fun f X hX hR K hK => ?_) ?_
    · have e6 : f 6 = _ := hR.out 6 rfl
      simp only [yA, yB, yC, yD, yE, e6]
      refine ⟨?_⟩
      go_simp
      exact Par.k hK (s := by simp only [yA, yB, yC, yD, yE, e6])
    refine Par.v1 9 9 7 ?_
    refine Par.sk 10 8 8 ?_
    refine Par.sk 11 7 8 ?_
    refine Par.sk 12 6 8 ?_
    refine Par.sk 13 5 8 ?_
    refine Par.sk 14 4 8 ?_
    refine Par.sk 15 3 8 ?_
    refine Par.sk 16 2 8 ?_
    refine Par.sk 17 1 8 ?_
    refine Par.v2 18 0 8 16 ?_
    refine Par.AllOps.fin ⟨fun f X hX hR hal hap => ?_⟩
    have e17 : f 17 = _ := hR 17 (by decide)
    simp only [yA, yB, yD, yE, e17]
    clear hR hal hap e17
    refine Par.Chain.done ?_
    go_wp2
    go_ret
    exact ⟨by rw [show r = false by rw [← Hr.out]; simp [onB, HH.out]]; rfl, HB0.out.trans hX⟩
end Go.Proofs.YtendnkpiidhogaaGreat

namespace Go.Proofs.YtendnkpiidhogaaGreat
open Go.RowKit

structure Crv where
 size : Nat
 n : Nat
 M : Nat
 bb : Nat
 pl : List Nat
 nl : List Nat
 bl : List Nat
 xl : List Nat
 yl : List Nat
def c256 : Crv := ⟨32, 4, val 18446744073709551616 p256p, val 18446744073709551616 p256b, p256p, p256n, p256b, p256x, p256y⟩
def c384 : Crv := ⟨48, 6, val 18446744073709551616 p384p, val 18446744073709551616 p384b, p384p, p384n, p384b, p384x, p384y⟩
def IsC (c : Int) (C : Crv) : Prop := (c = 1 ∧ C = c256) ∨ (c = 2 ∧ C = c384)
structure Crv.Fine (C : Crv) : Prop where
 three : 3 < C.M
 bb : C.bb < C.M
 room : C.M < 256 ^ C.size
 small : C.size ≤ 48
 pos : 32 ≤ C.size
 pv : val 18446744073709551616 C.pl = C.M
theorem IsC.fine {c : Int} {C : Crv} (h : IsC c C) : C.Fine := by
 rcases h with ⟨_, rfl⟩ | ⟨_, rfl⟩
 · exact ⟨by decide +kernel, by decide +kernel, by decide +kernel, by decide, by decide, rfl⟩
 · exact ⟨by decide +kernel, by decide +kernel, by decide +kernel, by decide, by decide, rfl⟩
def OfC (C : Crv) (w : World) (k : Nat) : Prop := ∃ (P0 : Nat → Prop) (g inv : Nat) (ml ol rl tl fl : List Nat) (Ap An Ab Ax Ay : Option Addr) (cp cn cb cx cy : Nat), Num w P0 k g C.size C.n inv C.M C.bb C.pl C.nl C.bl C.xl C.yl ml ol rl tl fl Ap An Ab Ax Ay cp cn cb cx cy ∧ ∀ b, P0 b → b < w.heap.size
theorem OfC.ext {C : Crv} {w X : World} {k : Nat} (h : OfC C w k) (hE : Ext w X) : OfC C X k := by
 obtain ⟨P0, g, inv, ml, ol, rl, tl, fl, Ap, An, Ab, Ax, Ay, cp, cn, cb, cx, cy, hn, hP⟩ := h
 exact ⟨P0, g, inv, ml, ol, rl, tl, fl, Ap, An, Ab, Ax, Ay, cp, cn, cb, cx, cy, hn.ext hP hE, fun b hb => Nat.lt_of_lt_of_le (hP b hb) hE.bsize⟩
theorem OfC.size {C : Crv} {w : World} {k : Nat} (h : OfC C w k) : w.cell? ⟨k, 0, none⟩ = some (.int .i64 (C.size : Int)) := by
 obtain ⟨P0, g, inv, ml, ol, rl, tl, fl, Ap, An, Ab, Ax, Ay, cp, cn, cb, cx, cy, hn, hP⟩ := h
 exact hn.c_size
theorem of_c {c : Int} {C : Crv} (h : IsC c C) (w : World) : Calls Tryz.prog 136 #[.int .i64 c] w fun e w' => ∃ k, e = .returned (.pointer (some ⟨k, 0, none⟩)) ∧ OfC C w' k ∧ Ext w w' := by
 rcases h with ⟨rfl, rfl⟩ | ⟨rfl, rfl⟩
 · refine (of_p256 w).mono ?_
   rintro e w' ⟨k, g, inv, ml, ol, rl, tl, fl, rfl, _, hn, hB⟩
   exact ⟨k, rfl, ⟨_, g, inv, ml, ol, rl, tl, fl, _, _, _, _, _, _, _, _, _, _, hn, fun b hb => hb.2⟩, hB⟩
 · refine (of_p384 w).mono ?_
   rintro e w' ⟨k, g, inv, ml, ol, rl, tl, fl, rfl, _, hn, hB⟩
   exact ⟨k, rfl, ⟨_, g, inv, ml, ol, rl, tl, fl, _, _, _, _, _, _, _, _, _, _, hn, fun b hb => hb.2⟩, hB⟩
set_option maxRecDepth 100000 in
theorem of_nil {c : Int} (h1 : c ≠ 1) (h2 : c ≠ 2) (w : World) : Calls Tryz.prog 136 #[.int .i64 c] w fun e w' => e = .returned (.pointer none) ∧ Ext w w' := by
 have e1 : (c == 1) = false := by simpa using h1
 have e2 : (c == 2) = false := by simpa using h2
 go_enter Tryz.func136, Tryz.ntmps136
 go_wp2
 go_ret
 exact ⟨rfl, Ext.refl _⟩
theorem on_c {C : Crv} {w : World} {k : Nat} (h : OfC C w k) (hC : C.Fine) (Pa Pb : Nat → Prop) (A A' : Option Addr) (c c' : Nat) (a b : List Nat) (inf : Bool) (ha : RN w Pa A c a) (hb : RN w Pb A' c' b) (hPa : ∀ b, Pa b → b < w.heap.size) (hPb : ∀ b, Pb b → b < w.heap.size) :
 Calls Tryz.prog 138 #[.pointer (some ⟨k, 0, none⟩), .agg #[.bool inf, .slice A a.length c, .slice A' b.length c']] w fun e w' => e = .returned (.bool (inf || onB C.M C.bb (val 18446744073709551616 a) (val 18446744073709551616 b))) ∧ Ext w w' := by
 obtain ⟨P0, g, inv, ml, ol, rl, tl, fl, Ap, An, Ab, Ax, Ay, cp, cn, cb, cx, cy, hn, hP⟩ := h
 exact on_any Pa Pb A A' c c' a b inf w hn hP ha hb hPa hPb hC.three hC.bb
abbrev infV : Value := .agg #[.bool true, .slice none 0 0, .slice none 0 0]
theorem infoP : (Tryz.prog.info? 114).map (·.size) = some 3 := by kernel_rfl
theorem end_pt {fn : Func} {R : Ending → World → Prop} {a : Act} {W : World} {p u : Tmp} {g : Nat} {ty : TypeId} {fr : Nat × Nat} {x0 x1 x2 v : Value} (hr : fn.results = #[.cell p 114, .tmp u]) (hp : a.tmps.getD p undef = .pointer (some ⟨g, 0, none⟩)) (hu : a.tmps.getD u undef = v) (hd : a.defers = [])
 (hg : W.heap[g]? = some (.cells #[x0, x1, x2] ty fr)) (hR : R (.returned (.tuple #[.agg #[x0, x1, x2], v])) W) : bodyPost Tryz.prog fn R .ret a W := by
 refine bodyPost_ret (v := .tuple #[.agg #[x0, x1, x2], v]) ?_ hd hR
 rw [results_cell_tmp hr, hp]
 have h1 : (asAddr (.pointer (some ⟨g, 0, none⟩)) : Sem Addr).run Tryz.prog W = .ok ⟨g, 0, none⟩ W := rfl
 rw [h1, Result.andThen_ok, run_loadVar_row W g ty 114 #[x0, x1, x2] fr _ hg Tryz.underlying114 rfl infoP, Result.andThen_ok, hu]
theorem end_p {fn : Func} {R : Ending → World → Prop} {a : Act} {W : World} {p : Tmp} {g : Nat} {ty : TypeId} {fr : Nat × Nat} {x0 x1 x2 : Value} (hr : fn.results = #[.cell p 114]) (hp : a.tmps.getD p undef = .pointer (some ⟨g, 0, none⟩)) (hd : a.defers = [])
 (hg : W.heap[g]? = some (.cells #[x0, x1, x2] ty fr)) (hR : R (.returned (.agg #[x0, x1, x2])) W) : bodyPost Tryz.prog fn R .ret a W :=
 bodyPost_ret (results_cell_row hr a.tmps W g _ _ _ _ hp hg Tryz.underlying114 rfl infoP) hd hR
theorem pt_facts {W : World} {g : Nat} {ty : TypeId} {x0 x1 x2 : Value} (h : W.heap[g]? = some (.cells #[x0, x1, x2] ty (0, 0))) :
 W.cell? ⟨g, 0, none⟩ = some x0 ∧ W.cell? ⟨g, 1, none⟩ = some x1 ∧ W.cell? ⟨g, 2, none⟩ = some x2 ∧ W.frozen? ⟨g, 0, none⟩ = false ∧ W.frozen? ⟨g, 1, none⟩ = false ∧ W.frozen? ⟨g, 2, none⟩ = false :=
 ⟨blk_cell h 0, blk_cell h 1, blk_cell h 2, blk_free h 0, blk_free h 1, blk_free h 2⟩
theorem pt_one (b : Bool) (A A' : Option Addr) (n n' c c' : Nat) : (#[Value.bool b, .slice A n c, .slice A' n' c'] : Array Value).all (·.oneCell') = true := by simp [Value.oneCell']
theorem pt_set {W : World} {g : Nat} {ty : TypeId} {x0 x1 x2 : Value} (h : W.heap[g]? = some (.cells #[x0, x1, x2] ty (0, 0))) (y0 y1 y2 : Value) : (((W.setCell ⟨g, 0, none⟩ y0).setCell ⟨g, 1, none⟩ y1).setCell ⟨g, 2, none⟩ y2).heap[g]? = some (.cells #[y0, y1, y2] ty (0, 0)) :=
 blk_set (blk_set (blk_set h 0 y0) 1 y1) 2 y2
theorem pt_just (W : World) (g : Nat) (y0 y1 y2 : Value) : Just g W (((W.setCell ⟨g, 0, none⟩ y0).setCell ⟨g, 1, none⟩ y1).setCell ⟨g, 2, none⟩ y2) := (((Just.refl g W).set 0 y0).set 1 y1).set 2 y2
theorem pt_ext {w W : World} {g : Nat} (hE : Ext w W) (hg : w.heap.size ≤ g) (y0 y1 y2 : Value) : Ext w (((W.setCell ⟨g, 0, none⟩ y0).setCell ⟨g, 1, none⟩ y1).setCell ⟨g, 2, none⟩ y2) :=
 ((Below.setCell hE (p := ⟨g, 0, none⟩) hg y0).setCell (p := ⟨g, 1, none⟩) hg y1).setCell (p := ⟨g, 2, none⟩) hg y2
set_option maxRecDepth 100000 in
theorem none_any (w : World) : Calls Tryz.prog 137 #[] w fun e w' => e = .returned infV ∧ Ext w w' := by
 go_enter Tryz.func137, Tryz.ntmps137
 go_wp2
 exact end_p rfl rfl rfl (heap_alloc_new w _) ⟨rfl, Ext.alloc _ _⟩
theorem OB.just {X Y : World} {base b : Nat} {A : Option Addr} {c : Nat} {l : List Nat} (h : OB X base A c l) (hj : Just b X Y) {cs : Array Value} {t : TypeId} (hb : X.heap[b]? = some (.cells cs t (0, 0))) (ht : t ≠ 139) : OB Y base A c l := by
 obtain ⟨h1, h2, h3, h4⟩ := h
 refine ⟨h1, h2, h3, fun hl => ?_⟩
 obtain ⟨g, cur, e, hg, hgc, hr⟩ := h4 hl
 refine ⟨g, cur, e, hg, hj.at_ (fun e => ?_) hgc, hr⟩
 subst e
 rw [hb] at hgc
 injection hgc with hgc
 injection hgc with _ hgc _
 exact ht hgc
end Go.Proofs.YtendnkpiidhogaaGreat

namespace Go.Proofs.YtendnkpiidhogaaGreat
open Go.RowKit

theorem RN.ru {w : World} {P : Nat → Prop} {A : Option Addr} {c : Nat} {l : List Nat} (h : RN w P A c l) (hP : ∀ b, P b → b < w.heap.size) : RU w A c l := h.mono fun b hb => hP b hb
theorem of_b {c : Int} {C : Crv} (h : IsC c C) (w : World) : Calls Tryz.prog 136 #[.int .i64 c] w fun e w' => ∃ k, e = .returned (.pointer (some ⟨k, 0, none⟩)) ∧ (∃ (P0 : Nat → Prop) (g inv : Nat) (ml ol rl tl fl : List Nat) (Ap An Ab Ax Ay : Option Addr) (cp cn cb cx cy : Nat), Num w' P0 k g C.size C.n inv C.M C.bb C.pl C.nl C.bl C.xl C.yl ml ol rl tl fl Ap An Ab Ax Ay cp cn cb cx cy ∧ ∀ b, P0 b → w.heap.size ≤ b ∧ b < w'.heap.size) ∧ Ext w w' := by
 rcases h with ⟨rfl, rfl⟩ | ⟨rfl, rfl⟩
 · refine (of_p256 w).mono ?_
   rintro e w' ⟨k, g, inv, ml, ol, rl, tl, fl, rfl, _, hn, hB⟩
   exact ⟨k, rfl, ⟨_, g, inv, ml, ol, rl, tl, fl, _, _, _, _, _, _, _, _, _, _, hn, fun b hb => hb⟩, hB⟩
 · refine (of_p384 w).mono ?_
   rintro e w' ⟨k, g, inv, ml, ol, rl, tl, fl, rfl, _, hn, hB⟩
   exact ⟨k, rfl, ⟨_, g, inv, ml, ol, rl, tl, fl, _, _, _, _, _, _, _, _, _, _, hn, fun b hb => hb⟩, hB⟩
set_option maxHeartbeats 2000000
theorem order_c {c : Int} {C : Crv} (hC : IsC c C) (w : World) : Calls Tryz.prog 178 #[.int .i64 c] w fun e w' => ∃ A cc, e = .returned (.slice A C.nl.length cc) ∧ RU w' A cc C.nl ∧ Ext w w' := by
 go_enter Tryz.func178, Tryz.ntmps178
 go_wp2_with (go_at_call 136; refine (of_c hC _).mono ?_; rintro e wa ⟨k, rfl, ⟨P0, g, inv, ml, ol, rl, tl, fl, Ap, An, Ab, Ax, Ay, cp, cn, cb, cx, cy, hn, hP0⟩, hE1⟩; have k1 := hn.c_p; have k2 := hn.c_n; have k0 := hn.c_size; have Hn := Lib.hid hn; have HP := Lib.hid hP0; clear hn hP0)
 go_ret
 exact ⟨_, _, rfl, Hn.out.nn.ru HP.out, hE1⟩
theorem size_c {c : Int} {C : Crv} (hC : IsC c C) (w : World) : Calls Tryz.prog 98 #[.int .i64 c] w fun e w' => e = .returned (.int .i64 (C.size : Int)) ∧ Ext w w' := by
 go_enter Tryz.func98, Tryz.ntmps98
 go_wp2_with (go_at_call 136; refine (of_c hC _).mono ?_; rintro e wa ⟨k, rfl, hk, hE1⟩; have k0 := hk.size)
 go_ret
 exact ⟨rfl, hE1⟩
theorem order_nil {c : Int} (h1 : c ≠ 1) (h2 : c ≠ 2) (w : World) : Calls Tryz.prog 178 #[.int .i64 c] w fun e w' => e = .returned (.slice none 0 0) ∧ Ext w w' := by
 go_enter Tryz.func178, Tryz.ntmps178
 go_wp2_with (go_at_call 136; refine (of_nil h1 h2 _).mono ?_; rintro e wa ⟨rfl, hE1⟩)
 go_ret
 exact ⟨rfl, hE1⟩
theorem size_nil {c : Int} (h1 : c ≠ 1) (h2 : c ≠ 2) (w : World) : Calls Tryz.prog 98 #[.int .i64 c] w fun e w' => e = .returned (.int .i64 0) ∧ Ext w w' := by
 go_enter Tryz.func98, Tryz.ntmps98
 go_wp2_with (go_at_call 136; refine (of_nil h1 h2 _).mono ?_; rintro e wa ⟨rfl, hE1⟩)
 go_ret
 exact ⟨rfl, hE1⟩
set_option maxRecDepth 100000 in
theorem base_c {c : Int} {C : Crv} (hC : IsC c C) (w : World) : Calls Tryz.prog 142 #[.int .i64 c] w fun e w' => ∃ A cc A' cc', e = .returned (.agg #[.bool false, .slice A C.xl.length cc, .slice A' C.yl.length cc']) ∧ RU w' A cc C.xl ∧ RU w' A' cc' C.yl ∧ Ext w w' := by
 have hr := heap_alloc_new w (.cells #[.bool false, .slice none 0 0, .slice none 0 0] 114)
 go_enter Tryz.func142, Tryz.ntmps142
 go_wp2_with (go_at_call 136; refine (of_b hC _).mono ?_; rintro e wa ⟨k, rfl, ⟨P0, g, inv, ml, ol, rl, tl, fl, Ap, An, Ab, Ax, Ay, cp, cn, cb, cx, cy, hn, hP0⟩, hE1⟩; have k1 := hn.c_x; have k2 := hn.c_y; have k0 := hn.c_size; have Hn := Lib.hid hn; have HP := Lib.hid hP0; have hra := hE1.at_ hr; obtain ⟨z0, z1, z2, f0, f1, f2⟩ := pt_facts hra; clear hn hP0)
 obtain ⟨q, hq⟩ : ∃ q, w.heap.size = q := ⟨_, rfl⟩
 rw [hq] at hra
 clear z0 z1 z2 f0 f1 f2
 rw [hq]
 refine Par.region_ext (by kernel_rfl) 9 [0, 1, 3, 7, 0, 16, 48, 112, 255, 511] [] (fun j f X => match j with
  | 0 => f 0 = .pointer (some ⟨k, 0, none⟩)
  | 1 => f 1 = .pointer (some ⟨k, 0, none⟩)
  | 2 => f 2 = .pointer (some ⟨k, 4, none⟩)
  | 3 => f 3 = .slice Ax C.xl.length cx
  | 4 => f 4 = .pointer (some ⟨k, 0, none⟩)
  | 5 => f 5 = .pointer (some ⟨k, 0, none⟩)
  | 6 => f 6 = .pointer (some ⟨k, 5, none⟩)
  | 7 => f 7 = .slice Ay C.yl.length cy
  | 8 => f 8 = .agg #[.bool false, .slice Ax C.xl.length cx, .slice Ay C.yl.length cy]
  | _ => True) (by kernel_rfl) [(8, 0), (9, 1), (10, 2), (11, 3), (12, 4), (13, 5), (14, 6), (15, 7), (16, 8)] (by kernel_rfl) ?_
 refine Par.v0 1 8 ?_
 refine Par.v1 2 7 0 ?_
 refine Par.v1 3 6 1 ?_
 refine Par.ld1 4 5 2 k1 ?_
 refine Par.v0 5 4 ?_
 refine Par.v1 6 3 4 ?_
 refine Par.v1 7 2 5 ?_
 refine Par.ld1 8 1 6 k2 ?_
 refine Par.v2 9 0 3 7 ?_
 refine Par.AllOps.fin ⟨fun f X hX hR hal hap => ?_⟩
 have e8 : f 8 = .agg #[.bool false, .slice Ax C.xl.length cx, .slice Ay C.yl.length cy] := hR 8 (by decide)
 simp only [Par.putL, Act.put, List.setIfInBounds_toArray, List.set_cons_succ, List.set_cons_zero, e8]
 clear hR hal hap e8
 refine Par.Chain.next (fun K hK => ⟨Par.want (by kernel_rfl) (wp_storeV (cs' := #[.bool false, .slice Ax C.xl.length cx, .slice Ay C.yl.length cy]) (t := 114) 114 (.tmp 2) (.tmp 16) rfl rfl rfl rfl (hX.at_ hra) infoP rfl (pt_one _ _ _ _ _ _ _) (fun Y hY1 hY2 hY3 => hK.out _ _ ?_))⟩)
 refine Par.Chain.done ?_
 go_wp2
 have zA : q + 1 ≤ wa.heap.size := by have := hE1.bsize; simp only [World.size_alloc] at this; omega
 have hP1 : ∀ b, P0 b → q < b ∧ b < wa.heap.size := fun b hb => by have := HP.out b hb; simp only [World.size_alloc] at this; omega
 have hx : RN Y P0 Ax cx C.xl := (Hn.out.x.below hX (fun b hb => (hP1 b hb).2)).just hY2 (fun b hb => ⟨by have := hP1 b hb; have := hX.bsize; omega, by have := hP1 b hb; omega⟩)
 have hy : RN Y P0 Ay cy C.yl := (Hn.out.y.below hX (fun b hb => (hP1 b hb).2)).just hY2 (fun b hb => ⟨by have := hP1 b hb; have := hX.bsize; omega, by have := hP1 b hb; omega⟩)
 have hb : ∀ b, P0 b → b < Y.heap.size := fun b hb => by have := hP1 b hb; have := hX.bsize; omega
 exact end_p rfl rfl rfl hY1 ⟨_, _, _, _, rfl, hx.ru hb, hy.ru hb, hY2.ext (((Ext.alloc w _).trans hE1).trans hX) (by omega)⟩
end Go.Proofs.YtendnkpiidhogaaGreat

namespace Go.Proofs.YtendnkpiidhogaaGreat
open Go.RowKit

def Tu (w : World) (b : Nat) : Prop := ∃ cur, w.heap[b]? = some (.cells cur 139 (0, 0))
theorem OB.tt {w : World} {base : Nat} {A : Option Addr} {c : Nat} {l : List Nat} (h : OB w base A c l) : RN w (fun b => b < w.heap.size ∧ Tu w b) A c l := by
 have hr := h.rn
 obtain ⟨h1, h2, h3, h4⟩ := h
 obtain ⟨⟨r1, r2, r3, r4⟩, r5⟩ := hr
 refine ⟨⟨r1, r2, r3, fun hl => ?_⟩, r5⟩
 obtain ⟨g, cur, rfl, hb, hg, hc⟩ := h4 hl
 obtain ⟨ad, e, hin, hcell⟩ := r4 hl
 cases e
 exact ⟨_, rfl, ⟨hin.2, cur, hg⟩, hcell⟩
end Go.Proofs.YtendnkpiidhogaaGreat

namespace Go.Proofs.YtendnkpiidhogaaGreat
open Go.RowKit

def RT (w : World) (A : Option Addr) (c : Nat) (l : List Nat) : Prop := RN w (fun b => b < w.heap.size ∧ Tu w b) A c l
end Go.Proofs.YtendnkpiidhogaaGreat

namespace Go.Proofs.YtendnkpiidhogaaGreat
open Go.RowKit

def RC (w : World) (C : Crv) (v : Value) : Prop := ∃ (Ap An Ab Ax Ay : Option Addr) (cp cn cb cx cy : Nat),
 v = .agg #[.slice Ap (digs 4294967296 C.M).length cp, .slice An (digs 4294967296 (val 18446744073709551616 C.nl)).length cn, .slice Ab (digs 4294967296 C.bb).length cb, .slice Ax (digs 4294967296 (val 18446744073709551616 C.xl)).length cx, .slice Ay (digs 4294967296 (val 18446744073709551616 C.yl)).length cy, .int .i64 (C.size : Int)] ∧
 RU w Ap cp (digs 4294967296 C.M) ∧ RU w An cn (digs 4294967296 (val 18446744073709551616 C.nl)) ∧ RU w Ab cb (digs 4294967296 C.bb) ∧ RU w Ax cx (digs 4294967296 (val 18446744073709551616 C.xl)) ∧ RU w Ay cy (digs 4294967296 (val 18446744073709551616 C.yl))
theorem RC.ext {w X : World} {C : Crv} {v : Value} (h : RC w C v) (hE : Ext w X) : RC X C v := by
 obtain ⟨Ap, An, Ab, Ax, Ay, cp, cn, cb, cx, cy, e, h1, h2, h3, h4, h5⟩ := h
 exact ⟨Ap, An, Ab, Ax, Ay, cp, cn, cb, cx, cy, e, h1.up hE, h2.up hE, h3.up hE, h4.up hE, h5.up hE⟩
theorem Tu.ext {w X : World} {b : Nat} (h : Tu w b) (hE : Ext w X) : Tu X b := let ⟨cur, hc⟩ := h; ⟨cur, hE.at_ hc⟩
theorem RT.ru {w : World} {A : Option Addr} {c : Nat} {l : List Nat} (h : RT w A c l) : RU w A c l := RN.mono h fun _ hb => hb.1
theorem RT.up {w X : World} {A : Option Addr} {c : Nat} {l : List Nat} (h : RT w A c l) (hE : Ext w X) : RT X A c l := (RN.below h hE fun _ hb => hb.1).mono fun _ hb => ⟨Nat.lt_of_lt_of_le hb.1 hE.bsize, hb.2.ext hE⟩
end Go.Proofs.YtendnkpiidhogaaGreat

namespace Go.Proofs.YtendnkpiidhogaaGreat
open Go.RowKit

theorem Crv.Fine.len {C : Crv} (h : C.Fine) : (digs 4294967296 C.M).length ≤ 96 := by
 have h1 := h.room
 have h2 : (256 : Nat) ^ C.size ≤ 256 ^ 48 := Nat.pow_le_pow_right (by omega) h.small
 have h3 : (256 : Nat) ^ 48 ≤ 4294967296 ^ 96 := by decide +kernel
 exact digs_length_of_lt (by omega) (Nat.lt_of_lt_of_le h1 (Nat.le_trans h2 h3))

end Go.Proofs.YtendnkpiidhogaaGreat

namespace Go.Proofs.YtendnkpiidhogaaGreat
open Go.RowKit

def c0 : Crv := ⟨0, 0, 0, 0, [], [], [], [], []⟩
end Go.Proofs.YtendnkpiidhogaaGreat

namespace Go.Proofs.YtendnkpiidhogaaGreat
open Go.RowKit

def IsU (c : Int) (C : Crv) : Prop := IsC c C ∨ (c ≠ 1 ∧ c ≠ 2 ∧ C = c0)
theorem isU (c : Int) : ∃ C, IsU c C := by
 by_cases h1 : c = 1
 · exact ⟨c256, Or.inl (Or.inl ⟨h1, rfl⟩)⟩
 · by_cases h2 : c = 2
   · exact ⟨c384, Or.inl (Or.inr ⟨h2, rfl⟩)⟩
   · exact ⟨c0, Or.inr ⟨h1, h2, rfl⟩⟩
theorem order_u {c : Int} {C : Crv} (h : IsU c C) (w : World) : Calls Tryz.prog 178 #[.int .i64 c] w fun e w' => ∃ A cc, e = .returned (.slice A C.nl.length cc) ∧ RU w' A cc C.nl ∧ Ext w w' := by
 rcases h with h | ⟨h1, h2, rfl⟩
 · exact order_c h w
 · exact (order_nil h1 h2 w).mono fun e w' ⟨h, hE⟩ => ⟨none, 0, h, RN.nil_ _ _, hE⟩
theorem size_u {c : Int} {C : Crv} (h : IsU c C) (w : World) : Calls Tryz.prog 98 #[.int .i64 c] w fun e w' => e = .returned (.int .i64 (C.size : Int)) ∧ Ext w w' := by
 rcases h with h | ⟨h1, h2, rfl⟩
 · exact size_c h w
 · exact size_nil h1 h2 w
end Go.Proofs.YtendnkpiidhogaaGreat

namespace Go.Proofs.YtendnkpiidhogaaGreat
open Go.RowKit

theorem end_e {fn : Func} {R : Ending → World → Prop} {a : Act} {W : World} {p : Tmp} {g : Nat} {l : List Nat} (hr : fn.results = #[.cell p 160]) (hp : a.tmps.getD p undef = .pointer (some ⟨g, 0, none⟩)) (hd : a.defers = [])
 (hg : BlkE W g l) (h6 : l.length = 6) (hR : R (.returned (EV l)) W) : bodyPost Tryz.prog fn R .ret a W :=
 bodyPost_ret (results_cell_row hr a.tmps W g _ _ _ _ hp hg Tryz.underlying160 rfl (by rw [List.size_toArray, nts_length, h6]; exact infoE)) hd hR
theorem zero6 : ([.int .u64 0, .int .u64 0, .int .u64 0, .int .u64 0, .int .u64 0, .int .u64 0] : List Value).length = 6 := rfl
theorem FR.r_one {w : World} {g n inv M : Nat} {ml ol rl : List Nat} (h : FR w g n inv M ml ol rl) : w.rangeAt g 8 (nts ol) := fun j v hv => by
 rw [blk_cell h.ff.fld.blk]
 obtain ⟨a, b, c, d, e, f, rfl⟩ := six h.ff.fld.m6
 obtain ⟨a, b, c, d, e, f, rfl⟩ := six h.ff.fld.o6
 match j, hv with
 | 0, hv | 1, hv | 2, hv | 3, hv | 4, hv | 5, hv => exact hv
 | j + 6, hv => simp [nts] at hv
theorem FR.fone {w : World} {g n inv M : Nat} {ml ol rl : List Nat} (h : FR w g n inv M ml ol rl) : FE M n ol 1 := ⟨h.oelt, by rw [h.oval, Nat.one_mul]⟩
theorem FR.ext {w X : World} {g n inv M : Nat} {ml ol rl : List Nat} (h : FR w g n inv M ml ol rl) (hE : Ext w X) : FR X g n inv M ml ol rl := h.below hE h.ff.fld.lt
set_option maxRecDepth 100000 in
set_option maxHeartbeats 2000000 in
theorem one_any {g n inv M : Nat} {ml ol rl : List Nat} (w : World) (hF : FR w g n inv M ml ol rl) : Calls Tryz.prog 214 #[.pointer (some ⟨g, 0, none⟩)] w fun e w' => e = .returned (EV ol) ∧ Ext w w' := by
 have hF' := Lib.hid hF
 have hz := heap_alloc_new w (.cells #[.int .u64 0, .int .u64 0, .int .u64 0, .int .u64 0, .int .u64 0, .int .u64 0] 160)
 go_enter Tryz.func214, Tryz.ntmps214
 go_upto_region 1 with fail
 refine Par.region_txt 4 [0, 1, 3, 7, 15] [] (fun j f X => match j with
  | 0 => f 0 = .pointer (some ⟨g, 0, none⟩)
  | 1 => f 1 = .pointer (some ⟨g, 0, none⟩)
  | 2 => f 2 = .pointer (some ⟨g, 8, none⟩)
  | 3 => f 3 = EV ol
  | _ => True) (by kernel_rfl) [(3, 0), (4, 1), (5, 2), (6, 3)] (by kernel_rfl) ?_
 refine Par.v0 1 3 ?_
 refine Par.v1 2 2 0 ?_
 refine Par.v1 3 1 1 ?_
 refine Par.S 4 0 [(3, 0), (4, 1), (5, 2)] (fun f X hX hR K hK => ?_) ?_
 · have e2 : f 2 = _ := hR.out 2 rfl
   simp only [yA, yB, yC, yD, yE, e2]
   refine ⟨Par.want (by kernel_rfl) (wp_loadE (.tmp 5) rfl rfl (hF'.out.ext ((Ext.alloc _ _).trans hX)).r_one hF'.out.oelt.six ?_)⟩
   exact hK.out _ (EV ol) _ (by simp only [yA, yB, yC, yD, yE, e2]) (Ext.refl _) trivial (fun _ _ => rfl)
 refine Par.AllOps.fin ⟨fun f X hX hR hal hap => ?_⟩
 have e3 : f 3 = _ := hR 3 (by decide)
 simp only [yA, yB, yD, yE, e3]
 clear hR hal hap e3
 refine Par.Chain.next (fun K hK => ⟨Par.want (by kernel_rfl) (wp_storeE (.tmp 2) (.tmp 6) rfl rfl rfl rfl (hX.at_ hz) zero6 hF'.out.oelt.six (fun Y1 hl1 => hK.out _ _ ?_))⟩)
 refine Par.Chain.done ?_
 go_wp2
 exact end_e rfl rfl rfl hl1.blk hF'.out.oelt.six ⟨rfl, hl1.ext ((Ext.alloc _ _).trans hX) (Nat.le_refl _)⟩
theorem BlkE.rn {w : World} {b : Nat} {l : List Nat} (h : BlkE w b l) (h6 : l.length = 6) (hl : ∀ x ∈ l, x < 18446744073709551616) : RN w (fun b => b < w.heap.size) (some ⟨b, 0, none⟩) 6 l := by
 refine ⟨⟨by omega, by unfold maxLen; omega, by rw [nts_length]; omega, fun _ => ⟨_, rfl, h.lt, fun j v hv => ?_⟩⟩, hl, by omega⟩
 rw [add_blk, blk_cell h j]
 simpa using hv
set_option maxRecDepth 100000 in
set_option maxHeartbeats 2000000 in
theorem from_f {g n inv M : Nat} {ml ol rl a : List Nat} {x : Nat} (w : World) (hF : FR w g n inv M ml ol rl) (ha : FE M n a x) : Calls Tryz.prog 217 #[.pointer (some ⟨g, 0, none⟩), EV a] w fun e w' => ∃ A1 c1, e = .returned (.slice A1 (digs 18446744073709551616 (x % M)).length c1) ∧ OB w' w.heap.size A1 c1 (digs 18446744073709551616 (x % M)) ∧ Ext w w' := by
 have hF' := Lib.hid hF
 have ha' := Lib.hid ha
 have h1M := hF.ff.big
 have he1 : Elt M [1, 0, 0, 0, 0, 0] := ⟨rfl, by decide, by simpa using h1M⟩
 obtain ⟨q, hq⟩ : ∃ q, w.heap.size = q := ⟨_, rfl⟩
 have hbx : (w.alloc (.cells (nts a).toArray 160)).heap[w.heap.size]? = some (.cells (nts a).toArray 160 (0, 0)) := heap_alloc_new w _
 obtain ⟨y, hy⟩ : ∃ y, x % M = y := ⟨_, rfl⟩
 have hmul := Lib.hid (fun X (hX : Ext w X) => (zmul_any a [1, 0, 0, 0, 0, 0] X (hF.ext hX).ff ha.elt he1).mono (R' := fun e w' => ∃ o, e = .returned (EV o) ∧ o.length = 6 ∧ (∀ x ∈ o, x < 18446744073709551616) ∧ val 18446744073709551616 o = y ∧ Ext X w') (by
  rintro e w' ⟨o, rfl, ho, hv, hB⟩
  refine ⟨o, rfl, ho.six, ho.lim, ?_, hB⟩
  have hv1 : val 18446744073709551616 [1, 0, 0, 0, 0, 0] = 1 := by simp
  rw [hv1, Nat.mul_one, ha.form, Nat.mod_mod] at hv
  have := cancelR hF.ff.invV hv
  rw [Nat.mod_eq_of_lt ho.lt] at this
  rw [this, hy]))
 rw [hy]
 have h6 := ha.elt.six
 have e1 : EV [1, 0, 0, 0, 0, 0] = .agg #[.int .u64 1, .int .u64 0, .int .u64 0, .int .u64 0, .int .u64 0, .int .u64 0] := rfl
 rw [e1] at hmul
 have hev : EV a = .agg (nts a).toArray := rfl
 obtain ⟨W0, hW0⟩ : ∃ W0, W0 = w.alloc (.cells (nts a).toArray 160) := ⟨_, rfl⟩
 rw [← hW0, hq] at hbx
 have hE0 : Ext w W0 := by rw [hW0]; exact Ext.alloc _ _
 have HE0 := Lib.hid hE0
 have Hq := Lib.hid hq
 have Hz := Lib.hid (show W0.heap.size = w.heap.size + 1 by rw [hW0]; simp)
 have H6 := Lib.hid h6
 have HW0 := Lib.hid hW0
 clear hF ha h1M he1 hy e1 hE0 hW0 h6
 rw [hev]
 clear hev
 go_enter Tryz.func217, Tryz.ntmps217
 go_upto_region 1 with fail
 rw [← HW0.out]
 refine Par.region_txt 5 [0, 0, 0, 7, 0, 31] [4] (fun j f X => match j with
  | 0 => f 0 = .pointer (some ⟨g, 0, none⟩)
  | 1 => f 1 = EV a
  | 2 => f 2 = .agg #[.int .u64 1, .int .u64 0, .int .u64 0, .int .u64 0, .int .u64 0, .int .u64 0]
  | 3 => ∃ o, f 3 = EV o ∧ o.length = 6 ∧ (∀ x ∈ o, x < 18446744073709551616) ∧ val 18446744073709551616 o = y
  | 4 => ∃ b, f 4 = .pointer (some ⟨b, 0, none⟩) ∧ W0.heap.size ≤ b ∧ X.heap[b]? = some (.cells #[.int .u64 0, .int .u64 0, .int .u64 0, .int .u64 0, .int .u64 0, .int .u64 0] 160 (0, 0))
  | _ => True) (by kernel_rfl) [(6, 0), (7, 1), (8, 2), (9, 3), (5, 4)] (by kernel_rfl) ?_
 refine Par.v0 1 4 ?_
 refine Par.S 2 3 [(6, 0), (8, 2), (5, 4)] (fun f X hX hR K hK => ?_) ?_
 · simp only [yA, yB, yC, yD, yE]
   refine ⟨Par.want (by kernel_rfl) (wp_loadE (.tmp 3) rfl rfl (BlkE.range (hX.at_ hbx)) H6.out ?_)⟩
   exact hK.out _ (EV a) _ (by simp only [yA, yB, yC, yD, yE]) (Ext.refl _) trivial (fun _ _ => rfl)
 refine Par.v0 3 2 ?_
 refine Par.c0 4 1 (fun f => #[f 0, f 1, f 2]) (F' := 175) (fun f X hX hR => ?_) ?_
 · have e0 : f 0 = _ := hR.out 0 rfl
   have e1 : f 1 = _ := hR.out 1 rfl
   have e2 : f 2 = _ := hR.out 2 rfl
   simp only [e0, e1, e2]
   refine (hmul.out X (HE0.out.trans hX)).mono ?_
   rintro e w2 ⟨o, rfl, h6, hb, hv, hB⟩
   exact ⟨(EV o), rfl, hB, fun Y hY => ⟨o, rfl, h6, hb, hv⟩⟩
 refine Par.al 5 0 ?_
 refine Par.AllOps.fin ⟨fun f X hX hR hal hap => ?_⟩
 obtain ⟨o3, (e3 : f 3 = _), l3, b3, v3⟩ := hR 3 (by decide)
 obtain ⟨b4, (e4 : f 4 = _), l4, h4⟩ := hR 4 (by decide)
 simp only [yA, yB, yD, yE, e3, e4]
 clear hR hal hap e3 e4
 refine Par.Chain.next (fun K hK => ⟨Par.want (by kernel_rfl) (wp_storeE (.tmp 5) (.tmp 9) rfl rfl rfl rfl h4 zero6 l3 (fun Y1 hl1 => hK.out _ _ ?_))⟩)
 refine Par.Chain.done ?_
 have hE1 : Ext w Y1 := hl1.ext (HE0.out.trans hX) (by have := Hz.out; omega)
 have hno := norm_any _ (some ⟨b4, 0, none⟩) 6 o3 Y1 (hl1.blk.rn l3 b3)
 rw [v3, l3] at hno
 have Hno := Lib.hid hno
 have HE1 := Lib.hid hE1
 clear hno hl1 b3 v3 h4 l4 hX l3 hE1
 go_wp2_with (go_at_call 173; refine Hno.out.mono ?_; rintro e w2 ⟨A1, c1, rfl, hO, hB⟩)
 go_ret
 exact ⟨A1, c1, rfl, hO.mono (by have := HE1.out.bsize; have := Hq.out; omega), HE1.out.trans hB⟩
end Go.Proofs.YtendnkpiidhogaaGreat
