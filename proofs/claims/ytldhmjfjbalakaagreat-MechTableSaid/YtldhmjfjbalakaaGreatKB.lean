/- curve.of: a curve's numbers. curve.of for P-384 (printed from P-256's by a program). -/
import Derived.Test.YtldhmjfjbalakaaGreatZNew
import Derived.Sort.AtCall
import Derived.Deep.RegionHeld3
namespace Go.Proofs.YtldhmjfjbalakaaGreat
open Go.RowKit

def kcells (size : Nat) (sp sn sb sx sy fp : Value) (tl fl : List Nat) : List Value := [Value.int .i64 (size : Int), sp, sn, sb, sx, sy, fp] ++ nts tl ++ nts fl
/-- A curve's numbers, in a record k. -/
structure Num (w : World) (P : Nat → Prop) (k g size n inv M bb : Nat) (pl nl bl xl yl ml ol rl tl fl : List Nat) (Ap An Ab Ax Ay : Option Addr) (cp cn cb cx cy : Nat) : Prop where
  blk : w.heap[k]? = some (.cells (kcells size (.slice Ap pl.length cp) (.slice An nl.length cn) (.slice Ab bl.length cb) (.slice Ax xl.length cx) (.slice Ay yl.length cy) (.pointer (some ⟨g, 0, none⟩)) tl fl).toArray 137 (0, 0))
  p : RN w P Ap cp pl
  nn : RN w P An cn nl
  b : RN w P Ab cb bl
  x : RN w P Ax cx xl
  y : RN w P Ay cy yl
  fr : FR w g n inv M ml ol rl
  pv : val 18446744073709551616 pl = M
  three : FE M n tl 3
  fb : FE M n fl bb

theorem set6 {w : World} {g i : Nat} {v a b c d e f : Value} (j : Nat) (h1 : i < j) (_h2 : i < 100) (h : w.cell? ⟨g, i, none⟩ = some v) :
    ((((((w.setCell ⟨g, j, none⟩ a).setCell ⟨g, j + 1, none⟩ b).setCell ⟨g, j + 2, none⟩ c).setCell ⟨g, j + 3, none⟩ d).setCell ⟨g, j + 4, none⟩ e).setCell ⟨g, j + 5, none⟩ f).cell? ⟨g, i, none⟩ = some v := by
  have key : ∀ (w : World) (k : Nat) (u : Value), i < k → (w.setCell ⟨g, k, none⟩ u).cell? ⟨g, i, none⟩ = w.cell? ⟨g, i, none⟩ := fun w k u hk => by
    have hne : k ≠ i := by omega
    simp [go_sem, hne]
  rw [key _ _ _ (by omega), key _ _ _ (by omega), key _ _ _ (by omega), key _ _ _ (by omega), key _ _ _ (by omega), key _ _ _ (by omega)]
  exact h
theorem kcells_zero {w : World} {k size : Nat} {sp sn sb sx sy fp : Value} {ty : TypeId} (h : w.heap[k]? = some (.cells (kcells size sp sn sb sx sy fp z6 z6).toArray ty (0, 0))) : ∀ i, 7 ≤ i → i < 19 → w.cell? ⟨k, i, none⟩ = some (.int .u64 0) ∧ w.frozen? ⟨k, i, none⟩ = false := by
  intro i h1 h2
  refine ⟨?_, blk_free h i⟩
  rw [blk_cell h i]
  obtain ⟨j, rfl⟩ : ∃ j, i = j + 7 := ⟨i - 7, by omega⟩
  match j, h2 with
  | 0, _ | 1, _ | 2, _ | 3, _ | 4, _ | 5, _ | 6, _ | 7, _ | 8, _ | 9, _ | 10, _ | 11, _ => rfl
  | j + 12, h2 => omega
/-- Six cells amid a record's are laid. -/
theorem six_mid {w : World} {g j : Nat} {ty : TypeId} {x0 x1 x2 x3 x4 x5 a b c d e f : Value} (pre post : List Value) (hj : pre.length = j) (h : w.heap[g]? = some (.cells (pre ++ x0 :: x1 :: x2 :: x3 :: x4 :: x5 :: post).toArray ty (0, 0))) :
    ((((((w.setCell ⟨g, j, none⟩ a).setCell ⟨g, j + 1, none⟩ b).setCell ⟨g, j + 2, none⟩ c).setCell ⟨g, j + 3, none⟩ d).setCell ⟨g, j + 4, none⟩ e).setCell ⟨g, j + 5, none⟩ f).heap[g]? = some (.cells (pre ++ a :: b :: c :: d :: e :: f :: post).toArray ty (0, 0)) := by
  subst hj
  rw [blk_set (blk_set (blk_set (blk_set (blk_set (blk_set h pre.length a) (pre.length + 1) b) (pre.length + 2) c) (pre.length + 3) d) (pre.length + 4) e) (pre.length + 5) f]
  simp only [List.setIfInBounds_toArray]
  rw [List.set_append_right _ _ (by omega), List.set_append_right _ _ (by omega), List.set_append_right _ _ (by omega), List.set_append_right _ _ (by omega), List.set_append_right _ _ (by omega), List.set_append_right _ _ (by omega)]
  simp
theorem twelve {w : World} {g size : Nat} {sp sn sb sx sy fp : Value} {ty : TypeId} (h : w.heap[g]? = some (.cells (kcells size sp sn sb sx sy fp z6 z6).toArray ty (0, 0))) (u0 u1 u2 u3 u4 u5 v0 v1 v2 v3 v4 v5 : Nat) :
    ((((((((((((w.setCell ⟨g, 7, none⟩ (.int .u64 (u0 : Int))).setCell ⟨g, 8, none⟩ (.int .u64 (u1 : Int))).setCell ⟨g, 9, none⟩ (.int .u64 (u2 : Int))).setCell ⟨g, 10, none⟩ (.int .u64 (u3 : Int))).setCell ⟨g, 11, none⟩ (.int .u64 (u4 : Int))).setCell ⟨g, 12, none⟩ (.int .u64 (u5 : Int))).setCell ⟨g, 13, none⟩ (.int .u64 (v0 : Int))).setCell ⟨g, 14, none⟩ (.int .u64 (v1 : Int))).setCell ⟨g, 15, none⟩ (.int .u64 (v2 : Int))).setCell ⟨g, 16, none⟩ (.int .u64 (v3 : Int))).setCell ⟨g, 17, none⟩ (.int .u64 (v4 : Int))).setCell ⟨g, 18, none⟩ (.int .u64 (v5 : Int))).heap[g]? = some (.cells (kcells size sp sn sb sx sy fp [u0, u1, u2, u3, u4, u5] [v0, v1, v2, v3, v4, v5]).toArray ty (0, 0)) ∧
    (∀ b, b ≠ g → ((((((((((((w.setCell ⟨g, 7, none⟩ (.int .u64 (u0 : Int))).setCell ⟨g, 8, none⟩ (.int .u64 (u1 : Int))).setCell ⟨g, 9, none⟩ (.int .u64 (u2 : Int))).setCell ⟨g, 10, none⟩ (.int .u64 (u3 : Int))).setCell ⟨g, 11, none⟩ (.int .u64 (u4 : Int))).setCell ⟨g, 12, none⟩ (.int .u64 (u5 : Int))).setCell ⟨g, 13, none⟩ (.int .u64 (v0 : Int))).setCell ⟨g, 14, none⟩ (.int .u64 (v1 : Int))).setCell ⟨g, 15, none⟩ (.int .u64 (v2 : Int))).setCell ⟨g, 16, none⟩ (.int .u64 (v3 : Int))).setCell ⟨g, 17, none⟩ (.int .u64 (v4 : Int))).setCell ⟨g, 18, none⟩ (.int .u64 (v5 : Int))).heap[b]? = w.heap[b]?) ∧ ((((((((((((w.setCell ⟨g, 7, none⟩ (.int .u64 (u0 : Int))).setCell ⟨g, 8, none⟩ (.int .u64 (u1 : Int))).setCell ⟨g, 9, none⟩ (.int .u64 (u2 : Int))).setCell ⟨g, 10, none⟩ (.int .u64 (u3 : Int))).setCell ⟨g, 11, none⟩ (.int .u64 (u4 : Int))).setCell ⟨g, 12, none⟩ (.int .u64 (u5 : Int))).setCell ⟨g, 13, none⟩ (.int .u64 (v0 : Int))).setCell ⟨g, 14, none⟩ (.int .u64 (v1 : Int))).setCell ⟨g, 15, none⟩ (.int .u64 (v2 : Int))).setCell ⟨g, 16, none⟩ (.int .u64 (v3 : Int))).setCell ⟨g, 17, none⟩ (.int .u64 (v4 : Int))).setCell ⟨g, 18, none⟩ (.int .u64 (v5 : Int))).heap.size = w.heap.size ∧ ∀ B w0, B ≤ g → Below B w0 w → Below B w0 ((((((((((((w.setCell ⟨g, 7, none⟩ (.int .u64 (u0 : Int))).setCell ⟨g, 8, none⟩ (.int .u64 (u1 : Int))).setCell ⟨g, 9, none⟩ (.int .u64 (u2 : Int))).setCell ⟨g, 10, none⟩ (.int .u64 (u3 : Int))).setCell ⟨g, 11, none⟩ (.int .u64 (u4 : Int))).setCell ⟨g, 12, none⟩ (.int .u64 (u5 : Int))).setCell ⟨g, 13, none⟩ (.int .u64 (v0 : Int))).setCell ⟨g, 14, none⟩ (.int .u64 (v1 : Int))).setCell ⟨g, 15, none⟩ (.int .u64 (v2 : Int))).setCell ⟨g, 16, none⟩ (.int .u64 (v3 : Int))).setCell ⟨g, 17, none⟩ (.int .u64 (v4 : Int))).setCell ⟨g, 18, none⟩ (.int .u64 (v5 : Int))) := by
  refine ⟨?_, ?_, by simp [World.setCell], ?_⟩
  · have h1 := six_mid [Value.int .i64 (size : Int), sp, sn, sb, sx, sy, fp] (nts z6) (j := 7) (ty := ty) (x0 := .int .u64 0) (x1 := .int .u64 0) (x2 := .int .u64 0) (x3 := .int .u64 0) (x4 := .int .u64 0) (x5 := .int .u64 0) rfl (a := .int .u64 (u0 : Int)) (b := .int .u64 (u1 : Int)) (c := .int .u64 (u2 : Int)) (d := .int .u64 (u3 : Int)) (e := .int .u64 (u4 : Int)) (f := .int .u64 (u5 : Int)) (h.trans (by simp [kcells, nts, z6]))
    have h2 := six_mid ([Value.int .i64 (size : Int), sp, sn, sb, sx, sy, fp] ++ nts [u0, u1, u2, u3, u4, u5]) [] (j := 13) (ty := ty) (x0 := .int .u64 0) (x1 := .int .u64 0) (x2 := .int .u64 0) (x3 := .int .u64 0) (x4 := .int .u64 0) (x5 := .int .u64 0) (by simp [nts]) (a := .int .u64 (v0 : Int)) (b := .int .u64 (v1 : Int)) (c := .int .u64 (v2 : Int)) (d := .int .u64 (v3 : Int)) (e := .int .u64 (v4 : Int)) (f := .int .u64 (v5 : Int)) (h1.trans (by simp [kcells, nts, z6]))
    exact h2.trans (by simp [kcells, nts])
  · intro b hb
    repeat rw [Below.heap_setCell _ _ _ _ hb]
  · intro B w0 hB h0
    exact ((((((((((((h0.setCell (p := ⟨g, 7, none⟩) hB (.int .u64 (u0 : Int))).setCell (p := ⟨g, 8, none⟩) hB (.int .u64 (u1 : Int))).setCell (p := ⟨g, 9, none⟩) hB (.int .u64 (u2 : Int))).setCell (p := ⟨g, 10, none⟩) hB (.int .u64 (u3 : Int))).setCell (p := ⟨g, 11, none⟩) hB (.int .u64 (u4 : Int))).setCell (p := ⟨g, 12, none⟩) hB (.int .u64 (u5 : Int))).setCell (p := ⟨g, 13, none⟩) hB (.int .u64 (v0 : Int))).setCell (p := ⟨g, 14, none⟩) hB (.int .u64 (v1 : Int))).setCell (p := ⟨g, 15, none⟩) hB (.int .u64 (v2 : Int))).setCell (p := ⟨g, 16, none⟩) hB (.int .u64 (v3 : Int))).setCell (p := ⟨g, 17, none⟩) hB (.int .u64 (v4 : Int))).setCell (p := ⟨g, 18, none⟩) hB (.int .u64 (v5 : Int)))
def p256p : List Nat := [18446744073709551615, 4294967295, 0, 18446744069414584321]
def p256n : List Nat := [17562291160714782033, 13611842547513532036, 18446744073709551615, 18446744069414584320]
def p256b : List Nat := [4309448131093880907, 7285987128567378166, 12964664127075681980, 6540974713487397863]
def p256x : List Nat := [17627433388654248598, 8575836109218198432, 17923454489921339634, 7716867327612699207]
def p256y : List Nat := [14678990851816772085, 3156516839386865358, 10297457778147434006, 5756518291402817435]
def Lits (l : List Nat) : Prop := (∀ x ∈ l, x < 18446744073709551616) ∧ l.length ≤ 6
theorem RN.lits (w : World) (l : List Nat) (h : Lits l) : RN (w.alloc (.cells (nts l).toArray 90)) (In w.heap.size (w.heap.size + 1)) (some ⟨w.heap.size, 0, none⟩) l.length l := by
  have hb : Blk (w.alloc (.cells (nts l).toArray 90)) w.heap.size l := heap_alloc_new w _
  have := (OB.of_blk (c := l.length) hb (base := w.heap.size) (Nat.le_refl _) ⟨h.1, by have := h.2; omega⟩ (Nat.le_refl _) (by have := h.2; unfold maxLen; omega)).rn
  exact this.mono fun b hb => by have := hb.2; rw [World.size_alloc] at this; exact ⟨hb.1, this⟩
/-- Five rows of limbs and a record are laid. -/
theorem five_lits (w : World) (l1 l2 l3 l4 l5 : List Nat) (o : Obj) (h1 : Lits l1) (h2 : Lits l2) (h3 : Lits l3) (h4 : Lits l4) (h5 : Lits l5) :
    ∀ W, W = (((((w.alloc (.cells (nts l1).toArray 90)).alloc (.cells (nts l2).toArray 90)).alloc (.cells (nts l3).toArray 90)).alloc (.cells (nts l4).toArray 90)).alloc (.cells (nts l5).toArray 90)).alloc o →
    RN W (In w.heap.size (w.heap.size + 5)) (some ⟨w.heap.size, 0, none⟩) l1.length l1 ∧ RN W (In w.heap.size (w.heap.size + 5)) (some ⟨w.heap.size + 1, 0, none⟩) l2.length l2 ∧ RN W (In w.heap.size (w.heap.size + 5)) (some ⟨w.heap.size + 1 + 1, 0, none⟩) l3.length l3 ∧
    RN W (In w.heap.size (w.heap.size + 5)) (some ⟨w.heap.size + 1 + 1 + 1, 0, none⟩) l4.length l4 ∧ RN W (In w.heap.size (w.heap.size + 5)) (some ⟨w.heap.size + 1 + 1 + 1 + 1, 0, none⟩) l5.length l5 ∧ W.heap[w.heap.size + 1 + 1 + 1 + 1 + 1]? = some o ∧ W.heap.size = w.heap.size + 6 ∧ Below w.heap.size w W := by
  rintro W rfl
  have r1 := RN.lits w l1 h1
  have r2 := RN.lits (w.alloc (.cells (nts l1).toArray 90)) l2 h2
  have r3 := RN.lits ((w.alloc (.cells (nts l1).toArray 90)).alloc (.cells (nts l2).toArray 90)) l3 h3
  have r4 := RN.lits (((w.alloc (.cells (nts l1).toArray 90)).alloc (.cells (nts l2).toArray 90)).alloc (.cells (nts l3).toArray 90)) l4 h4
  have r5 := RN.lits ((((w.alloc (.cells (nts l1).toArray 90)).alloc (.cells (nts l2).toArray 90)).alloc (.cells (nts l3).toArray 90)).alloc (.cells (nts l4).toArray 90)) l5 h5
  have e := heap_alloc_new (((((w.alloc (.cells (nts l1).toArray 90)).alloc (.cells (nts l2).toArray 90)).alloc (.cells (nts l3).toArray 90)).alloc (.cells (nts l4).toArray 90)).alloc (.cells (nts l5).toArray 90)) o
  have b6 : Below (w.heap.size + 5) (((((w.alloc (.cells (nts l1).toArray 90)).alloc (.cells (nts l2).toArray 90)).alloc (.cells (nts l3).toArray 90)).alloc (.cells (nts l4).toArray 90)).alloc (.cells (nts l5).toArray 90)) ((((((w.alloc (.cells (nts l1).toArray 90)).alloc (.cells (nts l2).toArray 90)).alloc (.cells (nts l3).toArray 90)).alloc (.cells (nts l4).toArray 90)).alloc (.cells (nts l5).toArray 90)).alloc o) := (Below.refl _ _).alloc (by simp <;> omega) _
  simp only [World.size_alloc] at r2 r3 r4 r5 e
  have s4 := (r4.below ((Below.refl (w.heap.size + 4) _).alloc (by simp <;> omega) (.cells (nts l5).toArray 90)) (fun b hb => by have := hb.2; omega)).below b6 (fun b hb => by have := hb.2; omega)
  have s3 := ((r3.below ((Below.refl (w.heap.size + 3) _).alloc (by simp <;> omega) (.cells (nts l4).toArray 90)) (fun b hb => by have := hb.2; omega)).below ((Below.refl (w.heap.size + 4) _).alloc (by simp <;> omega) (.cells (nts l5).toArray 90)) (fun b hb => by have := hb.2; omega)).below b6 (fun b hb => by have := hb.2; omega)
  have s2 := (((r2.below ((Below.refl (w.heap.size + 2) _).alloc (by simp) (.cells (nts l3).toArray 90)) (fun b hb => by have := hb.2; omega)).below ((Below.refl (w.heap.size + 3) _).alloc (by simp <;> omega) (.cells (nts l4).toArray 90)) (fun b hb => by have := hb.2; omega)).below ((Below.refl (w.heap.size + 4) _).alloc (by simp <;> omega) (.cells (nts l5).toArray 90)) (fun b hb => by have := hb.2; omega)).below b6 (fun b hb => by have := hb.2; omega)
  have s1 := ((((r1.below ((Below.refl (w.heap.size + 1) _).alloc (by simp) (.cells (nts l2).toArray 90)) (fun b hb => by have := hb.2; omega)).below ((Below.refl (w.heap.size + 2) _).alloc (by simp) (.cells (nts l3).toArray 90)) (fun b hb => by have := hb.2; omega)).below ((Below.refl (w.heap.size + 3) _).alloc (by simp <;> omega) (.cells (nts l4).toArray 90)) (fun b hb => by have := hb.2; omega)).below ((Below.refl (w.heap.size + 4) _).alloc (by simp <;> omega) (.cells (nts l5).toArray 90)) (fun b hb => by have := hb.2; omega)).below b6 (fun b hb => by have := hb.2; omega)
  have s5 := r5.below b6 (fun b hb => by have := hb.2; omega)
  refine ⟨s1.mono ?_, s2.mono ?_, s3.mono ?_, s4.mono ?_, s5.mono ?_, e, by simp, ?_⟩
  any_goals (intro b hb; have h1 := hb.1; have h2 := hb.2; exact ⟨by omega, by omega⟩)
  exact ((((((Below.refl _ w).alloc (Nat.le_refl _) _).alloc (by simp) _).alloc (by simp <;> omega) _).alloc (by simp <;> omega) _).alloc (by simp <;> omega) _).alloc (by simp <;> omega) _

set_option maxRecDepth 100000 in
set_option maxHeartbeats 8000000 in
theorem of_p256 (w : World) : Calls Tryz.prog 97 #[.int .i64 1] w fun e w' => ∃ k g inv ml ol rl tl fl, e = .returned (.pointer (some ⟨k, 0, none⟩)) ∧ w.heap.size ≤ k ∧
    Num w' (In w.heap.size w'.heap.size) k g 32 4 inv (val 18446744073709551616 p256p) (val 18446744073709551616 p256b) p256p p256n p256b p256x p256y ml ol rl tl fl (some ⟨w.heap.size, 0, none⟩) (some ⟨w.heap.size + 1, 0, none⟩) (some ⟨w.heap.size + 1 + 1, 0, none⟩) (some ⟨w.heap.size + 1 + 1 + 1, 0, none⟩) (some ⟨w.heap.size + 1 + 1 + 1 + 1, 0, none⟩) 4 4 4 4 4 ∧ Below w.heap.size w w' := by
  obtain ⟨z, hz⟩ : ∃ z, z = World.alloc (((((w.alloc (.cells (nts p256p).toArray 90)).alloc (.cells (nts p256n).toArray 90)).alloc (.cells (nts p256b).toArray 90)).alloc (.cells (nts p256x).toArray 90)).alloc (.cells (nts p256y).toArray 90)) (.cells (kcells 32 (.slice (some ⟨w.heap.size, 0, none⟩) 4 4) (.slice (some ⟨w.heap.size + 1, 0, none⟩) 4 4) (.slice (some ⟨w.heap.size + 1 + 1, 0, none⟩) 4 4) (.slice (some ⟨w.heap.size + 1 + 1 + 1, 0, none⟩) 4 4) (.slice (some ⟨w.heap.size + 1 + 1 + 1 + 1, 0, none⟩) 4 4) (.pointer none) z6 z6).toArray 137) := ⟨_, rfl⟩
  obtain ⟨q1, q2, q3, q4, q5, q6, q7, q8⟩ := five_lits w p256p p256n p256b p256x p256y _ ⟨by decide, by decide⟩ ⟨by decide, by decide⟩ ⟨by decide, by decide⟩ ⟨by decide, by decide⟩ ⟨by decide, by decide⟩ z hz
  have hd : digs 18446744073709551616 (val 18446744073709551616 p256p) = p256p := digs_val (by omega) (by decide) (by decide)
  have hdl : (digs 18446744073709551616 (val 18446744073709551616 p256p)).length = 4 := by rw [hd]; rfl
  have hM1 : 1 < val 18446744073709551616 p256p := by decide +kernel
  have hMo : val 18446744073709551616 p256p % 2 = 1 := by decide +kernel
  have hM3 : 3 < val 18446744073709551616 p256p := by decide +kernel
  have hbM : val 18446744073709551616 p256b < val 18446744073709551616 p256p := by decide +kernel
  have hnew := znew_any _ _ _ p256p _ z q1 rfl hM1 hMo (by decide) (by rw [hdl]; omega)
  rw [hdl, q7] at hnew
  obtain ⟨M, hM⟩ : ∃ M, val 18446744073709551616 p256p = M := ⟨_, rfl⟩
  rw [hM] at hnew hM1 hMo hM3 hbM ⊢
  have Hnew := Lib.hid hnew
  have hb1 : p256p.length = 4 := rfl
  have Hz := Lib.hid hz
  have H2 := Hnew.out
  rw [hz, hb1] at H2
  have Hn2 := Lib.hid H2
  obtain ⟨K, hK⟩ : ∃ K, w.heap.size + 1 + 1 + 1 + 1 + 1 = K := ⟨_, rfl⟩
  clear hd hdl hnew H2 Hnew hz
  go_enter Tryz.func97, Tryz.ntmps97
  go_wp2_with fail
  refine Hn2.out.mono ?_
  rintro e w2 ⟨g, inv, ml, ol, rl, rfl, hg, hFR, hB2⟩
  rw [← Hz.out] at hB2
  rw [hK] at q6
  have hs2 := hB2.size
  have hG2 := (hB2.block K (by omega)).trans q6
  have k6 := blk_cell hG2 6
  rw [show (kcells 32 (.slice (some ⟨w.heap.size, 0, none⟩) 4 4) (.slice (some ⟨w.heap.size + 1, 0, none⟩) 4 4) (.slice (some ⟨w.heap.size + 1 + 1, 0, none⟩) 4 4) (.slice (some ⟨w.heap.size + 1 + 1 + 1, 0, none⟩) 4 4) (.slice (some ⟨w.heap.size + 1 + 1 + 1 + 1, 0, none⟩) 4 4) (.pointer none) z6 z6).toArray[6]? = some (.pointer none) by rfl] at k6
  have kf := blk_free hG2 6
  have hG3 := blk_set hG2 6 (.pointer (some ⟨g, 0, none⟩))
  rw [show (kcells 32 (.slice (some ⟨w.heap.size, 0, none⟩) 4 4) (.slice (some ⟨w.heap.size + 1, 0, none⟩) 4 4) (.slice (some ⟨w.heap.size + 1 + 1, 0, none⟩) 4 4) (.slice (some ⟨w.heap.size + 1 + 1 + 1, 0, none⟩) 4 4) (.slice (some ⟨w.heap.size + 1 + 1 + 1 + 1, 0, none⟩) 4 4) (.pointer none) z6 z6).toArray.setIfInBounds 6 (.pointer (some ⟨g, 0, none⟩)) = (kcells 32 (.slice (some ⟨w.heap.size, 0, none⟩) 4 4) (.slice (some ⟨w.heap.size + 1, 0, none⟩) 4 4) (.slice (some ⟨w.heap.size + 1 + 1, 0, none⟩) 4 4) (.slice (some ⟨w.heap.size + 1 + 1 + 1, 0, none⟩) 4 4) (.slice (some ⟨w.heap.size + 1 + 1 + 1 + 1, 0, none⟩) 4 4) (.pointer (some ⟨g, 0, none⟩)) z6 z6).toArray by rfl] at hG3
  have hgK : g ≠ K := by omega
  have hFR3 : FR (w2.setCell ⟨K, 6, none⟩ (.pointer (some ⟨g, 0, none⟩))) g 4 inv M ml ol rl := ⟨⟨⟨(Below.heap_setCell _ _ _ _ hgK).trans hFR.ff.fld.blk, hFR.ff.fld.m6, hFR.ff.fld.o6, hFR.ff.fld.r6⟩, hFR.ff.mlt, hFR.ff.mval, hFR.ff.mtake, hFR.ff.npos, hFR.ff.nle, hFR.ff.big, hFR.ff.invLt, hFR.ff.invV⟩, hFR.oelt, hFR.oval, hFR.relt, hFR.rval⟩
  have hB3 : Below K z (w2.setCell ⟨K, 6, none⟩ (.pointer (some ⟨g, 0, none⟩))) := (hB2.mono (show K ≤ w.heap.size + 6 by omega)).setCell (p := ⟨K, 6, none⟩) (Nat.le_refl _) _
  have hz3 : (w2.setCell ⟨K, 6, none⟩ (.pointer (some ⟨g, 0, none⟩))).heap.size = w2.heap.size := by simp [World.setCell]
  go_upto_region 9 with fail
  generalize w2.setCell ⟨K, 6, none⟩ (.pointer (some ⟨g, 0, none⟩)) = w3 at *
  have c6 := blk_cell hG3 6
  have c3 := blk_cell hG3 3
  rw [show (kcells 32 (.slice (some ⟨w.heap.size, 0, none⟩) 4 4) (.slice (some ⟨w.heap.size + 1, 0, none⟩) 4 4) (.slice (some ⟨w.heap.size + 1 + 1, 0, none⟩) 4 4) (.slice (some ⟨w.heap.size + 1 + 1 + 1, 0, none⟩) 4 4) (.slice (some ⟨w.heap.size + 1 + 1 + 1 + 1, 0, none⟩) 4 4) (.pointer (some ⟨g, 0, none⟩)) z6 z6).toArray[6]? = some (.pointer (some ⟨g, 0, none⟩)) by rfl] at c6
  rw [show (kcells 32 (.slice (some ⟨w.heap.size, 0, none⟩) 4 4) (.slice (some ⟨w.heap.size + 1, 0, none⟩) 4 4) (.slice (some ⟨w.heap.size + 1 + 1, 0, none⟩) 4 4) (.slice (some ⟨w.heap.size + 1 + 1 + 1, 0, none⟩) 4 4) (.slice (some ⟨w.heap.size + 1 + 1 + 1 + 1, 0, none⟩) 4 4) (.pointer (some ⟨g, 0, none⟩)) z6 z6).toArray[3]? = some (.slice (some ⟨w.heap.size + 1 + 1, 0, none⟩) 4 4) by rfl] at c3
  have hK3 : K < w3.heap.size := blk_lt hG3
  have q33 : RN w3 (In w.heap.size (w.heap.size + 5)) (some ⟨w.heap.size + 1 + 1, 0, none⟩) 4 p256b := q3.below hB3 (fun b hb => by have := hb.2; omega)
  have hof := of_any 3 w3.drew (by omega)
  rw [show digs 18446744073709551616 3 = [3] by rw [digs_pos (by omega) (by omega), Nat.mod_eq_of_lt (by omega), Nat.div_eq_of_lt (by omega), digs_zero]] at hof
  have hg3 : g < w3.heap.size := hFR3.ff.fld.lt
  have ht1 := fun (X : World) (hX : Below w3.heap.size w3 X) (A1 : Option Addr) (c1 : Nat) (hO : OB X w3.heap.size A1 c1 [3]) => zto_any _ A1 c1 [3] X (hFR3.below hX hg3) hO.rn (fun b hb => hb.2) (by simp) (by simp; exact hM3)
  have ht2 := fun (X : World) (hX : Below w3.heap.size w3 X) => zto_any _ _ 4 p256b X (hFR3.below hX hg3) (q33.below hX (fun b hb => by have := hb.2; omega)) (fun b hb => by have := hb.2; have := hX.size; omega) (by decide) hbM
  have Hof := Lib.hid hof
  have Ht1 := Lib.hid ht1
  have Ht2 := Lib.hid ht2
  clear hof ht1 ht2
  have c6d : w3.drew.cell? ⟨K, 6, none⟩ = some (.pointer (some ⟨g, 0, none⟩)) := c6
  have c3d : w3.drew.cell? ⟨K, 3, none⟩ = some (.slice (some ⟨w.heap.size + 1 + 1, 0, none⟩) 4 4) := c3
  go_region_held3 (fun w' => w'.cell? ⟨K, 6, none⟩ = some (.pointer (some ⟨g, 0, none⟩)) ∧ w'.cell? ⟨K, 3, none⟩ = some (.slice (some ⟨w.heap.size + 1 + 1, 0, none⟩) 4 4))
    (first | with_reducible exact ⟨set6 7 (by decide) (by decide) c63, set6 7 (by decide) (by decide) c33⟩ | with_reducible exact ⟨set6 13 (by decide) (by decide) (set6 7 (by decide) (by decide) c63), set6 13 (by decide) (by decide) (set6 7 (by decide) (by decide) c33)⟩ | exact ⟨c6, c3⟩ | exact ⟨c61, c31⟩ | exact ⟨c62, c32⟩ | exact ⟨c63, c33⟩)
    (first
      | (go_at_call 112; refine Hof.out.mono ?_; rintro e x1 ⟨A1, cc1, rfl, hO1, hx1'⟩; have hx1 : Below w3.heap.size w3 x1 := ⟨hx1'.os, hx1'.tape, hx1'.output, hx1'.size, hx1'.block⟩; have hO1' : OB x1 w3.heap.size A1 cc1 [3] := hO1; have c61 := (hx1.cell (p := ⟨K, 6, none⟩) hK3).trans c6; have c31 := (hx1.cell (p := ⟨K, 3, none⟩) hK3).trans c3; have T1 := Lib.hid (Ht1.out x1 hx1 A1 cc1 hO1'))
      | (go_at_call_has 111 A1; refine T1.out.mono ?_; rintro e x2 ⟨o3, rfl, hf3, hx2⟩; obtain ⟨u0, u1, u2, u3, u4, u5, hoe⟩ := six hf3.elt.six; have hve : EV o3 = .agg #[.int .u64 (u0 : Int), .int .u64 (u1 : Int), .int .u64 (u2 : Int), .int .u64 (u3 : Int), .int .u64 (u4 : Int), .int .u64 (u5 : Int)] := (by rw [hoe]; rfl); rw [hve]; clear hve; have Hoe := Lib.hid hoe; clear hoe; have hx12 := hx1.trans (hx2.mono hx1.size); have c62 := (hx12.cell (p := ⟨K, 6, none⟩) hK3).trans c6; have c32 := (hx12.cell (p := ⟨K, 3, none⟩) hK3).trans c3; have T2 := Lib.hid (Ht2.out x2 hx12))
      | (go_at_call 111; refine T2.out.mono ?_; rintro e x3 ⟨ob, rfl, hfb, hx3⟩; obtain ⟨v0, v1, v2, v3, v4, v5, hob⟩ := six hfb.elt.six; have hvb : EV ob = .agg #[.int .u64 (v0 : Int), .int .u64 (v1 : Int), .int .u64 (v2 : Int), .int .u64 (v3 : Int), .int .u64 (v4 : Int), .int .u64 (v5 : Int)] := (by rw [hob]; rfl); rw [hvb]; clear hvb; have Hob := Lib.hid hob; clear hob; have hx13 := hx12.trans (hx3.mono hx12.size); have c63 := (hx13.cell (p := ⟨K, 6, none⟩) hK3).trans c6; have c33 := (hx13.cell (p := ⟨K, 3, none⟩) hK3).trans c3; have hGx := (hx13.block K hK3).trans hG3; have dz := kcells_zero hGx; obtain ⟨d7, y7⟩ := dz 7 (by decide) (by decide); obtain ⟨d8, y8⟩ := dz 8 (by decide) (by decide); obtain ⟨d9, y9⟩ := dz 9 (by decide) (by decide); obtain ⟨d10, y10⟩ := dz 10 (by decide) (by decide); obtain ⟨d11, y11⟩ := dz 11 (by decide) (by decide); obtain ⟨d12, y12⟩ := dz 12 (by decide) (by decide); obtain ⟨d13, y13⟩ := dz 13 (by decide) (by decide); obtain ⟨d14, y14⟩ := dz 14 (by decide) (by decide); obtain ⟨d15, y15⟩ := dz 15 (by decide) (by decide); obtain ⟨d16, y16⟩ := dz 16 (by decide) (by decide); obtain ⟨d17, y17⟩ := dz 17 (by decide) (by decide); obtain ⟨d18, y18⟩ := dz 18 (by decide) (by decide); clear dz))
  obtain ⟨t1, t2, t3, t4⟩ := twelve hGx u0 u1 u2 u3 u4 u5 v0 v1 v2 v3 v4 v5
  have hB9 := t4 w.heap.size w (by omega) (q8.trans ((hB3.trans (hx13.mono (by omega))).mono (by have := q8.size; omega)))
  have hFR9 := hFR3.below hx13 hg3
  have hs3 : w3.heap.size ≤ x3.heap.size := hx13.size
  clear c61 c31 c62 c32 c63 c33 T1 T2 hGx hx1' hx1 hx2 hx3 hx12
  generalize ((((((((((((x3.setCell ⟨K, 7, none⟩ (.int .u64 (u0 : Int))).setCell ⟨K, 8, none⟩ (.int .u64 (u1 : Int))).setCell ⟨K, 9, none⟩ (.int .u64 (u2 : Int))).setCell ⟨K, 10, none⟩ (.int .u64 (u3 : Int))).setCell ⟨K, 11, none⟩ (.int .u64 (u4 : Int))).setCell ⟨K, 12, none⟩ (.int .u64 (u5 : Int))).setCell ⟨K, 13, none⟩ (.int .u64 (v0 : Int))).setCell ⟨K, 14, none⟩ (.int .u64 (v1 : Int))).setCell ⟨K, 15, none⟩ (.int .u64 (v2 : Int))).setCell ⟨K, 16, none⟩ (.int .u64 (v3 : Int))).setCell ⟨K, 17, none⟩ (.int .u64 (v4 : Int))).setCell ⟨K, 18, none⟩ (.int .u64 (v5 : Int))) = w9 at *
  have hFR9' : FR w9 g 4 inv M ml ol rl := ⟨⟨⟨(t2 g hgK).trans hFR9.ff.fld.blk, hFR9.ff.fld.m6, hFR9.ff.fld.o6, hFR9.ff.fld.r6⟩, hFR9.ff.mlt, hFR9.ff.mval, hFR9.ff.mtake, hFR9.ff.npos, hFR9.ff.nle, hFR9.ff.big, hFR9.ff.invLt, hFR9.ff.invV⟩, hFR9.oelt, hFR9.oval, hFR9.relt, hFR9.rval⟩
  have hz9 : w.heap.size + 6 ≤ w9.heap.size := by have := hB3.size; omega
  have hkeep : ∀ (l : List Nat) (A : Option Addr) (c : Nat), RN z (In w.heap.size (w.heap.size + 5)) A c l → RN w9 (In w.heap.size w9.heap.size) A c l := fun l A c hR =>
    (hR.keep fun q hq => World.cell?_of_block ((t2 q.block (by have := hq.2; omega)).trans ((hx13.block q.block (by have := hq.2; omega)).trans (hB3.block q.block (by have := hq.2; omega))))).mono fun b hb => ⟨hb.1, by have := hb.2; omega⟩
  have r1 := hkeep _ _ _ q1
  have r2 := hkeep _ _ _ q2
  have r3 := hkeep _ _ _ q3
  have r4 := hkeep _ _ _ q4
  have r5 := hkeep _ _ _ q5
  have ho3 := Hoe.out
  have hob := Hob.out
  rw [← ho3, ← hob] at t1
  have hfin : Num w9 (In w.heap.size w9.heap.size) K g 32 4 inv M (val 18446744073709551616 p256b) p256p p256n p256b p256x p256y ml ol rl o3 ob (some ⟨w.heap.size, 0, none⟩) (some ⟨w.heap.size + 1, 0, none⟩) (some ⟨w.heap.size + 1 + 1, 0, none⟩) (some ⟨w.heap.size + 1 + 1 + 1, 0, none⟩) (some ⟨w.heap.size + 1 + 1 + 1 + 1, 0, none⟩) 4 4 4 4 4 :=
    ⟨t1, r1, r2, r3, r4, r5, hFR9', hM, by have := hf3; simpa using this, hfb⟩
  have Hfin := Lib.hid hfin
  have HB9 := Lib.hid hB9
  clear hfin hB9 t1 t2 t3 t4 r1 r2 r3 r4 r5 hkeep hFR9 hFR9' hf3 hfb hFR3 hG3 q1 q2 q3 q4 q5 q6 q8
  go_wp2
  go_ret
  exact ⟨K, g, inv, ml, ol, rl, o3, ob, rfl, by omega, Hfin.out, HB9.out⟩
end Go.Proofs.YtldhmjfjbalakaaGreat

namespace Go.Proofs.YtldhmjfjbalakaaGreat
open Go.RowKit

def p384p : List Nat := [4294967295, 18446744069414584320, 18446744073709551614, 18446744073709551615, 18446744073709551615, 18446744073709551615]
def p384n : List Nat := [17072048233947408755, 6348401684107011962, 14367412456785391071, 18446744073709551615, 18446744073709551615, 18446744073709551615]
def p384b : List Nat := [3064076045283764975, 14291673747578343837, 221811693264799578, 1737717031765098770, 10992729701402291481, 12912154004749740004]
def p384x : List Nat := [4203087948775033527, 6125724927633205612, 6482722621138151992, 7934563412932533144, 10282218360005504372, 12288012358878168375]
def p384y : List Nat := [8809917716911230559, 747793036959711645, 16850834916486723776, 17938995913990739068, 6745997240412855337, 3897828414440483951]
set_option maxRecDepth 100000 in
set_option maxHeartbeats 8000000 in
theorem of_p384 (w : World) : Calls Tryz.prog 97 #[.int .i64 2] w fun e w' => ∃ k g inv ml ol rl tl fl, e = .returned (.pointer (some ⟨k, 0, none⟩)) ∧ w.heap.size ≤ k ∧
    Num w' (In w.heap.size w'.heap.size) k g 48 6 inv (val 18446744073709551616 p384p) (val 18446744073709551616 p384b) p384p p384n p384b p384x p384y ml ol rl tl fl (some ⟨w.heap.size, 0, none⟩) (some ⟨w.heap.size + 1, 0, none⟩) (some ⟨w.heap.size + 1 + 1, 0, none⟩) (some ⟨w.heap.size + 1 + 1 + 1, 0, none⟩) (some ⟨w.heap.size + 1 + 1 + 1 + 1, 0, none⟩) 6 6 6 6 6 ∧ Below w.heap.size w w' := by
  obtain ⟨z, hz⟩ : ∃ z, z = World.alloc (((((w.alloc (.cells (nts p384p).toArray 90)).alloc (.cells (nts p384n).toArray 90)).alloc (.cells (nts p384b).toArray 90)).alloc (.cells (nts p384x).toArray 90)).alloc (.cells (nts p384y).toArray 90)) (.cells (kcells 48 (.slice (some ⟨w.heap.size, 0, none⟩) 6 6) (.slice (some ⟨w.heap.size + 1, 0, none⟩) 6 6) (.slice (some ⟨w.heap.size + 1 + 1, 0, none⟩) 6 6) (.slice (some ⟨w.heap.size + 1 + 1 + 1, 0, none⟩) 6 6) (.slice (some ⟨w.heap.size + 1 + 1 + 1 + 1, 0, none⟩) 6 6) (.pointer none) z6 z6).toArray 137) := ⟨_, rfl⟩
  obtain ⟨q1, q2, q3, q4, q5, q6, q7, q8⟩ := five_lits w p384p p384n p384b p384x p384y _ ⟨by decide, by decide⟩ ⟨by decide, by decide⟩ ⟨by decide, by decide⟩ ⟨by decide, by decide⟩ ⟨by decide, by decide⟩ z hz
  have hd : digs 18446744073709551616 (val 18446744073709551616 p384p) = p384p := digs_val (by omega) (by decide) (by decide)
  have hdl : (digs 18446744073709551616 (val 18446744073709551616 p384p)).length = 6 := by rw [hd]; rfl
  have hM1 : 1 < val 18446744073709551616 p384p := by decide +kernel
  have hMo : val 18446744073709551616 p384p % 2 = 1 := by decide +kernel
  have hM3 : 3 < val 18446744073709551616 p384p := by decide +kernel
  have hbM : val 18446744073709551616 p384b < val 18446744073709551616 p384p := by decide +kernel
  have hnew := znew_any _ _ _ p384p _ z q1 rfl hM1 hMo (by decide) (by rw [hdl]; omega)
  rw [hdl, q7] at hnew
  obtain ⟨M, hM⟩ : ∃ M, val 18446744073709551616 p384p = M := ⟨_, rfl⟩
  rw [hM] at hnew hM1 hMo hM3 hbM ⊢
  have Hnew := Lib.hid hnew
  have hb1 : p384p.length = 6 := rfl
  have Hz := Lib.hid hz
  have H2 := Hnew.out
  rw [hz, hb1] at H2
  have Hn2 := Lib.hid H2
  obtain ⟨K, hK⟩ : ∃ K, w.heap.size + 1 + 1 + 1 + 1 + 1 = K := ⟨_, rfl⟩
  clear hd hdl hnew H2 Hnew hz
  go_enter Tryz.func97, Tryz.ntmps97
  go_wp2_with fail
  refine Hn2.out.mono ?_
  rintro e w2 ⟨g, inv, ml, ol, rl, rfl, hg, hFR, hB2⟩
  rw [← Hz.out] at hB2
  rw [hK] at q6
  have hs2 := hB2.size
  have hG2 := (hB2.block K (by omega)).trans q6
  have k6 := blk_cell hG2 6
  rw [show (kcells 48 (.slice (some ⟨w.heap.size, 0, none⟩) 6 6) (.slice (some ⟨w.heap.size + 1, 0, none⟩) 6 6) (.slice (some ⟨w.heap.size + 1 + 1, 0, none⟩) 6 6) (.slice (some ⟨w.heap.size + 1 + 1 + 1, 0, none⟩) 6 6) (.slice (some ⟨w.heap.size + 1 + 1 + 1 + 1, 0, none⟩) 6 6) (.pointer none) z6 z6).toArray[6]? = some (.pointer none) by rfl] at k6
  have kf := blk_free hG2 6
  have hG3 := blk_set hG2 6 (.pointer (some ⟨g, 0, none⟩))
  rw [show (kcells 48 (.slice (some ⟨w.heap.size, 0, none⟩) 6 6) (.slice (some ⟨w.heap.size + 1, 0, none⟩) 6 6) (.slice (some ⟨w.heap.size + 1 + 1, 0, none⟩) 6 6) (.slice (some ⟨w.heap.size + 1 + 1 + 1, 0, none⟩) 6 6) (.slice (some ⟨w.heap.size + 1 + 1 + 1 + 1, 0, none⟩) 6 6) (.pointer none) z6 z6).toArray.setIfInBounds 6 (.pointer (some ⟨g, 0, none⟩)) = (kcells 48 (.slice (some ⟨w.heap.size, 0, none⟩) 6 6) (.slice (some ⟨w.heap.size + 1, 0, none⟩) 6 6) (.slice (some ⟨w.heap.size + 1 + 1, 0, none⟩) 6 6) (.slice (some ⟨w.heap.size + 1 + 1 + 1, 0, none⟩) 6 6) (.slice (some ⟨w.heap.size + 1 + 1 + 1 + 1, 0, none⟩) 6 6) (.pointer (some ⟨g, 0, none⟩)) z6 z6).toArray by rfl] at hG3
  have hgK : g ≠ K := by omega
  have hFR3 : FR (w2.setCell ⟨K, 6, none⟩ (.pointer (some ⟨g, 0, none⟩))) g 6 inv M ml ol rl := ⟨⟨⟨(Below.heap_setCell _ _ _ _ hgK).trans hFR.ff.fld.blk, hFR.ff.fld.m6, hFR.ff.fld.o6, hFR.ff.fld.r6⟩, hFR.ff.mlt, hFR.ff.mval, hFR.ff.mtake, hFR.ff.npos, hFR.ff.nle, hFR.ff.big, hFR.ff.invLt, hFR.ff.invV⟩, hFR.oelt, hFR.oval, hFR.relt, hFR.rval⟩
  have hB3 : Below K z (w2.setCell ⟨K, 6, none⟩ (.pointer (some ⟨g, 0, none⟩))) := (hB2.mono (show K ≤ w.heap.size + 6 by omega)).setCell (p := ⟨K, 6, none⟩) (Nat.le_refl _) _
  have hz3 : (w2.setCell ⟨K, 6, none⟩ (.pointer (some ⟨g, 0, none⟩))).heap.size = w2.heap.size := by simp [World.setCell]
  go_upto_region 9 with fail
  generalize w2.setCell ⟨K, 6, none⟩ (.pointer (some ⟨g, 0, none⟩)) = w3 at *
  have c6 := blk_cell hG3 6
  have c3 := blk_cell hG3 3
  rw [show (kcells 48 (.slice (some ⟨w.heap.size, 0, none⟩) 6 6) (.slice (some ⟨w.heap.size + 1, 0, none⟩) 6 6) (.slice (some ⟨w.heap.size + 1 + 1, 0, none⟩) 6 6) (.slice (some ⟨w.heap.size + 1 + 1 + 1, 0, none⟩) 6 6) (.slice (some ⟨w.heap.size + 1 + 1 + 1 + 1, 0, none⟩) 6 6) (.pointer (some ⟨g, 0, none⟩)) z6 z6).toArray[6]? = some (.pointer (some ⟨g, 0, none⟩)) by rfl] at c6
  rw [show (kcells 48 (.slice (some ⟨w.heap.size, 0, none⟩) 6 6) (.slice (some ⟨w.heap.size + 1, 0, none⟩) 6 6) (.slice (some ⟨w.heap.size + 1 + 1, 0, none⟩) 6 6) (.slice (some ⟨w.heap.size + 1 + 1 + 1, 0, none⟩) 6 6) (.slice (some ⟨w.heap.size + 1 + 1 + 1 + 1, 0, none⟩) 6 6) (.pointer (some ⟨g, 0, none⟩)) z6 z6).toArray[3]? = some (.slice (some ⟨w.heap.size + 1 + 1, 0, none⟩) 6 6) by rfl] at c3
  have hK3 : K < w3.heap.size := blk_lt hG3
  have q33 : RN w3 (In w.heap.size (w.heap.size + 5)) (some ⟨w.heap.size + 1 + 1, 0, none⟩) 6 p384b := q3.below hB3 (fun b hb => by have := hb.2; omega)
  have hof := of_any 3 w3.drew (by omega)
  rw [show digs 18446744073709551616 3 = [3] by rw [digs_pos (by omega) (by omega), Nat.mod_eq_of_lt (by omega), Nat.div_eq_of_lt (by omega), digs_zero]] at hof
  have hg3 : g < w3.heap.size := hFR3.ff.fld.lt
  have ht1 := fun (X : World) (hX : Below w3.heap.size w3 X) (A1 : Option Addr) (c1 : Nat) (hO : OB X w3.heap.size A1 c1 [3]) => zto_any _ A1 c1 [3] X (hFR3.below hX hg3) hO.rn (fun b hb => hb.2) (by simp) (by simp; exact hM3)
  have ht2 := fun (X : World) (hX : Below w3.heap.size w3 X) => zto_any _ _ 6 p384b X (hFR3.below hX hg3) (q33.below hX (fun b hb => by have := hb.2; omega)) (fun b hb => by have := hb.2; have := hX.size; omega) (by decide) hbM
  have Hof := Lib.hid hof
  have Ht1 := Lib.hid ht1
  have Ht2 := Lib.hid ht2
  clear hof ht1 ht2
  have c6d : w3.drew.cell? ⟨K, 6, none⟩ = some (.pointer (some ⟨g, 0, none⟩)) := c6
  have c3d : w3.drew.cell? ⟨K, 3, none⟩ = some (.slice (some ⟨w.heap.size + 1 + 1, 0, none⟩) 6 6) := c3
  go_region_held3 (fun w' => w'.cell? ⟨K, 6, none⟩ = some (.pointer (some ⟨g, 0, none⟩)) ∧ w'.cell? ⟨K, 3, none⟩ = some (.slice (some ⟨w.heap.size + 1 + 1, 0, none⟩) 6 6))
    (first | with_reducible exact ⟨set6 7 (by decide) (by decide) c63, set6 7 (by decide) (by decide) c33⟩ | with_reducible exact ⟨set6 13 (by decide) (by decide) (set6 7 (by decide) (by decide) c63), set6 13 (by decide) (by decide) (set6 7 (by decide) (by decide) c33)⟩ | exact ⟨c6, c3⟩ | exact ⟨c61, c31⟩ | exact ⟨c62, c32⟩ | exact ⟨c63, c33⟩)
    (first
      | (go_at_call 112; refine Hof.out.mono ?_; rintro e x1 ⟨A1, cc1, rfl, hO1, hx1'⟩; have hx1 : Below w3.heap.size w3 x1 := ⟨hx1'.os, hx1'.tape, hx1'.output, hx1'.size, hx1'.block⟩; have hO1' : OB x1 w3.heap.size A1 cc1 [3] := hO1; have c61 := (hx1.cell (p := ⟨K, 6, none⟩) hK3).trans c6; have c31 := (hx1.cell (p := ⟨K, 3, none⟩) hK3).trans c3; have T1 := Lib.hid (Ht1.out x1 hx1 A1 cc1 hO1'))
      | (go_at_call_has 111 A1; refine T1.out.mono ?_; rintro e x2 ⟨o3, rfl, hf3, hx2⟩; obtain ⟨u0, u1, u2, u3, u4, u5, hoe⟩ := six hf3.elt.six; have hve : EV o3 = .agg #[.int .u64 (u0 : Int), .int .u64 (u1 : Int), .int .u64 (u2 : Int), .int .u64 (u3 : Int), .int .u64 (u4 : Int), .int .u64 (u5 : Int)] := (by rw [hoe]; rfl); rw [hve]; clear hve; have Hoe := Lib.hid hoe; clear hoe; have hx12 := hx1.trans (hx2.mono hx1.size); have c62 := (hx12.cell (p := ⟨K, 6, none⟩) hK3).trans c6; have c32 := (hx12.cell (p := ⟨K, 3, none⟩) hK3).trans c3; have T2 := Lib.hid (Ht2.out x2 hx12))
      | (go_at_call 111; refine T2.out.mono ?_; rintro e x3 ⟨ob, rfl, hfb, hx3⟩; obtain ⟨v0, v1, v2, v3, v4, v5, hob⟩ := six hfb.elt.six; have hvb : EV ob = .agg #[.int .u64 (v0 : Int), .int .u64 (v1 : Int), .int .u64 (v2 : Int), .int .u64 (v3 : Int), .int .u64 (v4 : Int), .int .u64 (v5 : Int)] := (by rw [hob]; rfl); rw [hvb]; clear hvb; have Hob := Lib.hid hob; clear hob; have hx13 := hx12.trans (hx3.mono hx12.size); have c63 := (hx13.cell (p := ⟨K, 6, none⟩) hK3).trans c6; have c33 := (hx13.cell (p := ⟨K, 3, none⟩) hK3).trans c3; have hGx := (hx13.block K hK3).trans hG3; have dz := kcells_zero hGx; obtain ⟨d7, y7⟩ := dz 7 (by decide) (by decide); obtain ⟨d8, y8⟩ := dz 8 (by decide) (by decide); obtain ⟨d9, y9⟩ := dz 9 (by decide) (by decide); obtain ⟨d10, y10⟩ := dz 10 (by decide) (by decide); obtain ⟨d11, y11⟩ := dz 11 (by decide) (by decide); obtain ⟨d12, y12⟩ := dz 12 (by decide) (by decide); obtain ⟨d13, y13⟩ := dz 13 (by decide) (by decide); obtain ⟨d14, y14⟩ := dz 14 (by decide) (by decide); obtain ⟨d15, y15⟩ := dz 15 (by decide) (by decide); obtain ⟨d16, y16⟩ := dz 16 (by decide) (by decide); obtain ⟨d17, y17⟩ := dz 17 (by decide) (by decide); obtain ⟨d18, y18⟩ := dz 18 (by decide) (by decide); clear dz))
  obtain ⟨t1, t2, t3, t4⟩ := twelve hGx u0 u1 u2 u3 u4 u5 v0 v1 v2 v3 v4 v5
  have hB9 := t4 w.heap.size w (by omega) (q8.trans ((hB3.trans (hx13.mono (by omega))).mono (by have := q8.size; omega)))
  have hFR9 := hFR3.below hx13 hg3
  have hs3 : w3.heap.size ≤ x3.heap.size := hx13.size
  clear c61 c31 c62 c32 c63 c33 T1 T2 hGx hx1' hx1 hx2 hx3 hx12
  generalize ((((((((((((x3.setCell ⟨K, 7, none⟩ (.int .u64 (u0 : Int))).setCell ⟨K, 8, none⟩ (.int .u64 (u1 : Int))).setCell ⟨K, 9, none⟩ (.int .u64 (u2 : Int))).setCell ⟨K, 10, none⟩ (.int .u64 (u3 : Int))).setCell ⟨K, 11, none⟩ (.int .u64 (u4 : Int))).setCell ⟨K, 12, none⟩ (.int .u64 (u5 : Int))).setCell ⟨K, 13, none⟩ (.int .u64 (v0 : Int))).setCell ⟨K, 14, none⟩ (.int .u64 (v1 : Int))).setCell ⟨K, 15, none⟩ (.int .u64 (v2 : Int))).setCell ⟨K, 16, none⟩ (.int .u64 (v3 : Int))).setCell ⟨K, 17, none⟩ (.int .u64 (v4 : Int))).setCell ⟨K, 18, none⟩ (.int .u64 (v5 : Int))) = w9 at *
  have hFR9' : FR w9 g 6 inv M ml ol rl := ⟨⟨⟨(t2 g hgK).trans hFR9.ff.fld.blk, hFR9.ff.fld.m6, hFR9.ff.fld.o6, hFR9.ff.fld.r6⟩, hFR9.ff.mlt, hFR9.ff.mval, hFR9.ff.mtake, hFR9.ff.npos, hFR9.ff.nle, hFR9.ff.big, hFR9.ff.invLt, hFR9.ff.invV⟩, hFR9.oelt, hFR9.oval, hFR9.relt, hFR9.rval⟩
  have hz9 : w.heap.size + 6 ≤ w9.heap.size := by have := hB3.size; omega
  have hkeep : ∀ (l : List Nat) (A : Option Addr) (c : Nat), RN z (In w.heap.size (w.heap.size + 5)) A c l → RN w9 (In w.heap.size w9.heap.size) A c l := fun l A c hR =>
    (hR.keep fun q hq => World.cell?_of_block ((t2 q.block (by have := hq.2; omega)).trans ((hx13.block q.block (by have := hq.2; omega)).trans (hB3.block q.block (by have := hq.2; omega))))).mono fun b hb => ⟨hb.1, by have := hb.2; omega⟩
  have r1 := hkeep _ _ _ q1
  have r2 := hkeep _ _ _ q2
  have r3 := hkeep _ _ _ q3
  have r4 := hkeep _ _ _ q4
  have r5 := hkeep _ _ _ q5
  have ho3 := Hoe.out
  have hob := Hob.out
  rw [← ho3, ← hob] at t1
  have hfin : Num w9 (In w.heap.size w9.heap.size) K g 48 6 inv M (val 18446744073709551616 p384b) p384p p384n p384b p384x p384y ml ol rl o3 ob (some ⟨w.heap.size, 0, none⟩) (some ⟨w.heap.size + 1, 0, none⟩) (some ⟨w.heap.size + 1 + 1, 0, none⟩) (some ⟨w.heap.size + 1 + 1 + 1, 0, none⟩) (some ⟨w.heap.size + 1 + 1 + 1 + 1, 0, none⟩) 6 6 6 6 6 :=
    ⟨t1, r1, r2, r3, r4, r5, hFR9', hM, by have := hf3; simpa using this, hfb⟩
  have Hfin := Lib.hid hfin
  have HB9 := Lib.hid hB9
  clear hfin hB9 t1 t2 t3 t4 r1 r2 r3 r4 r5 hkeep hFR9 hFR9' hf3 hfb hFR3 hG3 q1 q2 q3 q4 q5 q6 q8
  go_wp2
  go_ret
  exact ⟨K, g, inv, ml, ol, rl, o3, ob, rfl, by omega, Hfin.out, HB9.out⟩
end Go.Proofs.YtldhmjfjbalakaaGreat
