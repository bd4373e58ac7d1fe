/- zfield: a field's record; below takes the prime off, if there is too much. -/
import Derived.Test.YtldhmjfjbalakaaGreatZero
import Derived.Test.YtldhmjfjbalakaaGreatZN
import Derived.StillTailTactics
import Derived.Deep.RegionHeld3
import Derived.RegionTactic
namespace Go.Proofs.YtldhmjfjbalakaaGreat
open Go.RowKit

/-- A field's record: its cells. -/
def fcells (n inv : Nat) (ml ol rl : List Nat) : List Value := .int .i64 (n : Int) :: (nts ml ++ .int .u64 (inv : Int) :: (nts ol ++ nts rl))
structure Fld (w : World) (g n inv : Nat) (ml ol rl : List Nat) : Prop where
  blk : w.heap[g]? = some (.cells (fcells n inv ml ol rl).toArray 166 (0, 0))
  m6 : ml.length = 6
  o6 : ol.length = 6
  r6 : rl.length = 6
variable {w w' : World} {g n inv : Nat} {ml ol rl : List Nat}
theorem Fld.below {B : Nat} (h : Fld w g n inv ml ol rl) (hb : Below B w w') (hg : g < B) : Fld w' g n inv ml ol rl := ⟨(hb.block g hg).trans h.blk, h.m6, h.o6, h.r6⟩
theorem Fld.lt (h : Fld w g n inv ml ol rl) : g < w.heap.size := blk_lt h.blk
theorem Fld.n0 (h : Fld w g n inv ml ol rl) : w.cell? ⟨g, 0, none⟩ = some (.int .i64 (n : Int)) := by
  rw [blk_cell h.blk 0]; rfl
theorem Fld.inv_ (h : Fld w g n inv ml ol rl) : w.cell? ⟨g, 7, none⟩ = some (.int .u64 (inv : Int)) := by
  rw [blk_cell h.blk 7]
  obtain ⟨a, b, c, d, e, f, rfl⟩ := six h.m6
  rfl
theorem Fld.m_ (h : Fld w g n inv ml ol rl) {j : Nat} (hj : j < 6) : w.cell? ⟨g, 1 + j, none⟩ = some (.int .u64 (dg ml j : Int)) := by
  rw [blk_cell h.blk (1 + j)]
  obtain ⟨a, b, c, d, e, f, rfl⟩ := six h.m6
  match j, hj with
  | 0, _ | 1, _ | 2, _ | 3, _ | 4, _ | 5, _ => rfl
/-- A row of limbs in a block of whatever type. -/
def ARow (w : World) (g : Nat) (ty : TypeId) (l : List Nat) : Prop := w.heap[g]? = some (.cells (nts l).toArray ty (0, 0))
theorem ARow.cell {ty : TypeId} {l : List Nat} (h : ARow w g ty l) {i : Nat} (hi : i < l.length) : w.cell? ⟨g, i, none⟩ = some (.int .u64 (dg l i : Int)) := by
  rw [blk_cell h i, List.getElem?_toArray, nts_get hi]
theorem ARow.free {ty : TypeId} {l : List Nat} (h : ARow w g ty l) (i : Nat) : w.frozen? ⟨g, i, none⟩ = false := blk_free h i
theorem ARow.set {ty : TypeId} {l : List Nat} (h : ARow w g ty l) (i x : Nat) : ARow (w.setCell ⟨g, i, none⟩ (.int .u64 (x : Int))) g ty (l.set i x) := by
  have := blk_set h i (.int .u64 (x : Int))
  rw [ARow, this]
  simp [nts, List.map_set]
theorem ARow.below {ty : TypeId} {l : List Nat} {B : Nat} (h : ARow w g ty l) (hb : Below B w w') (hg : g < B) : ARow w' g ty l := (hb.block g hg).trans h
theorem ARow.lt {ty : TypeId} {l : List Nat} (h : ARow w g ty l) : g < w.heap.size := blk_lt h

theorem cells6 {w : World} {g : Nat} {ty : TypeId} {a b c d e f : Value} (h : w.heap[g]? = some (.cells #[a, b, c, d, e, f] ty (0, 0))) :
    w.cell? ⟨g, 0, none⟩ = some a ∧ w.cell? ⟨g, 1, none⟩ = some b ∧ w.cell? ⟨g, 2, none⟩ = some c ∧ w.cell? ⟨g, 3, none⟩ = some d ∧ w.cell? ⟨g, 4, none⟩ = some e ∧ w.cell? ⟨g, 5, none⟩ = some f :=
  ⟨blk_cell h 0, blk_cell h 1, blk_cell h 2, blk_cell h 3, blk_cell h 4, blk_cell h 5⟩
theorem six_set {w : World} {g : Nat} {ty : TypeId} {x0 x1 x2 x3 x4 x5 : Value} (h : w.heap[g]? = some (.cells #[x0, x1, x2, x3, x4, x5] ty (0, 0))) (a b c d e f : Value) :
    ((((((w.setCell ⟨g, 0, none⟩ a).setCell ⟨g, 1, none⟩ b).setCell ⟨g, 2, none⟩ c).setCell ⟨g, 3, none⟩ d).setCell ⟨g, 4, none⟩ e).setCell ⟨g, 5, none⟩ f).heap[g]? = some (.cells #[a, b, c, d, e, f] ty (0, 0)) := by
  have h1 := blk_set (blk_set (blk_set (blk_set (blk_set (blk_set h 0 a) 1 b) 2 c) 3 d) 4 e) 5 f
  rw [h1]
  rfl
theorem six_below {B g : Nat} {w0 w : World} (h : Below B w0 w) (hg : B ≤ g) (a b c d e f : Value) : Below B w0 ((((((w.setCell ⟨g, 0, none⟩ a).setCell ⟨g, 1, none⟩ b).setCell ⟨g, 2, none⟩ c).setCell ⟨g, 3, none⟩ d).setCell ⟨g, 4, none⟩ e).setCell ⟨g, 5, none⟩ f) :=
  (((((h.setCell (p := ⟨g, 0, none⟩) hg a).setCell (p := ⟨g, 1, none⟩) hg b).setCell (p := ⟨g, 2, none⟩) hg c).setCell (p := ⟨g, 3, none⟩) hg d).setCell (p := ⟨g, 4, none⟩) hg e).setCell (p := ⟨g, 5, none⟩) hg f
theorem end6 {fn : Func} {R : Ending → World → Prop} {a : Act} {W : World} {p : Tmp} {g : Nat} {ty : TypeId} {fr : Nat × Nat} {x0 x1 x2 x3 x4 x5 : Value} (hr : fn.results = #[.cell p 135]) (hp : a.tmps.getD p undef = .pointer (some ⟨g, 0, none⟩)) (hd : a.defers = [])
    (hg : W.heap[g]? = some (.cells #[x0, x1, x2, x3, x4, x5] ty fr)) (hR : R (.returned (.agg #[x0, x1, x2, x3, x4, x5])) W) : bodyPost Tryz.prog fn R .ret a W :=
  bodyPost_ret (results_cell_row hr a.tmps W g _ _ _ (.array 6 90) hp hg Tryz.underlying135 rfl (by kernel_rfl)) hd hR
/-- Limbs are copied from one array to another one's beginning. -/
theorem copy_arow (w : World) (g gt n c c' : Nat) (ty ty' : TypeId) (u src : List Nat) (hu : ARow w g ty u) (hs : ARow w gt ty' src) (hn : n ≤ src.length) (hn' : n ≤ u.length) (hpos : 0 < n) :
    (Builtin.copy_ #[46, 46] 3 #[.slice (some ⟨g, 0, none⟩) n c, .slice (some ⟨gt, 0, none⟩) n c']).run Tryz.prog w = .ok (goInt n) (w.setRow g (nts (src.take n ++ u.drop n)).toArray) := by
  have hl : (nts (src.take n)).length = n := by rw [nts_length, List.length_take]; omega
  have h := run_copy_row (P := Tryz.prog) w 46 46 3 90 g 0 n c ⟨gt, 0, none⟩ n c' (nts u).toArray ty (nts (src.take n)) Tryz.underlying46 info64size hu
    (by rw [hl]; simp) (fun j v hj => by
      have hj' : j < n := by have := (List.getElem?_eq_some_iff.1 hj).1; omega
      rw [add_blk, blk_cell hs j, List.getElem?_toArray]
      rw [nts, List.getElem?_map, List.getElem?_take, if_pos hj'] at hj
      rw [nts, List.getElem?_map]
      exact hj) (by rw [hl]; simp [nts]; omega) (oneCell_nts _)
  rw [hl] at h
  rw [h]
  simp [nts, List.map_drop]
theorem val_take_lt {B : Nat} {l : List Nat} (h : ∀ x ∈ l, x < B) (k : Nat) (hB : 0 < B := by omega) : val B (l.take k) < B ^ k := by
  have h1 := val_lt (B := B) (l := l.take k) fun x hx => h x (List.mem_of_mem_take hx)
  exact Nat.lt_of_lt_of_le h1 (Nat.pow_le_pow_right hB (by rw [List.length_take]; omega))
theorem val_take_zeros {B k : Nat} {l : List Nat} (h : ∀ p, k ≤ p → dg l p = 0) : val B (l.take k) = val B l := by
  rcases Nat.lt_or_ge k l.length with h1 | h1
  · rw [val_take_drop B l (n := k) (by omega), val_zeros (l := l.drop k) ?_, Nat.mul_zero, Nat.add_zero]
    intro x hx
    obtain ⟨j, hj, rfl⟩ := List.mem_iff_getElem.1 hx
    have h2 := h (k + j) (by omega)
    rw [List.length_drop] at hj
    rw [List.getElem_drop]
    rwa [dg, getD_eq' (by omega)] at h2
  · rw [List.take_of_length_le h1]

set_option maxRecDepth 100000 in
set_option maxHeartbeats 2000000 in
theorem zbelow_any (gt over : Nat) (t : List Nat) (w : World) (hF : Fld w g n inv ml ol rl) (hml : ∀ x ∈ ml, x < 18446744073709551616) (hT : ARow w gt 170 t) (hgt : gt ≠ g) (ht8 : t.length = 8) (ht : ∀ x ∈ t, x < 18446744073709551616) (hn : n ≤ 6) (hn1 : 0 < n)
    (hmv : val 18446744073709551616 (ml.take n) = val 18446744073709551616 ml) (ho : over < 18446744073709551616) (hv : val 18446744073709551616 (t.take n) + 18446744073709551616 ^ n * over < 2 * val 18446744073709551616 ml) :
    Calls Tryz.prog 133 #[.pointer (some ⟨g, 0, none⟩), .pointer (some ⟨gt, 0, none⟩), .int .u64 (over : Int)] w fun e w' => ∃ o, e = .returned (EV o) ∧ o.length = 6 ∧ (∀ x ∈ o, x < 18446744073709551616) ∧
      val 18446744073709551616 o = offM (val 18446744073709551616 (t.take n) + 18446744073709551616 ^ n * over) (val 18446744073709551616 ml) ∧ Below w.heap.size w w' := by
  have h0 := hF.n0
  have hg := hF.lt
  have hgtl := hT.lt
  have hB0 : Below w.heap.size w ((w.alloc (.cells #[.int .u64 0, .int .u64 0, .int .u64 0, .int .u64 0, .int .u64 0, .int .u64 0] 135)).alloc (.cells #[.int .u64 0, .int .u64 0, .int .u64 0, .int .u64 0, .int .u64 0, .int .u64 0] 135)) := ((Below.refl _ w).alloc (Nat.le_refl _) _).alloc (by simp) _
  have hr0 : ARow ((w.alloc (.cells #[.int .u64 0, .int .u64 0, .int .u64 0, .int .u64 0, .int .u64 0, .int .u64 0] 135)).alloc (.cells #[.int .u64 0, .int .u64 0, .int .u64 0, .int .u64 0, .int .u64 0, .int .u64 0] 135)) (w.heap.size + 1) 135 [0, 0, 0, 0, 0, 0] := by
    have := heap_alloc_new (w.alloc (.cells #[.int .u64 0, .int .u64 0, .int .u64 0, .int .u64 0, .int .u64 0, .int .u64 0] 135)) (.cells #[.int .u64 0, .int .u64 0, .int .u64 0, .int .u64 0, .int .u64 0, .int .u64 0] 135)
    rw [World.size_alloc] at this
    exact this
  have hres : ((w.alloc (.cells #[.int .u64 0, .int .u64 0, .int .u64 0, .int .u64 0, .int .u64 0, .int .u64 0] 135)).alloc (.cells #[.int .u64 0, .int .u64 0, .int .u64 0, .int .u64 0, .int .u64 0, .int .u64 0] 135)).heap[w.heap.size]? = some (.cells #[.int .u64 0, .int .u64 0, .int .u64 0, .int .u64 0, .int .u64 0, .int .u64 0] 135 (0, 0)) := (Below.heap_alloc _ _ _ (by simp)).trans (heap_alloc_new w _)
  go_enter Tryz.func133, Tryz.ntmps133
  go_wp2_with fail
  generalize (w.alloc (.cells #[.int .u64 0, .int .u64 0, .int .u64 0, .int .u64 0, .int .u64 0, .int .u64 0] 135)).alloc (.cells #[.int .u64 0, .int .u64 0, .int .u64 0, .int .u64 0, .int .u64 0, .int .u64 0] 135) = W0 at *
  have hW0 : w.heap.size + 2 ≤ W0.heap.size := by have := hr0.lt; omega
  have Hv := Lib.hid hv
  have Hmv := Lib.hid hmv
  have Hml := Lib.hid hml
  have Ht := Lib.hid ht
  have Ht8 := Lib.hid ht8
  have hm6 := Lib.hid hF.m6
  clear hv hmv hml ht ht8
  go_loopw [8, 14] (fun cv iv wr => ∃ (k cr : Nat) (o : List Nat), iv = .int .i64 (k : Int) ∧ cv = .int .u64 (cr : Int) ∧ k ≤ n ∧ cr ≤ 1 ∧ SubAt 18446744073709551616 t ml o k cr ∧ Hid (o.length = 6) ∧ Hid (∀ x ∈ o, x < 18446744073709551616) ∧ Hid (∀ p, k ≤ p → dg o p = 0) ∧ ARow wr (w.heap.size + 1) 135 o ∧ Below (w.heap.size + 1) W0 wr) (fun _ iv _ => n - (intOf iv).toNat)
  case atStart => exact ⟨0, 0, _, rfl, rfl, by omega, by omega, SubAt.zero _ _ _ _, Lib.hid rfl, Lib.hid (by simp), Lib.hid (fun p _ => by match p with | 0 | 1 | 2 | 3 | 4 | 5 => rfl | p + 6 => rfl), hr0, Below.refl _ _⟩
  case round =>
    obtain ⟨k, cr, o, rfl, rfl, hk, hcr, hA, Ho, Hlo, Hz, hblk, hB⟩ := hrel
    have hBw : Below w.heap.size w wr := hB0.trans (hB.mono (by omega))
    have hFr := hF.below hBw hg
    have hTr := hT.below hBw hgtl
    have c0 := hFr.n0
    by_cases hlt : k < n
    · have q1 := hTr.cell (i := k) (by have := Ht8.out; omega)
      have q2 := hFr.m_ (j := k) (by omega)
      have dt : dg t k < 18446744073709551616 := getD_lt (by omega) Ht.out k
      have dm : dg ml k < 18446744073709551616 := getD_lt (by omega) Hml.out k
      obtain ⟨s, cr', hs, hcr', he⟩ := borrow_of (dg t k) (dg ml k) cr dt dm hcr
      have hok : k < o.length := by have := Ho.out; omega
      have q3 := hblk.cell hok
      have q4 := hblk.free k
      have hA' := hA.step hok he
      have hblk' := hblk.set k s
      have hB' := hB.setCell (p := ⟨w.heap.size + 1, k, none⟩) (Nat.le_refl _) (.int .u64 (s : Int))
      have Ho' : Hid ((o.set k s).length = 6) := Lib.hid (by rw [List.length_set]; exact Ho.out)
      have Hlo' : Hid (∀ x ∈ o.set k s, x < 18446744073709551616) := Lib.hid (set_lt Hlo.out hs)
      have Hz' : Hid (∀ p, k + 1 ≤ p → dg (o.set k s) p = 0) := Lib.hid fun p hp => by rw [getD_set_ne (by omega)]; exact Hz.out p (by omega)
      have hsub := fun w => sub64_at (dg t k) (dg ml k) cr s cr' hcr dt dm hs he hcr' w
      have ki : (k : Int) < 8 := by omega
      have ki6 : (k : Int) < 6 := by omega
      clear he hA hblk hB hok hBw hFr hTr
      go_wp2_with fail
      have hfar : ∀ q : Addr, q.block < w.heap.size → (wr.setCell ⟨w.heap.size + 1, k, none⟩ (.int .u64 (s : Int))).drew.cell? q = wr.cell? q := fun q hq => World.cell?_of_block (Below.heap_setCell _ _ _ _ (by show q.block ≠ w.heap.size + 1; omega))
      have f1 := (hfar ⟨gt, k, none⟩ hgtl).trans q1
      have f2 := (hfar ⟨g, 1 + k, none⟩ hg).trans q2
      clear hfar
      go_region_held3 (fun w' => w'.cell? ⟨gt, k, none⟩ = some (.int .u64 (dg t k : Int)) ∧ w'.cell? ⟨g, 1 + k, none⟩ = some (.int .u64 (dg ml k : Int))) (first | exact ⟨q1, q2⟩ | exact ⟨f1, f2⟩ | go_keep) (fail)
      go_wp2
      go_roundw
      case rel => exact ⟨k + 1, cr', o.set k s, by go_num, rfl, by omega, hcr', hA', Ho', Hlo', Hz', hblk', hB'.drew⟩
      case measure => simp [intOf]; omega
    · obtain rfl : k = n := by omega
      have hfin : val 18446744073709551616 o + val 18446744073709551616 ml = val 18446744073709551616 (t.take k) + 18446744073709551616 ^ k * cr := by
        have h1 : val 18446744073709551616 (o.take k) + val 18446744073709551616 (ml.take k) = val 18446744073709551616 (t.take k) + 18446744073709551616 ^ k * cr := hA
        rw [Hmv.out] at h1
        have h2 : val 18446744073709551616 (o.take k) = val 18446744073709551616 o := val_take_zeros Hz.out
        omega
      have hvo : val 18446744073709551616 o < 18446744073709551616 ^ k := by
        rw [← val_take_zeros Hz.out]
        exact val_take_lt Hlo.out k
      have hvm : val 18446744073709551616 ml < 18446744073709551616 ^ k := by rw [← Hmv.out]; exact val_take_lt Hml.out k
      have hvt := val_take_lt Ht.out k
      have hv := Hv.out
      by_cases hcase : over < cr
      · obtain rfl : cr = 1 := by omega
        obtain rfl : over = 0 := by omega
        rw [Nat.mul_zero, Nat.add_zero] at hv
        have hoff : offM (val 18446744073709551616 (t.take k) + 18446744073709551616 ^ k * 0) (val 18446744073709551616 ml) = val 18446744073709551616 (t.take k) := by rw [Nat.mul_zero, Nat.add_zero, offM, if_pos (by omega)]
        have hcp := copy_arow wr.drew (w.heap.size + 1) gt k 6 8 135 170 o t hblk hTr (by have := Ht8.out; omega) (by have := Ho.out; omega) hn1
        have hvv : val 18446744073709551616 (t.take k ++ o.drop k) = val 18446744073709551616 (t.take k) := by
          rw [val_append, val_zeros (l := o.drop k) ?_, Nat.mul_zero, Nat.add_zero]
          intro x hx
          obtain ⟨j, hj, rfl⟩ := List.mem_iff_getElem.1 hx
          have h2 := Hz.out (k + j) (by omega)
          rw [List.length_drop] at hj
          rw [List.getElem_drop]
          rwa [dg, getD_eq' (by omega)] at h2
        have hlen : (t.take k ++ o.drop k).length = 6 := by rw [List.length_append, List.length_take, List.length_drop, Ho.out, Ht8.out]; omega
        have hlim : ∀ x ∈ t.take k ++ o.drop k, x < 18446744073709551616 := fun x hx => by
          rcases List.mem_append.1 hx with h | h
          · exact Ht.out x (List.mem_of_mem_take h)
          · exact Hlo.out x (List.mem_of_mem_drop h)
        generalize t.take k ++ o.drop k = o2 at *
        have hb2 : ARow (wr.drew.setRow (w.heap.size + 1) (nts o2).toArray) (w.heap.size + 1) 135 o2 := setRow_heap wr.drew _ _ _ _ _ hblk
        have hB2 := setRow_below hB.drew (Nat.le_refl (w.heap.size + 1)) (nts o2).toArray
        obtain ⟨a, b, c, d, e, f, hoe⟩ := six hlen
        have hcb : ((wr.drew.setRow (w.heap.size + 1) (nts o2).toArray).heap[w.heap.size + 1]? = some (.cells #[.int .u64 (a : Int), .int .u64 (b : Int), .int .u64 (c : Int), .int .u64 (d : Int), .int .u64 (e : Int), .int .u64 (f : Int)] 135 (0, 0))) := by
          have h := hb2
          rw [ARow] at h
          rw [h, hoe]
          rfl
        have hrb : (wr.drew.setRow (w.heap.size + 1) (nts o2).toArray).heap[w.heap.size]? = some (.cells #[.int .u64 0, .int .u64 0, .int .u64 0, .int .u64 0, .int .u64 0, .int .u64 0] 135 (0, 0)) := (hB2.block w.heap.size (by omega)).trans hres
        obtain ⟨e0, e1, e2, e3, e4, e5⟩ := cells6 hcb
        obtain ⟨r0, r1, r2, r3, r4, r5⟩ := cells6 hrb
        have z := fun i => blk_free hrb i
        have z0 := z 0
        have z1 := z 1
        have z2 := z 2
        have z3 := z 3
        have z4 := z 4
        have z5 := z 5
        have hrb' := hrb
        have hBf : Below w.heap.size w (wr.drew.setRow (w.heap.size + 1) (nts o2).toArray) := hB0.trans (hB2.mono (by omega))
        have Hoff := Lib.hid (hvv.trans hoff.symm)
        have Hoe := Lib.hid hoe
        have Hlen := Lib.hid hlen
        have Hlim := Lib.hid hlim
        have k6 : (k : Int) ≤ 6 := by omega
        have k8 : (k : Int) ≤ 8 := by omega
        clear hvo hv hfin hvm hvt hoff hA hblk hFr hTr z hcb hrb hvv hoe hlen hlim hb2 hB2
        go_wp2_with fail
        go_region
        generalize wr.drew.setRow (w.heap.size + 1) (nts o2).toArray = W9 at *
        go_wp2_with fail
        refine end6 rfl rfl rfl (six_set hrb' _ _ _ _ _ _) ?_
        exact ⟨o2, by rw [Hoe.out]; rfl, Hlen.out, Hlim.out, Hoff.out, six_below hBf (Nat.le_refl _) _ _ _ _ _ _⟩
      · have hoff : val 18446744073709551616 o = offM (val 18446744073709551616 (t.take k) + 18446744073709551616 ^ k * over) (val 18446744073709551616 ml) := by
          have hcr' : cr = 0 ∨ cr = 1 := by omega
          generalize 18446744073709551616 ^ k = R at *
          rcases Nat.eq_zero_or_pos over with rfl | hpo
          · obtain rfl : cr = 0 := by omega
            rw [Nat.mul_zero, Nat.add_zero] at hfin hv ⊢
            rw [offM, if_neg (by omega)]
            omega
          · have h1 : R * 1 ≤ R * over := Nat.mul_le_mul_left _ hpo
            have h2 : over = 1 := by
              rcases Nat.lt_or_ge over 2 with h | h
              · omega
              · have : R * 2 ≤ R * over := Nat.mul_le_mul_left _ h
                omega
            subst h2
            rw [offM, if_neg (by omega)]
            rcases hcr' with rfl | rfl
            · rw [Nat.mul_zero, Nat.add_zero] at hfin
              omega
            · omega
        have Hoff := Lib.hid hoff
        obtain ⟨a, b, c, d, e, f, hoe⟩ := six Ho.out
        have hcb : (wr.heap[w.heap.size + 1]? = some (.cells #[.int .u64 (a : Int), .int .u64 (b : Int), .int .u64 (c : Int), .int .u64 (d : Int), .int .u64 (e : Int), .int .u64 (f : Int)] 135 (0, 0))) := by
          rw [hoe] at hblk; exact hblk
        have hrb : wr.heap[w.heap.size]? = some (.cells #[.int .u64 0, .int .u64 0, .int .u64 0, .int .u64 0, .int .u64 0, .int .u64 0] 135 (0, 0)) := (hB.block w.heap.size (by omega)).trans hres
        obtain ⟨e0, e1, e2, e3, e4, e5⟩ := cells6 hcb
        obtain ⟨r0, r1, r2, r3, r4, r5⟩ := cells6 hrb
        have z := fun i => blk_free hrb i
        have z0 := z 0
        have z1 := z 1
        have z2 := z 2
        have z3 := z 3
        have z4 := z 4
        have z5 := z 5
        have hrb' := hrb
        clear hvo hv hfin hvm hvt hoff hA hblk hFr hTr z hcb hrb
        go_wp2_with fail
        refine end6 rfl rfl rfl (six_set hrb' _ _ _ _ _ _) ?_
        exact ⟨o, by rw [hoe]; rfl, Ho.out, Hlo.out, Hoff.out, six_below hBw (Nat.le_refl _) _ _ _ _ _ _⟩
end Go.Proofs.YtldhmjfjbalakaaGreat
