/- zfield: a field's record; below takes the prime off, if there is too much. zfield: Add. zfield: Sub. -/
import Derived.Test.YtldhmjfjbalakaaKAi
import Derived.StillTailTactics
import Derived.Deep.RegionHeld3
import Derived.RegionTactic
import Derived.Deep.RegionWith
namespace Go.Proofs.Ytldhmjfjbalakaa
open Go.RowKit

/-- A field's record: its cells. -/
def fcells (n inv : Nat) (ml ol rl : List Nat) : List Value := .int .i64 (n : Int) :: (nts ml ++ .int .u64 (inv : Int) :: (nts ol ++ nts rl))
structure Fld (w : World) (g n inv : Nat) (ml ol rl : List Nat) : Prop where
  blk : w.heap[g]? = some (.cells (fcells n inv ml ol rl).toArray 137 (0, 0))
  m6 : ml.length = 6
  o6 : ol.length = 6
  r6 : rl.length = 6
variable {w w' : World} {g n inv : Nat} {ml ol rl : List Nat}
theorem Fld.below {B : Nat} (h : Fld w g n inv ml ol rl) (hb : Below B w w') (hg : g < B) : Fld w' g n inv ml ol rl := ⟨(hb.block g hg).trans h.blk, h.m6, h.o6, h.r6⟩
theorem Fld.lt (h : Fld w g n inv ml ol rl) : g < w.heap.size := blk_lt h.blk
theorem Fld.n0 (h : Fld w g n inv ml ol rl) : w.cell? ⟨g, 0, none⟩ = some (.int .i64 (n : Int)) := by
  rw [blk_cell h.blk 0]; rfl
theorem Fld.inv_ (h : Fld w g n inv ml ol rl) : w.cell? ⟨g, 7, none⟩ = some (.int .u64 (inv : Int)) := by
  rw [blk_cell h.blk 7]
  obtain ⟨a, b, c, d, e, f, rfl⟩ := six h.m6
  rfl
theorem Fld.m_ (h : Fld w g n inv ml ol rl) {j : Nat} (hj : j < 6) : w.cell? ⟨g, 1 + j, none⟩ = some (.int .u64 (dg ml j : Int)) := by
  rw [blk_cell h.blk (1 + j)]
  obtain ⟨a, b, c, d, e, f, rfl⟩ := six h.m6
  match j, hj with
  | 0, _ | 1, _ | 2, _ | 3, _ | 4, _ | 5, _ => rfl
/-- A row of limbs in a block of whatever type. -/
def ARow (w : World) (g : Nat) (ty : TypeId) (l : List Nat) : Prop := w.heap[g]? = some (.cells (nts l).toArray ty (0, 0))
theorem ARow.cell {ty : TypeId} {l : List Nat} (h : ARow w g ty l) {i : Nat} (hi : i < l.length) : w.cell? ⟨g, i, none⟩ = some (.int .u64 (dg l i : Int)) := by
  rw [blk_cell h i, List.getElem?_toArray, nts_get hi]
theorem ARow.free {ty : TypeId} {l : List Nat} (h : ARow w g ty l) (i : Nat) : w.frozen? ⟨g, i, none⟩ = false := blk_free h i
theorem ARow.set {ty : TypeId} {l : List Nat} (h : ARow w g ty l) (i x : Nat) : ARow (w.setCell ⟨g, i, none⟩ (.int .u64 (x : Int))) g ty (l.set i x) := by
  have := blk_set h i (.int .u64 (x : Int))
  rw [ARow, this]
  simp [nts, List.map_set]
theorem ARow.below {ty : TypeId} {l : List Nat} {B : Nat} (h : ARow w g ty l) (hb : Below B w w') (hg : g < B) : ARow w' g ty l := (hb.block g hg).trans h
theorem ARow.lt {ty : TypeId} {l : List Nat} (h : ARow w g ty l) : g < w.heap.size := blk_lt h

theorem cells6 {w : World} {g : Nat} {ty : TypeId} {a b c d e f : Value} (h : w.heap[g]? = some (.cells #[a, b, c, d, e, f] ty (0, 0))) :
    w.cell? ⟨g, 0, none⟩ = some a ∧ w.cell? ⟨g, 1, none⟩ = some b ∧ w.cell? ⟨g, 2, none⟩ = some c ∧ w.cell? ⟨g, 3, none⟩ = some d ∧ w.cell? ⟨g, 4, none⟩ = some e ∧ w.cell? ⟨g, 5, none⟩ = some f :=
  ⟨blk_cell h 0, blk_cell h 1, blk_cell h 2, blk_cell h 3, blk_cell h 4, blk_cell h 5⟩
theorem six_set {w : World} {g : Nat} {ty : TypeId} {x0 x1 x2 x3 x4 x5 : Value} (h : w.heap[g]? = some (.cells #[x0, x1, x2, x3, x4, x5] ty (0, 0))) (a b c d e f : Value) :
    ((((((w.setCell ⟨g, 0, none⟩ a).setCell ⟨g, 1, none⟩ b).setCell ⟨g, 2, none⟩ c).setCell ⟨g, 3, none⟩ d).setCell ⟨g, 4, none⟩ e).setCell ⟨g, 5, none⟩ f).heap[g]? = some (.cells #[a, b, c, d, e, f] ty (0, 0)) := by
  have h1 := blk_set (blk_set (blk_set (blk_set (blk_set (blk_set h 0 a) 1 b) 2 c) 3 d) 4 e) 5 f
  rw [h1]
  rfl
theorem six_below {B g : Nat} {w0 w : World} (h : Below B w0 w) (hg : B ≤ g) (a b c d e f : Value) : Below B w0 ((((((w.setCell ⟨g, 0, none⟩ a).setCell ⟨g, 1, none⟩ b).setCell ⟨g, 2, none⟩ c).setCell ⟨g, 3, none⟩ d).setCell ⟨g, 4, none⟩ e).setCell ⟨g, 5, none⟩ f) :=
  (((((h.setCell (p := ⟨g, 0, none⟩) hg a).setCell (p := ⟨g, 1, none⟩) hg b).setCell (p := ⟨g, 2, none⟩) hg c).setCell (p := ⟨g, 3, none⟩) hg d).setCell (p := ⟨g, 4, none⟩) hg e).setCell (p := ⟨g, 5, none⟩) hg f
theorem end6 {fn : Func} {R : Ending → World → Prop} {a : Act} {W : World} {p : Tmp} {g : Nat} {ty : TypeId} {fr : Nat × Nat} {x0 x1 x2 x3 x4 x5 : Value} (hr : fn.results = #[.cell p 81]) (hp : a.tmps.getD p undef = .pointer (some ⟨g, 0, none⟩)) (hd : a.defers = [])
    (hg : W.heap[g]? = some (.cells #[x0, x1, x2, x3, x4, x5] ty fr)) (hR : R (.returned (.agg #[x0, x1, x2, x3, x4, x5])) W) : bodyPost Try.prog fn R .ret a W :=
  bodyPost_ret (results_cell_row hr a.tmps W g _ _ _ (.array 6 72) hp hg Try.underlying81 rfl (by kernel_rfl)) hd hR
/-- Limbs are copied from one array to another one's beginning. -/
theorem copy_arow (w : World) (g gt n c c' : Nat) (ty ty' : TypeId) (u src : List Nat) (hu : ARow w g ty u) (hs : ARow w gt ty' src) (hn : n ≤ src.length) (hn' : n ≤ u.length) (hpos : 0 < n) :
    (Builtin.copy_ #[22, 22] 3 #[.slice (some ⟨g, 0, none⟩) n c, .slice (some ⟨gt, 0, none⟩) n c']).run Try.prog w = .ok (goInt n) (w.setRow g (nts (src.take n ++ u.drop n)).toArray) := by
  have hl : (nts (src.take n)).length = n := by rw [nts_length, List.length_take]; omega
  have h := run_copy_row (P := Try.prog) w 22 22 3 72 g 0 n c ⟨gt, 0, none⟩ n c' (nts u).toArray ty (nts (src.take n)) Try.underlying22 info64size hu
    (by rw [hl]; simp) (fun j v hj => by
      have hj' : j < n := by have := (List.getElem?_eq_some_iff.1 hj).1; omega
      rw [add_blk, blk_cell hs j, List.getElem?_toArray]
      rw [nts, List.getElem?_map, List.getElem?_take, if_pos hj'] at hj
      rw [nts, List.getElem?_map]
      exact hj) (by rw [hl]; simp [nts]; omega) (oneCell_nts _)
  rw [hl] at h
  rw [h]
  simp [nts, List.map_drop]
theorem val_take_lt {B : Nat} {l : List Nat} (h : ∀ x ∈ l, x < B) (k : Nat) (hB : 0 < B := by omega) : val B (l.take k) < B ^ k := by
  have h1 := val_lt (B := B) (l := l.take k) fun x hx => h x (List.mem_of_mem_take hx)
  exact Nat.lt_of_lt_of_le h1 (Nat.pow_le_pow_right hB (by rw [List.length_take]; omega))
theorem val_take_zeros {B k : Nat} {l : List Nat} (h : ∀ p, k ≤ p → dg l p = 0) : val B (l.take k) = val B l := by
  rcases Nat.lt_or_ge k l.length with h1 | h1
  · rw [val_take_drop B l (n := k) (by omega), val_zeros (l := l.drop k) ?_, Nat.mul_zero, Nat.add_zero]
    intro x hx
    obtain ⟨j, hj, rfl⟩ := List.mem_iff_getElem.1 hx
    have h2 := h (k + j) (by omega)
    rw [List.length_drop] at hj
    rw [List.getElem_drop]
    rwa [dg, getD_eq' (by omega)] at h2
  · rw [List.take_of_length_le h1]

set_option maxRecDepth 100000 in
set_option maxHeartbeats 2000000 in
theorem zbelow_any (gt over : Nat) (t : List Nat) (w : World) (hF : Fld w g n inv ml ol rl) (hml : ∀ x ∈ ml, x < 18446744073709551616) (hT : ARow w gt 139 t) (hgt : gt ≠ g) (ht8 : t.length = 8) (ht : ∀ x ∈ t, x < 18446744073709551616) (hn : n ≤ 6) (hn1 : 0 < n)
    (hmv : val 18446744073709551616 (ml.take n) = val 18446744073709551616 ml) (ho : over < 18446744073709551616) (hv : val 18446744073709551616 (t.take n) + 18446744073709551616 ^ n * over < 2 * val 18446744073709551616 ml) :
    Calls Try.prog 98 #[.pointer (some ⟨g, 0, none⟩), .pointer (some ⟨gt, 0, none⟩), .int .u64 (over : Int)] w fun e w' => ∃ o, e = .returned (EV o) ∧ o.length = 6 ∧ (∀ x ∈ o, x < 18446744073709551616) ∧
      val 18446744073709551616 o = offM (val 18446744073709551616 (t.take n) + 18446744073709551616 ^ n * over) (val 18446744073709551616 ml) ∧ Below w.heap.size w w' := by
  have h0 := hF.n0
  have hg := hF.lt
  have hgtl := hT.lt
  have hB0 : Below w.heap.size w ((w.alloc (.cells #[.int .u64 0, .int .u64 0, .int .u64 0, .int .u64 0, .int .u64 0, .int .u64 0] 81)).alloc (.cells #[.int .u64 0, .int .u64 0, .int .u64 0, .int .u64 0, .int .u64 0, .int .u64 0] 81)) := ((Below.refl _ w).alloc (Nat.le_refl _) _).alloc (by simp) _
  have hr0 : ARow ((w.alloc (.cells #[.int .u64 0, .int .u64 0, .int .u64 0, .int .u64 0, .int .u64 0, .int .u64 0] 81)).alloc (.cells #[.int .u64 0, .int .u64 0, .int .u64 0, .int .u64 0, .int .u64 0, .int .u64 0] 81)) (w.heap.size + 1) 81 [0, 0, 0, 0, 0, 0] := by
    have := heap_alloc_new (w.alloc (.cells #[.int .u64 0, .int .u64 0, .int .u64 0, .int .u64 0, .int .u64 0, .int .u64 0] 81)) (.cells #[.int .u64 0, .int .u64 0, .int .u64 0, .int .u64 0, .int .u64 0, .int .u64 0] 81)
    rw [World.size_alloc] at this
    exact this
  have hres : ((w.alloc (.cells #[.int .u64 0, .int .u64 0, .int .u64 0, .int .u64 0, .int .u64 0, .int .u64 0] 81)).alloc (.cells #[.int .u64 0, .int .u64 0, .int .u64 0, .int .u64 0, .int .u64 0, .int .u64 0] 81)).heap[w.heap.size]? = some (.cells #[.int .u64 0, .int .u64 0, .int .u64 0, .int .u64 0, .int .u64 0, .int .u64 0] 81 (0, 0)) := (Below.heap_alloc _ _ _ (by simp)).trans (heap_alloc_new w _)
  go_enter Try.func98, Try.ntmps98
  go_wp2_with fail
  generalize (w.alloc (.cells #[.int .u64 0, .int .u64 0, .int .u64 0, .int .u64 0, .int .u64 0, .int .u64 0] 81)).alloc (.cells #[.int .u64 0, .int .u64 0, .int .u64 0, .int .u64 0, .int .u64 0, .int .u64 0] 81) = W0 at *
  have hW0 : w.heap.size + 2 ≤ W0.heap.size := by have := hr0.lt; omega
  have Hv := Lib.hid hv
  have Hmv := Lib.hid hmv
  have Hml := Lib.hid hml
  have Ht := Lib.hid ht
  have Ht8 := Lib.hid ht8
  have hm6 := Lib.hid hF.m6
  clear hv hmv hml ht ht8
  go_loopw [8, 14] (fun cv iv wr => ∃ (k cr : Nat) (o : List Nat), iv = .int .i64 (k : Int) ∧ cv = .int .u64 (cr : Int) ∧ k ≤ n ∧ cr ≤ 1 ∧ SubAt 18446744073709551616 t ml o k cr ∧ Hid (o.length = 6) ∧ Hid (∀ x ∈ o, x < 18446744073709551616) ∧ Hid (∀ p, k ≤ p → dg o p = 0) ∧ ARow wr (w.heap.size + 1) 81 o ∧ Below (w.heap.size + 1) W0 wr) (fun _ iv _ => n - (intOf iv).toNat)
  case atStart => exact ⟨0, 0, _, rfl, rfl, by omega, by omega, SubAt.zero _ _ _ _, Lib.hid rfl, Lib.hid (by simp), Lib.hid (fun p _ => by match p with | 0 | 1 | 2 | 3 | 4 | 5 => rfl | p + 6 => rfl), hr0, Below.refl _ _⟩
  case round =>
    obtain ⟨k, cr, o, rfl, rfl, hk, hcr, hA, Ho, Hlo, Hz, hblk, hB⟩ := hrel
    have hBw : Below w.heap.size w wr := hB0.trans (hB.mono (by omega))
    have hFr := hF.below hBw hg
    have hTr := hT.below hBw hgtl
    have c0 := hFr.n0
    by_cases hlt : k < n
    · have q1 := hTr.cell (i := k) (by have := Ht8.out; omega)
      have q2 := hFr.m_ (j := k) (by omega)
      have dt : dg t k < 18446744073709551616 := getD_lt (by omega) Ht.out k
      have dm : dg ml k < 18446744073709551616 := getD_lt (by omega) Hml.out k
      obtain ⟨s, cr', hs, hcr', he⟩ := borrow_of (dg t k) (dg ml k) cr dt dm hcr
      have hok : k < o.length := by have := Ho.out; omega
      have q3 := hblk.cell hok
      have q4 := hblk.free k
      have hA' := hA.step hok he
      have hblk' := hblk.set k s
      have hB' := hB.setCell (p := ⟨w.heap.size + 1, k, none⟩) (Nat.le_refl _) (.int .u64 (s : Int))
      have Ho' : Hid ((o.set k s).length = 6) := Lib.hid (by rw [List.length_set]; exact Ho.out)
      have Hlo' : Hid (∀ x ∈ o.set k s, x < 18446744073709551616) := Lib.hid (set_lt Hlo.out hs)
      have Hz' : Hid (∀ p, k + 1 ≤ p → dg (o.set k s) p = 0) := Lib.hid fun p hp => by rw [getD_set_ne (by omega)]; exact Hz.out p (by omega)
      have hsub := fun w => sub64_at (dg t k) (dg ml k) cr s cr' hcr dt dm hs he hcr' w
      have ki : (k : Int) < 8 := by omega
      have ki6 : (k : Int) < 6 := by omega
      clear he hA hblk hB hok hBw hFr hTr
      go_wp2_with fail
      have hfar : ∀ q : Addr, q.block < w.heap.size → (wr.setCell ⟨w.heap.size + 1, k, none⟩ (.int .u64 (s : Int))).drew.cell? q = wr.cell? q := fun q hq => World.cell?_of_block (Below.heap_setCell _ _ _ _ (by show q.block ≠ w.heap.size + 1; omega))
      have f1 := (hfar ⟨gt, k, none⟩ hgtl).trans q1
      have f2 := (hfar ⟨g, 1 + k, none⟩ hg).trans q2
      clear hfar
      go_region_held3 (fun w' => w'.cell? ⟨gt, k, none⟩ = some (.int .u64 (dg t k : Int)) ∧ w'.cell? ⟨g, 1 + k, none⟩ = some (.int .u64 (dg ml k : Int))) (first | exact ⟨q1, q2⟩ | exact ⟨f1, f2⟩ | go_keep) (fail)
      go_wp2
      go_roundw
      case rel => exact ⟨k + 1, cr', o.set k s, by go_num, rfl, by omega, hcr', hA', Ho', Hlo', Hz', hblk', hB'.drew⟩
      case measure => simp [intOf]; omega
    · obtain rfl : k = n := by omega
      have hfin : val 18446744073709551616 o + val 18446744073709551616 ml = val 18446744073709551616 (t.take k) + 18446744073709551616 ^ k * cr := by
        have h1 : val 18446744073709551616 (o.take k) + val 18446744073709551616 (ml.take k) = val 18446744073709551616 (t.take k) + 18446744073709551616 ^ k * cr := hA
        rw [Hmv.out] at h1
        have h2 : val 18446744073709551616 (o.take k) = val 18446744073709551616 o := val_take_zeros Hz.out
        omega
      have hvo : val 18446744073709551616 o < 18446744073709551616 ^ k := by
        rw [← val_take_zeros Hz.out]
        exact val_take_lt Hlo.out k
      have hvm : val 18446744073709551616 ml < 18446744073709551616 ^ k := by rw [← Hmv.out]; exact val_take_lt Hml.out k
      have hvt := val_take_lt Ht.out k
      have hv := Hv.out
      by_cases hcase : over < cr
      · obtain rfl : cr = 1 := by omega
        obtain rfl : over = 0 := by omega
        rw [Nat.mul_zero, Nat.add_zero] at hv
        have hoff : offM (val 18446744073709551616 (t.take k) + 18446744073709551616 ^ k * 0) (val 18446744073709551616 ml) = val 18446744073709551616 (t.take k) := by rw [Nat.mul_zero, Nat.add_zero, offM, if_pos (by omega)]
        have hcp := copy_arow wr.drew (w.heap.size + 1) gt k 6 8 81 139 o t hblk hTr (by have := Ht8.out; omega) (by have := Ho.out; omega) hn1
        have hvv : val 18446744073709551616 (t.take k ++ o.drop k) = val 18446744073709551616 (t.take k) := by
          rw [val_append, val_zeros (l := o.drop k) ?_, Nat.mul_zero, Nat.add_zero]
          intro x hx
          obtain ⟨j, hj, rfl⟩ := List.mem_iff_getElem.1 hx
          have h2 := Hz.out (k + j) (by omega)
          rw [List.length_drop] at hj
          rw [List.getElem_drop]
          rwa [dg, getD_eq' (by omega)] at h2
        have hlen : (t.take k ++ o.drop k).length = 6 := by rw [List.length_append, List.length_take, List.length_drop, Ho.out, Ht8.out]; omega
        have hlim : ∀ x ∈ t.take k ++ o.drop k, x < 18446744073709551616 := fun x hx => by
          rcases List.mem_append.1 hx with h | h
          · exact Ht.out x (List.mem_of_mem_take h)
          · exact Hlo.out x (List.mem_of_mem_drop h)
        generalize t.take k ++ o.drop k = o2 at *
        have hb2 : ARow (wr.drew.setRow (w.heap.size + 1) (nts o2).toArray) (w.heap.size + 1) 81 o2 := setRow_heap wr.drew _ _ _ _ _ hblk
        have hB2 := setRow_below hB.drew (Nat.le_refl (w.heap.size + 1)) (nts o2).toArray
        obtain ⟨a, b, c, d, e, f, hoe⟩ := six hlen
        have hcb : ((wr.drew.setRow (w.heap.size + 1) (nts o2).toArray).heap[w.heap.size + 1]? = some (.cells #[.int .u64 (a : Int), .int .u64 (b : Int), .int .u64 (c : Int), .int .u64 (d : Int), .int .u64 (e : Int), .int .u64 (f : Int)] 81 (0, 0))) := by
          have h := hb2
          rw [ARow] at h
          rw [h, hoe]
          rfl
        have hrb : (wr.drew.setRow (w.heap.size + 1) (nts o2).toArray).heap[w.heap.size]? = some (.cells #[.int .u64 0, .int .u64 0, .int .u64 0, .int .u64 0, .int .u64 0, .int .u64 0] 81 (0, 0)) := (hB2.block w.heap.size (by omega)).trans hres
        obtain ⟨e0, e1, e2, e3, e4, e5⟩ := cells6 hcb
        obtain ⟨r0, r1, r2, r3, r4, r5⟩ := cells6 hrb
        have z := fun i => blk_free hrb i
        have z0 := z 0
        have z1 := z 1
        have z2 := z 2
        have z3 := z 3
        have z4 := z 4
        have z5 := z 5
        have hrb' := hrb
        have hBf : Below w.heap.size w (wr.drew.setRow (w.heap.size + 1) (nts o2).toArray) := hB0.trans (hB2.mono (by omega))
        have Hoff := Lib.hid (hvv.trans hoff.symm)
        have Hoe := Lib.hid hoe
        have Hlen := Lib.hid hlen
        have Hlim := Lib.hid hlim
        have k6 : (k : Int) ≤ 6 := by omega
        have k8 : (k : Int) ≤ 8 := by omega
        clear hvo hv hfin hvm hvt hoff hA hblk hFr hTr z hcb hrb hvv hoe hlen hlim hb2 hB2
        go_wp2_with fail
        go_region
        generalize wr.drew.setRow (w.heap.size + 1) (nts o2).toArray = W9 at *
        go_wp2_with fail
        refine end6 rfl rfl rfl (six_set hrb' _ _ _ _ _ _) ?_
        exact ⟨o2, by rw [Hoe.out]; rfl, Hlen.out, Hlim.out, Hoff.out, six_below hBf (Nat.le_refl _) _ _ _ _ _ _⟩
      · have hoff : val 18446744073709551616 o = offM (val 18446744073709551616 (t.take k) + 18446744073709551616 ^ k * over) (val 18446744073709551616 ml) := by
          have hcr' : cr = 0 ∨ cr = 1 := by omega
          generalize 18446744073709551616 ^ k = R at *
          rcases Nat.eq_zero_or_pos over with rfl | hpo
          · obtain rfl : cr = 0 := by omega
            rw [Nat.mul_zero, Nat.add_zero] at hfin hv ⊢
            rw [offM, if_neg (by omega)]
            omega
          · have h1 : R * 1 ≤ R * over := Nat.mul_le_mul_left _ hpo
            have h2 : over = 1 := by
              rcases Nat.lt_or_ge over 2 with h | h
              · omega
              · have : R * 2 ≤ R * over := Nat.mul_le_mul_left _ h
                omega
            subst h2
            rw [offM, if_neg (by omega)]
            rcases hcr' with rfl | rfl
            · rw [Nat.mul_zero, Nat.add_zero] at hfin
              omega
            · omega
        have Hoff := Lib.hid hoff
        obtain ⟨a, b, c, d, e, f, hoe⟩ := six Ho.out
        have hcb : (wr.heap[w.heap.size + 1]? = some (.cells #[.int .u64 (a : Int), .int .u64 (b : Int), .int .u64 (c : Int), .int .u64 (d : Int), .int .u64 (e : Int), .int .u64 (f : Int)] 81 (0, 0))) := by
          rw [hoe] at hblk; exact hblk
        have hrb : wr.heap[w.heap.size]? = some (.cells #[.int .u64 0, .int .u64 0, .int .u64 0, .int .u64 0, .int .u64 0, .int .u64 0] 81 (0, 0)) := (hB.block w.heap.size (by omega)).trans hres
        obtain ⟨e0, e1, e2, e3, e4, e5⟩ := cells6 hcb
        obtain ⟨r0, r1, r2, r3, r4, r5⟩ := cells6 hrb
        have z := fun i => blk_free hrb i
        have z0 := z 0
        have z1 := z 1
        have z2 := z 2
        have z3 := z 3
        have z4 := z 4
        have z5 := z 5
        have hrb' := hrb
        clear hvo hv hfin hvm hvt hoff hA hblk hFr hTr z hcb hrb
        go_wp2_with fail
        refine end6 rfl rfl rfl (six_set hrb' _ _ _ _ _ _) ?_
        exact ⟨o, by rw [hoe]; rfl, Ho.out, Hlo.out, Hoff.out, six_below hBw (Nat.le_refl _) _ _ _ _ _ _⟩
end Go.Proofs.Ytldhmjfjbalakaa

namespace Go.Proofs.Ytldhmjfjbalakaa
open Go.RowKit

/-- A field made ready: its prime is M; elements have n limbs at most. -/
structure FF (w : World) (g n inv M : Nat) (ml ol rl : List Nat) : Prop where
  fld : Fld w g n inv ml ol rl
  mlt : ∀ x ∈ ml, x < 18446744073709551616
  mval : val 18446744073709551616 ml = M
  mtake : val 18446744073709551616 (ml.take n) = M
  npos : 0 < n
  nle : n ≤ 6
  big : 1 < M
  invLt : inv < 18446744073709551616
  invV : (inv * M + 1) % 18446744073709551616 = 0
theorem FF.below {w w' : World} {g n inv M B : Nat} {ml ol rl : List Nat} (h : FF w g n inv M ml ol rl) (hb : Below B w w') (hg : g < B) : FF w' g n inv M ml ol rl :=
  ⟨h.fld.below hb hg, h.mlt, h.mval, h.mtake, h.npos, h.nle, h.big, h.invLt, h.invV⟩
theorem FF.room {w : World} {g n inv M : Nat} {ml ol rl : List Nat} (h : FF w g n inv M ml ol rl) : M < 18446744073709551616 ^ n := by rw [← h.mtake]; exact val_take_lt h.mlt n
/-- An element: six limbs, its number below the prime. -/
structure Elt (M : Nat) (l : List Nat) : Prop where
  six : l.length = 6
  lim : ∀ x ∈ l, x < 18446744073709551616
  lt : val 18446744073709551616 l < M
theorem Elt.take {w : World} {g n inv M : Nat} {ml ol rl l : List Nat} (h : FF w g n inv M ml ol rl) (he : Elt M l) : val 18446744073709551616 (l.take n) = val 18446744073709551616 l := by
  have h1 := val_take_drop 18446744073709551616 l (n := n) (by rw [he.six]; exact h.nle)
  have h2 := h.room
  rcases Nat.eq_zero_or_pos (val 18446744073709551616 (l.drop n)) with h3 | h3
  · rw [h3] at h1; omega
  · have h4 : 18446744073709551616 ^ n * 1 ≤ 18446744073709551616 ^ n * val 18446744073709551616 (l.drop n) := Nat.mul_le_mul_left _ h3
    have h5 := he.lt
    omega
/-- The blocks that a function over two elements lays: both, its result, and a row. -/
theorem lay4 (w : World) (o1 o2 o3 o4 : Obj) : ((((w.alloc o1).alloc o2).alloc o3).alloc o4).heap[w.heap.size]? = some o1 ∧ ((((w.alloc o1).alloc o2).alloc o3).alloc o4).heap[w.heap.size + 1]? = some o2 ∧ ((((w.alloc o1).alloc o2).alloc o3).alloc o4).heap[w.heap.size + 1 + 1]? = some o3 ∧ ((((w.alloc o1).alloc o2).alloc o3).alloc o4).heap[w.heap.size + 1 + 1 + 1]? = some o4 ∧
    ((((w.alloc o1).alloc o2).alloc o3).alloc o4).heap.size = w.heap.size + 4 ∧ Below w.heap.size w ((((w.alloc o1).alloc o2).alloc o3).alloc o4) := by
  have e1 := heap_alloc_new w o1
  have e2 := heap_alloc_new (w.alloc o1) o2
  have e3 := heap_alloc_new ((w.alloc o1).alloc o2) o3
  have e4 := heap_alloc_new (((w.alloc o1).alloc o2).alloc o3) o4
  simp only [World.size_alloc] at e2 e3 e4
  refine ⟨?_, ?_, ?_, e4, by simp, (((((Below.refl _ w).alloc (Nat.le_refl _) _).alloc (by simp) _).alloc (by simp; omega) _).alloc (by simp; omega) _)⟩
  · exact (Below.heap_alloc _ _ _ (by simp <;> omega)).trans ((Below.heap_alloc _ _ _ (by simp <;> omega)).trans ((Below.heap_alloc _ _ _ (by simp)).trans e1))
  · exact (Below.heap_alloc _ _ _ (by simp <;> omega)).trans ((Below.heap_alloc _ _ _ (by simp)).trans e2)
  · exact (Below.heap_alloc _ _ _ (by simp)).trans e3

set_option maxRecDepth 100000 in
set_option maxHeartbeats 2000000 in
theorem zadd_any {g n inv M : Nat} {ml ol rl : List Nat} (a b : List Nat) (w : World) (hF : FF w g n inv M ml ol rl) (ha : Elt M a) (hb : Elt M b) :
    Calls Try.prog 73 #[.pointer (some ⟨g, 0, none⟩), EV a, EV b] w fun e w' => ∃ o, e = .returned (EV o) ∧ Elt M o ∧ val 18446744073709551616 o = offM (val 18446744073709551616 a + val 18446744073709551616 b) M ∧ Below w.heap.size w w' := by
  have hg := hF.fld.lt
  have h0 := hF.fld.n0
  have hn := hF.nle
  have hn1 := hF.npos
  have ta := ha.take hF
  have tb := hb.take hF
  obtain ⟨a0, a1, a2, a3, a4, a5, hae⟩ := six ha.six
  obtain ⟨b0, b1, b2, b3, b4, b5, hbe⟩ := six hb.six
  obtain ⟨l1, l2, l3, l4, hz, hB0⟩ := lay4 w (.cells #[.int .u64 (a0 : Int), .int .u64 (a1 : Int), .int .u64 (a2 : Int), .int .u64 (a3 : Int), .int .u64 (a4 : Int), .int .u64 (a5 : Int)] 81)
    (.cells #[.int .u64 (b0 : Int), .int .u64 (b1 : Int), .int .u64 (b2 : Int), .int .u64 (b3 : Int), .int .u64 (b4 : Int), .int .u64 (b5 : Int)] 81) (.cells #[.int .u64 0, .int .u64 0, .int .u64 0, .int .u64 0, .int .u64 0, .int .u64 0] 81)
    (.cells #[.int .u64 0, .int .u64 0, .int .u64 0, .int .u64 0, .int .u64 0, .int .u64 0, .int .u64 0, .int .u64 0] 139)
  have hva : EV a = .agg #[.int .u64 (a0 : Int), .int .u64 (a1 : Int), .int .u64 (a2 : Int), .int .u64 (a3 : Int), .int .u64 (a4 : Int), .int .u64 (a5 : Int)] := by rw [hae]; rfl
  have hvb : EV b = .agg #[.int .u64 (b0 : Int), .int .u64 (b1 : Int), .int .u64 (b2 : Int), .int .u64 (b3 : Int), .int .u64 (b4 : Int), .int .u64 (b5 : Int)] := by rw [hbe]; rfl
  rw [hva, hvb]
  have h00 := (hB0.cell (p := ⟨g, 0, none⟩) hg).trans h0
  go_enter Try.func73, Try.ntmps73
  go_wp2_with fail
  generalize (((w.alloc (.cells #[.int .u64 (a0 : Int), .int .u64 (a1 : Int), .int .u64 (a2 : Int), .int .u64 (a3 : Int), .int .u64 (a4 : Int), .int .u64 (a5 : Int)] 81)).alloc
    (.cells #[.int .u64 (b0 : Int), .int .u64 (b1 : Int), .int .u64 (b2 : Int), .int .u64 (b3 : Int), .int .u64 (b4 : Int), .int .u64 (b5 : Int)] 81)).alloc (.cells #[.int .u64 0, .int .u64 0, .int .u64 0, .int .u64 0, .int .u64 0, .int .u64 0] 81)).alloc
    (.cells #[.int .u64 0, .int .u64 0, .int .u64 0, .int .u64 0, .int .u64 0, .int .u64 0, .int .u64 0, .int .u64 0] 139) = W0 at *
  have A0 : ARow W0 w.heap.size 81 a := by rw [hae]; exact l1
  have B0 : ARow W0 (w.heap.size + 1) 81 b := by rw [hbe]; exact l2
  have T0 : ARow W0 (w.heap.size + 1 + 1 + 1) 139 [0, 0, 0, 0, 0, 0, 0, 0] := l4
  have hW0 : w.heap.size + 4 ≤ W0.heap.size := by omega
  have Ha := Lib.hid ha
  have Hb := Lib.hid hb
  have Hae := Lib.hid hae
  have Hbe := Lib.hid hbe
  have HF := Lib.hid hF
  clear l1 l2 l4 hz ha hb hae hbe hva hvb hF
  go_loopw [8, 14] (fun cv iv wr => ∃ (k cr : Nat) (o : List Nat), iv = .int .i64 (k : Int) ∧ cv = .int .u64 (cr : Int) ∧ k ≤ n ∧ cr ≤ 1 ∧ AddAt 18446744073709551616 a b o k cr ∧ Hid (o.length = 8) ∧ Hid (∀ x ∈ o, x < 18446744073709551616) ∧ ARow wr (w.heap.size + 1 + 1 + 1) 139 o ∧ Below (w.heap.size + 1 + 1 + 1) W0 wr) (fun _ iv _ => n - (intOf iv).toNat)
  case atStart => exact ⟨0, 0, _, rfl, rfl, by omega, by omega, AddAt.zero _ _ _ _, Lib.hid rfl, Lib.hid (by simp), T0, Below.refl _ _⟩
  case round =>
    obtain ⟨k, cr, o, rfl, rfl, hk, hcr, hA, Ho, Hlo, hblk, hB⟩ := hrel
    have hBw : Below w.heap.size w wr := hB0.trans (hB.mono (by omega))
    have hFr := HF.out.below hBw hg
    have c0 := hFr.fld.n0
    have hAr := A0.below hB (by omega)
    have hBr := B0.below hB (by omega)
    by_cases hlt : k < n
    · have q1 := hAr.cell (i := k) (by rw [Ha.out.six]; omega)
      have q2 := hBr.cell (i := k) (by rw [Hb.out.six]; omega)
      have dt : dg a k < 18446744073709551616 := getD_lt (by omega) Ha.out.lim k
      have dm : dg b k < 18446744073709551616 := getD_lt (by omega) Hb.out.lim k
      obtain ⟨s, cr', hs, hcr', he⟩ := carry_of (dg a k) (dg b k) cr dt dm hcr
      have hok : k < o.length := by have := Ho.out; omega
      have q3 := hblk.cell hok
      have q4 := hblk.free k
      have hA' := hA.step hok (by omega)
      have hblk' := hblk.set k s
      have hB' := hB.setCell (p := ⟨w.heap.size + 1 + 1 + 1, k, none⟩) (Nat.le_refl _) (.int .u64 (s : Int))
      have Ho' : Hid ((o.set k s).length = 8) := Lib.hid (by rw [List.length_set]; exact Ho.out)
      have Hlo' : Hid (∀ x ∈ o.set k s, x < 18446744073709551616) := Lib.hid (set_lt Hlo.out hs)
      have hadd := fun w => add64_at (dg a k) (dg b k) cr s cr' hcr hs (by omega) w
      have ki : (k : Int) < 8 := by omega
      have ki6 : (k : Int) < 6 := by omega
      clear he hA hblk hB hok hBw hFr hAr hBr
      go_wp2_with fail
      have hfar : ∀ q : Addr, q.block < w.heap.size + 1 + 1 + 1 → (wr.setCell ⟨w.heap.size + 1 + 1 + 1, k, none⟩ (.int .u64 (s : Int))).drew.cell? q = wr.cell? q := fun q hq => World.cell?_of_block (Below.heap_setCell _ _ _ _ (by show q.block ≠ w.heap.size + 1 + 1 + 1; omega))
      have f1 := (hfar ⟨w.heap.size, k, none⟩ (by show w.heap.size < _; omega)).trans q1
      have f2 := (hfar ⟨w.heap.size + 1, k, none⟩ (by show w.heap.size + 1 < _; omega)).trans q2
      clear hfar
      go_region_held3 (fun w' => w'.cell? ⟨w.heap.size, k, none⟩ = some (.int .u64 (dg a k : Int)) ∧ w'.cell? ⟨w.heap.size + 1, k, none⟩ = some (.int .u64 (dg b k : Int))) (first | exact ⟨q1, q2⟩ | exact ⟨f1, f2⟩ | go_keep) (fail)
      go_wp2
      go_roundw
      case rel => exact ⟨k + 1, cr', o.set k s, by go_num, rfl, by omega, hcr', hA', Ho', Hlo', hblk', hB'.drew⟩
      case measure => simp [intOf]; omega
    · obtain rfl : k = n := by omega
      have hsum : val 18446744073709551616 (o.take k) + 18446744073709551616 ^ k * cr = val 18446744073709551616 a + val 18446744073709551616 b := by
        have h1 : val 18446744073709551616 (o.take k) + 18446744073709551616 ^ k * cr = val 18446744073709551616 (a.take k) + val 18446744073709551616 (b.take k) := by have := hA; unfold AddAt at this; omega
        rw [ta, tb] at h1
        exact h1
      have hbel := zbelow_any (w.heap.size + 1 + 1 + 1) cr o wr hFr.fld hFr.mlt hblk (by omega) Ho.out Hlo.out hn hn1 (by rw [hFr.mtake, hFr.mval]) (by omega) (by rw [hsum, hFr.mval]; have := Ha.out.lt; have := Hb.out.lt; omega)
      rw [hsum, hFr.mval] at hbel
      have Hbel := Lib.hid hbel
      clear hbel hA hblk hFr hAr hBr hsum
      go_wp2_with fail
      refine Hbel.out.mono ?_
      rintro e w2 ⟨o2, rfl, ho6, hlim, hv2, hB2⟩
      obtain ⟨x0, x1, x2, x3, x4, x5, hoe⟩ := six ho6
      have hrb := (hB2.block (w.heap.size + 1 + 1) (by have := hB.size; omega)).trans ((hB.block (w.heap.size + 1 + 1) (by omega)).trans l3)
      obtain ⟨r0, r1, r2, r3, r4, r5⟩ := cells6 hrb
      have z := fun i => blk_free hrb i
      have z0 := z 0
      have z1 := z 1
      have z2 := z 2
      have z3 := z 3
      have z4 := z 4
      have z5 := z 5
      have hrb' := hrb
      have hBf : Below w.heap.size w w2 := hBw.trans (hB2.mono hBw.size)
      have Hv2 := Lib.hid hv2
      have Ho6 := Lib.hid ho6
      have Hlim := Lib.hid hlim
      have Hoe := Lib.hid hoe
      have hve : EV o2 = .agg #[.int .u64 (x0 : Int), .int .u64 (x1 : Int), .int .u64 (x2 : Int), .int .u64 (x3 : Int), .int .u64 (x4 : Int), .int .u64 (x5 : Int)] := by rw [hoe]; rfl
      rw [hve]
      clear hve hoe hv2 ho6 hlim z hrb hB2 hB Hbel
      go_wp2_with fail
      refine end6 rfl rfl rfl (six_set hrb' _ _ _ _ _ _) ?_
      exact ⟨o2, by rw [Hoe.out]; rfl, ⟨Ho6.out, Hlim.out, by rw [Hv2.out]; exact offM_lt (by have := Ha.out.lt; have := Hb.out.lt; omega)⟩, Hv2.out, six_below hBf (by omega) _ _ _ _ _ _⟩
end Go.Proofs.Ytldhmjfjbalakaa

namespace Go.Proofs.Ytldhmjfjbalakaa
open Go.RowKit

/-- A difference modulo M. -/
def subM (x y M : Nat) : Nat := if y ≤ x then x - y else x + M - y
theorem subM_lt {x y M : Nat} (hx : x < M) (hy : y < M) : subM x y M < M := by unfold subM; split <;> omega
theorem subM_mod {x y M : Nat} (hx : x < M) (hy : y < M) : subM x y M = (x + M - y) % M := by
  unfold subM
  split
  · rw [show x + M - y = x - y + M by omega, Nat.add_mod_right, Nat.mod_eq_of_lt (by omega)]
  · rw [Nat.mod_eq_of_lt (by omega)]
set_option maxRecDepth 100000 in
set_option maxHeartbeats 2000000 in
theorem zsub_any {g n inv M : Nat} {ml ol rl : List Nat} (a b : List Nat) (w : World) (hF : FF w g n inv M ml ol rl) (ha : Elt M a) (hb : Elt M b) :
    Calls Try.prog 75 #[.pointer (some ⟨g, 0, none⟩), EV a, EV b] w fun e w' => ∃ o, e = .returned (EV o) ∧ Elt M o ∧ val 18446744073709551616 o = subM (val 18446744073709551616 a) (val 18446744073709551616 b) M ∧ Below w.heap.size w w' := by
  have hg := hF.fld.lt
  have h0 := hF.fld.n0
  have hn := hF.nle
  have hn1 := hF.npos
  have ta := ha.take hF
  have tb := hb.take hF
  obtain ⟨a0, a1, a2, a3, a4, a5, hae⟩ := six ha.six
  obtain ⟨b0, b1, b2, b3, b4, b5, hbe⟩ := six hb.six
  obtain ⟨l1, l2, l3, l4, hz, hB0⟩ := lay4 w (.cells #[.int .u64 (a0 : Int), .int .u64 (a1 : Int), .int .u64 (a2 : Int), .int .u64 (a3 : Int), .int .u64 (a4 : Int), .int .u64 (a5 : Int)] 81)
    (.cells #[.int .u64 (b0 : Int), .int .u64 (b1 : Int), .int .u64 (b2 : Int), .int .u64 (b3 : Int), .int .u64 (b4 : Int), .int .u64 (b5 : Int)] 81) (.cells #[.int .u64 0, .int .u64 0, .int .u64 0, .int .u64 0, .int .u64 0, .int .u64 0] 81)
    (.cells #[.int .u64 0, .int .u64 0, .int .u64 0, .int .u64 0, .int .u64 0, .int .u64 0] 81)
  have hva : EV a = .agg #[.int .u64 (a0 : Int), .int .u64 (a1 : Int), .int .u64 (a2 : Int), .int .u64 (a3 : Int), .int .u64 (a4 : Int), .int .u64 (a5 : Int)] := by rw [hae]; rfl
  have hvb : EV b = .agg #[.int .u64 (b0 : Int), .int .u64 (b1 : Int), .int .u64 (b2 : Int), .int .u64 (b3 : Int), .int .u64 (b4 : Int), .int .u64 (b5 : Int)] := by rw [hbe]; rfl
  rw [hva, hvb]
  have h00 := (hB0.cell (p := ⟨g, 0, none⟩) hg).trans h0
  go_enter Try.func75, Try.ntmps75
  go_wp2_with fail
  generalize (((w.alloc (.cells #[.int .u64 (a0 : Int), .int .u64 (a1 : Int), .int .u64 (a2 : Int), .int .u64 (a3 : Int), .int .u64 (a4 : Int), .int .u64 (a5 : Int)] 81)).alloc
    (.cells #[.int .u64 (b0 : Int), .int .u64 (b1 : Int), .int .u64 (b2 : Int), .int .u64 (b3 : Int), .int .u64 (b4 : Int), .int .u64 (b5 : Int)] 81)).alloc (.cells #[.int .u64 0, .int .u64 0, .int .u64 0, .int .u64 0, .int .u64 0, .int .u64 0] 81)).alloc
    (.cells #[.int .u64 0, .int .u64 0, .int .u64 0, .int .u64 0, .int .u64 0, .int .u64 0] 81) = W0 at *
  have A0 : ARow W0 w.heap.size 81 a := by rw [hae]; exact l1
  have B0 : ARow W0 (w.heap.size + 1) 81 b := by rw [hbe]; exact l2
  have T0 : ARow W0 (w.heap.size + 1 + 1 + 1) 81 [0, 0, 0, 0, 0, 0] := l4
  have hW0 : w.heap.size + 4 ≤ W0.heap.size := by omega
  have Ha := Lib.hid ha
  have Hb := Lib.hid hb
  have Hae := Lib.hid hae
  have Hbe := Lib.hid hbe
  have HF := Lib.hid hF
  clear l1 l2 l4 hz ha hb hae hbe hva hvb hF
  go_loopw [8, 16] (fun cv iv wr => ∃ (k cr : Nat) (o : List Nat), iv = .int .i64 (k : Int) ∧ cv = .int .u64 (cr : Int) ∧ k ≤ n ∧ cr ≤ 1 ∧ SubAt 18446744073709551616 a b o k cr ∧ Hid (o.length = 6) ∧ Hid (∀ x ∈ o, x < 18446744073709551616) ∧ Hid (∀ p, k ≤ p → dg o p = 0) ∧ ARow wr (w.heap.size + 1 + 1 + 1) 81 o ∧ Below (w.heap.size + 1 + 1 + 1) W0 wr) (fun _ iv _ => n - (intOf iv).toNat)
  case atStart => exact ⟨0, 0, _, rfl, rfl, by omega, by omega, SubAt.zero _ _ _ _, Lib.hid rfl, Lib.hid (by simp), Lib.hid (fun p _ => by match p with | 0 | 1 | 2 | 3 | 4 | 5 => rfl | p + 6 => rfl), T0, Below.refl _ _⟩
  case round =>
    obtain ⟨k, cr, o, rfl, rfl, hk, hcr, hA, Ho, Hlo, Hz, hblk, hB⟩ := hrel
    have hBw : Below w.heap.size w wr := hB0.trans (hB.mono (by omega))
    have hFr := HF.out.below hBw hg
    have c0 := hFr.fld.n0
    have hAr := A0.below hB (by omega)
    have hBr := B0.below hB (by omega)
    by_cases hlt : k < n
    · have q1 := hAr.cell (i := k) (by rw [Ha.out.six]; omega)
      have q2 := hBr.cell (i := k) (by rw [Hb.out.six]; omega)
      have dt : dg a k < 18446744073709551616 := getD_lt (by omega) Ha.out.lim k
      have dm : dg b k < 18446744073709551616 := getD_lt (by omega) Hb.out.lim k
      obtain ⟨s, cr', hs, hcr', he⟩ := borrow_of (dg a k) (dg b k) cr dt dm hcr
      have hok : k < o.length := by have := Ho.out; omega
      have q3 := hblk.cell hok
      have q4 := hblk.free k
      have hA' := hA.step hok he
      have hblk' := hblk.set k s
      have hB' := hB.setCell (p := ⟨w.heap.size + 1 + 1 + 1, k, none⟩) (Nat.le_refl _) (.int .u64 (s : Int))
      have Ho' : Hid ((o.set k s).length = 6) := Lib.hid (by rw [List.length_set]; exact Ho.out)
      have Hlo' : Hid (∀ x ∈ o.set k s, x < 18446744073709551616) := Lib.hid (set_lt Hlo.out hs)
      have Hz' : Hid (∀ p, k + 1 ≤ p → dg (o.set k s) p = 0) := Lib.hid fun p hp => by rw [getD_set_ne (by omega)]; exact Hz.out p (by omega)
      have hsub := fun w => sub64_at (dg a k) (dg b k) cr s cr' hcr dt dm hs he hcr' w
      have ki6 : (k : Int) < 6 := by omega
      clear he hA hblk hB hok hBw hFr hAr hBr
      go_wp2_with fail
      have hfar : ∀ q : Addr, q.block < w.heap.size + 1 + 1 + 1 → (wr.setCell ⟨w.heap.size + 1 + 1 + 1, k, none⟩ (.int .u64 (s : Int))).drew.cell? q = wr.cell? q := fun q hq => World.cell?_of_block (Below.heap_setCell _ _ _ _ (by show q.block ≠ w.heap.size + 1 + 1 + 1; omega))
      have f1 := (hfar ⟨w.heap.size, k, none⟩ (by show w.heap.size < _; omega)).trans q1
      have f2 := (hfar ⟨w.heap.size + 1, k, none⟩ (by show w.heap.size + 1 < _; omega)).trans q2
      clear hfar
      go_region_held3 (fun w' => w'.cell? ⟨w.heap.size, k, none⟩ = some (.int .u64 (dg a k : Int)) ∧ w'.cell? ⟨w.heap.size + 1, k, none⟩ = some (.int .u64 (dg b k : Int))) (first | exact ⟨q1, q2⟩ | exact ⟨f1, f2⟩ | go_keep) (fail)
      go_wp2
      go_roundw
      case rel => exact ⟨k + 1, cr', o.set k s, by go_num, rfl, by omega, hcr', hA', Ho', Hlo', Hz', hblk', hB'.drew⟩
      case measure => simp [intOf]; omega
    · obtain rfl : k = n := by omega
      have hdif : val 18446744073709551616 o + val 18446744073709551616 b = val 18446744073709551616 a + 18446744073709551616 ^ k * cr := by
        have h1 : val 18446744073709551616 (o.take k) + val 18446744073709551616 (b.take k) = val 18446744073709551616 (a.take k) + 18446744073709551616 ^ k * cr := hA
        rw [ta, tb, val_take_zeros Hz.out] at h1
        exact h1
      have hvo : val 18446744073709551616 o < 18446744073709551616 ^ k := by rw [← val_take_zeros Hz.out]; exact val_take_lt Hlo.out k
      have hroom := hFr.room
      have hal := Ha.out.lt
      have hbl := Hb.out.lt
      have hrb := (hB.block (w.heap.size + 1 + 1) (by omega)).trans l3
      rcases Nat.eq_zero_or_pos cr with h0c | h0c
      · subst h0c
        have hv2 : val 18446744073709551616 o = subM (val 18446744073709551616 a) (val 18446744073709551616 b) M := by
          rw [Nat.mul_zero, Nat.add_zero] at hdif
          rw [subM, if_pos (by omega)]
          omega
        obtain ⟨x0, x1, x2, x3, x4, x5, hoe⟩ := six Ho.out
        have hcb : wr.heap[w.heap.size + 1 + 1 + 1]? = some (.cells #[.int .u64 (x0 : Int), .int .u64 (x1 : Int), .int .u64 (x2 : Int), .int .u64 (x3 : Int), .int .u64 (x4 : Int), .int .u64 (x5 : Int)] 81 (0, 0)) := by
          rw [hoe] at hblk; exact hblk
        obtain ⟨e0, e1, e2, e3, e4, e5⟩ := cells6 hcb
        obtain ⟨r0, r1, r2, r3, r4, r5⟩ := cells6 hrb
        have z := fun i => blk_free hrb i
        have z0 := z 0
        have z1 := z 1
        have z2 := z 2
        have z3 := z 3
        have z4 := z 4
        have z5 := z 5
        have hrb' := hrb
        have Hv2 := Lib.hid hv2
        have Hoe := Lib.hid hoe
        clear hv2 hoe hcb hrb z hdif hvo hroom hal hbl hA hblk hFr hAr hBr hB
        go_wp2_with fail
        refine end6 rfl rfl rfl (six_set hrb' _ _ _ _ _ _) ?_
        exact ⟨o, by rw [Hoe.out]; rfl, ⟨Ho.out, Hlo.out, by rw [Hv2.out]; exact subM_lt Ha.out.lt Hb.out.lt⟩, Hv2.out, six_below hBw (by omega) _ _ _ _ _ _⟩
      · obtain rfl : cr = 1 := by omega
        rw [Nat.mul_one] at hdif
        have Hdif := Lib.hid hdif
        have Hvo := Lib.hid hvo
        have Hroom := Lib.hid hroom
        have hB1 := hB
        have hblk1 := hblk
        have hAs := AddAt.zero 18446744073709551616 o ml o
        have HBw := Lib.hid hBw
        clear hA hdif hvo hroom hal hbl hFr hAr hBr hrb hB hblk hBw
        go_wp2_with fail
        have HT := Lib.hid (⟨Ho.out, Hlo.out, Hz.out⟩ : o.length = 6 ∧ (∀ x ∈ o, x < 18446744073709551616) ∧ ∀ p, k ≤ p → dg o p = 0)
        go_loopw [10, 40] (fun cv iv wx => ∃ (j cr : Nat) (o2 : List Nat), iv = .int .i64 (j : Int) ∧ cv = .int .u64 (cr : Int) ∧ j ≤ k ∧ cr ≤ 1 ∧ AddAt 18446744073709551616 o ml o2 j cr ∧ Hid (∀ p, j ≤ p → dg o2 p = dg o p) ∧ Hid (o2.length = 6) ∧ Hid (∀ x ∈ o2, x < 18446744073709551616) ∧ Hid (∀ p, k ≤ p → dg o2 p = 0) ∧ ARow wx (w.heap.size + 1 + 1 + 1) 81 o2 ∧ Below (w.heap.size + 1 + 1 + 1) W0 wx) (fun _ iv _ => k - (intOf iv).toNat)
        case atStart => exact ⟨0, 0, o, rfl, rfl, by omega, by omega, hAs, Lib.hid fun _ _ => rfl, Ho, Hlo, Hz, hblk1, hB1⟩
        case round =>
          clear hAs hblk1 hB1
          obtain ⟨j, cr, o2, rfl, rfl, hj, hcr2, hA, Hsame, Ho2, Hlo2, Hz2, hblk, hB⟩ := hrel
          have hBw : Below w.heap.size w wr := hB0.trans (hB.mono (by omega))
          have hFr := HF.out.below hBw hg
          have c0 := hFr.fld.n0
          by_cases hlt2 : j < k
          · have q1 := hblk.cell (i := j) (by have := Ho2.out; omega)
            rw [Hsame.out j (Nat.le_refl _)] at q1
            have q2 := hFr.fld.m_ (j := j) (by omega)
            have dt : dg o j < 18446744073709551616 := getD_lt (by omega) HT.out.2.1 j
            have dm : dg ml j < 18446744073709551616 := getD_lt (by omega) hFr.mlt j
            obtain ⟨s, cr', hs, hcr', he⟩ := carry_of (dg o j) (dg ml j) cr dt dm hcr2
            have hok : j < o2.length := by have := Ho2.out; omega
            have q4 := hblk.free j
            have hA' := hA.step hok (by omega)
            have hblk' := hblk.set j s
            have hB' := hB.setCell (p := ⟨w.heap.size + 1 + 1 + 1, j, none⟩) (Nat.le_refl _) (.int .u64 (s : Int))
            have Ho' : Hid ((o2.set j s).length = 6) := Lib.hid (by rw [List.length_set]; exact Ho2.out)
            have Hlo' : Hid (∀ x ∈ o2.set j s, x < 18446744073709551616) := Lib.hid (set_lt Hlo2.out hs)
            have Hz' : Hid (∀ p, k ≤ p → dg (o2.set j s) p = 0) := Lib.hid fun p hp => by rw [getD_set_ne (by omega)]; exact Hz2.out p hp
            have Hs' : Hid (∀ p, j + 1 ≤ p → dg (o2.set j s) p = dg o p) := Lib.hid fun p hp => by rw [getD_set_ne (by omega)]; exact Hsame.out p (by omega)
            have hadd := fun w => add64_at (dg o j) (dg ml j) cr s cr' hcr2 hs (by omega) w
            have ki6 : (j : Int) < 6 := by omega
            clear he hA hblk hB hok hBw hFr
            go_wp2_with fail
            go_region_with (fail)
            all_goals
              go_wp2
              go_roundw
              case rel =>
                refine ⟨_, _, _, _, _, _, _, _, _, _, _, _, _, _, _, _, _, _, _, _, _, _, ?_, rfl⟩
                exact ⟨j + 1, cr', o2.set j s, by go_num, rfl, by omega, hcr', hA', Hs', Ho', Hlo', Hz', hblk', hB'.drew⟩
              case measure => simp [intOf]; omega
          · obtain rfl : j = k := by omega
            have hsum : val 18446744073709551616 o2 + 18446744073709551616 ^ j * cr = val 18446744073709551616 o + M := by
              have h1 : val 18446744073709551616 (o2.take j) + 18446744073709551616 ^ j * cr = val 18446744073709551616 (o.take j) + val 18446744073709551616 (ml.take j) := hA
              rwa [val_take_zeros Hz2.out, val_take_zeros HT.out.2.2, hFr.mtake] at h1
            have hv2 : val 18446744073709551616 o2 = subM (val 18446744073709551616 a) (val 18446744073709551616 b) M := by
              have h1 := Hdif.out
              have h2 := Hroom.out
              have h3 := Ha.out.lt
              have h4 := Hb.out.lt
              have h5 : val 18446744073709551616 o2 < 18446744073709551616 ^ j := by rw [← val_take_zeros Hz2.out]; exact val_take_lt Hlo2.out j
              have h6 := Hvo.out
              generalize 18446744073709551616 ^ j = R at *
              have h7 : cr = 0 ∨ cr = 1 := by omega
              rw [subM, if_neg (by omega)]
              rcases h7 with rfl | rfl
              · rw [Nat.mul_zero] at hsum; omega
              · omega
            have hrb := (hB.block (w.heap.size + 1 + 1) (by omega)).trans l3
            obtain ⟨x0, x1, x2, x3, x4, x5, hoe⟩ := six Ho2.out
            have hcb : wr.heap[w.heap.size + 1 + 1 + 1]? = some (.cells #[.int .u64 (x0 : Int), .int .u64 (x1 : Int), .int .u64 (x2 : Int), .int .u64 (x3 : Int), .int .u64 (x4 : Int), .int .u64 (x5 : Int)] 81 (0, 0)) := by
              rw [hoe] at hblk; exact hblk
            obtain ⟨e0, e1, e2, e3, e4, e5⟩ := cells6 hcb
            obtain ⟨r0, r1, r2, r3, r4, r5⟩ := cells6 hrb
            have z := fun i => blk_free hrb i
            have z0 := z 0
            have z1 := z 1
            have z2 := z 2
            have z3 := z 3
            have z4 := z 4
            have z5 := z 5
            have hrb' := hrb
            have Hv2 := Lib.hid hv2
            have Hoe := Lib.hid hoe
            clear hv2 hoe hcb hrb z hsum hA hblk hFr hB
            go_wp2_with fail
            refine end6 rfl rfl rfl (six_set hrb' _ _ _ _ _ _) ?_
            exact ⟨o2, by rw [Hoe.out]; rfl, ⟨Ho2.out, Hlo2.out, by rw [Hv2.out]; exact subM_lt Ha.out.lt Hb.out.lt⟩, Hv2.out, six_below hBw (by omega) _ _ _ _ _ _⟩
end Go.Proofs.Ytldhmjfjbalakaa
