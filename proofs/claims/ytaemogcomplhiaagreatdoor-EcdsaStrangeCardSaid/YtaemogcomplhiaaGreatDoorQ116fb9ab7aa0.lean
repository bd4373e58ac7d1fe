/- zfield: a field's record; below takes the prime off, if there is too much. zfield: Add. zfield: Sub. zfield's Mul: plain law of one round. zfield: Mul, Montgomery's product. zfield: elements in Montgomery's form, plain laws. zfield: To. Newton's inverse of a limb: plain law. Plain arithmetic of bits and bytes of numbers: nothing of the program. What limb.Bits, Bit and Bytes compute. Slices of one limb; slices in whatever block. -/
import Derived.Test.YtaemogcomplhiaaGreatDoorQdcfbea39731b
import Derived.StillTailTactics
import Derived.Deep.RegionHeld3
import Derived.RegionTactic
import Derived.Deep.RegionWith
import Derived.BigQuiet
import Derived.Deep.DeepCutAuto
import Derived.Lib.BitFns
import Derived.Lib.ItoaNum
namespace Go.Proofs.YtaemogcomplhiaaGreatDoor
open Go.RowKit

def fcells (n inv : Nat) (ml ol rl : List Nat) : List Value := .int .i64 (n : Int) :: (nts ml ++ .int .u64 (inv : Int) :: (nts ol ++ nts rl))
structure Fld (w : World) (g n inv : Nat) (ml ol rl : List Nat) : Prop where
 blk : w.heap[g]? = some (.cells (fcells n inv ml ol rl).toArray 165 (0, 0))
 m6 : ml.length = 6
 o6 : ol.length = 6
 r6 : rl.length = 6
variable {w w' : World} {g n inv : Nat} {ml ol rl : List Nat}
theorem Fld.below {B : Nat} (h : Fld w g n inv ml ol rl) (hb : Below B w w') (hg : g < B) : Fld w' g n inv ml ol rl := ⟨(hb.block g hg).trans h.blk, h.m6, h.o6, h.r6⟩
theorem Fld.lt (h : Fld w g n inv ml ol rl) : g < w.heap.size := blk_lt h.blk
theorem Fld.n0 (h : Fld w g n inv ml ol rl) : w.cell? ⟨g, 0, none⟩ = some (.int .i64 (n : Int)) := by
 rw [blk_cell h.blk 0]; rfl
theorem Fld.inv_ (h : Fld w g n inv ml ol rl) : w.cell? ⟨g, 7, none⟩ = some (.int .u64 (inv : Int)) := by
 rw [blk_cell h.blk 7]
 obtain ⟨a, b, c, d, e, f, rfl⟩ := six h.m6
 rfl
theorem Fld.m_ (h : Fld w g n inv ml ol rl) {j : Nat} (hj : j < 6) : w.cell? ⟨g, 1 + j, none⟩ = some (.int .u64 (dg ml j : Int)) := by
 rw [blk_cell h.blk (1 + j)]
 obtain ⟨a, b, c, d, e, f, rfl⟩ := six h.m6
 match j, hj with
 | 0, _ | 1, _ | 2, _ | 3, _ | 4, _ | 5, _ => rfl
def ARow (w : World) (g : Nat) (ty : TypeId) (l : List Nat) : Prop := w.heap[g]? = some (.cells (nts l).toArray ty (0, 0))
theorem ARow.cell {ty : TypeId} {l : List Nat} (h : ARow w g ty l) {i : Nat} (hi : i < l.length) : w.cell? ⟨g, i, none⟩ = some (.int .u64 (dg l i : Int)) := by
 rw [blk_cell h i, List.getElem?_toArray, nts_get hi]
theorem ARow.free {ty : TypeId} {l : List Nat} (h : ARow w g ty l) (i : Nat) : w.frozen? ⟨g, i, none⟩ = false := blk_free h i
theorem ARow.set {ty : TypeId} {l : List Nat} (h : ARow w g ty l) (i x : Nat) : ARow (w.setCell ⟨g, i, none⟩ (.int .u64 (x : Int))) g ty (l.set i x) := by
 have := blk_set h i (.int .u64 (x : Int))
 rw [ARow, this]
 simp [nts, List.map_set]
theorem ARow.below {ty : TypeId} {l : List Nat} {B : Nat} (h : ARow w g ty l) (hb : Below B w w') (hg : g < B) : ARow w' g ty l := (hb.block g hg).trans h
theorem ARow.lt {ty : TypeId} {l : List Nat} (h : ARow w g ty l) : g < w.heap.size := blk_lt h

theorem cells6 {w : World} {g : Nat} {ty : TypeId} {a b c d e f : Value} (h : w.heap[g]? = some (.cells #[a, b, c, d, e, f] ty (0, 0))) :
 w.cell? ⟨g, 0, none⟩ = some a ∧ w.cell? ⟨g, 1, none⟩ = some b ∧ w.cell? ⟨g, 2, none⟩ = some c ∧ w.cell? ⟨g, 3, none⟩ = some d ∧ w.cell? ⟨g, 4, none⟩ = some e ∧ w.cell? ⟨g, 5, none⟩ = some f :=
 ⟨blk_cell h 0, blk_cell h 1, blk_cell h 2, blk_cell h 3, blk_cell h 4, blk_cell h 5⟩
theorem six_set {w : World} {g : Nat} {ty : TypeId} {x0 x1 x2 x3 x4 x5 : Value} (h : w.heap[g]? = some (.cells #[x0, x1, x2, x3, x4, x5] ty (0, 0))) (a b c d e f : Value) :
 ((((((w.setCell ⟨g, 0, none⟩ a).setCell ⟨g, 1, none⟩ b).setCell ⟨g, 2, none⟩ c).setCell ⟨g, 3, none⟩ d).setCell ⟨g, 4, none⟩ e).setCell ⟨g, 5, none⟩ f).heap[g]? = some (.cells #[a, b, c, d, e, f] ty (0, 0)) := by
 have h1 := blk_set (blk_set (blk_set (blk_set (blk_set (blk_set h 0 a) 1 b) 2 c) 3 d) 4 e) 5 f
 rw [h1]
 rfl
theorem six_below {B g : Nat} {w0 w : World} (h : Below B w0 w) (hg : B ≤ g) (a b c d e f : Value) : Below B w0 ((((((w.setCell ⟨g, 0, none⟩ a).setCell ⟨g, 1, none⟩ b).setCell ⟨g, 2, none⟩ c).setCell ⟨g, 3, none⟩ d).setCell ⟨g, 4, none⟩ e).setCell ⟨g, 5, none⟩ f) :=
 (((((h.setCell (p := ⟨g, 0, none⟩) hg a).setCell (p := ⟨g, 1, none⟩) hg b).setCell (p := ⟨g, 2, none⟩) hg c).setCell (p := ⟨g, 3, none⟩) hg d).setCell (p := ⟨g, 4, none⟩) hg e).setCell (p := ⟨g, 5, none⟩) hg f
theorem end6 {fn : Func} {R : Ending → World → Prop} {a : Act} {W : World} {p : Tmp} {g : Nat} {ty : TypeId} {fr : Nat × Nat} {x0 x1 x2 x3 x4 x5 : Value} (hr : fn.results = #[.cell p 109]) (hp : a.tmps.getD p undef = .pointer (some ⟨g, 0, none⟩)) (hd : a.defers = [])
 (hg : W.heap[g]? = some (.cells #[x0, x1, x2, x3, x4, x5] ty fr)) (hR : R (.returned (.agg #[x0, x1, x2, x3, x4, x5])) W) : bodyPost Tryz.prog fn R .ret a W :=
 bodyPost_ret (results_cell_row hr a.tmps W g _ _ _ (.array 6 65) hp hg Tryz.underlying109 rfl (by kernel_rfl)) hd hR
theorem copy_arow (w : World) (g gt n c c' : Nat) (ty ty' : TypeId) (u src : List Nat) (hu : ARow w g ty u) (hs : ARow w gt ty' src) (hn : n ≤ src.length) (hn' : n ≤ u.length) (_hpos : 0 < n) :
 (Builtin.copy_ #[23, 23] 3 #[.slice (some ⟨g, 0, none⟩) n c, .slice (some ⟨gt, 0, none⟩) n c']).run Tryz.prog w = .ok (goInt n) (w.setRow g (nts (src.take n ++ u.drop n)).toArray) := by
 have hl : (nts (src.take n)).length = n := by rw [nts_length, List.length_take]; omega
 have h := run_copy_row (P := Tryz.prog) w 23 23 3 65 g 0 n c ⟨gt, 0, none⟩ n c' (nts u).toArray ty (nts (src.take n)) Tryz.underlying23 info64size hu
  (by rw [hl]; simp) (fun j v hj => by
   have hj' : j < n := by have := (List.getElem?_eq_some_iff.1 hj).1; omega
   rw [add_blk, blk_cell hs j, List.getElem?_toArray]
   rw [nts, List.getElem?_map, List.getElem?_take, if_pos hj'] at hj
   rw [nts, List.getElem?_map]
   exact hj) (by rw [hl]; simp [nts]; omega) (oneCell_nts _)
 rw [hl] at h
 rw [h]
 simp [nts, List.map_drop]
theorem val_take_lt {B : Nat} {l : List Nat} (h : ∀ x ∈ l, x < B) (k : Nat) (hB : 0 < B := by omega) : val B (l.take k) < B ^ k := by
 have h1 := val_lt (B := B) (l := l.take k) fun x hx => h x (List.mem_of_mem_take hx)
 exact Nat.lt_of_lt_of_le h1 (Nat.pow_le_pow_right hB (by rw [List.length_take]; omega))
theorem val_take_zeros {B k : Nat} {l : List Nat} (h : ∀ p, k ≤ p → dg l p = 0) : val B (l.take k) = val B l := by
 rcases Nat.lt_or_ge k l.length with h1 | h1
 · rw [val_take_drop B l (n := k) (by omega), val_zeros (l := l.drop k) ?_, Nat.mul_zero, Nat.add_zero]
   intro x hx
   obtain ⟨j, hj, rfl⟩ := List.mem_iff_getElem.1 hx
   have h2 := h (k + j) (by omega)
   rw [List.length_drop] at hj
   rw [List.getElem_drop]
   rwa [dg, getD_eq' (by omega)] at h2
 · rw [List.take_of_length_le h1]

set_option maxRecDepth 100000 in
set_option maxHeartbeats 2000000 in
theorem zbelow_any (gt over : Nat) (t : List Nat) (w : World) (hF : Fld w g n inv ml ol rl) (hml : ∀ x ∈ ml, x < 18446744073709551616) (hT : ARow w gt 175 t) (_hgt : gt ≠ g) (ht8 : t.length = 8) (ht : ∀ x ∈ t, x < 18446744073709551616) (hn : n ≤ 6) (hn1 : 0 < n)
 (hmv : val 18446744073709551616 (ml.take n) = val 18446744073709551616 ml) (ho : over < 18446744073709551616) (hv : val 18446744073709551616 (t.take n) + 18446744073709551616 ^ n * over < 2 * val 18446744073709551616 ml) :
 Calls Tryz.prog 130 #[.pointer (some ⟨g, 0, none⟩), .pointer (some ⟨gt, 0, none⟩), .int .u64 (over : Int)] w fun e w' => ∃ o, e = .returned (EV o) ∧ o.length = 6 ∧ (∀ x ∈ o, x < 18446744073709551616) ∧
  val 18446744073709551616 o = offM (val 18446744073709551616 (t.take n) + 18446744073709551616 ^ n * over) (val 18446744073709551616 ml) ∧ Below w.heap.size w w' := by
 have h0 := hF.n0
 have hg := hF.lt
 have hgtl := hT.lt
 have hB0 : Below w.heap.size w ((w.alloc (.cells #[.int .u64 0, .int .u64 0, .int .u64 0, .int .u64 0, .int .u64 0, .int .u64 0] 109)).alloc (.cells #[.int .u64 0, .int .u64 0, .int .u64 0, .int .u64 0, .int .u64 0, .int .u64 0] 109)) := ((Below.refl _ w).alloc (Nat.le_refl _) _).alloc (by simp) _
 have hr0 : ARow ((w.alloc (.cells #[.int .u64 0, .int .u64 0, .int .u64 0, .int .u64 0, .int .u64 0, .int .u64 0] 109)).alloc (.cells #[.int .u64 0, .int .u64 0, .int .u64 0, .int .u64 0, .int .u64 0, .int .u64 0] 109)) (w.heap.size + 1) 109 [0, 0, 0, 0, 0, 0] := by
  have := heap_alloc_new (w.alloc (.cells #[.int .u64 0, .int .u64 0, .int .u64 0, .int .u64 0, .int .u64 0, .int .u64 0] 109)) (.cells #[.int .u64 0, .int .u64 0, .int .u64 0, .int .u64 0, .int .u64 0, .int .u64 0] 109)
  rw [World.size_alloc] at this
  exact this
 have hres : ((w.alloc (.cells #[.int .u64 0, .int .u64 0, .int .u64 0, .int .u64 0, .int .u64 0, .int .u64 0] 109)).alloc (.cells #[.int .u64 0, .int .u64 0, .int .u64 0, .int .u64 0, .int .u64 0, .int .u64 0] 109)).heap[w.heap.size]? = some (.cells #[.int .u64 0, .int .u64 0, .int .u64 0, .int .u64 0, .int .u64 0, .int .u64 0] 109 (0, 0)) := (Below.heap_alloc _ _ _ (by simp)).trans (heap_alloc_new w _)
 go_enter Tryz.func130, Tryz.ntmps130
 go_wp2_with fail
 generalize (w.alloc (.cells #[.int .u64 0, .int .u64 0, .int .u64 0, .int .u64 0, .int .u64 0, .int .u64 0] 109)).alloc (.cells #[.int .u64 0, .int .u64 0, .int .u64 0, .int .u64 0, .int .u64 0, .int .u64 0] 109) = W0 at *
 have hW0 : w.heap.size + 2 ≤ W0.heap.size := by have := hr0.lt; omega
 have Hv := Lib.hid hv
 have Hmv := Lib.hid hmv
 have Hml := Lib.hid hml
 have Ht := Lib.hid ht
 have Ht8 := Lib.hid ht8
 have hm6 := Lib.hid hF.m6
 clear hv hmv hml ht ht8
 go_loopw [8, 14] (fun cv iv wr => ∃ (k cr : Nat) (o : List Nat), iv = .int .i64 (k : Int) ∧ cv = .int .u64 (cr : Int) ∧ k ≤ n ∧ cr ≤ 1 ∧ SubAt 18446744073709551616 t ml o k cr ∧ Hid (o.length = 6) ∧ Hid (∀ x ∈ o, x < 18446744073709551616) ∧ Hid (∀ p, k ≤ p → dg o p = 0) ∧ ARow wr (w.heap.size + 1) 109 o ∧ Below (w.heap.size + 1) W0 wr) (fun _ iv _ => n - (intOf iv).toNat)
 case atStart => exact ⟨0, 0, _, rfl, rfl, by omega, by omega, SubAt.zero _ _ _ _, Lib.hid rfl, Lib.hid (by simp), Lib.hid (fun p _ => by match p with | 0 | 1 | 2 | 3 | 4 | 5 => rfl | p + 6 => rfl), hr0, Below.refl _ _⟩
 case round =>
  obtain ⟨k, cr, o, rfl, rfl, hk, hcr, hA, Ho, Hlo, Hz, hblk, hB⟩ := hrel
  have hBw : Below w.heap.size w wr := hB0.trans (hB.mono (by omega))
  have hFr := hF.below hBw hg
  have hTr := hT.below hBw hgtl
  have c0 := hFr.n0
  by_cases hlt : k < n
  · have q1 := hTr.cell (i := k) (by have := Ht8.out; omega)
    have q2 := hFr.m_ (j := k) (by omega)
    have dt : dg t k < 18446744073709551616 := getD_lt (by omega) Ht.out k
    have dm : dg ml k < 18446744073709551616 := getD_lt (by omega) Hml.out k
    obtain ⟨s, cr', hs, hcr', he⟩ := borrow_of (dg t k) (dg ml k) cr dt dm hcr
    have hok : k < o.length := by have := Ho.out; omega
    have q3 := hblk.cell hok
    have q4 := hblk.free k
    have hA' := hA.step hok he
    have hblk' := hblk.set k s
    have hB' := hB.setCell (p := ⟨w.heap.size + 1, k, none⟩) (Nat.le_refl _) (.int .u64 (s : Int))
    have Ho' : Hid ((o.set k s).length = 6) := Lib.hid (by rw [List.length_set]; exact Ho.out)
    have Hlo' : Hid (∀ x ∈ o.set k s, x < 18446744073709551616) := Lib.hid (set_lt Hlo.out hs)
    have Hz' : Hid (∀ p, k + 1 ≤ p → dg (o.set k s) p = 0) := Lib.hid fun p hp => by rw [getD_set_ne (by omega)]; exact Hz.out p (by omega)
    have hsub := fun w => sub64_at (dg t k) (dg ml k) cr s cr' hcr dt dm hs he hcr' w
    have ki : (k : Int) < 8 := by omega
    have ki6 : (k : Int) < 6 := by omega
    clear he hA hblk hB hok hBw hFr hTr
    go_wp2_with fail
    have hfar : ∀ q : Addr, q.block < w.heap.size → (wr.setCell ⟨w.heap.size + 1, k, none⟩ (.int .u64 (s : Int))).drew.cell? q = wr.cell? q := fun q hq => World.cell?_of_block (Below.heap_setCell _ _ _ _ (by show q.block ≠ w.heap.size + 1; omega))
    have f1 := (hfar ⟨gt, k, none⟩ hgtl).trans q1
    have f2 := (hfar ⟨g, 1 + k, none⟩ hg).trans q2
    clear hfar
    go_region_held3 (fun w' => w'.cell? ⟨gt, k, none⟩ = some (.int .u64 (dg t k : Int)) ∧ w'.cell? ⟨g, 1 + k, none⟩ = some (.int .u64 (dg ml k : Int))) (first | exact ⟨q1, q2⟩ | exact ⟨f1, f2⟩ | go_keep) (fail)
    go_wp2
    go_roundw
    case rel => exact ⟨k + 1, cr', o.set k s, by go_num, rfl, by omega, hcr', hA', Ho', Hlo', Hz', hblk', hB'.drew⟩
    case measure => simp [intOf]; omega
  · obtain rfl : k = n := by omega
    have hfin : val 18446744073709551616 o + val 18446744073709551616 ml = val 18446744073709551616 (t.take k) + 18446744073709551616 ^ k * cr := by
     have h1 : val 18446744073709551616 (o.take k) + val 18446744073709551616 (ml.take k) = val 18446744073709551616 (t.take k) + 18446744073709551616 ^ k * cr := hA
     rw [Hmv.out] at h1
     have h2 : val 18446744073709551616 (o.take k) = val 18446744073709551616 o := val_take_zeros Hz.out
     omega
    have hvo : val 18446744073709551616 o < 18446744073709551616 ^ k := by
     rw [← val_take_zeros Hz.out]
     exact val_take_lt Hlo.out k
    have hvm : val 18446744073709551616 ml < 18446744073709551616 ^ k := by rw [← Hmv.out]; exact val_take_lt Hml.out k
    have hvt := val_take_lt Ht.out k
    have hv := Hv.out
    by_cases hcase : over < cr
    · obtain rfl : cr = 1 := by omega
      obtain rfl : over = 0 := by omega
      rw [Nat.mul_zero, Nat.add_zero] at hv
      have hoff : offM (val 18446744073709551616 (t.take k) + 18446744073709551616 ^ k * 0) (val 18446744073709551616 ml) = val 18446744073709551616 (t.take k) := by rw [Nat.mul_zero, Nat.add_zero, offM, if_pos (by omega)]
      have hcp := copy_arow wr.drew (w.heap.size + 1) gt k 6 8 109 175 o t hblk hTr (by have := Ht8.out; omega) (by have := Ho.out; omega) hn1
      have hvv : val 18446744073709551616 (t.take k ++ o.drop k) = val 18446744073709551616 (t.take k) := by
       rw [val_append, val_zeros (l := o.drop k) ?_, Nat.mul_zero, Nat.add_zero]
       intro x hx
       obtain ⟨j, hj, rfl⟩ := List.mem_iff_getElem.1 hx
       have h2 := Hz.out (k + j) (by omega)
       rw [List.length_drop] at hj
       rw [List.getElem_drop]
       rwa [dg, getD_eq' (by omega)] at h2
      have hlen : (t.take k ++ o.drop k).length = 6 := by rw [List.length_append, List.length_take, List.length_drop, Ho.out, Ht8.out]; omega
      have hlim : ∀ x ∈ t.take k ++ o.drop k, x < 18446744073709551616 := fun x hx => by
       rcases List.mem_append.1 hx with h | h
       · exact Ht.out x (List.mem_of_mem_take h)
       · exact Hlo.out x (List.mem_of_mem_drop h)
      generalize t.take k ++ o.drop k = o2 at *
      have hb2 : ARow (wr.drew.setRow (w.heap.size + 1) (nts o2).toArray) (w.heap.size + 1) 109 o2 := setRow_heap wr.drew _ _ _ _ _ hblk
      have hB2 := setRow_below hB.drew (Nat.le_refl (w.heap.size + 1)) (nts o2).toArray
      obtain ⟨a, b, c, d, e, f, hoe⟩ := six hlen
      have hcb : ((wr.drew.setRow (w.heap.size + 1) (nts o2).toArray).heap[w.heap.size + 1]? = some (.cells #[.int .u64 (a : Int), .int .u64 (b : Int), .int .u64 (c : Int), .int .u64 (d : Int), .int .u64 (e : Int), .int .u64 (f : Int)] 109 (0, 0))) := by
       have h := hb2
       rw [ARow] at h
       rw [h, hoe]
       rfl
      have hrb : (wr.drew.setRow (w.heap.size + 1) (nts o2).toArray).heap[w.heap.size]? = some (.cells #[.int .u64 0, .int .u64 0, .int .u64 0, .int .u64 0, .int .u64 0, .int .u64 0] 109 (0, 0)) := (hB2.block w.heap.size (by omega)).trans hres
      obtain ⟨e0, e1, e2, e3, e4, e5⟩ := cells6 hcb
      obtain ⟨r0, r1, r2, r3, r4, r5⟩ := cells6 hrb
      have z := fun i => blk_free hrb i
      have z0 := z 0
      have z1 := z 1
      have z2 := z 2
      have z3 := z 3
      have z4 := z 4
      have z5 := z 5
      have hrb' := hrb
      have hBf : Below w.heap.size w (wr.drew.setRow (w.heap.size + 1) (nts o2).toArray) := hB0.trans (hB2.mono (by omega))
      have Hoff := Lib.hid (hvv.trans hoff.symm)
      have Hoe := Lib.hid hoe
      have Hlen := Lib.hid hlen
      have Hlim := Lib.hid hlim
      have k6 : (k : Int) ≤ 6 := by omega
      have k8 : (k : Int) ≤ 8 := by omega
      clear hvo hv hfin hvm hvt hoff hA hblk hFr hTr z hcb hrb hvv hoe hlen hlim hb2 hB2
      go_wp2_with fail
      go_region
      generalize wr.drew.setRow (w.heap.size + 1) (nts o2).toArray = W9 at *
      go_wp2_with fail
      refine end6 rfl rfl rfl (six_set hrb' _ _ _ _ _ _) ?_
      exact ⟨o2, by rw [Hoe.out]; rfl, Hlen.out, Hlim.out, Hoff.out, six_below hBf (Nat.le_refl _) _ _ _ _ _ _⟩
    · have hoff : val 18446744073709551616 o = offM (val 18446744073709551616 (t.take k) + 18446744073709551616 ^ k * over) (val 18446744073709551616 ml) := by
       have hcr' : cr = 0 ∨ cr = 1 := by omega
       generalize 18446744073709551616 ^ k = R at *
       rcases Nat.eq_zero_or_pos over with rfl | hpo
       · obtain rfl : cr = 0 := by omega
         rw [Nat.mul_zero, Nat.add_zero] at hfin hv ⊢
         rw [offM, if_neg (by omega)]
         omega
       · have h1 : R * 1 ≤ R * over := Nat.mul_le_mul_left _ hpo
         have h2 : over = 1 := by
          rcases Nat.lt_or_ge over 2 with h | h
          · omega
          · have : R * 2 ≤ R * over := Nat.mul_le_mul_left _ h
            omega
         subst h2
         rw [offM, if_neg (by omega)]
         rcases hcr' with rfl | rfl
         · rw [Nat.mul_zero, Nat.add_zero] at hfin
           omega
         · omega
      have Hoff := Lib.hid hoff
      obtain ⟨a, b, c, d, e, f, hoe⟩ := six Ho.out
      have hcb : (wr.heap[w.heap.size + 1]? = some (.cells #[.int .u64 (a : Int), .int .u64 (b : Int), .int .u64 (c : Int), .int .u64 (d : Int), .int .u64 (e : Int), .int .u64 (f : Int)] 109 (0, 0))) := by
       rw [hoe] at hblk; exact hblk
      have hrb : wr.heap[w.heap.size]? = some (.cells #[.int .u64 0, .int .u64 0, .int .u64 0, .int .u64 0, .int .u64 0, .int .u64 0] 109 (0, 0)) := (hB.block w.heap.size (by omega)).trans hres
      obtain ⟨e0, e1, e2, e3, e4, e5⟩ := cells6 hcb
      obtain ⟨r0, r1, r2, r3, r4, r5⟩ := cells6 hrb
      have z := fun i => blk_free hrb i
      have z0 := z 0
      have z1 := z 1
      have z2 := z 2
      have z3 := z 3
      have z4 := z 4
      have z5 := z 5
      have hrb' := hrb
      clear hvo hv hfin hvm hvt hoff hA hblk hFr hTr z hcb hrb
      go_wp2_with fail
      refine end6 rfl rfl rfl (six_set hrb' _ _ _ _ _ _) ?_
      exact ⟨o, by rw [hoe]; rfl, Ho.out, Hlo.out, Hoff.out, six_below hBw (Nat.le_refl _) _ _ _ _ _ _⟩
end Go.Proofs.YtaemogcomplhiaaGreatDoor

namespace Go.Proofs.YtaemogcomplhiaaGreatDoor
open Go.RowKit

structure FF (w : World) (g n inv M : Nat) (ml ol rl : List Nat) : Prop where
 fld : Fld w g n inv ml ol rl
 mlt : ∀ x ∈ ml, x < 18446744073709551616
 mval : val 18446744073709551616 ml = M
 mtake : val 18446744073709551616 (ml.take n) = M
 npos : 0 < n
 nle : n ≤ 6
 big : 1 < M
 invLt : inv < 18446744073709551616
 invV : (inv * M + 1) % 18446744073709551616 = 0
theorem FF.below {w w' : World} {g n inv M B : Nat} {ml ol rl : List Nat} (h : FF w g n inv M ml ol rl) (hb : Below B w w') (hg : g < B) : FF w' g n inv M ml ol rl :=
 ⟨h.fld.below hb hg, h.mlt, h.mval, h.mtake, h.npos, h.nle, h.big, h.invLt, h.invV⟩
theorem FF.room {w : World} {g n inv M : Nat} {ml ol rl : List Nat} (h : FF w g n inv M ml ol rl) : M < 18446744073709551616 ^ n := by rw [← h.mtake]; exact val_take_lt h.mlt n
structure Elt (M : Nat) (l : List Nat) : Prop where
 six : l.length = 6
 lim : ∀ x ∈ l, x < 18446744073709551616
 lt : val 18446744073709551616 l < M
theorem Elt.take {w : World} {g n inv M : Nat} {ml ol rl l : List Nat} (h : FF w g n inv M ml ol rl) (he : Elt M l) : val 18446744073709551616 (l.take n) = val 18446744073709551616 l := by
 have h1 := val_take_drop 18446744073709551616 l (n := n) (by rw [he.six]; exact h.nle)
 have h2 := h.room
 rcases Nat.eq_zero_or_pos (val 18446744073709551616 (l.drop n)) with h3 | h3
 · rw [h3] at h1; omega
 · have h4 : 18446744073709551616 ^ n * 1 ≤ 18446744073709551616 ^ n * val 18446744073709551616 (l.drop n) := Nat.mul_le_mul_left _ h3
   have h5 := he.lt
   omega
theorem lay4 (w : World) (o1 o2 o3 o4 : Obj) : ((((w.alloc o1).alloc o2).alloc o3).alloc o4).heap[w.heap.size]? = some o1 ∧ ((((w.alloc o1).alloc o2).alloc o3).alloc o4).heap[w.heap.size + 1]? = some o2 ∧ ((((w.alloc o1).alloc o2).alloc o3).alloc o4).heap[w.heap.size + 1 + 1]? = some o3 ∧ ((((w.alloc o1).alloc o2).alloc o3).alloc o4).heap[w.heap.size + 1 + 1 + 1]? = some o4 ∧
 ((((w.alloc o1).alloc o2).alloc o3).alloc o4).heap.size = w.heap.size + 4 ∧ Below w.heap.size w ((((w.alloc o1).alloc o2).alloc o3).alloc o4) := by
 have e1 := heap_alloc_new w o1
 have e2 := heap_alloc_new (w.alloc o1) o2
 have e3 := heap_alloc_new ((w.alloc o1).alloc o2) o3
 have e4 := heap_alloc_new (((w.alloc o1).alloc o2).alloc o3) o4
 simp only [World.size_alloc] at e2 e3 e4
 refine ⟨?_, ?_, ?_, e4, by simp, (((((Below.refl _ w).alloc (Nat.le_refl _) _).alloc (by simp) _).alloc (by simp; omega) _).alloc (by simp; omega) _)⟩
 · exact (Below.heap_alloc _ _ _ (by simp <;> omega)).trans ((Below.heap_alloc _ _ _ (by simp <;> omega)).trans ((Below.heap_alloc _ _ _ (by simp)).trans e1))
 · exact (Below.heap_alloc _ _ _ (by simp <;> omega)).trans ((Below.heap_alloc _ _ _ (by simp)).trans e2)
 · exact (Below.heap_alloc _ _ _ (by simp)).trans e3

set_option maxRecDepth 100000 in
set_option maxHeartbeats 2000000 in
theorem zadd_any {g n inv M : Nat} {ml ol rl : List Nat} (a b : List Nat) (w : World) (hF : FF w g n inv M ml ol rl) (ha : Elt M a) (hb : Elt M b) :
 Calls Tryz.prog 101 #[.pointer (some ⟨g, 0, none⟩), EV a, EV b] w fun e w' => ∃ o, e = .returned (EV o) ∧ Elt M o ∧ val 18446744073709551616 o = offM (val 18446744073709551616 a + val 18446744073709551616 b) M ∧ Below w.heap.size w w' := by
 have hg := hF.fld.lt
 have h0 := hF.fld.n0
 have hn := hF.nle
 have hn1 := hF.npos
 have ta := ha.take hF
 have tb := hb.take hF
 obtain ⟨a0, a1, a2, a3, a4, a5, hae⟩ := six ha.six
 obtain ⟨b0, b1, b2, b3, b4, b5, hbe⟩ := six hb.six
 obtain ⟨l1, l2, l3, l4, hz, hB0⟩ := lay4 w (.cells #[.int .u64 (a0 : Int), .int .u64 (a1 : Int), .int .u64 (a2 : Int), .int .u64 (a3 : Int), .int .u64 (a4 : Int), .int .u64 (a5 : Int)] 109)
  (.cells #[.int .u64 (b0 : Int), .int .u64 (b1 : Int), .int .u64 (b2 : Int), .int .u64 (b3 : Int), .int .u64 (b4 : Int), .int .u64 (b5 : Int)] 109) (.cells #[.int .u64 0, .int .u64 0, .int .u64 0, .int .u64 0, .int .u64 0, .int .u64 0] 109)
  (.cells #[.int .u64 0, .int .u64 0, .int .u64 0, .int .u64 0, .int .u64 0, .int .u64 0, .int .u64 0, .int .u64 0] 175)
 have hva : EV a = .agg #[.int .u64 (a0 : Int), .int .u64 (a1 : Int), .int .u64 (a2 : Int), .int .u64 (a3 : Int), .int .u64 (a4 : Int), .int .u64 (a5 : Int)] := by rw [hae]; rfl
 have hvb : EV b = .agg #[.int .u64 (b0 : Int), .int .u64 (b1 : Int), .int .u64 (b2 : Int), .int .u64 (b3 : Int), .int .u64 (b4 : Int), .int .u64 (b5 : Int)] := by rw [hbe]; rfl
 rw [hva, hvb]
 have h00 := (hB0.cell (p := ⟨g, 0, none⟩) hg).trans h0
 go_enter Tryz.func101, Tryz.ntmps101
 go_wp2_with fail
 generalize (((w.alloc (.cells #[.int .u64 (a0 : Int), .int .u64 (a1 : Int), .int .u64 (a2 : Int), .int .u64 (a3 : Int), .int .u64 (a4 : Int), .int .u64 (a5 : Int)] 109)).alloc
  (.cells #[.int .u64 (b0 : Int), .int .u64 (b1 : Int), .int .u64 (b2 : Int), .int .u64 (b3 : Int), .int .u64 (b4 : Int), .int .u64 (b5 : Int)] 109)).alloc (.cells #[.int .u64 0, .int .u64 0, .int .u64 0, .int .u64 0, .int .u64 0, .int .u64 0] 109)).alloc
  (.cells #[.int .u64 0, .int .u64 0, .int .u64 0, .int .u64 0, .int .u64 0, .int .u64 0, .int .u64 0, .int .u64 0] 175) = W0 at *
 have A0 : ARow W0 w.heap.size 109 a := by rw [hae]; exact l1
 have B0 : ARow W0 (w.heap.size + 1) 109 b := by rw [hbe]; exact l2
 have T0 : ARow W0 (w.heap.size + 1 + 1 + 1) 175 [0, 0, 0, 0, 0, 0, 0, 0] := l4
 have hW0 : w.heap.size + 4 ≤ W0.heap.size := by omega
 have Ha := Lib.hid ha
 have Hb := Lib.hid hb
 have Hae := Lib.hid hae
 have Hbe := Lib.hid hbe
 have HF := Lib.hid hF
 clear l1 l2 l4 hz ha hb hae hbe hva hvb hF
 go_loopw [8, 14] (fun cv iv wr => ∃ (k cr : Nat) (o : List Nat), iv = .int .i64 (k : Int) ∧ cv = .int .u64 (cr : Int) ∧ k ≤ n ∧ cr ≤ 1 ∧ AddAt 18446744073709551616 a b o k cr ∧ Hid (o.length = 8) ∧ Hid (∀ x ∈ o, x < 18446744073709551616) ∧ ARow wr (w.heap.size + 1 + 1 + 1) 175 o ∧ Below (w.heap.size + 1 + 1 + 1) W0 wr) (fun _ iv _ => n - (intOf iv).toNat)
 case atStart => exact ⟨0, 0, _, rfl, rfl, by omega, by omega, AddAt.zero _ _ _ _, Lib.hid rfl, Lib.hid (by simp), T0, Below.refl _ _⟩
 case round =>
  obtain ⟨k, cr, o, rfl, rfl, hk, hcr, hA, Ho, Hlo, hblk, hB⟩ := hrel
  have hBw : Below w.heap.size w wr := hB0.trans (hB.mono (by omega))
  have hFr := HF.out.below hBw hg
  have c0 := hFr.fld.n0
  have hAr := A0.below hB (by omega)
  have hBr := B0.below hB (by omega)
  by_cases hlt : k < n
  · have q1 := hAr.cell (i := k) (by rw [Ha.out.six]; omega)
    have q2 := hBr.cell (i := k) (by rw [Hb.out.six]; omega)
    have dt : dg a k < 18446744073709551616 := getD_lt (by omega) Ha.out.lim k
    have dm : dg b k < 18446744073709551616 := getD_lt (by omega) Hb.out.lim k
    obtain ⟨s, cr', hs, hcr', he⟩ := carry_of (dg a k) (dg b k) cr dt dm hcr
    have hok : k < o.length := by have := Ho.out; omega
    have q3 := hblk.cell hok
    have q4 := hblk.free k
    have hA' := hA.step hok (by omega)
    have hblk' := hblk.set k s
    have hB' := hB.setCell (p := ⟨w.heap.size + 1 + 1 + 1, k, none⟩) (Nat.le_refl _) (.int .u64 (s : Int))
    have Ho' : Hid ((o.set k s).length = 8) := Lib.hid (by rw [List.length_set]; exact Ho.out)
    have Hlo' : Hid (∀ x ∈ o.set k s, x < 18446744073709551616) := Lib.hid (set_lt Hlo.out hs)
    have hadd := fun w => add64_at (dg a k) (dg b k) cr s cr' hcr hs (by omega) w
    have ki : (k : Int) < 8 := by omega
    have ki6 : (k : Int) < 6 := by omega
    clear he hA hblk hB hok hBw hFr hAr hBr
    go_wp2_with fail
    have hfar : ∀ q : Addr, q.block < w.heap.size + 1 + 1 + 1 → (wr.setCell ⟨w.heap.size + 1 + 1 + 1, k, none⟩ (.int .u64 (s : Int))).drew.cell? q = wr.cell? q := fun q hq => World.cell?_of_block (Below.heap_setCell _ _ _ _ (by show q.block ≠ w.heap.size + 1 + 1 + 1; omega))
    have f1 := (hfar ⟨w.heap.size, k, none⟩ (by show w.heap.size < _; omega)).trans q1
    have f2 := (hfar ⟨w.heap.size + 1, k, none⟩ (by show w.heap.size + 1 < _; omega)).trans q2
    clear hfar
    go_region_held3 (fun w' => w'.cell? ⟨w.heap.size, k, none⟩ = some (.int .u64 (dg a k : Int)) ∧ w'.cell? ⟨w.heap.size + 1, k, none⟩ = some (.int .u64 (dg b k : Int))) (first | exact ⟨q1, q2⟩ | exact ⟨f1, f2⟩ | go_keep) (fail)
    go_wp2
    go_roundw
    case rel => exact ⟨k + 1, cr', o.set k s, by go_num, rfl, by omega, hcr', hA', Ho', Hlo', hblk', hB'.drew⟩
    case measure => simp [intOf]; omega
  · obtain rfl : k = n := by omega
    have hsum : val 18446744073709551616 (o.take k) + 18446744073709551616 ^ k * cr = val 18446744073709551616 a + val 18446744073709551616 b := by
     have h1 : val 18446744073709551616 (o.take k) + 18446744073709551616 ^ k * cr = val 18446744073709551616 (a.take k) + val 18446744073709551616 (b.take k) := by have := hA; unfold AddAt at this; omega
     rw [ta, tb] at h1
     exact h1
    have hbel := zbelow_any (w.heap.size + 1 + 1 + 1) cr o wr hFr.fld hFr.mlt hblk (by omega) Ho.out Hlo.out hn hn1 (by rw [hFr.mtake, hFr.mval]) (by omega) (by rw [hsum, hFr.mval]; have := Ha.out.lt; have := Hb.out.lt; omega)
    rw [hsum, hFr.mval] at hbel
    have Hbel := Lib.hid hbel
    clear hbel hA hblk hFr hAr hBr hsum
    go_wp2_with fail
    refine Hbel.out.mono ?_
    rintro e w2 ⟨o2, rfl, ho6, hlim, hv2, hB2⟩
    obtain ⟨x0, x1, x2, x3, x4, x5, hoe⟩ := six ho6
    have hrb := (hB2.block (w.heap.size + 1 + 1) (by have := hB.size; omega)).trans ((hB.block (w.heap.size + 1 + 1) (by omega)).trans l3)
    obtain ⟨r0, r1, r2, r3, r4, r5⟩ := cells6 hrb
    have z := fun i => blk_free hrb i
    have z0 := z 0
    have z1 := z 1
    have z2 := z 2
    have z3 := z 3
    have z4 := z 4
    have z5 := z 5
    have hrb' := hrb
    have hBf : Below w.heap.size w w2 := hBw.trans (hB2.mono hBw.size)
    have Hv2 := Lib.hid hv2
    have Ho6 := Lib.hid ho6
    have Hlim := Lib.hid hlim
    have Hoe := Lib.hid hoe
    have hve : EV o2 = .agg #[.int .u64 (x0 : Int), .int .u64 (x1 : Int), .int .u64 (x2 : Int), .int .u64 (x3 : Int), .int .u64 (x4 : Int), .int .u64 (x5 : Int)] := by rw [hoe]; rfl
    rw [hve]
    clear hve hoe hv2 ho6 hlim z hrb hB2 hB Hbel
    go_wp2_with fail
    refine end6 rfl rfl rfl (six_set hrb' _ _ _ _ _ _) ?_
    exact ⟨o2, by rw [Hoe.out]; rfl, ⟨Ho6.out, Hlim.out, by rw [Hv2.out]; exact offM_lt (by have := Ha.out.lt; have := Hb.out.lt; omega)⟩, Hv2.out, six_below hBf (by omega) _ _ _ _ _ _⟩
end Go.Proofs.YtaemogcomplhiaaGreatDoor

namespace Go.Proofs.YtaemogcomplhiaaGreatDoor
open Go.RowKit

def subM (x y M : Nat) : Nat := if y ≤ x then x - y else x + M - y
theorem subM_lt {x y M : Nat} (hx : x < M) (hy : y < M) : subM x y M < M := by unfold subM; split <;> omega
theorem subM_mod {x y M : Nat} (hx : x < M) (hy : y < M) : subM x y M = (x + M - y) % M := by
 unfold subM
 split
 · rw [show x + M - y = x - y + M by omega, Nat.add_mod_right, Nat.mod_eq_of_lt (by omega)]
 · rw [Nat.mod_eq_of_lt (by omega)]
set_option maxRecDepth 100000 in
set_option maxHeartbeats 2000000 in
theorem zsub_any {g n inv M : Nat} {ml ol rl : List Nat} (a b : List Nat) (w : World) (hF : FF w g n inv M ml ol rl) (ha : Elt M a) (hb : Elt M b) :
 Calls Tryz.prog 103 #[.pointer (some ⟨g, 0, none⟩), EV a, EV b] w fun e w' => ∃ o, e = .returned (EV o) ∧ Elt M o ∧ val 18446744073709551616 o = subM (val 18446744073709551616 a) (val 18446744073709551616 b) M ∧ Below w.heap.size w w' := by
 have hg := hF.fld.lt
 have h0 := hF.fld.n0
 have hn := hF.nle
 have hn1 := hF.npos
 have ta := ha.take hF
 have tb := hb.take hF
 obtain ⟨a0, a1, a2, a3, a4, a5, hae⟩ := six ha.six
 obtain ⟨b0, b1, b2, b3, b4, b5, hbe⟩ := six hb.six
 obtain ⟨l1, l2, l3, l4, hz, hB0⟩ := lay4 w (.cells #[.int .u64 (a0 : Int), .int .u64 (a1 : Int), .int .u64 (a2 : Int), .int .u64 (a3 : Int), .int .u64 (a4 : Int), .int .u64 (a5 : Int)] 109)
  (.cells #[.int .u64 (b0 : Int), .int .u64 (b1 : Int), .int .u64 (b2 : Int), .int .u64 (b3 : Int), .int .u64 (b4 : Int), .int .u64 (b5 : Int)] 109) (.cells #[.int .u64 0, .int .u64 0, .int .u64 0, .int .u64 0, .int .u64 0, .int .u64 0] 109)
  (.cells #[.int .u64 0, .int .u64 0, .int .u64 0, .int .u64 0, .int .u64 0, .int .u64 0] 109)
 have hva : EV a = .agg #[.int .u64 (a0 : Int), .int .u64 (a1 : Int), .int .u64 (a2 : Int), .int .u64 (a3 : Int), .int .u64 (a4 : Int), .int .u64 (a5 : Int)] := by rw [hae]; rfl
 have hvb : EV b = .agg #[.int .u64 (b0 : Int), .int .u64 (b1 : Int), .int .u64 (b2 : Int), .int .u64 (b3 : Int), .int .u64 (b4 : Int), .int .u64 (b5 : Int)] := by rw [hbe]; rfl
 rw [hva, hvb]
 have h00 := (hB0.cell (p := ⟨g, 0, none⟩) hg).trans h0
 go_enter Tryz.func103, Tryz.ntmps103
 go_wp2_with fail
 generalize (((w.alloc (.cells #[.int .u64 (a0 : Int), .int .u64 (a1 : Int), .int .u64 (a2 : Int), .int .u64 (a3 : Int), .int .u64 (a4 : Int), .int .u64 (a5 : Int)] 109)).alloc
  (.cells #[.int .u64 (b0 : Int), .int .u64 (b1 : Int), .int .u64 (b2 : Int), .int .u64 (b3 : Int), .int .u64 (b4 : Int), .int .u64 (b5 : Int)] 109)).alloc (.cells #[.int .u64 0, .int .u64 0, .int .u64 0, .int .u64 0, .int .u64 0, .int .u64 0] 109)).alloc
  (.cells #[.int .u64 0, .int .u64 0, .int .u64 0, .int .u64 0, .int .u64 0, .int .u64 0] 109) = W0 at *
 have A0 : ARow W0 w.heap.size 109 a := by rw [hae]; exact l1
 have B0 : ARow W0 (w.heap.size + 1) 109 b := by rw [hbe]; exact l2
 have T0 : ARow W0 (w.heap.size + 1 + 1 + 1) 109 [0, 0, 0, 0, 0, 0] := l4
 have hW0 : w.heap.size + 4 ≤ W0.heap.size := by omega
 have Ha := Lib.hid ha
 have Hb := Lib.hid hb
 have Hae := Lib.hid hae
 have Hbe := Lib.hid hbe
 have HF := Lib.hid hF
 clear l1 l2 l4 hz ha hb hae hbe hva hvb hF
 go_loopw [8, 16] (fun cv iv wr => ∃ (k cr : Nat) (o : List Nat), iv = .int .i64 (k : Int) ∧ cv = .int .u64 (cr : Int) ∧ k ≤ n ∧ cr ≤ 1 ∧ SubAt 18446744073709551616 a b o k cr ∧ Hid (o.length = 6) ∧ Hid (∀ x ∈ o, x < 18446744073709551616) ∧ Hid (∀ p, k ≤ p → dg o p = 0) ∧ ARow wr (w.heap.size + 1 + 1 + 1) 109 o ∧ Below (w.heap.size + 1 + 1 + 1) W0 wr) (fun _ iv _ => n - (intOf iv).toNat)
 case atStart => exact ⟨0, 0, _, rfl, rfl, by omega, by omega, SubAt.zero _ _ _ _, Lib.hid rfl, Lib.hid (by simp), Lib.hid (fun p _ => by match p with | 0 | 1 | 2 | 3 | 4 | 5 => rfl | p + 6 => rfl), T0, Below.refl _ _⟩
 case round =>
  obtain ⟨k, cr, o, rfl, rfl, hk, hcr, hA, Ho, Hlo, Hz, hblk, hB⟩ := hrel
  have hBw : Below w.heap.size w wr := hB0.trans (hB.mono (by omega))
  have hFr := HF.out.below hBw hg
  have c0 := hFr.fld.n0
  have hAr := A0.below hB (by omega)
  have hBr := B0.below hB (by omega)
  by_cases hlt : k < n
  · have q1 := hAr.cell (i := k) (by rw [Ha.out.six]; omega)
    have q2 := hBr.cell (i := k) (by rw [Hb.out.six]; omega)
    have dt : dg a k < 18446744073709551616 := getD_lt (by omega) Ha.out.lim k
    have dm : dg b k < 18446744073709551616 := getD_lt (by omega) Hb.out.lim k
    obtain ⟨s, cr', hs, hcr', he⟩ := borrow_of (dg a k) (dg b k) cr dt dm hcr
    have hok : k < o.length := by have := Ho.out; omega
    have q3 := hblk.cell hok
    have q4 := hblk.free k
    have hA' := hA.step hok he
    have hblk' := hblk.set k s
    have hB' := hB.setCell (p := ⟨w.heap.size + 1 + 1 + 1, k, none⟩) (Nat.le_refl _) (.int .u64 (s : Int))
    have Ho' : Hid ((o.set k s).length = 6) := Lib.hid (by rw [List.length_set]; exact Ho.out)
    have Hlo' : Hid (∀ x ∈ o.set k s, x < 18446744073709551616) := Lib.hid (set_lt Hlo.out hs)
    have Hz' : Hid (∀ p, k + 1 ≤ p → dg (o.set k s) p = 0) := Lib.hid fun p hp => by rw [getD_set_ne (by omega)]; exact Hz.out p (by omega)
    have hsub := fun w => sub64_at (dg a k) (dg b k) cr s cr' hcr dt dm hs he hcr' w
    have ki6 : (k : Int) < 6 := by omega
    clear he hA hblk hB hok hBw hFr hAr hBr
    go_wp2_with fail
    have hfar : ∀ q : Addr, q.block < w.heap.size + 1 + 1 + 1 → (wr.setCell ⟨w.heap.size + 1 + 1 + 1, k, none⟩ (.int .u64 (s : Int))).drew.cell? q = wr.cell? q := fun q hq => World.cell?_of_block (Below.heap_setCell _ _ _ _ (by show q.block ≠ w.heap.size + 1 + 1 + 1; omega))
    have f1 := (hfar ⟨w.heap.size, k, none⟩ (by show w.heap.size < _; omega)).trans q1
    have f2 := (hfar ⟨w.heap.size + 1, k, none⟩ (by show w.heap.size + 1 < _; omega)).trans q2
    clear hfar
    go_region_held3 (fun w' => w'.cell? ⟨w.heap.size, k, none⟩ = some (.int .u64 (dg a k : Int)) ∧ w'.cell? ⟨w.heap.size + 1, k, none⟩ = some (.int .u64 (dg b k : Int))) (first | exact ⟨q1, q2⟩ | exact ⟨f1, f2⟩ | go_keep) (fail)
    go_wp2
    go_roundw
    case rel => exact ⟨k + 1, cr', o.set k s, by go_num, rfl, by omega, hcr', hA', Ho', Hlo', Hz', hblk', hB'.drew⟩
    case measure => simp [intOf]; omega
  · obtain rfl : k = n := by omega
    have hdif : val 18446744073709551616 o + val 18446744073709551616 b = val 18446744073709551616 a + 18446744073709551616 ^ k * cr := by
     have h1 : val 18446744073709551616 (o.take k) + val 18446744073709551616 (b.take k) = val 18446744073709551616 (a.take k) + 18446744073709551616 ^ k * cr := hA
     rw [ta, tb, val_take_zeros Hz.out] at h1
     exact h1
    have hvo : val 18446744073709551616 o < 18446744073709551616 ^ k := by rw [← val_take_zeros Hz.out]; exact val_take_lt Hlo.out k
    have hroom := hFr.room
    have hal := Ha.out.lt
    have hbl := Hb.out.lt
    have hrb := (hB.block (w.heap.size + 1 + 1) (by omega)).trans l3
    rcases Nat.eq_zero_or_pos cr with h0c | h0c
    · subst h0c
      have hv2 : val 18446744073709551616 o = subM (val 18446744073709551616 a) (val 18446744073709551616 b) M := by
       rw [Nat.mul_zero, Nat.add_zero] at hdif
       rw [subM, if_pos (by omega)]
       omega
      obtain ⟨x0, x1, x2, x3, x4, x5, hoe⟩ := six Ho.out
      have hcb : wr.heap[w.heap.size + 1 + 1 + 1]? = some (.cells #[.int .u64 (x0 : Int), .int .u64 (x1 : Int), .int .u64 (x2 : Int), .int .u64 (x3 : Int), .int .u64 (x4 : Int), .int .u64 (x5 : Int)] 109 (0, 0)) := by
       rw [hoe] at hblk; exact hblk
      obtain ⟨e0, e1, e2, e3, e4, e5⟩ := cells6 hcb
      obtain ⟨r0, r1, r2, r3, r4, r5⟩ := cells6 hrb
      have z := fun i => blk_free hrb i
      have z0 := z 0
      have z1 := z 1
      have z2 := z 2
      have z3 := z 3
      have z4 := z 4
      have z5 := z 5
      have hrb' := hrb
      have Hv2 := Lib.hid hv2
      have Hoe := Lib.hid hoe
      clear hv2 hoe hcb hrb z hdif hvo hroom hal hbl hA hblk hFr hAr hBr hB
      go_wp2_with fail
      refine end6 rfl rfl rfl (six_set hrb' _ _ _ _ _ _) ?_
      exact ⟨o, by rw [Hoe.out]; rfl, ⟨Ho.out, Hlo.out, by rw [Hv2.out]; exact subM_lt Ha.out.lt Hb.out.lt⟩, Hv2.out, six_below hBw (by omega) _ _ _ _ _ _⟩
    · obtain rfl : cr = 1 := by omega
      rw [Nat.mul_one] at hdif
      have Hdif := Lib.hid hdif
      have Hvo := Lib.hid hvo
      have Hroom := Lib.hid hroom
      have hB1 := hB
      have hblk1 := hblk
      have hAs := AddAt.zero 18446744073709551616 o ml o
      have HBw := Lib.hid hBw
      clear hA hdif hvo hroom hal hbl hFr hAr hBr hrb hB hblk hBw
      go_wp2_with fail
      have HT := Lib.hid (⟨Ho.out, Hlo.out, Hz.out⟩ : o.length = 6 ∧ (∀ x ∈ o, x < 18446744073709551616) ∧ ∀ p, k ≤ p → dg o p = 0)
      go_loopw [10, 40] (fun cv iv wx => ∃ (j cr : Nat) (o2 : List Nat), iv = .int .i64 (j : Int) ∧ cv = .int .u64 (cr : Int) ∧ j ≤ k ∧ cr ≤ 1 ∧ AddAt 18446744073709551616 o ml o2 j cr ∧ Hid (∀ p, j ≤ p → dg o2 p = dg o p) ∧ Hid (o2.length = 6) ∧ Hid (∀ x ∈ o2, x < 18446744073709551616) ∧ Hid (∀ p, k ≤ p → dg o2 p = 0) ∧ ARow wx (w.heap.size + 1 + 1 + 1) 109 o2 ∧ Below (w.heap.size + 1 + 1 + 1) W0 wx) (fun _ iv _ => k - (intOf iv).toNat)
      case atStart => exact ⟨0, 0, o, rfl, rfl, by omega, by omega, hAs, Lib.hid fun _ _ => rfl, Ho, Hlo, Hz, hblk1, hB1⟩
      case round =>
       clear hAs hblk1 hB1
       obtain ⟨j, cr, o2, rfl, rfl, hj, hcr2, hA, Hsame, Ho2, Hlo2, Hz2, hblk, hB⟩ := hrel
       have hBw : Below w.heap.size w wr := hB0.trans (hB.mono (by omega))
       have hFr := HF.out.below hBw hg
       have c0 := hFr.fld.n0
       by_cases hlt2 : j < k
       · have q1 := hblk.cell (i := j) (by have := Ho2.out; omega)
         rw [Hsame.out j (Nat.le_refl _)] at q1
         have q2 := hFr.fld.m_ (j := j) (by omega)
         have dt : dg o j < 18446744073709551616 := getD_lt (by omega) HT.out.2.1 j
         have dm : dg ml j < 18446744073709551616 := getD_lt (by omega) hFr.mlt j
         obtain ⟨s, cr', hs, hcr', he⟩ := carry_of (dg o j) (dg ml j) cr dt dm hcr2
         have hok : j < o2.length := by have := Ho2.out; omega
         have q4 := hblk.free j
         have hA' := hA.step hok (by omega)
         have hblk' := hblk.set j s
         have hB' := hB.setCell (p := ⟨w.heap.size + 1 + 1 + 1, j, none⟩) (Nat.le_refl _) (.int .u64 (s : Int))
         have Ho' : Hid ((o2.set j s).length = 6) := Lib.hid (by rw [List.length_set]; exact Ho2.out)
         have Hlo' : Hid (∀ x ∈ o2.set j s, x < 18446744073709551616) := Lib.hid (set_lt Hlo2.out hs)
         have Hz' : Hid (∀ p, k ≤ p → dg (o2.set j s) p = 0) := Lib.hid fun p hp => by rw [getD_set_ne (by omega)]; exact Hz2.out p hp
         have Hs' : Hid (∀ p, j + 1 ≤ p → dg (o2.set j s) p = dg o p) := Lib.hid fun p hp => by rw [getD_set_ne (by omega)]; exact Hsame.out p (by omega)
         have hadd := fun w => add64_at (dg o j) (dg ml j) cr s cr' hcr2 hs (by omega) w
         have ki6 : (j : Int) < 6 := by omega
         clear he hA hblk hB hok hBw hFr
         go_wp2_with fail
         go_region_with (fail)
         all_goals
          go_wp2
          go_roundw
          case rel =>
           refine ⟨_, _, _, _, _, _, _, _, _, _, _, _, _, _, _, _, _, _, _, _, _, _, ?_, rfl⟩
           exact ⟨j + 1, cr', o2.set j s, by go_num, rfl, by omega, hcr', hA', Hs', Ho', Hlo', Hz', hblk', hB'.drew⟩
          case measure => simp [intOf]; omega
       · obtain rfl : j = k := by omega
         have hsum : val 18446744073709551616 o2 + 18446744073709551616 ^ j * cr = val 18446744073709551616 o + M := by
          have h1 : val 18446744073709551616 (o2.take j) + 18446744073709551616 ^ j * cr = val 18446744073709551616 (o.take j) + val 18446744073709551616 (ml.take j) := hA
          rwa [val_take_zeros Hz2.out, val_take_zeros HT.out.2.2, hFr.mtake] at h1
         have hv2 : val 18446744073709551616 o2 = subM (val 18446744073709551616 a) (val 18446744073709551616 b) M := by
          have h1 := Hdif.out
          have h2 := Hroom.out
          have h3 := Ha.out.lt
          have h4 := Hb.out.lt
          have h5 : val 18446744073709551616 o2 < 18446744073709551616 ^ j := by rw [← val_take_zeros Hz2.out]; exact val_take_lt Hlo2.out j
          have h6 := Hvo.out
          generalize 18446744073709551616 ^ j = R at *
          have h7 : cr = 0 ∨ cr = 1 := by omega
          rw [subM, if_neg (by omega)]
          rcases h7 with rfl | rfl
          · rw [Nat.mul_zero] at hsum; omega
          · omega
         have hrb := (hB.block (w.heap.size + 1 + 1) (by omega)).trans l3
         obtain ⟨x0, x1, x2, x3, x4, x5, hoe⟩ := six Ho2.out
         have hcb : wr.heap[w.heap.size + 1 + 1 + 1]? = some (.cells #[.int .u64 (x0 : Int), .int .u64 (x1 : Int), .int .u64 (x2 : Int), .int .u64 (x3 : Int), .int .u64 (x4 : Int), .int .u64 (x5 : Int)] 109 (0, 0)) := by
          rw [hoe] at hblk; exact hblk
         obtain ⟨e0, e1, e2, e3, e4, e5⟩ := cells6 hcb
         obtain ⟨r0, r1, r2, r3, r4, r5⟩ := cells6 hrb
         have z := fun i => blk_free hrb i
         have z0 := z 0
         have z1 := z 1
         have z2 := z 2
         have z3 := z 3
         have z4 := z 4
         have z5 := z 5
         have hrb' := hrb
         have Hv2 := Lib.hid hv2
         have Hoe := Lib.hid hoe
         clear hv2 hoe hcb hrb z hsum hA hblk hFr hB
         go_wp2_with fail
         refine end6 rfl rfl rfl (six_set hrb' _ _ _ _ _ _) ?_
         exact ⟨o2, by rw [Hoe.out]; rfl, ⟨Ho2.out, Hlo2.out, by rw [Hv2.out]; exact subM_lt Ha.out.lt Hb.out.lt⟩, Hv2.out, six_below hBw (by omega) _ _ _ _ _ _⟩
end Go.Proofs.YtaemogcomplhiaaGreatDoor

namespace Go.Proofs.YtaemogcomplhiaaGreatDoor
open Go.RowKit

theorem val_take_mod {B : Nat} {l : List Nat} (h : ∀ x ∈ l, x < B) (_hB : 0 < B) (k : Nat) : val B (l.take (k + 1)) % B = dg l 0 := by
 cases l with
 | nil => simp [dg]
 | cons x m => rw [List.take_succ_cons, val_cons, Nat.add_mul_mod_self_left, Nat.mod_eq_of_lt (h x (by simp))]; rfl
theorem low_gone {B M inv V u t0 m0 : Nat} (_hB : 0 < B) (hi : (inv * M + 1) % B = 0) (hV : V % B = t0) (hm : M % B = m0) (hu : u = t0 * inv % B) : (t0 + u * m0) % B = 0 := by
 have h1 := mont_low (v := V) hi hV hu
 rw [← hV, ← hm, Nat.add_mod, Nat.mod_mod, Nat.mul_mod_mod, ← Nat.add_mod]
 exact h1
theorem low_parts {u m0 t0 : Nat} (hu : u < 18446744073709551616) (hm : m0 < 18446744073709551616) (ht : t0 < 18446744073709551616) (hz : (t0 + u * m0) % 18446744073709551616 = 0) :
 ∃ hi lo c : Nat, lo < 18446744073709551616 ∧ lo + 18446744073709551616 * hi = u * m0 ∧ c ≤ 1 ∧ 0 + 18446744073709551616 * c = lo + t0 + 0 ∧ hi + c < 18446744073709551616 ∧ 18446744073709551616 * (hi + c) = t0 + u * m0 := by
 have hb := mul_bound hu hm ht (show 0 < 18446744073709551616 by omega)
 refine ⟨u * m0 / 18446744073709551616, u * m0 % 18446744073709551616, (u * m0 % 18446744073709551616 + t0) / 18446744073709551616, Nat.mod_lt _ (by omega), Nat.mod_add_div _ _, ?_, ?_, ?_, ?_⟩
 all_goals
  generalize u * m0 = p at *
  omega
theorem top_small {M vb T x R top : Nat} (e1 : T = x + R * top) (h2 : T < M + vb) (hM : M ≤ R) (hb : vb < M) : top ≤ 1 := by
 rcases Nat.lt_or_ge top 2 with h | h
 · omega
 · have e5 : R * 2 ≤ R * top := Nat.mul_le_mul_left _ h
   omega
end Go.Proofs.YtaemogcomplhiaaGreatDoor

namespace Go.Proofs.YtaemogcomplhiaaGreatDoor
open Go.RowKit

set_option maxRecDepth 100000 in
set_option maxHeartbeats 8000000 in
theorem zmul_any {g n inv M : Nat} {ml ol rl : List Nat} (a b : List Nat) (w : World) (hF : FF w g n inv M ml ol rl) (ha : Elt M a) (hb : Elt M b) :
 Calls Tryz.prog 102 #[.pointer (some ⟨g, 0, none⟩), EV a, EV b] w fun e w' => ∃ o, e = .returned (EV o) ∧ Elt M o ∧ val 18446744073709551616 o * 18446744073709551616 ^ n % M = val 18446744073709551616 a * val 18446744073709551616 b % M ∧ Below w.heap.size w w' := by
 have hg := hF.fld.lt
 have h0 := hF.fld.n0
 have hn := hF.nle
 have hn1 := hF.npos
 have ta := ha.take hF
 have tb := hb.take hF
 obtain ⟨a0, a1, a2, a3, a4, a5, hae⟩ := six ha.six
 obtain ⟨b0, b1, b2, b3, b4, b5, hbe⟩ := six hb.six
 obtain ⟨l1, l2, l3, l4, hz, hB0⟩ := lay4 w (.cells #[.int .u64 (a0 : Int), .int .u64 (a1 : Int), .int .u64 (a2 : Int), .int .u64 (a3 : Int), .int .u64 (a4 : Int), .int .u64 (a5 : Int)] 109)
  (.cells #[.int .u64 (b0 : Int), .int .u64 (b1 : Int), .int .u64 (b2 : Int), .int .u64 (b3 : Int), .int .u64 (b4 : Int), .int .u64 (b5 : Int)] 109) (.cells #[.int .u64 0, .int .u64 0, .int .u64 0, .int .u64 0, .int .u64 0, .int .u64 0] 109)
  (.cells #[.int .u64 0, .int .u64 0, .int .u64 0, .int .u64 0, .int .u64 0, .int .u64 0, .int .u64 0, .int .u64 0] 175)
 have hva : EV a = .agg #[.int .u64 (a0 : Int), .int .u64 (a1 : Int), .int .u64 (a2 : Int), .int .u64 (a3 : Int), .int .u64 (a4 : Int), .int .u64 (a5 : Int)] := by rw [hae]; rfl
 have hvb : EV b = .agg #[.int .u64 (b0 : Int), .int .u64 (b1 : Int), .int .u64 (b2 : Int), .int .u64 (b3 : Int), .int .u64 (b4 : Int), .int .u64 (b5 : Int)] := by rw [hbe]; rfl
 rw [hva, hvb]
 have h00 := (hB0.cell (p := ⟨g, 0, none⟩) hg).trans h0
 go_enter Tryz.func102, Tryz.ntmps102
 go_wp2_with fail
 generalize (((w.alloc (.cells #[.int .u64 (a0 : Int), .int .u64 (a1 : Int), .int .u64 (a2 : Int), .int .u64 (a3 : Int), .int .u64 (a4 : Int), .int .u64 (a5 : Int)] 109)).alloc
  (.cells #[.int .u64 (b0 : Int), .int .u64 (b1 : Int), .int .u64 (b2 : Int), .int .u64 (b3 : Int), .int .u64 (b4 : Int), .int .u64 (b5 : Int)] 109)).alloc (.cells #[.int .u64 0, .int .u64 0, .int .u64 0, .int .u64 0, .int .u64 0, .int .u64 0] 109)).alloc
  (.cells #[.int .u64 0, .int .u64 0, .int .u64 0, .int .u64 0, .int .u64 0, .int .u64 0, .int .u64 0, .int .u64 0] 175) = W0 at *
 have A0 : ARow W0 w.heap.size 109 a := by rw [hae]; exact l1
 have B0 : ARow W0 (w.heap.size + 1) 109 b := by rw [hbe]; exact l2
 have T0 : ARow W0 (w.heap.size + 1 + 1 + 1) 175 [0, 0, 0, 0, 0, 0, 0, 0] := l4
 have hW0 : w.heap.size + 4 ≤ W0.heap.size := by omega
 have Ha := Lib.hid ha
 have Hb := Lib.hid hb
 have Hae := Lib.hid hae
 have Hbe := Lib.hid hbe
 have HF := Lib.hid hF
 clear l1 l2 l4 hz ha hb hae hbe hva hvb hF
 have hmg : Hid (∀ j, j < 6 → True) := Lib.hid fun _ _ => trivial
 go_loopw [24] (fun iv wr => ∃ (i : Nat) (o : List Nat), iv = .int .i64 (i : Int) ∧ i ≤ n ∧ Hid (MontT 18446744073709551616 M a b (val 18446744073709551616 (o.take (n + 1))) i) ∧ Hid (o.length = 8) ∧ Hid (∀ x ∈ o, x < 18446744073709551616) ∧ ARow wr (w.heap.size + 1 + 1 + 1) 175 o ∧ Below (w.heap.size + 1 + 1 + 1) W0 wr) (fun iv _ => n - (intOf iv).toNat)
 case atStart => exact ⟨0, _, rfl, by omega, Lib.hid (by
  have h1 : val 18446744073709551616 (([0, 0, 0, 0, 0, 0, 0, 0] : List Nat).take (n + 1)) = 0 := val_zeros fun x hx => by have := List.mem_of_mem_take hx; simp at this; exact this
  rw [h1]; exact MontT.zero _ _ (by have := HF.out.big; omega)), Lib.hid rfl, Lib.hid (by simp), T0, Below.refl _ _⟩
 case round =>
  obtain ⟨i, o, rfl, hi, HM, Ho, Hlo, hblk, hB⟩ := hrel
  have hBw : Below w.heap.size w wr := hB0.trans (hB.mono (by omega))
  have c0 := (HF.out.below hBw hg).fld.n0
  by_cases hlt : i < n
  · have dai : dg a i < 18446744073709551616 := getD_lt (by omega) Ha.out.lim i
    obtain ⟨ai, hai⟩ : ∃ ai, dg a i = ai := ⟨_, rfl⟩
    rw [hai] at dai
    have Hai := Lib.hid hai
    have ki6 : (i : Int) < 6 := by omega
    have hstart := FirstAt.zero 18446744073709551616 o b ai
    have Hstart := Lib.hid hstart
    clear hai hstart hBw
    go_wp2_with fail
    go_loopw [11, 28] (fun cv jv wr => ∃ (j cr : Nat) (o1 : List Nat), jv = .int .i64 (j : Int) ∧ cv = .int .u64 (cr : Int) ∧ j ≤ n ∧ cr < 18446744073709551616 ∧ Hid (FirstAt 18446744073709551616 o b o1 ai j cr) ∧ Hid (∀ x ∈ o1, x < 18446744073709551616) ∧ ARow wr (w.heap.size + 1 + 1 + 1) 175 o1 ∧ Below (w.heap.size + 1 + 1 + 1) W0 wr) (fun _ jv _ => n - (intOf jv).toNat)
    case atStart => exact ⟨0, 0, o, rfl, rfl, by omega, by omega, Hstart, Hlo, hblk, hB⟩
    case round =>
     clear hblk hB c0
     obtain ⟨j, cr, o1, rfl, rfl, hj, hcr, HA, Hlo1, hblk, hB⟩ := hrel
     have hl1 : o1.length = 8 := by have := HA.out.1; have := Ho.out; omega
     have hBw : Below w.heap.size w wr := hB0.trans (hB.mono (by omega))
     have hAr := A0.below hB (by omega)
     have hBr := B0.below hB (by omega)
     by_cases hjt : j < n
     · have q1 := hAr.cell (i := i) (by rw [Ha.out.six]; omega)
       rw [Hai.out] at q1
       have q2 := hBr.cell (i := j) (by rw [Hb.out.six]; omega)
       have q3 := hblk.cell (i := j) (by omega)
       have q4 := hblk.free j
       have db : dg b j < 18446744073709551616 := getD_lt (by omega) Hb.out.lim j
       have d1 : dg o1 j < 18446744073709551616 := getD_lt (by omega) Hlo1.out j
       obtain ⟨hi', lo, s1, c1, s2, c2, b1, b2, b3, b4, b5, b6, b7, b8, b9, b10, he⟩ := mul_round ai (dg b j) (dg o1 j) cr dai db d1 hcr
       have hmul := Lib.hid (fun k => (mul64_at ai (dg b j) hi' lo dai db b1 b2 (World.drewN wr k)).mono fun e w' (h : e = _ ∧ _ = w') => (⟨h.1, h.2.symm⟩ : e = .returned (.tuple #[.int .u64 (hi' : Int), .int .u64 (lo : Int)]) ∧ w' = World.drewN wr k))
       have hadd1 := fun w => add64_at lo (dg o1 j) 0 s1 c1 (by omega) b3 b4 w
       have hadd2 := fun w => add64_at s1 cr 0 s2 c2 (by omega) b5 b6 w
       simp only [Int.cast_ofNat_Int] at hadd1 hadd2
       have hA' := Lib.hid (HA.out.step (s := s2) (c' := hi' + c1 + c2) (by have := Ho.out; omega) (by rw [he]; omega))
       have hblk' := hblk.set j s2
       have hB' := hB.setCell (p := ⟨w.heap.size + 1 + 1 + 1, j, none⟩) (Nat.le_refl _) (.int .u64 (s2 : Int))
       have Hlo' : Hid (∀ x ∈ o1.set j s2, x < 18446744073709551616) := Lib.hid (set_lt Hlo1.out b5)
       have kj8 : (j : Int) < 8 := by omega
       have kj6 : (j : Int) < 6 := by omega
       have hl8 : (o1.set j s2).length = 8 := by simpa using hl1
       clear he b2 b4 b6 HA hB hBw hAr hBr hl1 hblk
       go_wp2_with fail
       go_quiet (first | (go_at_call 98; exact Calls.quiet_of_same (hmul.out _)))
       go_wp2_with fail
       go_roundw
       case rel => exact ⟨j + 1, hi' + c1 + c2, o1.set j s2, by go_num, by go_num, by omega, b10, hA', Hlo', hblk', below_drewN hB' _⟩
       case measure => simp [intOf]; omega
     · obtain rfl : j = n := by omega
       have q3 := hblk.cell (i := j) (by omega)
       have q4 := hblk.free j
       have d1 : dg o1 j < 18446744073709551616 := getD_lt (by omega) Hlo1.out j
       obtain ⟨s, c1, hs1, hs2, hs3⟩ := carry_of (dg o1 j) cr 0 d1 hcr (by omega)
       have hadd := fun w => add64_at (dg o1 j) cr 0 s c1 (by omega) hs1 hs3 w
       simp only [Int.cast_ofNat_Int] at hadd
       obtain ⟨hl2, hv2⟩ := HA.out.fin (s := s) (c' := c1) (by have := Ho.out; omega) (.inr tb) (by omega)
       have hlim2 : ∀ x ∈ (o1.set j s).set (j + 1) c1, x < 18446744073709551616 := set_lt (set_lt Hlo1.out hs1) (by omega)
       have hblk1 := hblk.set j s
       have q5 := hblk1.cell (i := j + 1) (by simp; omega)
       have q6 := hblk1.free (j + 1)
       have hblk2 := hblk1.set (j + 1) c1
       have hB2 := (hB.setCell (p := ⟨w.heap.size + 1 + 1 + 1, j, none⟩) (Nat.le_refl _) (.int .u64 (s : Int))).setCell (p := ⟨w.heap.size + 1 + 1 + 1, j + 1, none⟩) (Nat.le_refl _) (.int .u64 (c1 : Int))
       have kj8 : (j : Int) < 8 := by omega
       have kj9 : (j : Int) + 1 < 8 := by omega
       have hl2' : ((o1.set j s).set (j + 1) c1).length = 8 := by rw [hl2]; exact Ho.out
       generalize ho2 : (o1.set j s).set (j + 1) c1 = o2 at *
       have hW2 := hB2.size
       have m0 : dg ml 0 < 18446744073709551616 := getD_lt (by omega) HF.out.mlt 0
       have t0 : dg o2 0 < 18446744073709551616 := getD_lt (by omega) hlim2 0
       have HV2 := Lib.hid hv2
       have Hl2 := Lib.hid hl2'
       have Hlim2 := Lib.hid hlim2
       clear hs3 HA hv2 hl2 hl2' hlim2 hblk hblk1 hB ho2 hBw hAr hBr
       go_wp2_with fail
       generalize (World.setCell wr ⟨w.heap.size + 1 + 1 + 1, j, none⟩ (.int .u64 (s : Int))).setCell ⟨w.heap.size + 1 + 1 + 1, j + 1, none⟩ (.int .u64 (c1 : Int)) = W2 at *
       have hBw2 : Below w.heap.size w W2 := hB0.trans (hB2.mono (by omega))
       have hF2 := HF.out.below hBw2 hg
       have i7 := hF2.fld.inv_
       have i1 := hF2.fld.m_ (j := 0) (by omega)
       have e0 := hblk2.cell (i := 0) (by have := Hl2.out; omega)
       obtain ⟨u, hu⟩ : ∃ u, dg o2 0 * inv % 18446744073709551616 = u := ⟨_, rfl⟩
       have hub : u < 18446744073709551616 := by rw [← hu]; exact Nat.mod_lt _ (by omega)
       have hwu := wrap_mul (dg o2 0) inv
       rw [hu] at hwu
       have hV0 : (val 18446744073709551616 (o.take (j + 1)) + ai * val 18446744073709551616 b) % 18446744073709551616 = dg o2 0 := by rw [← HV2.out]; exact val_take_mod Hlim2.out (by omega) _
       have hM0 : M % 18446744073709551616 = dg ml 0 := by
        obtain ⟨k, hk⟩ : ∃ k, j = k + 1 := ⟨j - 1, by omega⟩
        rw [← HF.out.mtake, hk]
        exact val_take_mod HF.out.mlt (by omega) _
       have hz := low_gone (by omega) HF.out.invV hV0 hM0 hu.symm
       obtain ⟨hi', lo, c2, b1, b2, b3, b4, b5, b6⟩ := low_parts hub m0 t0 hz
       have hmul := Lib.hid (fun w => mul64_at u (dg ml 0) hi' lo hub m0 b1 b2 w)
       have hadd3 := fun w => add64_at lo (dg o2 0) 0 0 c2 (by omega) (by omega) b4 w
       simp only [Int.cast_ofNat_Int] at hadd3
       obtain ⟨p0, hp0⟩ : ∃ p0, p0 + 1 = j := ⟨j - 1, by omega⟩
       have Hs0 := Lib.hid (ShiftAt.zero (t := o2) (m := ml) (u := u) (c := hi' + c2) b6)
       have Hu := Lib.hid (show u = (val 18446744073709551616 (o.take (j + 1)) + dg a i * val 18446744073709551616 b) % 18446744073709551616 * inv % 18446744073709551616 by rw [Hai.out, hV0, hu])
       have Hp0 := Lib.hid hp0
       clear hu hV0 hM0 hz b2 b4 b6 hp0
       go_quiet (fail)
       go_wp2_with fail
       refine (hmul.out _).mono ?_
       rintro e w3 ⟨rfl, rfl⟩
       go_wp2_with fail
       have hblk3 : ARow (W2.drewN nq) (w.heap.size + 1 + 1 + 1) 175 o2 := hblk2
       have hB3 := below_drewN hB2 nq
       clear hblk2 hB2 e0 i7 i1 hF2 hBw2 q3 q4 q5 q6 hmul
       generalize W2.drewN nq = W3 at *
       go_loopw [11, 18] (fun cv qv wr => ∃ (k cr : Nat) (o3 : List Nat), qv = .int .i64 ((k : Int) + 1) ∧ cv = .int .u64 (cr : Int) ∧ k + 1 ≤ j ∧ cr < 18446744073709551616 ∧ Hid (ShiftAt 18446744073709551616 o2 ml o3 u k cr) ∧ Hid (∀ x ∈ o3, x < 18446744073709551616) ∧ ARow wr (w.heap.size + 1 + 1 + 1) 175 o3 ∧ Below (w.heap.size + 1 + 1 + 1) W0 wr) (fun _ qv _ => j - (intOf qv).toNat)
       case atStart => exact ⟨0, hi' + c2, o2, rfl, by go_num, by omega, b5, Hs0, Hlim2, hblk3, hB3⟩
       case round =>
        clear hblk3 hB3
        obtain ⟨k, cr, o3, rfl, rfl, hk, hcr, HS, Hlo3, hblk, hB⟩ := hrel
        have hl3 : o3.length = 8 := by have := HS.out.1; have := Hl2.out; omega
        have hBw : Below w.heap.size w wr := hB0.trans (hB.mono (by omega))
        have hFr := (HF.out.below hBw hg).fld
        by_cases hkt : k + 1 < j
        · have i1 := hFr.m_ (j := k + 1) (by omega)
          have q3 := hblk.cell (i := k + 1) (by omega)
          have q4 := hblk.free k
          have q5 := hblk.cell (i := k) (by omega)
          have dm : dg ml (k + 1) < 18446744073709551616 := getD_lt (by omega) HF.out.mlt (k + 1)
          have d1 : dg o3 (k + 1) < 18446744073709551616 := getD_lt (by omega) Hlo3.out (k + 1)
          obtain ⟨hi', lo, s1, c1, s2, c2, b1, b2, b3, b4, b5, b6, b7, b8, b9, b10, he⟩ := mul_round u (dg ml (k + 1)) (dg o3 (k + 1)) cr hub dm d1 hcr
          have hmul := Lib.hid (fun w => mul64_at u (dg ml (k + 1)) hi' lo hub dm b1 b2 w)
          have hadd1 := fun w => add64_at lo (dg o3 (k + 1)) 0 s1 c1 (by omega) b3 b4 w
          have hadd2 := fun w => add64_at s1 cr 0 s2 c2 (by omega) b5 b6 w
          simp only [Int.cast_ofNat_Int] at hadd1 hadd2
          have hS' := Lib.hid (HS.out.step (s := s2) (c' := hi' + c1 + c2) (by have := Hl2.out; omega) (by rw [he]; omega))
          have hblk' := hblk.set k s2
          have hB' := hB.setCell (p := ⟨w.heap.size + 1 + 1 + 1, k, none⟩) (Nat.le_refl _) (.int .u64 (s2 : Int))
          have Hlo' : Hid (∀ x ∈ o3.set k s2, x < 18446744073709551616) := Lib.hid (set_lt Hlo3.out b5)
          have kj8 : (k : Int) + 1 < 8 := by omega
          have kj6 : (k : Int) + 1 < 6 := by omega
          have kk8 : (k : Int) < 8 := by omega
          clear he b2 b4 b6 HS hB hBw hFr hl3 hblk
          go_wp2_with fail
          refine (hmul.out _).mono ?_
          rintro e w3 ⟨rfl, rfl⟩
          go_wp2
          go_roundw
          case rel => exact ⟨k + 1, hi' + c1 + c2, o3.set k s2, by go_num, by go_num, by omega, b10, hS', Hlo', hblk', hB'⟩
          case measure => simp [intOf]; omega
        · have hkj : k + 1 = j := by omega
          have q3 := hblk.cell (i := j) (by omega)
          have q4 := hblk.free k
          have q5 := hblk.cell (i := k) (by omega)
          have d1 : dg o3 j < 18446744073709551616 := getD_lt (by omega) Hlo3.out j
          obtain ⟨s, c1, hs1, hs2, hs3⟩ := carry_of (dg o3 j) cr 0 d1 hcr (by omega)
          have hadd := fun w => add64_at (dg o3 j) cr 0 s c1 (by omega) hs1 hs3 w
          simp only [Int.cast_ofNat_Int] at hadd
          obtain ⟨hl4, hv4⟩ := HS.out.fin (s := s) (c' := c1) (by have := Hl2.out; omega) (by rw [hkj, HF.out.mtake, HF.out.mval]) (by rw [hkj]; omega)
          rw [HF.out.mval, show k + 3 = j + 2 by omega, HV2.out] at hv4
          have hM4 := MontT.step (by omega) HM.out (by rw [Hai.out]; exact dai) Hu.out rfl (T4 := val 18446744073709551616 (((o3.set k s).set (k + 1) (dg o3 (k + 2) + c1)).take (k + 2))) (by rw [Hai.out]; exact hv4.symm)
          have htop : dg o3 (k + 2) + c1 ≤ 1 := by
           have e1 := val_take_getD 18446744073709551616 ((o3.set k s).set (k + 1) (dg o3 (k + 2) + c1)) (k + 1)
           rw [getD_set_eq (by simp; omega)] at e1
           have e2 := hM4.1
           have e3 := HF.out.room
           rw [← hkj] at e3
           exact top_small e1 e2 (Nat.le_of_lt e3) Hb.out.lt
          have hlim4 : ∀ x ∈ (o3.set k s).set (k + 1) (dg o3 (k + 2) + c1), x < 18446744073709551616 := set_lt (set_lt Hlo3.out hs1) (by omega)
          rw [show k + 2 = j + 1 by omega, hkj] at hM4 hlim4 hl4
          rw [show k + 2 = j + 1 by omega] at htop
          have hblk1 := hblk.set k s
          have q6 := hblk1.cell (i := j + 1) (by simp; omega)
          rw [getD_set_ne (by omega)] at q6
          have q7 := hblk1.cell (i := j) (by simp; omega)
          have q8 := hblk1.free j
          have hblk2 := hblk1.set j (dg o3 (j + 1) + c1)
          have hB2 := (hB.setCell (p := ⟨w.heap.size + 1 + 1 + 1, k, none⟩) (Nat.le_refl _) (.int .u64 (s : Int))).setCell (p := ⟨w.heap.size + 1 + 1 + 1, j, none⟩) (Nat.le_refl _) (.int .u64 ((dg o3 (j + 1) + c1 : Nat) : Int))
          have kj8 : (j : Int) < 8 := by omega
          have kj9 : (j : Int) + 1 < 8 := by omega
          have kk8 : (k : Int) < 8 := by omega
          have hl5 : ((o3.set k s).set j (dg o3 (j + 1) + c1)).length = 8 := by simpa using hl3
          have HM4 := Lib.hid hM4
          have Hlim4 := Lib.hid hlim4
          have Hl5 := Lib.hid hl5
          have hwt := IntWalk.u64_in ((dg o3 (j + 1) : Int) + (c1 : Int)) (by omega)
          have Hwt := Lib.hid hwt
          have Hkj := Lib.hid hkj
          clear hs3 HS hv4 hM4 hlim4 hl4 hl5 hblk hblk1 hB hBw hFr htop hkj hwt
          go_upto_region 30 with fail
          have i0 : (j : Int) - 1 = (k : Int) := by have := Hkj.out; omega
          go_upto_region 31 with fail
          have hwt := Hwt.out
          go_wp2_with fail
          refine ⟨⟨i + 1, (o3.set k s).set j (dg o3 (j + 1) + c1), by go_num, by omega, HM4, Hl5, Hlim4, by simpa using hblk2, by simpa using hB2⟩, by simp [intOf]; omega⟩
  · obtain rfl : i = n := by omega
    obtain ⟨hTb, kk, hTk⟩ := HM.out
    have hFr := HF.out.below hBw hg
    have hT : val 18446744073709551616 (o.take i) + 18446744073709551616 ^ i * dg o i = val 18446744073709551616 (o.take (i + 1)) := (val_take_getD _ _ _).symm
    have q1 := hblk.cell (i := i) (by have := Ho.out; omega)
    have hbel := zbelow_any (w.heap.size + 1 + 1 + 1) (dg o i) o wr hFr.fld hFr.mlt hblk (by omega) Ho.out Hlo.out hn hn1 (by rw [hFr.mtake, hFr.mval]) (getD_lt (by omega) Hlo.out i) (by rw [hT, hFr.mval]; have := Hb.out.lt; omega)
    rw [hT, hFr.mval] at hbel
    have hoff := offM_mod (v := val 18446744073709551616 (o.take (i + 1))) (M := M) (R := 18446744073709551616 ^ i) hTk
    rw [ta] at hoff
    have hltm := offM_lt (v := val 18446744073709551616 (o.take (i + 1))) (M := M) (by have := Hb.out.lt; omega)
    have Hoff := Lib.hid hoff
    have Hltm := Lib.hid hltm
    have Hbel := Lib.hid hbel
    have ki8 : (i : Int) < 8 := by omega
    clear hbel hT hFr hTb hTk hoff hltm hblk
    go_wp2_with fail
    refine Hbel.out.mono ?_
    rintro e w2 ⟨o2, rfl, ho6, hlim, hv2, hB2⟩
    obtain ⟨x0, x1, x2, x3, x4, x5, hoe⟩ := six ho6
    have hrb := (hB2.block (w.heap.size + 1 + 1) (by have := hB.size; omega)).trans ((hB.block (w.heap.size + 1 + 1) (by omega)).trans l3)
    obtain ⟨r0, r1, r2, r3, r4, r5⟩ := cells6 hrb
    have z := fun i => blk_free hrb i
    have z0 := z 0
    have z1 := z 1
    have z2 := z 2
    have z3 := z 3
    have z4 := z 4
    have z5 := z 5
    have hrb' := hrb
    have hBf : Below w.heap.size w w2 := hBw.trans (hB2.mono hBw.size)
    have Hv2 := Lib.hid hv2
    have Ho6 := Lib.hid ho6
    have Hlim := Lib.hid hlim
    have Hoe := Lib.hid hoe
    have hve : EV o2 = .agg #[.int .u64 (x0 : Int), .int .u64 (x1 : Int), .int .u64 (x2 : Int), .int .u64 (x3 : Int), .int .u64 (x4 : Int), .int .u64 (x5 : Int)] := by rw [hoe]; rfl
    rw [hve]
    clear hve hoe hv2 ho6 hlim z hrb hB2 hB Hbel
    go_wp2_with fail
    refine end6 rfl rfl rfl (six_set hrb' _ _ _ _ _ _) ?_
    exact ⟨o2, by rw [Hoe.out]; rfl, ⟨Ho6.out, Hlim.out, by rw [Hv2.out]; exact Hltm.out⟩, by rw [Hv2.out]; exact Hoff.out, six_below hBf (by omega) _ _ _ _ _ _⟩
end Go.Proofs.YtaemogcomplhiaaGreatDoor

namespace Go.Proofs.YtaemogcomplhiaaGreatDoor
open Go.RowKit

theorem add_cancel_mod {a b c M : Nat} (h : (a + c) % M = (b + c) % M) : a % M = b % M := by
 have h1 := congrArg (fun z : Nat => (z : Int)) h
 simp only [Int.natCast_emod, Int.natCast_add] at h1
 have h2 : ((a : Int) + c - c) % M = ((b : Int) + c - c) % M := by rw [Int.sub_emod, h1, ← Int.sub_emod]
 rw [Int.add_sub_cancel, Int.add_sub_cancel] at h2
 exact_mod_cast h2
theorem sub_mod_form {x y M R : Nat} (hM : 0 < M) (hy : y ≤ M) : subM (x * R % M) (y * R % M) M = (x + M - y) * R % M := by
 have h1 := Nat.mod_lt (x * R) hM
 have h2 := Nat.mod_lt (y * R) hM
 rw [subM_mod h1 h2]
 refine add_cancel_mod (c := y * R % M) ?_
 rw [show x * R % M + M - y * R % M + y * R % M = x * R % M + M by omega, Nat.add_mod_right, Nat.mod_mod]
 rw [Nat.add_mod_mod, ← Nat.add_mul, show x + M - y + y = x + M by omega, Nat.add_mul, Nat.add_mul_mod_self_left]
theorem off_mod {x M : Nat} (h : x < 2 * M) : offM x M = x % M := by
 rw [offM]
 split
 · rw [Nat.mod_eq_of_lt (by assumption)]
 · rw [show x = x - M + M by omega, Nat.add_mod_right, Nat.mod_eq_of_lt (by omega)]; omega
structure FE (M n : Nat) (l : List Nat) (x : Nat) : Prop where
 elt : Elt M l
 form : val 18446744073709551616 l = x * 18446744073709551616 ^ n % M
theorem FE.mod {M n : Nat} {l : List Nat} {x : Nat} (h : FE M n l x) : FE M n l (x % M) := ⟨h.elt, by rw [Nat.mod_mul_mod]; exact h.form⟩
theorem FE.zero_iff {w : World} {g n inv M : Nat} {ml ol rl l : List Nat} {x : Nat} (h : FE M n l x) (hF : FF w g n inv M ml ol rl) : l = [0, 0, 0, 0, 0, 0] ↔ x % M = 0 := by
 constructor
 · intro hz
   have h1 := h.form
   rw [hz] at h1
   have h2 : x * 18446744073709551616 ^ n % M = 0 * 18446744073709551616 ^ n % M := by rw [← h1]; simp
   have := cancelR hF.invV h2
   simpa using this
 · intro hz
   have h1 := h.form
   rw [← Nat.mod_mul_mod, hz, Nat.zero_mul, Nat.zero_mod] at h1
   obtain ⟨a, b, c, d, e, f, rfl⟩ := six h.elt.six
   simp only [val_cons, val_nil] at h1
   simp
   omega

set_option maxRecDepth 100000 in
theorem fmul_any {g n inv M : Nat} {ml ol rl : List Nat} {a b : List Nat} {x y : Nat} (w : World) (hF : FF w g n inv M ml ol rl) (ha : FE M n a x) (hb : FE M n b y) :
 Calls Tryz.prog 102 #[.pointer (some ⟨g, 0, none⟩), EV a, EV b] w fun e w' => ∃ o, e = .returned (EV o) ∧ FE M n o (x * y) ∧ Below w.heap.size w w' := by
 refine (zmul_any a b w hF ha.elt hb.elt).mono ?_
 rintro e w' ⟨o, rfl, ho, hv, hB⟩
 refine ⟨o, rfl, ⟨ho, ?_⟩, hB⟩
 rw [ha.form, hb.form, ← Nat.mul_mod] at hv
 have h1 : val 18446744073709551616 o * 18446744073709551616 ^ n % M = (x * y * 18446744073709551616 ^ n) * 18446744073709551616 ^ n % M := by
  rw [hv]
  congr 1
  generalize 18446744073709551616 ^ n = R
  rw [Nat.mul_mul_mul_comm, Nat.mul_assoc (x * y)]
 have h2 := cancelR hF.invV h1
 rwa [Nat.mod_eq_of_lt ho.lt] at h2
theorem fadd_any {g n inv M : Nat} {ml ol rl : List Nat} {a b : List Nat} {x y : Nat} (w : World) (hF : FF w g n inv M ml ol rl) (ha : FE M n a x) (hb : FE M n b y) :
 Calls Tryz.prog 101 #[.pointer (some ⟨g, 0, none⟩), EV a, EV b] w fun e w' => ∃ o, e = .returned (EV o) ∧ FE M n o (x + y) ∧ Below w.heap.size w w' := by
 refine (zadd_any a b w hF ha.elt hb.elt).mono ?_
 rintro e w' ⟨o, rfl, ho, hv, hB⟩
 refine ⟨o, rfl, ⟨ho, ?_⟩, hB⟩
 have h1 := ha.elt.lt
 have h2 := hb.elt.lt
 rw [hv, off_mod (by omega), ha.form, hb.form, ← Nat.add_mod, ← Nat.add_mul]
theorem fsub_any {g n inv M : Nat} {ml ol rl : List Nat} {a b : List Nat} {x y : Nat} (w : World) (hF : FF w g n inv M ml ol rl) (ha : FE M n a x) (hb : FE M n b y) (hy : y ≤ M) :
 Calls Tryz.prog 103 #[.pointer (some ⟨g, 0, none⟩), EV a, EV b] w fun e w' => ∃ o, e = .returned (EV o) ∧ FE M n o (x + M - y) ∧ Below w.heap.size w w' := by
 refine (zsub_any a b w hF ha.elt hb.elt).mono ?_
 rintro e w' ⟨o, rfl, ho, hv, hB⟩
 refine ⟨o, rfl, ⟨ho, ?_⟩, hB⟩
 rw [hv, ha.form, hb.form, sub_mod_form (by have := hF.big; omega) hy]
theorem curve_eq {x y b M : Nat} (hM : 3 < M) : (y * y + M - (((x * x + M - 3) * x + b) % M)) % M = 0 ↔ y * y % M = ((x * x % M * x % M + M - 3 * x % M) % M + b) % M := by
 have h0 : 0 < M := by omega
 have hr := Nat.mod_lt ((x * x + M - 3) * x + b) h0
 have e1 : (y * y + M - (((x * x + M - 3) * x + b) % M)) % M = 0 ↔ y * y % M = ((x * x + M - 3) * x + b) % M := by
  constructor
  · intro h
    have h1 : (y * y + M - (((x * x + M - 3) * x + b) % M) + (((x * x + M - 3) * x + b) % M)) % M = (0 + ((x * x + M - 3) * x + b) % M) % M := by rw [Nat.add_mod, h, Nat.mod_mod, Nat.zero_add]
    rw [show y * y + M - (((x * x + M - 3) * x + b) % M) + (((x * x + M - 3) * x + b) % M) = y * y + M by omega, Nat.add_mod_right, Nat.zero_add, Nat.mod_mod] at h1
    exact h1
  · intro h
    have h1 : (y * y + M - (((x * x + M - 3) * x + b) % M) + (((x * x + M - 3) * x + b) % M)) % M = (0 + ((x * x + M - 3) * x + b) % M) % M := by
     rw [show y * y + M - (((x * x + M - 3) * x + b) % M) + (((x * x + M - 3) * x + b) % M) = y * y + M by omega, Nat.add_mod_right, Nat.zero_add, Nat.mod_mod]
     exact h
    have h2 := add_cancel_mod h1
    rwa [Nat.zero_mod] at h2
 have h3 := Nat.mod_lt (3 * x) h0
 have h4 : (x * x + M - 3) * x % M = (x * x % M * x % M + M - 3 * x % M) % M := by
  refine add_cancel_mod (c := 3 * x) ?_
  rw [← Nat.add_mul, show x * x + M - 3 + 3 = x * x + M by omega, Nat.add_mul, Nat.add_mul_mod_self_left]
  rw [Nat.add_mod (x * x % M * x % M + M - 3 * x % M), ← Nat.mod_mod (3 * x) M, ← Nat.add_mod, Nat.mod_mod, show x * x % M * x % M + M - 3 * x % M + 3 * x % M = x * x % M * x % M + M by omega, Nat.add_mod_right, Nat.mod_mod, Nat.mod_mul_mod]
 rw [e1, Nat.add_mod ((x * x + M - 3) * x), h4, Nat.add_mod_mod]
end Go.Proofs.YtaemogcomplhiaaGreatDoor

namespace Go.Proofs.YtaemogcomplhiaaGreatDoor
open Go.RowKit

structure FR (w : World) (g n inv M : Nat) (ml ol rl : List Nat) : Prop where
 ff : FF w g n inv M ml ol rl
 oelt : Elt M ol
 oval : val 18446744073709551616 ol = 18446744073709551616 ^ n % M
 relt : Elt M rl
 rval : val 18446744073709551616 rl = 18446744073709551616 ^ n * 18446744073709551616 ^ n % M
theorem FR.below {w w' : World} {g n inv M B : Nat} {ml ol rl : List Nat} (h : FR w g n inv M ml ol rl) (hb : Below B w w') (hg : g < B) : FR w' g n inv M ml ol rl :=
 ⟨h.ff.below hb hg, h.oelt, h.oval, h.relt, h.rval⟩
theorem Fld.r_ {w : World} {g n inv : Nat} {ml ol rl : List Nat} (h : Fld w g n inv ml ol rl) {j : Nat} (hj : j < 6) : w.cell? ⟨g, 14 + j, none⟩ = some (.int .u64 (dg rl j : Int)) := by
 rw [blk_cell h.blk (14 + j)]
 obtain ⟨a, b, c, d, e, f, rfl⟩ := six h.m6
 obtain ⟨a, b, c, d, e, f, rfl⟩ := six h.o6
 obtain ⟨a, b, c, d, e, f, rfl⟩ := six h.r6
 match j, hj with
 | 0, _ | 1, _ | 2, _ | 3, _ | 4, _ | 5, _ => rfl

theorem copy_into {dT sT : TypeId} (hdT : Tryz.prog.underlying dT = some (.slice 65)) (w : World) (g o dLen dCap : Nat) (cur : List Value) (ty : TypeId) (hg : w.heap[g]? = some (.cells cur.toArray ty (0, 0))) (P : Nat → Prop) (A : Option Addr) (c : Nat) (a : List Nat) (h : RN w P A c a) (hle : a.length ≤ dLen) (hfit : o + a.length ≤ cur.length) :
    ∃ W', (Builtin.copy_ #[dT, sT] 3 #[.slice (some ⟨g, o, none⟩) dLen dCap, .slice A a.length c]).run Tryz.prog w = .ok (goInt a.length) W' ∧ W'.heap[g]? = some (.cells (cur.take o ++ nts a ++ cur.drop (o + a.length)).toArray ty (0, 0)) ∧
      (∀ B w0, B ≤ g → Below B w0 w → Below B w0 W') ∧ (∀ k, k ≠ g → W'.heap[k]? = w.heap[k]?) ∧ W'.heap.size = w.heap.size := by
  rcases Nat.eq_zero_or_pos a.length with h0 | hpos
  · obtain rfl := List.eq_nil_of_length_eq_zero h0
    refine ⟨w, run_copy_none w dT sT 3 65 (some ⟨g, o, none⟩) A dLen dCap 0 c hdT info64size (Nat.min_eq_left (Nat.zero_le _)), ?_, fun _ _ _ h => h, fun _ _ => rfl, rfl⟩
    rw [hg]
    simp [nts]
  · obtain ⟨ad, rfl, _, _⟩ := h.at_ hpos
    have hr := run_copy_row (P := Tryz.prog) w dT sT 3 65 g o dLen dCap ad a.length c cur.toArray ty (nts a) hdT info64size hg (by rw [nts_length]; exact (Nat.min_eq_left hle).symm) (fun j v hj => by
      have hj' : j < a.length := by have := (List.getElem?_eq_some_iff.1 hj).1; simpa [nts] using this
      rw [h.cells j hj']
      rw [nts_get hj'] at hj
      exact hj) (by rw [nts_length]; simpa using hfit) (oneCell_nts a)
    rw [nts_length] at hr
    refine ⟨_, hr, setRow_heap w g _ _ _ _ hg, fun B w0 hB hb => setRow_below hb hB _, fun k hk => ?_, by simp [World.setRow]⟩
    simp [World.setRow, Array.getElem?_modify, show ¬ g = k from fun e => hk e.symm]

set_option maxRecDepth 100000 in
set_option maxHeartbeats 2000000 in
theorem zto_any {g n inv M : Nat} {ml ol rl : List Nat} (P : Nat → Prop) (A : Option Addr) (c : Nat) (a : List Nat) (w : World) (hF : FR w g n inv M ml ol rl) (h : RN w P A c a) (hP : ∀ b, P b → b < w.heap.size) (hl : a.length ≤ 6) (hlt : val 18446744073709551616 a < M) :
    Calls Tryz.prog 92 #[.pointer (some ⟨g, 0, none⟩), .slice A a.length c] w fun e w' => ∃ o, e = .returned (EV o) ∧ FE M n o (val 18446744073709551616 a) ∧ Below w.heap.size w w' := by
  have hg := hF.ff.fld.lt
  have l1 : ((w.alloc (.cells #[.int .u64 0, .int .u64 0, .int .u64 0, .int .u64 0, .int .u64 0, .int .u64 0] 109)).alloc (.cells #[.int .u64 0, .int .u64 0, .int .u64 0, .int .u64 0, .int .u64 0, .int .u64 0] 109)).heap[w.heap.size]? = some (.cells #[.int .u64 0, .int .u64 0, .int .u64 0, .int .u64 0, .int .u64 0, .int .u64 0] 109 (0, 0)) := (Below.heap_alloc _ _ _ (by simp)).trans (heap_alloc_new w _)
  have l2 : ((w.alloc (.cells #[.int .u64 0, .int .u64 0, .int .u64 0, .int .u64 0, .int .u64 0, .int .u64 0] 109)).alloc (.cells #[.int .u64 0, .int .u64 0, .int .u64 0, .int .u64 0, .int .u64 0, .int .u64 0] 109)).heap[w.heap.size + 1]? = some (.cells ([.int .u64 0, .int .u64 0, .int .u64 0, .int .u64 0, .int .u64 0, .int .u64 0] : List Value).toArray 109 (0, 0)) := by
    have := heap_alloc_new (w.alloc (.cells #[.int .u64 0, .int .u64 0, .int .u64 0, .int .u64 0, .int .u64 0, .int .u64 0] 109)) (.cells #[.int .u64 0, .int .u64 0, .int .u64 0, .int .u64 0, .int .u64 0, .int .u64 0] 109)
    rw [World.size_alloc] at this
    exact this
  have hB0 : Below w.heap.size w ((w.alloc (.cells #[.int .u64 0, .int .u64 0, .int .u64 0, .int .u64 0, .int .u64 0, .int .u64 0] 109)).alloc (.cells #[.int .u64 0, .int .u64 0, .int .u64 0, .int .u64 0, .int .u64 0, .int .u64 0] 109)) := ((Below.refl _ w).alloc (Nat.le_refl _) _).alloc (by simp) _
  obtain ⟨W', hcp, hw1, hw2, hw3, hw4⟩ := copy_into (dT := 23) (sT := 24) Tryz.underlying23 _ (w.heap.size + 1) 0 6 6 _ 109 l2 P A c a (h.below hB0 hP) hl (by simp; omega)
  have hB1 := hw2 w.heap.size w (by omega) hB0
  have hrb := (hw3 w.heap.size (by omega)).trans l1
  clear l1 l2 hw2 hw3 hw4 hB0
  have hpad : (([.int .u64 0, .int .u64 0, .int .u64 0, .int .u64 0, .int .u64 0, .int .u64 0] : List Value).take 0 ++ nts a ++ ([.int .u64 0, .int .u64 0, .int .u64 0, .int .u64 0, .int .u64 0, .int .u64 0] : List Value).drop (0 + a.length)) = nts (a ++ List.replicate (6 - a.length) 0) := by
    have e : ([.int .u64 0, .int .u64 0, .int .u64 0, .int .u64 0, .int .u64 0, .int .u64 0] : List Value) = List.replicate 6 (.int .u64 0) := rfl
    rw [e, List.take_zero, List.nil_append, Nat.zero_add, List.drop_replicate]
    simp [nts]
  rw [hpad] at hw1
  have hp6 : (a ++ List.replicate (6 - a.length) 0).length = 6 := by simp; omega
  have hpv : val 18446744073709551616 (a ++ List.replicate (6 - a.length) 0) = val 18446744073709551616 a := val_pad _ _ _
  have hpl : ∀ x ∈ a ++ List.replicate (6 - a.length) 0, x < 18446744073709551616 := fun x hx => by
    rcases List.mem_append.1 hx with h1 | h1
    · exact h.2.1 x h1
    · have := (List.mem_replicate.1 h1).2; omega
  generalize a ++ List.replicate (6 - a.length) 0 = pa at *
  have hpe : Elt M pa := ⟨hp6, hpl, by rw [hpv]; exact hlt⟩
  obtain ⟨x0, x1, x2, x3, x4, x5, hxe⟩ := six hp6
  obtain ⟨y0, y1, y2, y3, y4, y5, hye⟩ := six hF.relt.six
  have hcb : W'.heap[w.heap.size + 1]? = some (.cells #[.int .u64 (x0 : Int), .int .u64 (x1 : Int), .int .u64 (x2 : Int), .int .u64 (x3 : Int), .int .u64 (x4 : Int), .int .u64 (x5 : Int)] 109 (0, 0)) := by rw [hxe] at hw1; exact hw1
  obtain ⟨e0, e1, e2, e3, e4, e5⟩ := cells6 hcb
  have hFr := hF.below hB1 hg
  have f := fun j (hj : j < 6) => hFr.ff.fld.r_ hj
  have f0 := f 0 (by omega)
  have f1 := f 1 (by omega)
  have f2 := f 2 (by omega)
  have f3 := f 3 (by omega)
  have f4 := f 4 (by omega)
  have f5 := f 5 (by omega)
  rw [hye] at f0 f1 f2 f3 f4 f5
  simp only [Nat.add_zero, Nat.reduceAdd, dg_cons_zero, dg_cons_succ] at f0 f1 f2 f3 f4 f5
  have hmul := zmul_any pa rl W'.drew (hFr.ff.below ((Below.refl W'.heap.size W').drew) (by have := hB1.size; omega)) hpe hF.relt
  have hva : EV pa = .agg #[.int .u64 (x0 : Int), .int .u64 (x1 : Int), .int .u64 (x2 : Int), .int .u64 (x3 : Int), .int .u64 (x4 : Int), .int .u64 (x5 : Int)] := by rw [hxe]; rfl
  have hvb : EV rl = .agg #[.int .u64 (y0 : Int), .int .u64 (y1 : Int), .int .u64 (y2 : Int), .int .u64 (y3 : Int), .int .u64 (y4 : Int), .int .u64 (y5 : Int)] := by rw [hye]; rfl
  rw [hva, hvb] at hmul
  have Hmul := Lib.hid hmul
  have HF := Lib.hid hF
  have Hpv := Lib.hid hpv
  have z0 := blk_free hrb 0
  have zB1 := hB1.size
  have hlt1 : w.heap.size < W'.heap.size := blk_lt hrb
  clear hmul hva hvb hcb hw1 hpad hp6 hpl hpe hxe hye f hF hFr hlt
  go_enter Tryz.func92, Tryz.ntmps92
  go_wp2_with fail
  go_region_with (first
    | (go_at_call 102
       refine Hmul.out.mono ?_
       rintro e w2 ⟨o2, rfl, ho2, hv2, hB2⟩
       have hrb2 := (hB2.block w.heap.size hlt1).trans hrb
       obtain ⟨u0, u1, u2, u3, u4, u5, hoe⟩ := six ho2.six
       obtain ⟨r0, r1, r2, r3, r4, r5⟩ := cells6 hrb2
       have z0 := blk_free hrb2 0
       have z1 := blk_free hrb2 1
       have z2 := blk_free hrb2 2
       have z3 := blk_free hrb2 3
       have z4 := blk_free hrb2 4
       have z5 := blk_free hrb2 5
       have hve : EV o2 = .agg #[.int .u64 (u0 : Int), .int .u64 (u1 : Int), .int .u64 (u2 : Int), .int .u64 (u3 : Int), .int .u64 (u4 : Int), .int .u64 (u5 : Int)] := by rw [hoe]; rfl
       rw [hve]
       have Hoe := Lib.hid hoe
       have Hv2 := Lib.hid hv2
       clear hve hoe hv2))
  all_goals
    go_wp2
    refine end6 rfl rfl rfl (six_set hrb2 _ _ _ _ _ _) ?_
    refine ⟨o2, by rw [Hoe.out]; rfl, ⟨ho2, ?_⟩, six_below (hB1.trans ((⟨hB2.os, hB2.tape, hB2.output, hB2.size, hB2.block⟩ : Below W'.heap.size W' w2).mono zB1)) (Nat.le_refl _) _ _ _ _ _ _⟩
    have h1 : val 18446744073709551616 o2 * 18446744073709551616 ^ n % M = (val 18446744073709551616 a * 18446744073709551616 ^ n) * 18446744073709551616 ^ n % M := by
      rw [Hv2.out, Hpv.out, HF.out.rval, Nat.mul_mod_mod, Nat.mul_assoc]
    have h2 := cancelR HF.out.ff.invV h1
    rwa [Nat.mod_eq_of_lt ho2.lt] at h2
end Go.Proofs.YtaemogcomplhiaaGreatDoor

namespace Go.Proofs.YtaemogcomplhiaaGreatDoor

def NewtAt (m : Int) (r : Nat) (y : Int) : Prop := ∃ t, m * y = 1 + 2 ^ (2 ^ r) * t
theorem NewtAt.zero {m : Int} (h : m % 2 = 1) : NewtAt m 0 1 := ⟨(m - 1) / 2, by omega⟩
theorem NewtAt.step {m y : Int} {r : Nat} (h : NewtAt m r y) (hr : r < 6) : NewtAt m (r + 1) (y * ((2 - m * y % 18446744073709551616) % 18446744073709551616) % 18446744073709551616) := by
 obtain ⟨t, ht⟩ := h
 obtain ⟨z, hz⟩ := newton_wrap (m := m) (y := y)
 have hj : ∃ j, 2 ^ r + 2 ^ r + j = 64 := by
  have : r = 0 ∨ r = 1 ∨ r = 2 ∨ r = 3 ∨ r = 4 ∨ r = 5 := by omega
  rcases this with rfl | rfl | rfl | rfl | rfl | rfl
  · exact ⟨62, rfl⟩
  · exact ⟨60, rfl⟩
  · exact ⟨56, rfl⟩
  · exact ⟨48, rfl⟩
  · exact ⟨32, rfl⟩
  · exact ⟨0, rfl⟩
 obtain ⟨j, hj⟩ := hj
 obtain ⟨s, hs⟩ := newton (z := z) ht hz hj
 exact ⟨s, by rw [Nat.pow_succ, Nat.mul_two]; exact hs⟩
theorem NewtAt.fin {m : Int} {y : Int} (h : NewtAt m 6 y) : ∃ t, m * y = 1 + 18446744073709551616 * t := by
 obtain ⟨t, ht⟩ := h
 exact ⟨t, ht⟩
theorem val_pow (n : Nat) : val 18446744073709551616 (List.replicate n 0 ++ [1]) = 18446744073709551616 ^ n := by
 rw [val_append, val_replicate, List.length_replicate]; simp
theorem dig_len {v M k : Nat} (h : v ≤ M) (hM : (digs 18446744073709551616 M).length ≤ k) : (digs 18446744073709551616 v).length ≤ k := Nat.le_trans (digs_length_mono (by omega) h) hM
theorem dig_mul {x y M k : Nat} (hx : x ≤ M) (hy : y ≤ M) (hM : (digs 18446744073709551616 M).length ≤ k) : (digs 18446744073709551616 (x * y)).length ≤ k + k := by
 have h1 := lt_pow_digs (B := 18446744073709551616) (by omega) M
 have h2 : 18446744073709551616 ^ (digs 18446744073709551616 M).length ≤ 18446744073709551616 ^ k := Nat.pow_le_pow_right (by omega) hM
 refine digs_length_of_lt (by omega) ?_
 rw [Nat.pow_add]
 have h3 : x * y ≤ M * M := Nat.mul_le_mul hx hy
 have h4 : M * M < 18446744073709551616 ^ k * 18446744073709551616 ^ k := Nat.mul_lt_mul'' (by omega) (by omega)
 omega
theorem dig_add {x y M k : Nat} (hx : x ≤ M) (hy : y ≤ M) (hM : (digs 18446744073709551616 M).length ≤ k) : (digs 18446744073709551616 (x + y)).length ≤ k + 1 := by
 have h1 := lt_pow_digs (B := 18446744073709551616) (by omega) M
 have h2 : 18446744073709551616 ^ (digs 18446744073709551616 M).length ≤ 18446744073709551616 ^ k := Nat.pow_le_pow_right (by omega) hM
 refine digs_length_of_lt (by omega) ?_
 rw [Nat.pow_succ]
 omega
end Go.Proofs.YtaemogcomplhiaaGreatDoor

namespace Go.Proofs.YtaemogcomplhiaaGreatDoor

def nbits (x : Nat) : Nat := if x = 0 then 0 else x.log2 + 1
theorem nbits_zero : nbits 0 = 0 := rfl
theorem nbits_eq {x k : Nat} (h1 : 2 ^ k ≤ x) (h2 : x < 2 ^ (k + 1)) : nbits x = k + 1 := by
 have hx : x ≠ 0 := by have := Nat.pow_pos (n := k) (show 0 < 2 by omega); omega
 have h3 : k ≤ x.log2 := (Nat.le_log2 hx).2 h1
 have h4 : x.log2 < k + 1 := (Nat.log2_lt hx).2 h2
 simp [nbits, hx]
 omega
theorem nbits_bounds {x : Nat} (hx : x ≠ 0) : 2 ^ (nbits x - 1) ≤ x ∧ x < 2 ^ nbits x ∧ 1 ≤ nbits x := by
 simp only [nbits, hx, if_false, Nat.add_sub_cancel]
 exact ⟨Nat.log2_self_le hx, Nat.lt_log2_self, by omega⟩
theorem nbits_le {x k : Nat} (h : x < 2 ^ k) : nbits x ≤ k := by
 rcases Nat.eq_zero_or_pos x with rfl | h0
 · simp [nbits]
 · obtain ⟨h1, h2, h3⟩ := nbits_bounds (Nat.pos_iff_ne_zero.1 h0)
   rcases Nat.lt_or_ge k (nbits x) with h4 | h4
   · have : 2 ^ k ≤ 2 ^ (nbits x - 1) := Nat.pow_le_pow_right (by omega) (by omega)
     omega
   · exact h4
theorem lt_of_nbits {x k : Nat} (h : nbits x ≤ k) : x < 2 ^ k := by
 rcases Nat.eq_zero_or_pos x with rfl | h0
 · exact Nat.pow_pos (by omega)
 · obtain ⟨_, h2, _⟩ := nbits_bounds (Nat.pos_iff_ne_zero.1 h0)
   exact Nat.lt_of_lt_of_le h2 (Nat.pow_le_pow_right (by omega) h)
theorem nbits_top {m : Nat} (hm : 0 < m) {x : Nat} (hx : 0 < x) {k : Nat} (hk : 0 < k) (h1 : 2 ^ (k - 1) ≤ dg (digs (2 ^ m) x) ((digs (2 ^ m) x).length - 1)) (h2 : dg (digs (2 ^ m) x) ((digs (2 ^ m) x).length - 1) < 2 ^ k) :
 nbits x = m * ((digs (2 ^ m) x).length - 1) + k := by
 have hB : 2 ≤ 2 ^ m := by
  have : 2 ^ 1 ≤ 2 ^ m := Nat.pow_le_pow_right (by omega) hm
  simpa using this
 have hv := val_digs hB x
 have hlt := digs_lt hB x
 have hne : 0 < (digs (2 ^ m) x).length := by rw [digs_pos hB hx]; simp
 generalize digs (2 ^ m) x = l at *
 have h3 := val_take_getD (2 ^ m) l (l.length - 1)
 rw [show l.length - 1 + 1 = l.length by omega, List.take_length, hv] at h3
 have h4 := val_lt (B := 2 ^ m) (l := l.take (l.length - 1)) fun y hy => hlt y (List.mem_of_mem_take hy)
 rw [List.length_take, Nat.min_eq_left (by omega)] at h4
 have h5 : (2 ^ m) ^ (l.length - 1) = 2 ^ (m * (l.length - 1)) := by rw [Nat.pow_mul]
 rw [h5] at h3 h4
 generalize m * (l.length - 1) = e at *
 generalize dg l (l.length - 1) = t at *
 obtain ⟨j, rfl⟩ : ∃ j, k = j + 1 := ⟨k - 1, by omega⟩
 rw [Nat.add_sub_cancel] at h1
 have h6 : 2 ^ e * 2 ^ j ≤ 2 ^ e * t := Nat.mul_le_mul_left _ h1
 have h7 : 2 ^ e * (t + 1) ≤ 2 ^ e * 2 ^ (j + 1) := Nat.mul_le_mul_left _ h2
 rw [← Nat.pow_add] at h6 h7
 rw [Nat.mul_add] at h7
 exact nbits_eq (k := e + j) (by omega) (by rw [show e + j + 1 = e + (j + 1) by omega]; omega)
theorem val_shift {m : Nat} (l : List Nat) (hl : ∀ x ∈ l, x < 2 ^ m) (k j : Nat) (hj : j ≤ m) : ∃ r, val (2 ^ m) l / 2 ^ (m * k + j) = dg l k / 2 ^ j + 2 ^ (m - j) * r := by
 refine ⟨val (2 ^ m) (l.drop (k + 1)), ?_⟩
 have h1 : val (2 ^ m) l = val (2 ^ m) (l.take k) + (2 ^ m) ^ k * (dg l k + 2 ^ m * val (2 ^ m) (l.drop (k + 1))) := by
  rcases Nat.lt_or_ge k l.length with h | h
  · have := val_take_drop (2 ^ m) l (Nat.le_of_lt h)
    rw [this, List.drop_eq_getElem_cons h, val_cons, dg, getD_eq' h]
  · rw [List.take_of_length_le h, List.drop_eq_nil_of_le (by omega), dg, List.getD_eq_getElem?_getD, List.getElem?_eq_none h]
    simp
 have h2 : val (2 ^ m) (l.take k) < (2 ^ m) ^ k := by
  have h3 := val_lt (B := 2 ^ m) (l := l.take k) fun y hy => hl y (List.mem_of_mem_take hy)
  refine Nat.lt_of_lt_of_le h3 (Nat.pow_le_pow_right (Nat.pow_pos (by omega)) ?_)
  rw [List.length_take]; omega
 rw [Nat.pow_add, Nat.pow_mul, ← Nat.div_div_eq_div_mul, h1, Nat.add_mul_div_left _ _ (Nat.pow_pos (Nat.pow_pos (by omega))), Nat.div_eq_of_lt h2, Nat.zero_add]
 have e : 2 ^ m = 2 ^ j * 2 ^ (m - j) := by rw [← Nat.pow_add, show j + (m - j) = m by omega]
 generalize hv : val (2 ^ m) (l.drop (k + 1)) = v
 rw [e, Nat.mul_assoc, Nat.add_mul_div_left _ _ (Nat.pow_pos (by omega))]
theorem val_bit {m : Nat} (l : List Nat) (hl : ∀ x ∈ l, x < 2 ^ m) (k j : Nat) (hj : j < m) : val (2 ^ m) l / 2 ^ (m * k + j) % 2 = dg l k / 2 ^ j % 2 := by
 obtain ⟨r, hr⟩ := val_shift l hl k j (by omega)
 rw [hr, show m - j = (m - j - 1) + 1 by omega, Nat.pow_succ, Nat.mul_right_comm, Nat.add_mul_mod_self_right]
theorem val_byte {m : Nat} (l : List Nat) (hl : ∀ x ∈ l, x < 2 ^ m) (k j : Nat) (hj : j + 8 ≤ m) : val (2 ^ m) l / 2 ^ (m * k + j) % 256 = dg l k / 2 ^ j % 256 := by
 obtain ⟨r, hr⟩ := val_shift l hl k j (by omega)
 rw [hr, show m - j = (m - j - 8) + 8 by omega, Nat.pow_add, show (2 : Nat) ^ 8 = 256 by rfl, Nat.mul_right_comm, Nat.add_mul_mod_self_right]
def bytesOf (x n : Nat) : List Nat := (List.range n).map fun i => x / 2 ^ (8 * (n - 1 - i)) % 256
theorem bytesOf_length (x n : Nat) : (bytesOf x n).length = n := by simp [bytesOf]
end Go.Proofs.YtaemogcomplhiaaGreatDoor

namespace Go.Proofs.YtaemogcomplhiaaGreatDoor
open Go.RowKit

theorem dg_last_pos {x : Nat} (hx : 0 < x) : 0 < dg (digs 18446744073709551616 x) ((digs 18446744073709551616 x).length - 1) := by
 have hne : digs 18446744073709551616 x ≠ [] := by rw [digs_pos (by omega) hx]; simp
 have h := digs_last (B := 18446744073709551616) (by omega) x hne
 have hpos := List.length_pos_iff.2 hne
 rw [List.getLast_eq_getElem] at h
 rw [dg, getD_eq' (by omega)]
 omega
theorem nbits_limbs {x : Nat} (hx : 0 < x) : nbits x = 64 * ((digs 18446744073709551616 x).length - 1) + Lib.bitLen (dg (digs 18446744073709551616 x) ((digs 18446744073709551616 x).length - 1)) := by
 have h0 := dg_last_pos hx
 have h1 := getD_lt (B := 18446744073709551616) (by omega) (digs_lt (by omega) x) ((digs 18446744073709551616 x).length - 1)
 have h2 := Lib.bitLenAux_bounds 64 _ h1 (by omega)
 have h3 := nbits_top (m := 64) (by omega) hx (k := Lib.bitLen (dg (digs 18446744073709551616 x) ((digs 18446744073709551616 x).length - 1))) h2.1 h2.2.1 h2.2.2
 exact h3

set_option maxRecDepth 100000 in
set_option maxHeartbeats 1000000 in
theorem bits_any (P : Nat → Prop) (A : Option Addr) (c : Nat) (a : List Nat) (w : World) (h : RN w P A c a) :
 Calls Tryz.prog 62 #[.slice A a.length c] w fun e w' => e = .returned (.int .i64 (nbits (val 18446744073709551616 a) : Int)) ∧ w = w' := by
 have ta := trim_any P A c a w h
 replace h := h.trim
 generalize val 18446744073709551616 a = x at *
 rcases Nat.eq_zero_or_pos x with rfl | hx
 · rw [digs_zero] at ta
   have Ta := Lib.hid ta
   clear ta
   go_enter Tryz.func62, Tryz.ntmps62
   go_wp2_with fail
   refine Ta.out.mono ?_
   rintro e w1 ⟨rfl, rfl⟩
   go_wp2
   go_ret
   exact ⟨rfl, rfl⟩
 · have hb := nbits_limbs hx
   have hlt := h.2.dgLt
   obtain ⟨h1, h2, h3⟩ := h.cap
   have hne : 0 < (digs 18446744073709551616 x).length := by rw [digs_pos (by omega) hx]; simp
   generalize digs 18446744073709551616 x = l at *
   obtain ⟨n, hn⟩ : ∃ n, l.length = n + 1 := ⟨l.length - 1, by omega⟩
   obtain ⟨ad, rfl, _, q1⟩ := h.at_ (i := n) (by omega)
   rw [hn, Nat.add_sub_cancel] at hb
   have hl := hlt n
   have hbl : Lib.bitLen (dg l n) ≤ 64 := Lib.bitLen_le _ 64 (by omega) hl
   have hlen := Tryz.bits_Len64 (dg l n : Int) w (by omega) (by omega)
   rw [Int.toNat_natCast] at hlen
   generalize Lib.bitLen (dg l n) = k at *
   have Hlen := Lib.hid hlen
   have Hb := Lib.hid hb
   rw [hn] at ta h1 h3
   have Ta := Lib.hid ta
   clear ta hb hlen hl hlt hne hx hn h
   go_enter Tryz.func62, Tryz.ntmps62
   go_wp2_with fail
   refine Ta.out.mono ?_
   rintro e w1 ⟨rfl, rfl⟩
   go_wp2_with fail
   refine Hlen.out.mono ?_
   rintro e w1 ⟨rfl, rfl⟩
   go_wp2
   go_ret
   exact ⟨ret_int (by rw [Hb.out]; simp), rfl⟩

def bitOf (x : Nat) (i : Int) : Nat := if i < 0 then 0 else x / 2 ^ i.toNat % 2
theorem mask1 (x : Nat) : x &&& 1 = x % 2 := Nat.and_one_is_mod x
theorem and_one (d j : Nat) (hd : d < 18446744073709551616) : bits .and .u64 ((d : Int) / 2 ^ j) 1 = ((d / 2 ^ j % 2 : Nat) : Int) := by
 have h0 : d / 2 ^ j ≤ d := Nat.div_le_self d _
 have h := bits_and_u64_nat (d / 2 ^ j) 1 (by omega) (by omega)
 rw [mask1] at h
 rw [← h]
 simp

set_option maxRecDepth 100000 in
set_option maxHeartbeats 1000000 in
theorem bit_any (P : Nat → Prop) (A : Option Addr) (c : Nat) (a : List Nat) (i : Int) (w : World) (h : RN w P A c a) (hi : i ≤ 9223372036854775807) :
 Calls Tryz.prog 107 #[.slice A a.length c, .int .i64 i] w fun e w' => e = .returned (.int .u64 (bitOf (val 18446744073709551616 a) i : Int)) ∧ w = w' := by
 obtain ⟨h1, h2, h3⟩ := h.cap
 by_cases h0 : i < 0
 · have hb := Lib.hid (show bitOf (val 18446744073709551616 a) i = 0 by simp [bitOf, h0])
   go_enter Tryz.func107, Tryz.ntmps107
   go_wp2
   go_ret
   rw [hb.out]
   exact ⟨rfl, rfl⟩
 · obtain ⟨n, rfl⟩ : ∃ n : Nat, i = (n : Int) := ⟨i.toNat, by omega⟩
   obtain ⟨k, j, hj, hn⟩ : ∃ k j, j < 64 ∧ n = 64 * k + j := ⟨n / 64, n % 64, by omega, by omega⟩
   have hb : bitOf (val 18446744073709551616 a) (n : Int) = dg a k / 2 ^ j % 2 := by
    have := val_bit (m := 64) a h.2.1 k j hj
    rw [bitOf, if_neg h0, Int.toNat_natCast, hn]
    exact this
   have e1 : (n : Int) / 64 = (k : Int) := by omega
   have e2 : (n : Int) % 64 = (j : Int) := by omega
   have e4 : IntKind.i64.wrap ((n : Int) / 64) = (k : Int) := by rw [e1]; exact IntWalk.i64_in _ (by omega)
   by_cases hk : k < a.length
   · obtain ⟨ad, rfl, _, q1⟩ := h.at_ hk
     have hd := h.2.dgLt k
     have e3 := and_one (dg a k) j hd
     have hj' : (j : Int) < 64 := by omega
     have hk' : (k : Int) < (a.length : Int) := by omega
     have Hb := Lib.hid hb
     clear hb hn hd h hi
     go_enter Tryz.func107, Tryz.ntmps107
     go_wp2
     go_ret
     exact ⟨ret_int (by rw [Hb.out]; simp), rfl⟩
   · have hd : dg a k = 0 := dg_none (by omega)
     rw [hd, Nat.zero_div] at hb
     have Hb := Lib.hid hb
     have hk' : ¬ (k : Int) < (a.length : Int) := by omega
     have hk2 : (a.length : Int) ≤ (k : Int) := by omega
     have hkb : (k : Int) ≤ 144115188075855871 := by omega
     clear hb hn hd h hi
     go_enter Tryz.func107, Tryz.ntmps107
     go_wp2
     go_ret
     rw [Hb.out]
     exact ⟨rfl, rfl⟩
end Go.Proofs.YtaemogcomplhiaaGreatDoor

namespace Go.Proofs.YtaemogcomplhiaaGreatDoor
open Go.RowKit

theorem RN.one (w : World) (x : Nat) (hx : x < 18446744073709551616) : RN (w.alloc (.cells #[.int .u64 (x : Int)] 65)) (In w.heap.size (w.heap.size + 1)) (some ⟨w.heap.size, 0, none⟩) 1 [x] :=
 ⟨RS.fresh #[.int .u64 (x : Int)] 65 1 1 rfl (by unfold maxLen; omega) ⟨Nat.le_refl _, by omega⟩, by simpa [Lim] using hx⟩
abbrev RU (w : World) (A : Option Addr) (c : Nat) (l : List Nat) : Prop := RN w (fun b => b < w.heap.size) A c l
theorem RN.up {w w' : World} {A : Option Addr} {c : Nat} {l : List Nat} (h : RU w A c l) (hB : Below w.heap.size w w') : RU w' A c l :=
 (h.below hB fun _ hb => hb).mono fun _ hb => Nat.lt_of_lt_of_le hb hB.size
theorem OB.ru {w : World} {base : Nat} {A : Option Addr} {c : Nat} {l : List Nat} (h : OB w base A c l) : RU w A c l := h.rn.mono fun _ hb => hb.2
theorem lt_self {w : World} : ∀ b, b < w.heap.size → b < w.heap.size := fun _ h => h
end Go.Proofs.YtaemogcomplhiaaGreatDoor
