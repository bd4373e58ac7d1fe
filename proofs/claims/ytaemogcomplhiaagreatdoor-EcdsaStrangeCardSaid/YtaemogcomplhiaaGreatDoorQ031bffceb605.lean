/- Elements of a field in memory: how they are read and laid; a curve's record in later worlds. Whether a point is on a curve: curve's own reckoning. Arguments opened: limbs and bytes that came in, as the walks want them. Plain arithmetic of numbers that are read from bytes: nothing of the program. What limb.FromBytes, the reference's FromBytes, Bits and Bytes compute. Curves and points in memory; curve's of, none and on, in these words. curve: the numbers of a curve, and whether a point is on it. What the reference's Quo computes: quotient and remainder. What baileyref2's Mod and Mul compute. -/
import Derived.Test.YtaemogcomplhiaaGreatDoorQ9e5692c08ee8
import Derived.Deep.MidRow
import Derived.Deep.QuietTactic
import Derived.BigQuiet
import Derived.Deep.DeepCutAuto
import Derived.ProofKit
import Derived.OpenShut
import Derived.ShutString
import Derived.ChangeOld
import Derived.ChangeSame
import Derived.Deep.Slices
import Derived.SizedLaws
import Derived.Lib.SmallJoins
import Derived.RegionTactic
import Derived.ChangeAlike
import Derived.Laws.ResultCell
import Derived.Sort.AtCall
namespace Go.Proofs.YtaemogcomplhiaaGreatDoor
open Go.RowKit

def BlkE (X : World) (b : Nat) (l : List Nat) : Prop := X.heap[b]? = some (.cells (nts l).toArray 109 (0, 0))
theorem BlkE.ext {X Y : World} {b : Nat} {l : List Nat} (h : BlkE X b l) (hE : Ext X Y) : BlkE Y b l := hE.at_ h
theorem BlkE.range {X : World} {b : Nat} {l : List Nat} (h : BlkE X b l) : X.rangeAt b 0 (nts l) := fun j v hv => by
 rw [Nat.zero_add, blk_cell h j]
 simpa using hv
theorem BlkE.lt {X : World} {b : Nat} {l : List Nat} (h : BlkE X b l) : b < X.heap.size := blk_lt h
theorem infoE : (Tryz.prog.info? 109).map (·.size) = some 6 := by kernel_rfl
theorem loadE {X : World} {b o : Nat} {l : List Nat} (h : X.rangeAt b o (nts l)) (h6 : l.length = 6) : (Instr.loadAt 109 (.pointer (some ⟨b, o, none⟩))).run Tryz.prog X = .ok (EV l) X :=
 run_loadAt_mid X b o 109 (nts l) _ h Tryz.underlying109 rfl (by rw [nts_length, h6]; exact infoE)
structure Lay (b : Nat) (l : List Nat) (X Y : World) : Prop where
 just : Just b X Y
 blk : BlkE Y b l
 size : Y.heap.size = X.heap.size
theorem storeE {X : World} {b : Nat} {l : List Nat} {cs : List Value} (h : X.heap[b]? = some (.cells cs.toArray 109 (0, 0))) (hc : cs.length = 6) (h6 : l.length = 6) :
 ∃ Y, (Instr.storeAt 109 (.pointer (some ⟨b, 0, none⟩)) (EV l)).run Tryz.prog X = .ok () Y ∧ Lay b l X Y := by
 have ht : X.there b 0 (nts l).toArray.size := fun j hj => by
  have hj' : j < 6 := by simpa [nts, h6] using hj
  refine ⟨?_, blk_free h _⟩
  rw [Nat.zero_add, blk_cell h j]
  simp [hc, hj']
 have hr := run_storeAt_mid (P := Tryz.prog) X b 0 109 (nts l).toArray ht (by rw [List.size_toArray, nts_length, h6]; exact infoE) (all_oneCell_toArray (oneCell_nts l))
 obtain ⟨a0, a1, a2, a3, a4, a5, rfl⟩ := six h6
 obtain ⟨c0, c1, c2, c3, c4, c5, rfl⟩ : ∃ a b c d e f, cs = [a, b, c, d, e, f] := by
  match cs, hc with
  | [a, b, c, d, e, f], _ => exact ⟨a, b, c, d, e, f, rfl⟩
 refine ⟨_, hr, ?_⟩
 have e : X.setCells b 0 (nts [a0, a1, a2, a3, a4, a5]).toArray.toList = ((((((X.setCell ⟨b, 0, none⟩ (.int .u64 (a0 : Int))).setCell ⟨b, 0 + 1, none⟩ (.int .u64 (a1 : Int))).setCell ⟨b, 0 + 2, none⟩ (.int .u64 (a2 : Int))).setCell ⟨b, 0 + 3, none⟩ (.int .u64 (a3 : Int))).setCell ⟨b, 0 + 4, none⟩ (.int .u64 (a4 : Int))).setCell ⟨b, 0 + 5, none⟩ (.int .u64 (a5 : Int))) := rfl
 rw [e]
 refine ⟨((((((Just.refl b X).set _ _).set _ _).set _ _).set _ _).set _ _).set _ _, ?_, by simp [World.setCell]⟩
 exact six_mid [] [] (j := 0) rfl h
theorem wp_loadE {op : Oper} {a : Act} {X : World} {K : Act → World → Prop} {Q : Exit → Act → World → Prop} (x : Operand) (ho : op.op = .load 109 x) {b o : Nat} {l : List Nat} (hx : a.eval x = .pointer (some ⟨b, o, none⟩)) (h : X.rangeAt b o (nts l)) (h6 : l.length = 6) (hK : K (a.put op.dst (EV l)) X) : op.wp Tryz.prog a X K Q :=
 wp_load_mid 109 x ho b o hx (nts l) _ h Tryz.underlying109 rfl (by rw [nts_length, h6]; exact infoE) hK
theorem wp_storeE {op : Oper} {a : Act} {X : World} {K : Act → World → Prop} {Q : Exit → Act → World → Prop} (x y : Operand) (ho : op.op = .store 109 x y) (hd : op.dst = none) {b : Nat} {l : List Nat} {cs : List Value}
 (hx : a.eval x = .pointer (some ⟨b, 0, none⟩)) (hy : a.eval y = EV l) (h : X.heap[b]? = some (.cells cs.toArray 109 (0, 0))) (hc : cs.length = 6) (h6 : l.length = 6) (hK : ∀ Y, Lay b l X Y → K a Y) : op.wp Tryz.prog a X K Q := by
 obtain ⟨Y, hr, hl⟩ := storeE h hc h6
 unfold Oper.wp execOp
 simp only [ho, hx, hy, Sem.run_bind, hr, Result.andThen_ok]
 rw [Sem.run_pure]
 show K (a.put op.dst undef) Y
 rw [hd]
 exact hK Y hl
theorem Lay.ext {b : Nat} {l : List Nat} {w X Y : World} (h : Lay b l X Y) (hE : Ext w X) (hb : w.heap.size ≤ b) : Ext w Y := Below.trans hE (h.just.below hb hE.bsize)
theorem Lay.other {b c : Nat} {l : List Nat} {X Y : World} {o : Obj} (h : Lay b l X Y) (hc : c ≠ b) (hx : X.heap[c]? = some o) : Y.heap[c]? = some o := (h.just.block c (blk_lt hx) hc).trans hx
def VE (X : World) (M n b x : Nat) : Prop := ∃ l, BlkE X b l ∧ FE M n l x
theorem VE.ext {X Y : World} {M n b x : Nat} (h : VE X M n b x) (hE : Ext X Y) : VE Y M n b x := let ⟨l, h1, h2⟩ := h; ⟨l, h1.ext hE, h2⟩
theorem VE.load {X : World} {M n b x : Nat} (h : VE X M n b x) : ∃ l, (Instr.loadAt 109 (.pointer (some ⟨b, 0, none⟩))).run Tryz.prog X = .ok (EV l) X ∧ FE M n l x := let ⟨l, h1, h2⟩ := h; ⟨l, loadE h1.range h2.elt.six, h2⟩
theorem Lay.ve {b c x M n : Nat} {l : List Nat} {X Y : World} (h : Lay b l X Y) (hc : c ≠ b) (hx : VE X M n c x) : VE Y M n c x := let ⟨o, h1, h2⟩ := hx; ⟨o, h.other hc h1, h2⟩
theorem Lay.mk' {b x M n : Nat} {l : List Nat} {X Y : World} (h : Lay b l X Y) (hf : FE M n l x) : VE Y M n b x := ⟨l, h.blk, hf⟩

section
variable {Q : Exit → Act → World → Prop} {ol : List Oper} {m : Nat} {L AL : List Nat} {R : Nat → (Nat → Value) → World → Prop} {a : Act} {w : World} {F : List Oper → Prop} {k n : Nat} {o : Oper} {l : List Oper} {u : Value}
theorem lE (k' n' j : Nat) {b i M n1 z : Nat} {e : List Nat} {x : Operand} (h : ∀ X, Ext w X → X.rangeAt b i (nts e)) (hf : FE M n1 e z) (hs : Par.AllOps (Par.StepO Tryz.prog ol Q Ext m L AL R a w) F k' n' l) (hr : ∀ f X, R j (Par.mask (fun i => L.getD i 0) j f) X → f j = u := by exact fun _ _ h => h) (hR : ∀ f X, (∃ o, f k = EV o ∧ FE M n1 o z) → R k (Par.mask (fun i => L.getD i 0) k f) X := by exact fun _ _ h => h) (hk : k + 1 = k' := by rfl) (hn : n' + 1 = n := by rfl) (ha : AL.contains k = false := by kernel_rfl)
 (hj : (L.getD k 0).testBit j = true := by kernel_rfl)
 (hw : ∀ f, Region.wanted o (yielded ol.toArray (Par.put ol.toArray (Par.nd (fun i => L.getD i 0) k) (Par.upd f j u) (List.range m) a).tmps) = true := by intro _; kernel_rfl)
 (ho : o.op = .load 109 x := by rfl) (hx : ∀ f, (Par.put ol.toArray (Par.nd (fun i => L.getD i 0) k) (Par.upd f j u) (List.range m) a).eval x = .pointer (some ⟨b, i, none⟩) := by intro _; kernel_rfl) : Par.AllOps (Par.StepO Tryz.prog ol Q Ext m L AL R a w) F k n (o :: l) :=
 Par.vx (v := EV e) (fun f => Par.upd f j u) hs (fun f X h => Par.upd_self (hr f X (h j hj))) (fun f X h => hR f X ⟨e, h, hf⟩) hk hn ha hw (fun f X hX => by
  have hrun := run_loadAt_mid (P := Tryz.prog) X b i 109 (nts e) _ (h X hX) Tryz.underlying109 rfl (by rw [nts_length, hf.elt.six]; exact infoE)
  unfold execOp
  simp only [ho, Sem.run_bind, hx, hrun, Result.andThen_ok]
  rfl)
theorem lX (k' n' : Nat) {b i M n1 z : Nat} {x : Operand} (h : ∀ X, Ext w X → ∃ e, X.rangeAt b i (nts e) ∧ FE M n1 e z) (hs : Par.AllOps (Par.StepO Tryz.prog ol Q Ext m L AL R a w) F k' n' l) (hR : ∀ f X, (∃ o, f k = EV o ∧ FE M n1 o z) → R k (Par.mask (fun i => L.getD i 0) k f) X := by exact fun _ _ h => h) (hk : k + 1 = k' := by rfl) (hn : n' + 1 = n := by rfl) (ha : AL.contains k = false := by kernel_rfl)
 (hw : ∀ f, Region.wanted o (yielded ol.toArray (Par.put ol.toArray (Par.nd (fun i => L.getD i 0) k) f (List.range m) a).tmps) = true := by intro _; kernel_rfl)
 (ho : o.op = .load 109 x := by rfl) (hx : ∀ f, (Par.put ol.toArray (Par.nd (fun i => L.getD i 0) k) f (List.range m) a).eval x = .pointer (some ⟨b, i, none⟩) := by intro _; kernel_rfl) : Par.AllOps (Par.StepO Tryz.prog ol Q Ext m L AL R a w) F k n (o :: l) :=
 Par.vy hs hk hn ha hw (fun f X hX => by
  obtain ⟨e, h1, hf⟩ := h X hX
  have hrun := run_loadAt_mid (P := Tryz.prog) X b i 109 (nts e) _ h1 Tryz.underlying109 rfl (by rw [nts_length, hf.elt.six]; exact infoE)
  refine ⟨EV e, ?_, fun Y _ => hR _ _ ⟨e, by simp [Par.upd], hf⟩⟩
  unfold execOp
  simp only [ho, Sem.run_bind, hx, hrun, Result.andThen_ok]
  rfl)
theorem fc (k' n' i j j' : Nat) {F' : FuncId} {pf : Value} {M n1 x y z z' : Nat} (hc : ∀ X, Ext w X → ∀ o1 o2, FE M n1 o1 x → FE M n1 o2 y → Calls Tryz.prog F' #[pf, EV o1, EV o2] X fun e w' => ∃ o, e = .returned (EV o) ∧ FE M n1 o z' ∧ Ext X w') (hz : z' = z) (hs : Par.AllOps (Par.StepO Tryz.prog ol Q Ext m L AL R a w) F k' n' l)
 (hr : ∀ f X, R i (Par.mask (fun i => L.getD i 0) i f) X → f i = pf := by exact fun _ _ h => h) (h1 : ∀ f X, R j (Par.mask (fun i => L.getD i 0) j f) X → ∃ o, f j = EV o ∧ FE M n1 o x := by exact fun _ _ h => h) (h2 : ∀ f X, R j' (Par.mask (fun i => L.getD i 0) j' f) X → ∃ o, f j' = EV o ∧ FE M n1 o y := by exact fun _ _ h => h)
 (hR : ∀ f X, (∃ o, f k = EV o ∧ FE M n1 o z) → R k (Par.mask (fun i => L.getD i 0) k f) X := by exact fun _ _ h => h) (hk : k + 1 = k' := by rfl) (hn : n' + 1 = n := by rfl) (ha : AL.contains k = false := by kernel_rfl) (hi : (L.getD k 0).testBit i = true := by kernel_rfl) (hj : (L.getD k 0).testBit j = true := by kernel_rfl) (hj' : (L.getD k 0).testBit j' = true := by kernel_rfl)
 (hw : ∀ f, Region.wanted o (yielded ol.toArray (Par.put ol.toArray (Par.nd (fun i => L.getD i 0) k) f (List.range m) a).tmps) = true := by intro _; kernel_rfl)
 (hrun : ∀ f X, (execOp (Par.put ol.toArray (Par.nd (fun i => L.getD i 0) k) f (List.range m) a).eval o).run Tryz.prog X = .ok (.enter F' #[f i, f j, f j']) X := by intro _ _; kernel_rfl) : Par.AllOps (Par.StepO Tryz.prog ol Q Ext m L AL R a w) F k n (o :: l) :=
 Par.cx (args := fun f => #[f i, f j, f j']) hs hk hn ha (fun f _ _ => hw f) hrun fun f X hX h => by
  obtain ⟨o1, e1, g1⟩ := h1 f X (h.out j hj)
  obtain ⟨o2, e2, g2⟩ := h2 f X (h.out j' hj')
  rw [hr f X (h.out i hi), e1, e2]
  refine (hc X hX o1 o2 g1 g2).mono ?_
  rintro e w' ⟨v, rfl, hv, hE⟩
  exact ⟨EV v, rfl, hE, fun Y _ => hR _ _ ⟨v, by simp [Par.upd], hz ▸ hv⟩⟩
end

section
variable {w X : World} {P0 : Nat → Prop} {k g size n inv M bb : Nat} {pl nl bl xl yl ml ol rl tl fl : List Nat} {Ap An Ab Ax Ay : Option Addr} {cp cn cb cx cy : Nat}
theorem Num.ext (h : Num w P0 k g size n inv M bb pl nl bl xl yl ml ol rl tl fl Ap An Ab Ax Ay cp cn cb cx cy) (hP : ∀ b, P0 b → b < w.heap.size) (hE : Ext w X) : Num X P0 k g size n inv M bb pl nl bl xl yl ml ol rl tl fl Ap An Ab Ax Ay cp cn cb cx cy :=
 ⟨hE.at_ h.blk, h.p.below hE hP, h.nn.below hE hP, h.b.below hE hP, h.x.below hE hP, h.y.below hE hP, h.fr.below hE h.fr.ff.fld.lt, h.pv, h.three, h.fb⟩
theorem Num.c_size (h : Num w P0 k g size n inv M bb pl nl bl xl yl ml ol rl tl fl Ap An Ab Ax Ay cp cn cb cx cy) : w.cell? ⟨k, 0, none⟩ = some (.int .i64 (size : Int)) := blk_cell h.blk 0
theorem Num.c_p (h : Num w P0 k g size n inv M bb pl nl bl xl yl ml ol rl tl fl Ap An Ab Ax Ay cp cn cb cx cy) : w.cell? ⟨k, 1, none⟩ = some (.slice Ap pl.length cp) := blk_cell h.blk 1
theorem Num.c_n (h : Num w P0 k g size n inv M bb pl nl bl xl yl ml ol rl tl fl Ap An Ab Ax Ay cp cn cb cx cy) : w.cell? ⟨k, 2, none⟩ = some (.slice An nl.length cn) := blk_cell h.blk 2
theorem Num.c_x (h : Num w P0 k g size n inv M bb pl nl bl xl yl ml ol rl tl fl Ap An Ab Ax Ay cp cn cb cx cy) : w.cell? ⟨k, 4, none⟩ = some (.slice Ax xl.length cx) := blk_cell h.blk 4
theorem Num.c_y (h : Num w P0 k g size n inv M bb pl nl bl xl yl ml ol rl tl fl Ap An Ab Ax Ay cp cn cb cx cy) : w.cell? ⟨k, 5, none⟩ = some (.slice Ay yl.length cy) := blk_cell h.blk 5
theorem Num.c_f (h : Num w P0 k g size n inv M bb pl nl bl xl yl ml ol rl tl fl Ap An Ab Ax Ay cp cn cb cx cy) : w.cell? ⟨k, 6, none⟩ = some (.pointer (some ⟨g, 0, none⟩)) := blk_cell h.blk 6
theorem Num.r_three (h : Num w P0 k g size n inv M bb pl nl bl xl yl ml ol rl tl fl Ap An Ab Ax Ay cp cn cb cx cy) : w.rangeAt k 7 (nts tl) := fun j v hv => by
 rw [blk_cell h.blk]
 obtain ⟨a, b, c, d, e, f, rfl⟩ := six h.three.elt.six
 match j, hv with
 | 0, hv | 1, hv | 2, hv | 3, hv | 4, hv | 5, hv => exact hv
 | j + 6, hv => simp [nts] at hv
theorem Num.r_fb (h : Num w P0 k g size n inv M bb pl nl bl xl yl ml ol rl tl fl Ap An Ab Ax Ay cp cn cb cx cy) : w.rangeAt k 13 (nts fl) := fun j v hv => by
 rw [blk_cell h.blk]
 obtain ⟨a, b, c, d, e, f, rfl⟩ := six h.three.elt.six
 obtain ⟨a, b, c, d, e, f, rfl⟩ := six h.fb.elt.six
 match j, hv with
 | 0, hv | 1, hv | 2, hv | 3, hv | 4, hv | 5, hv => exact hv
 | j + 6, hv => simp [nts] at hv
theorem Num.six (h : Num w P0 k g size n inv M bb pl nl bl xl yl ml ol rl tl fl Ap An Ab Ax Ay cp cn cb cx cy) {x : Nat} (hx : x < M) : (digs 18446744073709551616 x).length ≤ 6 :=
 digs_length_of_lt (by omega) (Nat.lt_of_lt_of_le (Nat.lt_trans hx h.fr.ff.room) (Nat.pow_le_pow_right (by omega) h.fr.ff.nle))
end
end Go.Proofs.YtaemogcomplhiaaGreatDoor

namespace Go.Proofs.YtaemogcomplhiaaGreatDoor
open Go.RowKit

def onB (M bb x y : Nat) : Bool := decide (x < M) && decide (y < M) && decide (y * y % M = ((x * x % M * x % M + M - 3 * x % M) % M + bb) % M)

set_option maxRecDepth 100000 in
set_option maxHeartbeats 8000000 in
theorem on_any {P0 : Nat → Prop} {k g size n inv M bb : Nat} {pl nl bl xl yl ml ol rl tl fl : List Nat} {Ap An Ab Ax Ay : Option Addr} {cp cn cb cx cy : Nat} (Pa Pb : Nat → Prop) (A A' : Option Addr) (c c' : Nat) (a b : List Nat) (inf : Bool) (w : World)
 (hk : Num w P0 k g size n inv M bb pl nl bl xl yl ml ol rl tl fl Ap An Ab Ax Ay cp cn cb cx cy) (hP0 : ∀ b, P0 b → b < w.heap.size) (h : RN w Pa A c a) (h' : RN w Pb A' c' b) (hPa : ∀ b, Pa b → b < w.heap.size) (hPb : ∀ b, Pb b → b < w.heap.size) (hM3 : 3 < M) (_hbM : bb < M) :
 Calls Tryz.prog 72 #[.pointer (some ⟨k, 0, none⟩), .agg #[.bool inf, .slice A a.length c, .slice A' b.length c']] w fun e w' => e = .returned (.bool (inf || onB M bb (val 18446744073709551616 a) (val 18446744073709551616 b))) ∧ Below w.heap.size w w' := by
 cases inf
 case true =>
  go_enter Tryz.func72, Tryz.ntmps72
  go_wp2
  go_ret
  exact ⟨rfl, (Below.refl _ w).alloc (Nat.le_refl _) _⟩
 case false =>
  rw [Bool.false_or]
  have hkl := blk_lt hk.blk
  have hgl := hk.fr.ff.fld.lt
  obtain ⟨W0, hW0⟩ : ∃ W0, W0 = w.alloc (.cells #[.bool false, .slice A a.length c, .slice A' b.length c'] 33) := ⟨_, rfl⟩
  have hB0 : Ext w W0 := by rw [hW0]; exact Ext.alloc _ _
  have hz0 : W0.heap.size = w.heap.size + 1 := by rw [hW0]; simp
  obtain ⟨q, hq⟩ : ∃ q, w.heap.size = q := ⟨_, rfl⟩
  have hbx : W0.heap[q]? = some (.cells #[.bool false, .slice A a.length c, .slice A' b.length c'] 33 (0, 0)) := by rw [hW0, ← hq]; exact heap_alloc_new w _
  have b0 : W0.cell? ⟨q, 0, none⟩ = some (.bool false) := blk_cell hbx 0
  have b1 : W0.cell? ⟨q, 1, none⟩ = some (.slice A a.length c) := blk_cell hbx 1
  have b2 : W0.cell? ⟨q, 2, none⟩ = some (.slice A' b.length c') := blk_cell hbx 2
  have hn := Lib.hid (hk.ext hP0 hB0)
  have hP0' : ∀ b, P0 b → b < W0.heap.size := fun b hb => by have := hP0 b hb; omega
  have hPa' : ∀ b, Pa b → b < W0.heap.size := fun b hb => by have := hPa b hb; omega
  have hPb' : ∀ b, Pb b → b < W0.heap.size := fun b hb => by have := hPb b hb; omega
  have ha := h.below hB0 hPa
  have hb := h'.below hB0 hPb
  have Hqs := Lib.hid (show q ≤ W0.heap.size by omega)
  have k1 := hn.out.c_p
  have k6 := hn.out.c_f
  have hpv := Lib.hid hk.pv
  obtain ⟨x, hx⟩ : ∃ x, val 18446744073709551616 a = x := ⟨_, rfl⟩
  obtain ⟨y, hy⟩ : ∃ y, val 18446744073709551616 b = y := ⟨_, rfl⟩
  rw [hx, hy]
  obtain ⟨r, hr⟩ : ∃ r, onB M bb x y = r := ⟨_, rfl⟩
  rw [hr]
  have Hr := Lib.hid hr
  have Hx := Lib.hid hx
  have Hy := Lib.hid hy
  have HB0 := Lib.hid hB0
  have Hz0 := Lib.hid hz0
  clear hx hy hz0 hB0 hk hr
  go_enter Tryz.func72, Tryz.ntmps72
  go_upto_region 3 with fail
  rw [← hW0]
  have HW0 := Lib.hid hW0
  have Hq := Lib.hid hq
  clear hW0 hq
  by_cases hxM : x < M
  · by_cases hyM : y < M
    · have HxM := cmpV_lt hxM
      have HyM := cmpV_lt hyM
      have tx := Lib.hid HxM
      have ty := Lib.hid HyM
      clear HxM HyM
      refine Par.region_ext (by kernel_rfl) 18 [0, 1, 0, 4, 12, 28, 63, 127, 255, 511, 1023, 511, 2559, 6655, 14847, 32767, 65535, 131071] [] (fun j f X => match j with
       | 0 => f 0 = .pointer (some ⟨q, 1, none⟩)
       | 1 => f 1 = .slice A a.length c
       | 2 => f 2 = .pointer (some ⟨k, 0, none⟩)
       | 3 => f 3 = .pointer (some ⟨k, 0, none⟩)
       | 4 => f 4 = .pointer (some ⟨k, 1, none⟩)
       | 5 => f 5 = .slice Ap pl.length cp
       | 6 => f 6 = .int .i64 (-1)
       | 7 => f 7 = .bool false
       | 8 => f 8 = .bool false
       | 9 => f 9 = .pointer (some ⟨q, 2, none⟩)
       | 10 => f 10 = .slice A' b.length c'
       | 11 => f 11 = .pointer (some ⟨k, 0, none⟩)
       | 12 => f 12 = .pointer (some ⟨k, 0, none⟩)
       | 13 => f 13 = .pointer (some ⟨k, 1, none⟩)
       | 14 => f 14 = .slice Ap pl.length cp
       | 15 => f 15 = .int .i64 (-1)
       | 16 => f 16 = .bool false
       | 17 => f 17 = .bool false
       | _ => True) (by kernel_rfl) [(17, 0), (18, 1), (19, 2), (20, 3), (21, 4), (22, 5), (23, 6), (24, 7), (25, 8), (26, 9), (27, 10), (28, 11), (29, 12), (30, 13), (31, 14), (32, 15), (33, 16), (34, 17)] (by kernel_rfl) ?_
      refine Par.v0 1 17 ?_
      refine Par.ld1 2 16 0 b1 ?_
      refine Par.v0 3 15 ?_
      refine Par.v1 4 14 2 ?_
      refine Par.v1 5 13 3 ?_
      refine Par.ld1 6 12 4 k1 ?_
      refine Par.c0 7 11 (fun f => #[f 1, f 5]) (F' := 58) (fun f X hX hR => ?_) ?_
      · have e1 : f 1 = _ := hR.out 1 rfl
        have e5 : f 5 = _ := hR.out 5 rfl
        simp only [e1, e5]
        refine (cmp_any Pa P0 A Ap c cp a pl X (ha.below hX hPa') (hn.out.p.below hX hP0')).mono ?_
        rintro e w2 ⟨rfl, nq, rfl⟩
        rw [Hx.out, hpv.out, tx.out]
        exact ⟨_, rfl, (Ext.drewN _ _), fun _ _ => rfl⟩
      refine Par.S 8 10 [(17, 0), (18, 1), (19, 2), (20, 3), (21, 4), (22, 5), (23, 6)] (fun f X hX hR K hK => ?_) ?_
      · have e6 : f 6 = _ := hR.out 6 rfl
        simp only [yA, yB, yC, yD, yE, e6]
        refine ⟨?_⟩
        go_simp
        exact Par.k hK (s := by simp only [yA, yB, yC, yD, yE, e6])
      refine Par.v1 9 9 7 ?_
      refine Par.v1 10 8 8 ?_
      refine Par.S 11 7 [(17, 0), (18, 1), (19, 2), (20, 3), (21, 4), (22, 5), (23, 6), (24, 7), (25, 8), (26, 9), (28, 11), (29, 12), (30, 13), (31, 14)] (fun f X hX hR K hK => ?_) ?_
      · have e8 : f 8 = _ := hR.out 8 rfl
        have e9 : f 9 = _ := hR.out 9 rfl
        have x0 := hX.cell b2
        simp only [yA, yB, yC, yD, yE, e8, e9]
        refine ⟨Par.want (by kernel_rfl) ?_⟩
        go_simp
        exact Par.k hK (s := by simp only [yA, yB, yC, yD, yE, e8, e9])
      refine Par.v1 12 6 8 ?_
      refine Par.v2 13 5 8 11 ?_
      refine Par.v2 14 4 8 12 ?_
      refine Par.S 15 3 [(17, 0), (18, 1), (19, 2), (20, 3), (21, 4), (22, 5), (23, 6), (24, 7), (25, 8), (26, 9), (27, 10), (28, 11), (29, 12), (30, 13)] (fun f X hX hR K hK => ?_) ?_
      · have e8 : f 8 = _ := hR.out 8 rfl
        have e13 : f 13 = _ := hR.out 13 rfl
        have x0 := hX.cell k1
        simp only [yA, yB, yC, yD, yE, e8, e13]
        refine ⟨Par.want (by kernel_rfl) ?_⟩
        go_simp
        exact Par.k hK (s := by simp only [yA, yB, yC, yD, yE, e8, e13])
      refine Par.c1 16 2 8 (fun f => #[f 10, f 14]) (F' := 58) (fun f X hX hR => ?_) ?_
      · have e10 : f 10 = _ := hR.out 10 rfl
        have e14 : f 14 = _ := hR.out 14 rfl
        simp only [e10, e14]
        refine (cmp_any Pb P0 A' Ap c' cp b pl X (hb.below hX hPb') (hn.out.p.below hX hP0')).mono ?_
        rintro e w2 ⟨rfl, nq, rfl⟩
        rw [Hy.out, hpv.out, ty.out]
        exact ⟨_, rfl, (Ext.drewN _ _), fun _ _ => rfl⟩
      refine Par.S 17 1 [(17, 0), (18, 1), (19, 2), (20, 3), (21, 4), (22, 5), (23, 6), (24, 7), (25, 8), (26, 9), (27, 10), (28, 11), (29, 12), (30, 13), (31, 14), (32, 15)] (fun f X hX hR K hK => ?_) ?_
      · have e8 : f 8 = _ := hR.out 8 rfl
        have e15 : f 15 = _ := hR.out 15 rfl
        simp only [yA, yB, yC, yD, yE, e8, e15]
        refine ⟨Par.want (by kernel_rfl) ?_⟩
        go_simp
        exact Par.k hK (s := by simp only [yA, yB, yC, yD, yE, e8, e15])
      refine Par.v2 18 0 8 16 ?_
      refine Par.AllOps.fin ⟨fun f X hX hR hal hap => ?_⟩
      have e17 : f 17 = _ := hR 17 (by decide)
      simp only [yA, yB, yD, yE, e17]
      clear hR hal hap e17
      refine Par.Chain.done ?_
      have hE : Ext W0 X := hX
      clear hX
      have k6' := hE.cell k6
      go_upto_region 6 with fail
      clear k6'
      rename World => X3
      have d1 := hE.cell b1
      have d2 := hE.cell b2
      refine Par.region_ext (by kernel_rfl) 12 [0, 0, 2, 6, 15, 0, 0, 64, 223, 511, 0, 0, 4095, 8191] [10, 11] (fun j f X => match j with
       | 0 => f 0 = .pointer (some ⟨g, 0, none⟩)
       | 1 => f 1 = .pointer (some ⟨q, 1, none⟩)
       | 2 => f 2 = .slice A a.length c
       | 3 => ∃ A1 c1, f 3 = .slice A1 (digs 18446744073709551616 x).length c1 ∧ OB X q A1 c1 (digs 18446744073709551616 x)
       | 4 => ∃ o, f 4 = EV o ∧ FE M n o x
       | 5 => f 5 = .pointer (some ⟨g, 0, none⟩)
       | 6 => f 6 = .pointer (some ⟨q, 2, none⟩)
       | 7 => f 7 = .slice A' b.length c'
       | 8 => ∃ A1 c1, f 8 = .slice A1 (digs 18446744073709551616 y).length c1 ∧ OB X q A1 c1 (digs 18446744073709551616 y)
       | 9 => ∃ o, f 9 = EV o ∧ FE M n o y
       | 10 => ∃ b, f 10 = .pointer (some ⟨b, 0, none⟩) ∧ X3.heap.size ≤ b ∧ X.heap[b]? = some (.cells #[.int .u64 0, .int .u64 0, .int .u64 0, .int .u64 0, .int .u64 0, .int .u64 0] 109 (0, 0))
       | 11 => ∃ b, f 11 = .pointer (some ⟨b, 0, none⟩) ∧ X3.heap.size ≤ b ∧ X.heap[b]? = some (.cells #[.int .u64 0, .int .u64 0, .int .u64 0, .int .u64 0, .int .u64 0, .int .u64 0] 109 (0, 0))
       | _ => True) (by kernel_rfl) [(39, 0), (40, 1), (41, 2), (42, 3), (43, 4), (44, 5), (45, 6), (46, 7), (47, 8), (48, 9), (6, 10), (7, 11)] (by kernel_rfl) ?_
      refine Par.v0 1 11 ?_
      refine Par.v0 2 10 ?_
      refine Par.ld1 3 9 1 d1 ?_
      refine Par.c0 4 8 (fun f => #[f 2]) (F' := 100) (fun f X hX hR => ?_) ?_
      · have e2 : f 2 = _ := hR.out 2 rfl
        simp only [e2]
        refine (norm_any Pa A c a X (ha.below (hE.trans hX) hPa')).mono ?_
        rw [Hx.out]
        rintro e w2 ⟨A1, c1, rfl, hO, hB⟩
        exact ⟨_, rfl, hB, fun Y hY => ⟨A1, c1, rfl, (hO.mono (Nat.le_trans Hqs.out (hE.trans hX).bsize)).below hY (Nat.le_refl _)⟩⟩
      refine Par.c0 5 7 (fun f => #[f 0, f 3]) (F' := 92) (fun f X hX hR => ?_) ?_
      · have e0 : f 0 = _ := hR.out 0 rfl
        obtain ⟨A3, c3, (e3 : f 3 = _), o3⟩ := hR.out 3 rfl
        simp only [e0, e3]
        refine (zto_any _ A3 c3 _ X (hn.out.ext hP0' (hE.trans hX)).fr o3.rn (fun b hb => hb.2) (hn.out.six hxM) (by rw [val_digs (by omega)]; exact hxM)).mono ?_
        rintro e w2 ⟨o, rfl, ho, hB⟩
        rw [val_digs (by omega)] at ho
        exact ⟨(EV o), rfl, hB, fun Y hY => ⟨o, rfl, ho⟩⟩
      refine Par.v0 6 6 ?_
      refine Par.v0 7 5 ?_
      refine Par.ld1 8 4 6 d2 ?_
      refine Par.c0 9 3 (fun f => #[f 7]) (F' := 100) (fun f X hX hR => ?_) ?_
      · have e7 : f 7 = _ := hR.out 7 rfl
        simp only [e7]
        refine (norm_any Pb A' c' b X (hb.below (hE.trans hX) hPb')).mono ?_
        rw [Hy.out]
        rintro e w2 ⟨A1, c1, rfl, hO, hB⟩
        exact ⟨_, rfl, hB, fun Y hY => ⟨A1, c1, rfl, (hO.mono (Nat.le_trans Hqs.out (hE.trans hX).bsize)).below hY (Nat.le_refl _)⟩⟩
      refine Par.c0 10 2 (fun f => #[f 5, f 8]) (F' := 92) (fun f X hX hR => ?_) ?_
      · have e5 : f 5 = _ := hR.out 5 rfl
        obtain ⟨A8, c8, (e8 : f 8 = _), o8⟩ := hR.out 8 rfl
        simp only [e5, e8]
        refine (zto_any _ A8 c8 _ X (hn.out.ext hP0' (hE.trans hX)).fr o8.rn (fun b hb => hb.2) (hn.out.six hyM) (by rw [val_digs (by omega)]; exact hyM)).mono ?_
        rintro e w2 ⟨o, rfl, ho, hB⟩
        rw [val_digs (by omega)] at ho
        exact ⟨(EV o), rfl, hB, fun Y hY => ⟨o, rfl, ho⟩⟩
      refine Par.al 11 1 ?_
      refine Par.al 12 0 ?_
      refine Par.AllOps.fin ⟨fun f X hX hR hal hap => ?_⟩
      obtain ⟨A3, c3, (e3 : f 3 = _), o3⟩ := hR 3 (by decide)
      obtain ⟨o4, (e4 : f 4 = _), h4⟩ := hR 4 (by decide)
      obtain ⟨A8, c8, (e8 : f 8 = _), o8⟩ := hR 8 (by decide)
      obtain ⟨o9, (e9 : f 9 = _), h9⟩ := hR 9 (by decide)
      obtain ⟨b10, (e10 : f 10 = _), l10, h10⟩ := hR 10 (by decide)
      obtain ⟨b11, (e11 : f 11 = _), l11, h11⟩ := hR 11 (by decide)
      have n11_10 : b11 ≠ b10 := fun e => hap 11 10 (by decide) (by decide) rfl rfl (by decide) (by rw [e11, e10, e])
      simp only [yA, yB, yD, yE, e3, e4, e8, e9, e10, e11]
      clear hR hal hap e3 e4 e8 e9 e10 e11
      refine Par.Chain.next (fun K hK => ⟨Par.want (by kernel_rfl) (wp_storeE (.tmp 6) (.tmp 43) rfl rfl rfl rfl h10 rfl h4.elt.six (fun Y1 hl1 => hK.out _ _ ?_))⟩)
      refine Par.Chain.next (fun K hK => ⟨Par.want (by kernel_rfl) (wp_storeE (.tmp 7) (.tmp 48) rfl rfl rfl rfl (hl1.other n11_10 h11) rfl h9.elt.six (fun Y2 hl2 => hK.out _ _ ?_))⟩)
      refine Par.Chain.done ?_
      have v1 : VE Y2 M n b10 x := hl2.ve (Ne.symm n11_10) (hl1.mk' h4)
      have v2 : VE Y2 M n b11 y := hl2.mk' h9
      have hE7 : Ext W0 Y2 := hl2.ext (hl1.ext (hE.trans hX) (Nat.le_trans hE.bsize l10)) (Nat.le_trans hE.bsize l11)
      clear hl1 hl2 o3 h4 o8 h9 h10 h11 l10 l11 hX hE d1 d2
      have hE := hE7
      clear hE7
      go_upto_region 7 with fail
      refine Par.region_ext (by kernel_rfl) 20 [0, 0, 0, 0, 0, 0, 56, 0, 128, 384, 896, 2044, 0, 8190, 0, 16384, 49152, 114688, 262143, 0, 1048575] [19] (fun j f X => match j with
       | 0 => f 0 = .pointer (some ⟨g, 0, none⟩)
       | 1 => f 1 = .pointer (some ⟨g, 0, none⟩)
       | 2 => f 2 = .pointer (some ⟨g, 0, none⟩)
       | 3 => f 3 = .pointer (some ⟨g, 0, none⟩)
       | 4 => ∃ o, f 4 = EV o ∧ FE M n o x
       | 5 => ∃ o, f 5 = EV o ∧ FE M n o x
       | 6 => ∃ o, f 6 = EV o ∧ FE M n o (x * x)
       | 7 => f 7 = .pointer (some ⟨k, 0, none⟩)
       | 8 => f 8 = .pointer (some ⟨k, 0, none⟩)
       | 9 => f 9 = .pointer (some ⟨k, 7, none⟩)
       | 10 => f 10 = EV tl
       | 11 => ∃ o, f 11 = EV o ∧ FE M n o (x * x + M - 3)
       | 12 => ∃ o, f 12 = EV o ∧ FE M n o x
       | 13 => ∃ o, f 13 = EV o ∧ FE M n o ((x * x + M - 3) * x)
       | 14 => f 14 = .pointer (some ⟨k, 0, none⟩)
       | 15 => f 15 = .pointer (some ⟨k, 0, none⟩)
       | 16 => f 16 = .pointer (some ⟨k, 13, none⟩)
       | 17 => f 17 = EV fl
       | 18 => ∃ o, f 18 = EV o ∧ FE M n o ((x * x + M - 3) * x + bb)
       | 19 => ∃ b, f 19 = .pointer (some ⟨b, 0, none⟩) ∧ Y2.heap.size ≤ b ∧ X.heap[b]? = some (.cells #[.int .u64 0, .int .u64 0, .int .u64 0, .int .u64 0, .int .u64 0, .int .u64 0] 109 (0, 0))
       | _ => True) (by kernel_rfl) [(49, 0), (50, 1), (51, 2), (52, 3), (53, 4), (54, 5), (55, 6), (56, 7), (57, 8), (58, 9), (59, 10), (60, 11), (61, 12), (62, 13), (63, 14), (64, 15), (65, 16), (66, 17), (67, 18), (8, 19)] (by kernel_rfl) ?_
      refine Par.v0 1 19 ?_
      refine Par.v0 2 18 ?_
      refine Par.v0 3 17 ?_
      refine Par.v0 4 16 ?_
      refine lX 5 15 (fun X hX => let ⟨o, hbl, ho⟩ := v1.ext hX; ⟨o, hbl.range, ho⟩) ?_
      refine lX 6 14 (fun X hX => let ⟨o, hbl, ho⟩ := v1.ext hX; ⟨o, hbl.range, ho⟩) ?_
      refine Par.c0 7 13 (fun f => #[f 3, f 4, f 5]) (F' := 102) (fun f X hX hR => ?_) ?_
      · have e3 : f 3 = _ := hR.out 3 rfl
        obtain ⟨o4, (e4 : f 4 = _), h4⟩ := hR.out 4 rfl
        obtain ⟨o5, (e5 : f 5 = _), h5⟩ := hR.out 5 rfl
        simp only [e3, e4, e5]
        refine (fmul_any X (hn.out.ext hP0' (hE.trans hX)).fr.ff h4 h5).mono ?_
        rintro e w2 ⟨o, rfl, ho, hB⟩
        exact ⟨(EV o), rfl, hB, fun Y hY => ⟨o, rfl, ho⟩⟩
      refine Par.v0 8 12 ?_
      refine Par.v1 9 11 7 ?_
      refine Par.v1 10 10 8 ?_
      refine Par.S 11 9 [(49, 0), (50, 1), (51, 2), (52, 3), (53, 4), (54, 5), (55, 6), (56, 7), (57, 8), (58, 9), (61, 12), (63, 14), (64, 15), (65, 16), (66, 17), (8, 19)] (fun f X hX hR K hK => ?_) ?_
      · have e9 : f 9 = _ := hR.out 9 rfl
        simp only [yA, yB, yC, yD, yE, e9]
        refine ⟨Par.want (by kernel_rfl) (wp_loadE (.tmp 58) rfl rfl (hn.out.ext hP0' (hE.trans hX)).r_three hn.out.three.elt.six ?_)⟩
        exact hK.out _ (EV tl) _ (by simp only [yA, yB, yC, yD, yE, e9]) (Ext.refl _) trivial (fun _ _ => rfl)
      refine Par.c0 12 8 (fun f => #[f 2, f 6, f 10]) (F' := 103) (fun f X hX hR => ?_) ?_
      · have e2 : f 2 = _ := hR.out 2 rfl
        obtain ⟨o6, (e6 : f 6 = _), h6⟩ := hR.out 6 rfl
        have e10 : f 10 = _ := hR.out 10 rfl
        simp only [e2, e6, e10]
        refine (fsub_any X (hn.out.ext hP0' (hE.trans hX)).fr.ff h6 hn.out.three (by omega)).mono ?_
        rintro e w2 ⟨o, rfl, ho, hB⟩
        exact ⟨(EV o), rfl, hB, fun Y hY => ⟨o, rfl, ho⟩⟩
      refine lX 13 7 (fun X hX => let ⟨o, hbl, ho⟩ := v1.ext hX; ⟨o, hbl.range, ho⟩) ?_
      refine Par.c0 14 6 (fun f => #[f 1, f 11, f 12]) (F' := 102) (fun f X hX hR => ?_) ?_
      · have e1 : f 1 = _ := hR.out 1 rfl
        obtain ⟨o11, (e11 : f 11 = _), h11⟩ := hR.out 11 rfl
        obtain ⟨o12, (e12 : f 12 = _), h12⟩ := hR.out 12 rfl
        simp only [e1, e11, e12]
        refine (fmul_any X (hn.out.ext hP0' (hE.trans hX)).fr.ff h11 h12).mono ?_
        rintro e w2 ⟨o, rfl, ho, hB⟩
        exact ⟨(EV o), rfl, hB, fun Y hY => ⟨o, rfl, ho⟩⟩
      refine Par.v0 15 5 ?_
      refine Par.v1 16 4 14 ?_
      refine Par.v1 17 3 15 ?_
      refine Par.S 18 2 [(49, 0), (50, 1), (51, 2), (52, 3), (53, 4), (54, 5), (55, 6), (56, 7), (57, 8), (58, 9), (59, 10), (60, 11), (61, 12), (62, 13), (63, 14), (64, 15), (65, 16), (8, 19)] (fun f X hX hR K hK => ?_) ?_
      · have e16 : f 16 = _ := hR.out 16 rfl
        simp only [yA, yB, yC, yD, yE, e16]
        refine ⟨Par.want (by kernel_rfl) (wp_loadE (.tmp 65) rfl rfl (hn.out.ext hP0' (hE.trans hX)).r_fb hn.out.fb.elt.six ?_)⟩
        exact hK.out _ (EV fl) _ (by simp only [yA, yB, yC, yD, yE, e16]) (Ext.refl _) trivial (fun _ _ => rfl)
      refine Par.c0 19 1 (fun f => #[f 0, f 13, f 17]) (F' := 101) (fun f X hX hR => ?_) ?_
      · have e0 : f 0 = _ := hR.out 0 rfl
        obtain ⟨o13, (e13 : f 13 = _), h13⟩ := hR.out 13 rfl
        have e17 : f 17 = _ := hR.out 17 rfl
        simp only [e0, e13, e17]
        refine (fadd_any X (hn.out.ext hP0' (hE.trans hX)).fr.ff h13 hn.out.fb).mono ?_
        rintro e w2 ⟨o, rfl, ho, hB⟩
        exact ⟨(EV o), rfl, hB, fun Y hY => ⟨o, rfl, ho⟩⟩
      refine Par.al 20 0 ?_
      refine Par.AllOps.fin ⟨fun f X hX hR hal hap => ?_⟩
      obtain ⟨o4, (e4 : f 4 = _), h4⟩ := hR 4 (by decide)
      obtain ⟨o5, (e5 : f 5 = _), h5⟩ := hR 5 (by decide)
      obtain ⟨o6, (e6 : f 6 = _), h6⟩ := hR 6 (by decide)
      obtain ⟨o11, (e11 : f 11 = _), h11⟩ := hR 11 (by decide)
      obtain ⟨o12, (e12 : f 12 = _), h12⟩ := hR 12 (by decide)
      obtain ⟨o13, (e13 : f 13 = _), h13⟩ := hR 13 (by decide)
      obtain ⟨o18, (e18 : f 18 = _), h18⟩ := hR 18 (by decide)
      obtain ⟨b19, (e19 : f 19 = _), l19, h19⟩ := hR 19 (by decide)
      simp only [yA, yB, yD, yE, e4, e5, e6, e11, e12, e13, e18, e19]
      clear hR hal hap e4 e5 e6 e11 e12 e13 e18 e19
      refine Par.Chain.next (fun K hK => ⟨Par.want (by kernel_rfl) (wp_storeE (.tmp 8) (.tmp 67) rfl rfl rfl rfl h19 rfl h18.elt.six (fun Y3 hl1 => hK.out _ _ ?_))⟩)
      refine Par.Chain.done ?_
      have v3 : VE Y3 M n b19 ((x * x + M - 3) * x + bb) := hl1.mk' h18
      have nb : b11 ≠ b19 := by have := (let ⟨_, h, _⟩ := v2; h.lt : b11 < Y2.heap.size); omega
      have v4 : VE Y3 M n b11 y := hl1.ve nb (v2.ext hX)
      have hE8 : Ext W0 Y3 := hl1.ext (hE.trans hX) (Nat.le_trans hE.bsize l19)
      clear hl1 h4 h5 h6 h11 h12 h13 h18 h19 l19 hX hE v1 v2
      have hE := hE8
      clear hE8
      go_upto_region 8 with fail
      refine Par.region_ext (by kernel_rfl) 9 [0, 0, 0, 0, 14, 0, 63, 127, 255] [] (fun j f X => match j with
       | 0 => f 0 = .pointer (some ⟨g, 0, none⟩)
       | 1 => f 1 = .pointer (some ⟨g, 0, none⟩)
       | 2 => ∃ o, f 2 = EV o ∧ FE M n o y
       | 3 => ∃ o, f 3 = EV o ∧ FE M n o y
       | 4 => ∃ o, f 4 = EV o ∧ FE M n o (y * y)
       | 5 => ∃ o, f 5 = EV o ∧ FE M n o ((x * x + M - 3) * x + bb)
       | 6 => ∃ o, f 6 = EV o ∧ FE M n o (y * y + M - ((x * x + M - 3) * x + bb) % M)
       | 7 => f 7 = .bool r
       | 8 => f 8 = .bool r
       | _ => True) (by kernel_rfl) [(68, 0), (69, 1), (70, 2), (71, 3), (72, 4), (73, 5), (74, 6), (75, 7), (4, 8)] (by kernel_rfl) ?_
      refine Par.v0 1 8 ?_
      refine Par.v0 2 7 ?_
      refine lX 3 6 (fun X hX => let ⟨o, hbl, ho⟩ := v4.ext hX; ⟨o, hbl.range, ho⟩) ?_
      refine lX 4 5 (fun X hX => let ⟨o, hbl, ho⟩ := v4.ext hX; ⟨o, hbl.range, ho⟩) ?_
      refine Par.c0 5 4 (fun f => #[f 1, f 2, f 3]) (F' := 102) (fun f X hX hR => ?_) ?_
      · have e1 : f 1 = _ := hR.out 1 rfl
        obtain ⟨o2, (e2 : f 2 = _), h2⟩ := hR.out 2 rfl
        obtain ⟨o3, (e3 : f 3 = _), h3⟩ := hR.out 3 rfl
        simp only [e1, e2, e3]
        refine (fmul_any X (hn.out.ext hP0' (hE.trans hX)).fr.ff h2 h3).mono ?_
        rintro e w2 ⟨o, rfl, ho, hB⟩
        exact ⟨(EV o), rfl, hB, fun Y hY => ⟨o, rfl, ho⟩⟩
      refine lX 6 3 (fun X hX => let ⟨o, hbl, ho⟩ := v3.ext hX; ⟨o, hbl.range, ho⟩) ?_
      refine Par.c0 7 2 (fun f => #[f 0, f 4, f 5]) (F' := 103) (fun f X hX hR => ?_) ?_
      · have e0 : f 0 = _ := hR.out 0 rfl
        obtain ⟨o4, (e4 : f 4 = _), h4⟩ := hR.out 4 rfl
        obtain ⟨o5, (e5 : f 5 = _), h5⟩ := hR.out 5 rfl
        simp only [e0, e4, e5]
        refine (fsub_any X (hn.out.ext hP0' (hE.trans hX)).fr.ff h4 h5.mod (Nat.le_of_lt (Nat.mod_lt _ (by omega)))).mono ?_
        rintro e w2 ⟨o, rfl, ho, hB⟩
        exact ⟨(EV o), rfl, hB, fun Y hY => ⟨o, rfl, ho⟩⟩
      refine Par.c0 8 1 (fun f => #[f 6]) (F' := 104) (fun f X hX hR => ?_) ?_
      · obtain ⟨o6, (e6 : f 6 = _), h6⟩ := hR.out 6 rfl
        simp only [e6]
        refine (zero_any o6 X h6.elt.six).mono ?_
        rintro e w2 ⟨rfl, hB⟩
        have hd : decide (o6 = [0, 0, 0, 0, 0, 0]) = r := by rw [← Hr.out, onB, decide_eq_true hxM, decide_eq_true hyM, Bool.true_and, Bool.true_and]; exact decide_eq_decide.2 ((h6.zero_iff (hn.out.ext hP0' (hE.trans hX)).fr.ff).trans (curve_eq hM3))
        rw [hd]
        exact ⟨_, rfl, hB, fun _ _ => rfl⟩
      refine Par.v1 9 0 7 ?_
      refine Par.AllOps.fin ⟨fun f X hX hR hal hap => ?_⟩
      obtain ⟨o2, (e2 : f 2 = _), h2⟩ := hR 2 (by decide)
      obtain ⟨o3, (e3 : f 3 = _), h3⟩ := hR 3 (by decide)
      obtain ⟨o4, (e4 : f 4 = _), h4⟩ := hR 4 (by decide)
      obtain ⟨o5, (e5 : f 5 = _), h5⟩ := hR 5 (by decide)
      obtain ⟨o6, (e6 : f 6 = _), h6⟩ := hR 6 (by decide)
      have e8 : f 8 = _ := hR 8 (by decide)
      simp only [yA, yB, yD, yE, e2, e3, e4, e5, e6, e8]
      clear hR hal hap e2 e3 e4 e5 e6 e8
      refine Par.Chain.done ?_
      go_wp2
      go_ret
      exact ⟨rfl, HB0.out.trans (hE.trans hX)⟩
    · have tx := Lib.hid (cmpV_lt hxM)
      obtain ⟨v, hv⟩ : ∃ v, cmpV y M = v := ⟨_, rfl⟩
      have hv0 : 0 ≤ v := by rw [← hv]; rcases cmpV_cases y M with h | h | h <;> omega
      have Hv := Lib.hid hv
      have HH := Lib.hid hyM
      clear hv hyM
      refine Par.region_ext (by kernel_rfl) 18 [0, 1, 0, 4, 12, 28, 63, 127, 255, 511, 1023, 511, 2559, 6655, 14847, 32767, 65535, 131071] [] (fun j f X => match j with
       | 0 => f 0 = .pointer (some ⟨q, 1, none⟩)
       | 1 => f 1 = .slice A a.length c
       | 2 => f 2 = .pointer (some ⟨k, 0, none⟩)
       | 3 => f 3 = .pointer (some ⟨k, 0, none⟩)
       | 4 => f 4 = .pointer (some ⟨k, 1, none⟩)
       | 5 => f 5 = .slice Ap pl.length cp
       | 6 => f 6 = .int .i64 (-1)
       | 7 => f 7 = .bool false
       | 8 => f 8 = .bool false
       | 9 => f 9 = .pointer (some ⟨q, 2, none⟩)
       | 10 => f 10 = .slice A' b.length c'
       | 11 => f 11 = .pointer (some ⟨k, 0, none⟩)
       | 12 => f 12 = .pointer (some ⟨k, 0, none⟩)
       | 13 => f 13 = .pointer (some ⟨k, 1, none⟩)
       | 14 => f 14 = .slice Ap pl.length cp
       | 15 => f 15 = .int .i64 v
       | 16 => f 16 = .bool true
       | 17 => f 17 = .bool true
       | _ => True) (by kernel_rfl) [(17, 0), (18, 1), (19, 2), (20, 3), (21, 4), (22, 5), (23, 6), (24, 7), (25, 8), (26, 9), (27, 10), (28, 11), (29, 12), (30, 13), (31, 14), (32, 15), (33, 16), (34, 17)] (by kernel_rfl) ?_
      refine Par.v0 1 17 ?_
      refine Par.ld1 2 16 0 b1 ?_
      refine Par.v0 3 15 ?_
      refine Par.v1 4 14 2 ?_
      refine Par.v1 5 13 3 ?_
      refine Par.ld1 6 12 4 k1 ?_
      refine Par.c0 7 11 (fun f => #[f 1, f 5]) (F' := 58) (fun f X hX hR => ?_) ?_
      · have e1 : f 1 = _ := hR.out 1 rfl
        have e5 : f 5 = _ := hR.out 5 rfl
        simp only [e1, e5]
        refine (cmp_any Pa P0 A Ap c cp a pl X (ha.below hX hPa') (hn.out.p.below hX hP0')).mono ?_
        rintro e w2 ⟨rfl, nq, rfl⟩
        rw [Hx.out, hpv.out, tx.out]
        exact ⟨_, rfl, (Ext.drewN _ _), fun _ _ => rfl⟩
      refine Par.S 8 10 [(17, 0), (18, 1), (19, 2), (20, 3), (21, 4), (22, 5), (23, 6)] (fun f X hX hR K hK => ?_) ?_
      · have e6 : f 6 = _ := hR.out 6 rfl
        simp only [yA, yB, yC, yD, yE, e6]
        refine ⟨?_⟩
        go_simp
        exact Par.k hK (s := by simp only [yA, yB, yC, yD, yE, e6])
      refine Par.v1 9 9 7 ?_
      refine Par.v1 10 8 8 ?_
      refine Par.S 11 7 [(17, 0), (18, 1), (19, 2), (20, 3), (21, 4), (22, 5), (23, 6), (24, 7), (25, 8), (26, 9), (28, 11), (29, 12), (30, 13), (31, 14)] (fun f X hX hR K hK => ?_) ?_
      · have e8 : f 8 = _ := hR.out 8 rfl
        have e9 : f 9 = _ := hR.out 9 rfl
        have x0 := hX.cell b2
        simp only [yA, yB, yC, yD, yE, e8, e9]
        refine ⟨Par.want (by kernel_rfl) ?_⟩
        go_simp
        exact Par.k hK (s := by simp only [yA, yB, yC, yD, yE, e8, e9])
      refine Par.v1 12 6 8 ?_
      refine Par.v2 13 5 8 11 ?_
      refine Par.v2 14 4 8 12 ?_
      refine Par.S 15 3 [(17, 0), (18, 1), (19, 2), (20, 3), (21, 4), (22, 5), (23, 6), (24, 7), (25, 8), (26, 9), (27, 10), (28, 11), (29, 12), (30, 13)] (fun f X hX hR K hK => ?_) ?_
      · have e8 : f 8 = _ := hR.out 8 rfl
        have e13 : f 13 = _ := hR.out 13 rfl
        have x0 := hX.cell k1
        simp only [yA, yB, yC, yD, yE, e8, e13]
        refine ⟨Par.want (by kernel_rfl) ?_⟩
        go_simp
        exact Par.k hK (s := by simp only [yA, yB, yC, yD, yE, e8, e13])
      refine Par.c1 16 2 8 (fun f => #[f 10, f 14]) (F' := 58) (fun f X hX hR => ?_) ?_
      · have e10 : f 10 = _ := hR.out 10 rfl
        have e14 : f 14 = _ := hR.out 14 rfl
        simp only [e10, e14]
        refine (cmp_any Pb P0 A' Ap c' cp b pl X (hb.below hX hPb') (hn.out.p.below hX hP0')).mono ?_
        rintro e w2 ⟨rfl, nq, rfl⟩
        rw [Hy.out, hpv.out, Hv.out]
        exact ⟨_, rfl, (Ext.drewN _ _), fun _ _ => rfl⟩
      refine Par.S 17 1 [(17, 0), (18, 1), (19, 2), (20, 3), (21, 4), (22, 5), (23, 6), (24, 7), (25, 8), (26, 9), (27, 10), (28, 11), (29, 12), (30, 13), (31, 14), (32, 15)] (fun f X hX hR K hK => ?_) ?_
      · have e8 : f 8 = _ := hR.out 8 rfl
        have e15 : f 15 = _ := hR.out 15 rfl
        simp only [yA, yB, yC, yD, yE, e8, e15]
        refine ⟨Par.want (by kernel_rfl) ?_⟩
        go_simp
        exact Par.k hK (s := by simp only [yA, yB, yC, yD, yE, e8, e15])
      refine Par.v2 18 0 8 16 ?_
      refine Par.AllOps.fin ⟨fun f X hX hR hal hap => ?_⟩
      have e17 : f 17 = _ := hR 17 (by decide)
      simp only [yA, yB, yD, yE, e17]
      clear hR hal hap e17
      refine Par.Chain.done ?_
      go_wp2
      go_ret
      exact ⟨by rw [show r = false by rw [← Hr.out]; simp [onB, HH.out]]; rfl, HB0.out.trans hX⟩
  · obtain ⟨v, hv⟩ : ∃ v, cmpV x M = v := ⟨_, rfl⟩
    have hv0 : 0 ≤ v := by rw [← hv]; rcases cmpV_cases x M with h | h | h <;> omega
    have Hv := Lib.hid hv
    have HH := Lib.hid hxM
    clear hv hxM
    refine Par.region_ext (by kernel_rfl) 18 [0, 1, 0, 4, 12, 28, 63, 127, 255, 511, 1023, 511, 2559, 6655, 14847, 32767, 65535, 131071] [] (fun j f X => match j with
     | 0 => f 0 = .pointer (some ⟨q, 1, none⟩)
     | 1 => f 1 = .slice A a.length c
     | 2 => f 2 = .pointer (some ⟨k, 0, none⟩)
     | 3 => f 3 = .pointer (some ⟨k, 0, none⟩)
     | 4 => f 4 = .pointer (some ⟨k, 1, none⟩)
     | 5 => f 5 = .slice Ap pl.length cp
     | 6 => f 6 = .int .i64 v
     | 7 => f 7 = .bool true
     | 8 => f 8 = .bool true
     | 9 => f 9 = undef
     | 10 => f 10 = undef
     | 11 => f 11 = undef
     | 12 => f 12 = undef
     | 13 => f 13 = undef
     | 14 => f 14 = undef
     | 15 => f 15 = undef
     | 16 => f 16 = undef
     | 17 => f 17 = .bool true
     | _ => True) (by kernel_rfl) [(17, 0), (18, 1), (19, 2), (20, 3), (21, 4), (22, 5), (23, 6), (24, 7), (25, 8), (26, 9), (27, 10), (28, 11), (29, 12), (30, 13), (31, 14), (32, 15), (33, 16), (34, 17)] (by kernel_rfl) ?_
    refine Par.v0 1 17 ?_
    refine Par.ld1 2 16 0 b1 ?_
    refine Par.v0 3 15 ?_
    refine Par.v1 4 14 2 ?_
    refine Par.v1 5 13 3 ?_
    refine Par.ld1 6 12 4 k1 ?_
    refine Par.c0 7 11 (fun f => #[f 1, f 5]) (F' := 58) (fun f X hX hR => ?_) ?_
    · have e1 : f 1 = _ := hR.out 1 rfl
      have e5 : f 5 = _ := hR.out 5 rfl
      simp only [e1, e5]
      refine (cmp_any Pa P0 A Ap c cp a pl X (ha.below hX hPa') (hn.out.p.below hX hP0')).mono ?_
      rintro e w2 ⟨rfl, nq, rfl⟩
      rw [Hx.out, hpv.out, Hv.out]
      exact ⟨_, rfl, (Ext.drewN _ _), fun _ _ => rfl⟩
    refine Par.S 8 10 [(17, 0), (18, 1), (19, 2), (20, 3), (21, 4), (22, 5), (23, 6)] (fun f X hX hR K hK => ?_) ?_
    · have e6 : f 6 = _ := hR.out 6 rfl
      simp only [yA, yB, yC, yD, yE, e6]
      refine ⟨?_⟩
      go_simp
      exact Par.k hK (s := by simp only [yA, yB, yC, yD, yE, e6])
    refine Par.v1 9 9 7 ?_
    refine Par.sk 10 8 8 ?_
    refine Par.sk 11 7 8 ?_
    refine Par.sk 12 6 8 ?_
    refine Par.sk 13 5 8 ?_
    refine Par.sk 14 4 8 ?_
    refine Par.sk 15 3 8 ?_
    refine Par.sk 16 2 8 ?_
    refine Par.sk 17 1 8 ?_
    refine Par.v2 18 0 8 16 ?_
    refine Par.AllOps.fin ⟨fun f X hX hR hal hap => ?_⟩
    have e17 : f 17 = _ := hR 17 (by decide)
    simp only [yA, yB, yD, yE, e17]
    clear hR hal hap e17
    refine Par.Chain.done ?_
    go_wp2
    go_ret
    exact ⟨by rw [show r = false by rw [← Hr.out]; simp [onB, HH.out]]; rfl, HB0.out.trans hX⟩
end Go.Proofs.YtaemogcomplhiaaGreatDoor

namespace Go.Proofs.YtaemogcomplhiaaGreatDoor
open Go.ChangeShapes Go.WideShapes Go.ChangeAt Go.RowKit Go.Deep Go.Joins

section
variable {H : Type} {enc : TypeId × Value → H} {w : World}
theorem cells8 : Tryz.prog.cellsOf 5 = 1 := by kernel_rfl
theorem bytes8 : Tryz.prog.bytesOf 5 = 1 := by kernel_rfl
theorem cells64 : Tryz.prog.cellsOf 65 = 1 := by kernel_rfl
theorem bytes64 : Tryz.prog.bytesOf 65 = 8 := by kernel_rfl

def Fits (t : TypeId) (d : DataW H) : Prop := ∀ k ∈ DataW.weights Tryz.prog t d, k ≤ reachBytes

theorem open_bytes {fuel : Nat} {v : Value} {x : DataW H × List MemPlace} (h : DataW.trod enc Tryz.prog w 0 (fun _ => true) true fuel 22 [v] = some x) (hw : Fits 22 x.1) :
 ∃ A c bs, v = .slice A bs.length c ∧ RB w (fun b => b < w.heap.size) A c bs := by
 rcases open_ints Tryz.underlying22 Tryz.underlying5 cells8 h with ⟨hcs, _⟩ | ⟨a, len, cap, zs, hcs, _, hl, hm, hz, hx, hcell, hwz⟩
 · simp at hcs
   exact ⟨none, 0, [], by simpa using hcs, RB.nil_ _ _⟩
 · simp at hcs hz
   have hb : zs.length ≤ reachBytes := by
    subst hx
    have := hw ((lits (H := H) .u8 (zs.take len)).length * 1 + (lits (H := H) .u8 (zs.drop len)).length * 1) (by simp [DataW.weights, Tryz.underlying22, bytes8])
    simp [lits] at this
    omega
   unfold reachBytes at hb
   have hwf : ∀ i (hi : i < zs.length), 0 ≤ zs[i] ∧ zs[i] < 256 := fun i hi => by
    have := bounds_u8 (hwz _ (List.getElem_mem hi))
    omega
   refine ⟨some a, cap, (zs.take len).map Int.toNat, ?_, ⟨by simp; omega, hm, by simp [bys], fun hn => ⟨a, rfl, ?_, fun j u hu => ?_⟩⟩, ?_, by simp; omega⟩
   · rw [hcs]; simp; omega
   · have h0 := hcell 0 (by simp at hn; omega)
     have := World.block_lt_of_cell? w _ h0
     rwa [block_of_add] at this
   · have hj : j < len := by
      have := (List.getElem?_eq_some_iff.1 hu).1
      simp [bys] at this
      omega
     have hjz : j < zs.length := by omega
     rw [hcell j hjz]
     have := hwf j hjz
     simp [bys, hj, List.getElem?_eq_getElem hjz] at hu
     rw [← hu]
     simp [List.getD, List.getElem?_eq_getElem hjz]
     omega
   · intro b hb
     obtain ⟨z, hz, rfl⟩ := List.mem_map.1 hb
     obtain ⟨i, hi, rfl⟩ := List.getElem_of_mem (List.mem_of_mem_take hz)
     have := hwf i hi
     omega

theorem open_nats {fuel : Nat} {v : Value} {x : DataW H × List MemPlace} (h : DataW.trod enc Tryz.prog w 0 (fun _ => true) true fuel 24 [v] = some x) (hw : Fits 24 x.1) :
 ∃ A c l, v = .slice A l.length c ∧ RL w (fun b => b < w.heap.size) A c l := by
 rcases open_ints Tryz.underlying24 Tryz.underlying65 cells64 h with ⟨hcs, _⟩ | ⟨a, len, cap, zs, hcs, _, hl, hm, hz, hx, hcell, hwz⟩
 · simp at hcs
   exact ⟨none, 0, [], by simpa using hcs, RS.nil_ _ _ _, by simp, by simp⟩
 · simp at hcs hz
   have hb : zs.length * 8 ≤ reachBytes := by
    subst hx
    have := hw (((lits (H := H) .u64 (zs.take len)).length + (lits (H := H) .u64 (zs.drop len)).length) * 8) (by simp [DataW.weights, Tryz.underlying24, bytes64])
    simp [lits] at this
    omega
   unfold reachBytes at hb
   have hwf : ∀ i (hi : i < zs.length), 0 ≤ zs[i] ∧ zs[i] < 18446744073709551616 := fun i hi => by
    have := bounds_u64 (hwz _ (List.getElem_mem hi))
    omega
   refine ⟨some a, cap, (zs.take len).map Int.toNat, ?_, ⟨by simp; omega, hm, by simp [nts], fun hn => ⟨a, rfl, ?_, fun j u hu => ?_⟩⟩, ?_, by simp; omega⟩
   · rw [hcs]; simp; omega
   · have h0 := hcell 0 (by simp at hn; omega)
     have := World.block_lt_of_cell? w _ h0
     rwa [block_of_add] at this
   · have hj : j < len := by
      have := (List.getElem?_eq_some_iff.1 hu).1
      simp [nts] at this
      omega
     have hjz : j < zs.length := by omega
     rw [hcell j hjz]
     have := hwf j hjz
     simp [nts, hj, List.getElem?_eq_getElem hjz] at hu
     rw [← hu]
     simp [List.getD, List.getElem?_eq_getElem hjz]
     omega
   · intro b hb
     obtain ⟨z, hz, rfl⟩ := List.mem_map.1 hb
     obtain ⟨i, hi, rfl⟩ := List.getElem_of_mem (List.mem_of_mem_take hz)
     have := hwf i hi
     omega
end
end Go.Proofs.YtaemogcomplhiaaGreatDoor

namespace Go.Proofs.YtaemogcomplhiaaGreatDoor

def numOf (bs : List Nat) : Nat := val 256 bs.reverse
theorem numOf_snoc (bs : List Nat) (c : Nat) : numOf (bs ++ [c]) = c + 256 * numOf bs := by
 simp [numOf]
theorem pow256 (k : Nat) : 256 ^ k = 2 ^ (8 * k) := by rw [Nat.pow_mul]
theorem numOf_lt {bs : List Nat} (h : ∀ b ∈ bs, b < 256) : numOf bs < 256 ^ bs.length := by
 have := val_lt (B := 256) (l := bs.reverse) (by simpa using h)
 rwa [List.length_reverse] at this
theorem from_step {m j q k c : Nat} {o : List Nat} {V : Nat} (ho : ∀ x ∈ o, x < 2 ^ m) (hq : q < o.length) (hk : m * q + j = 8 * k) (hj : j + 8 ≤ m) (hc : c < 256) (hv : val (2 ^ m) o = 256 ^ (k + 1) * V) :
 c * 2 ^ j < 2 ^ m ∧ dg o q + c * 2 ^ j < 2 ^ m ∧ (dg o q ||| c * 2 ^ j) = dg o q + c * 2 ^ j ∧ val (2 ^ m) (o.set q (dg o q + c * 2 ^ j)) = 256 ^ k * (c + 256 * V) := by
 obtain ⟨r, hr⟩ := val_shift o ho q 0 (by omega)
 have hlt : dg o q < 2 ^ m := getD_lt (Nat.pow_pos (by omega)) ho q
 rw [Nat.add_zero, Nat.pow_zero, Nat.div_one, Nat.sub_zero, hv, pow256, show 8 * (k + 1) = m * q + (j + 8) by omega, Nat.pow_add, Nat.mul_assoc, Nat.mul_div_cancel_left _ (Nat.pow_pos (by omega))] at hr
 have hcj : c * 2 ^ j < 2 ^ (j + 8) := by
  rw [Nat.pow_add, Nat.mul_comm]
  exact Nat.mul_lt_mul_of_pos_left hc (Nat.pow_pos (by omega))
 have em : 2 ^ m = 2 ^ (j + 8) * 2 ^ (m - (j + 8)) := by rw [← Nat.pow_add, show j + 8 + (m - (j + 8)) = m by omega]
 obtain ⟨t, ht⟩ : ∃ t, dg o q = t * 2 ^ (j + 8) := by
  refine ⟨V - 2 ^ (m - (j + 8)) * r, ?_⟩
  rw [em, Nat.mul_assoc] at hr
  rw [Nat.mul_comm, Nat.mul_sub, hr]
  omega
 have htlt : t < 2 ^ (m - (j + 8)) := by
  rw [ht, em, Nat.mul_comm] at hlt
  exact Nat.lt_of_mul_lt_mul_left hlt
 have hsum : dg o q + c * 2 ^ j < 2 ^ m := by
  have h1 : (t + 1) * 2 ^ (j + 8) ≤ 2 ^ (m - (j + 8)) * 2 ^ (j + 8) := Nat.mul_le_mul_right _ htlt
  rw [Nat.mul_comm (2 ^ (m - (j + 8))), ← em, Nat.add_mul, ← ht] at h1
  omega
 refine ⟨by omega, hsum, ?_, ?_⟩
 · rw [ht, Nat.mul_comm t, Nat.two_pow_add_eq_or_of_lt hcj]
 · have h2 := val_set' (2 ^ m) hq (dg o q + c * 2 ^ j)
   have h3 : (2 ^ m) ^ q * (c * 2 ^ j) = 256 ^ k * c := by
    rw [pow256, ← hk, Nat.pow_add, Nat.pow_mul, Nat.mul_assoc, Nat.mul_comm c]
   rw [Nat.mul_add, h3, hv] at h2
   rw [Nat.mul_add, ← Nat.mul_assoc, ← Nat.pow_succ]
   generalize 256 ^ (k + 1) * V = E at *
   generalize 256 ^ k * c = F at *
   generalize (2 ^ m) ^ q * dg o q = G at *
   generalize val (2 ^ m) (o.set q (dg o q + c * 2 ^ j)) = H at *
   clear hr hlt hcj em ht htlt hsum hv h3
   omega
end Go.Proofs.YtaemogcomplhiaaGreatDoor

namespace Go.Proofs.YtaemogcomplhiaaGreatDoor
open Go.RowKit

theorem RB.cells {w : World} {P : Nat → Prop} {ad : Addr} {c : Nat} {bs : List Nat} (h : RB w P (some ad) c bs) : ∀ i, i < bs.length → w.cell? (ad.add i) = some (.int .u8 (dg bs i : Int)) := by
 intro i hi
 obtain ⟨ad', e, _, hc, _⟩ := h.at_ hi
 cases e
 rw [dg, getD_eq' hi]
 exact hc
theorem RB.dg {w : World} {P : Nat → Prop} {A : Option Addr} {c : Nat} {bs : List Nat} (h : RB w P A c bs) {i : Nat} (hi : i < bs.length) : ∃ ad, A = some ad ∧ w.cell? (ad.add i) = some (.int .u8 (Go.Proofs.YtaemogcomplhiaaGreatDoor.dg bs i : Int)) ∧ Go.Proofs.YtaemogcomplhiaaGreatDoor.dg bs i < 256 := by
 obtain ⟨ad, rfl, _, hc, hb⟩ := h.at_ hi
 refine ⟨ad, rfl, h.cells i hi, ?_⟩
 rw [Go.Proofs.YtaemogcomplhiaaGreatDoor.dg, getD_eq' hi]
 omega

set_option maxRecDepth 100000 in
set_option maxHeartbeats 2000000 in
theorem fromBytes_any (P : Nat → Prop) (A : Option Addr) (c : Nat) (bs : List Nat) (w : World) (h : RB w P A c bs) (hP : ∀ b, P b → b < w.heap.size) (hl : bs.length ≤ 100000) :
 Calls Tryz.prog 53 #[.slice A bs.length c] w fun e w' => ∃ A1 c1, e = .returned (.slice A1 (digs 18446744073709551616 (numOf bs)).length c1) ∧
  OB w' w.heap.size A1 c1 (digs 18446744073709551616 (numOf bs)) ∧ Below w.heap.size w w' := by
 obtain ⟨h1, h2, h3⟩ := h.cap
 obtain ⟨n, hn⟩ : ∃ n, bs.length = n := ⟨_, rfl⟩
 rw [hn] at h1 h3 hl ⊢
 obtain ⟨N, hN, hN1, hN2⟩ : ∃ N : Nat, ((n : Int) + 7) / 8 = (N : Int) ∧ N ≤ 100000 ∧ n ≤ 8 * N := ⟨(n + 7) / 8, by omega, by omega, by omega⟩
 have hmk := run_make_row' (P := Tryz.prog) 24 65 (.int .u64 0) 8 Tryz.underlying24 info64 rfl .i64 .i64 N (by omega) (by omega)
 have Hn := Lib.hid hn
 clear hn
 go_enter Tryz.func53, Tryz.ntmps53
 go_wp2
 go_loopw [14] (fun iv wr => ∃ (i : Nat) (o : List Nat), iv = .int .i64 (i : Int) ∧ i ≤ n ∧ Hid (o.length = N) ∧ Lim o ∧ val 18446744073709551616 o = 256 ^ (n - i) * numOf (bs.take i) ∧ Blk wr w.heap.size o ∧ Below w.heap.size w wr) (fun iv _ => n - (intOf iv).toNat)
 case atStart => exact ⟨0, List.replicate N 0, rfl, by omega, Lib.hid (by simp), ⟨by simp, by simp; omega⟩, by rw [val_replicate]; simp [numOf], Blk.made w _, (Below.refl _ w).alloc (Nat.le_refl _) _⟩
 case round =>
  obtain ⟨i, o, rfl, hi, Ho, hLo, hv, hblk, hB⟩ := hrel
  by_cases hlt : i < n
  · obtain ⟨ad, rfl, q1, hc⟩ := (h.below hB hP).dg (i := i) (by rw [Hn.out]; exact hlt)
    obtain ⟨k, q, r, hk, hr, hkq⟩ : ∃ k q r, k = n - 1 - i ∧ r < 8 ∧ k = 8 * q + r := ⟨n - 1 - i, (n - 1 - i) / 8, (n - 1 - i) % 8, rfl, by omega, by omega⟩
    have hqo : q < o.length := by have := Ho.out; omega
    obtain ⟨s1, s2, s3, s4⟩ := from_step (m := 64) (j := r * 8) (q := q) (k := k) hLo.1 hqo (by omega) (by omega) hc (by rw [show n - i = k + 1 by omega] at hv; exact hv)
    rw [← numOf_snoc, ← take_succ_dg (by rw [Hn.out]; exact hlt), show k = n - (i + 1) by omega] at s4
    obtain ⟨z, hz⟩ : ∃ z, dg bs i * 2 ^ (r * 8) = z := ⟨_, rfl⟩
    rw [hz] at s1 s2 s3 s4
    obtain ⟨y, hy⟩ : ∃ y, dg o q + z = y := ⟨_, rfl⟩
    rw [hy] at s2 s3 s4
    have e1 : (n : Int) - 1 - (i : Int) = (k : Int) := by omega
    have e2 : (k : Int) / 8 = (q : Int) := by omega
    have e3 : (k : Int) % 8 = (r : Int) := by omega
    have e4 : IntKind.u64.wrap ((dg bs i : Int) * 2 ^ (r * 8)) = (z : Int) := by
     rw [show (dg bs i : Int) * 2 ^ (r * 8) = (z : Int) by rw [← hz]; simp]
     exact IntWalk.u64_in _ (by omega)
    have e5 : bits .or .u64 (dg o q : Int) (z : Int) = (y : Int) := by
     rw [bits_or_u64_nat _ _ (hLo.dgLt q) s1, s3]
    have q3 := hblk.cell hqo
    have q4 := hblk.free q
    have hblk' := hblk.set q y
    have hLo' := hLo.set q y s2
    have hB' := hB.setCell (p := ⟨w.heap.size, q, none⟩) (Nat.le_refl _) (.int .u64 (y : Int))
    have Ho' : Hid ((o.set q y).length = N) := Lib.hid (by rw [List.length_set]; exact Ho.out)
    have k1 : (q : Int) < (N : Int) := by have := Ho.out; omega
    have k2 : (r : Int) < 8 := by omega
    have k3 : (dg bs i : Int) < 256 := by omega
    have S4 := Lib.hid s4
    clear s4 s3 s2 s1 hz hy hk hkq hqo hblk hLo hB hv hc
    go_wp2_with fail
    go_region
    go_wp2
    go_roundw
    case rel => exact ⟨i + 1, o.set q y, by go_num, by omega, Ho', hLo', S4.out, hblk', below_drewN hB' 1⟩
    case measure => simp [intOf]; omega
  · obtain rfl : i = n := by omega
    rw [Nat.sub_self, Nat.pow_zero, Nat.one_mul, List.take_of_length_le (by rw [Hn.out]; omega)] at hv
    have hOB : OB wr w.heap.size (some ⟨w.heap.size, 0, none⟩) N o := OB.of_blk hblk (Nat.le_refl _) hLo (by have := Ho.out; omega) (by unfold maxLen; omega)
    have ht := trim_any _ _ _ _ _ hOB.rn
    have hOB' := hOB.trim
    rw [hv, Ho.out] at ht
    rw [hv] at hOB'
    have Ht := Lib.hid ht
    clear hblk hLo ht hv hOB
    go_wp2_with fail
    refine Ht.out.mono ?_
    rintro e w1 ⟨rfl, rfl⟩
    go_wp2
    go_ret
    exact ⟨_, _, rfl, hOB', hB⟩

end Go.Proofs.YtaemogcomplhiaaGreatDoor

namespace Go.Proofs.YtaemogcomplhiaaGreatDoor
open Go.RowKit

structure Crv where
 size : Nat
 n : Nat
 M : Nat
 bb : Nat
 pl : List Nat
 nl : List Nat
 bl : List Nat
 xl : List Nat
 yl : List Nat
def c256 : Crv := ⟨32, 4, val 18446744073709551616 p256p, val 18446744073709551616 p256b, p256p, p256n, p256b, p256x, p256y⟩
def c384 : Crv := ⟨48, 6, val 18446744073709551616 p384p, val 18446744073709551616 p384b, p384p, p384n, p384b, p384x, p384y⟩
def IsC (c : Int) (C : Crv) : Prop := (c = 1 ∧ C = c256) ∨ (c = 2 ∧ C = c384)
structure Crv.Fine (C : Crv) : Prop where
 three : 3 < C.M
 bb : C.bb < C.M
 room : C.M < 256 ^ C.size
 small : C.size ≤ 48
 pos : 32 ≤ C.size
 pv : val 18446744073709551616 C.pl = C.M
theorem IsC.fine {c : Int} {C : Crv} (h : IsC c C) : C.Fine := by
 rcases h with ⟨_, rfl⟩ | ⟨_, rfl⟩
 · exact ⟨by decide +kernel, by decide +kernel, by decide +kernel, by decide, by decide, rfl⟩
 · exact ⟨by decide +kernel, by decide +kernel, by decide +kernel, by decide, by decide, rfl⟩
def OfC (C : Crv) (w : World) (k : Nat) : Prop := ∃ (P0 : Nat → Prop) (g inv : Nat) (ml ol rl tl fl : List Nat) (Ap An Ab Ax Ay : Option Addr) (cp cn cb cx cy : Nat), Num w P0 k g C.size C.n inv C.M C.bb C.pl C.nl C.bl C.xl C.yl ml ol rl tl fl Ap An Ab Ax Ay cp cn cb cx cy ∧ ∀ b, P0 b → b < w.heap.size
theorem OfC.ext {C : Crv} {w X : World} {k : Nat} (h : OfC C w k) (hE : Ext w X) : OfC C X k := by
 obtain ⟨P0, g, inv, ml, ol, rl, tl, fl, Ap, An, Ab, Ax, Ay, cp, cn, cb, cx, cy, hn, hP⟩ := h
 exact ⟨P0, g, inv, ml, ol, rl, tl, fl, Ap, An, Ab, Ax, Ay, cp, cn, cb, cx, cy, hn.ext hP hE, fun b hb => Nat.lt_of_lt_of_le (hP b hb) hE.bsize⟩
theorem OfC.size {C : Crv} {w : World} {k : Nat} (h : OfC C w k) : w.cell? ⟨k, 0, none⟩ = some (.int .i64 (C.size : Int)) := by
 obtain ⟨P0, g, inv, ml, ol, rl, tl, fl, Ap, An, Ab, Ax, Ay, cp, cn, cb, cx, cy, hn, hP⟩ := h
 exact hn.c_size
theorem of_c {c : Int} {C : Crv} (h : IsC c C) (w : World) : Calls Tryz.prog 64 #[.int .i64 c] w fun e w' => ∃ k, e = .returned (.pointer (some ⟨k, 0, none⟩)) ∧ OfC C w' k ∧ Ext w w' := by
 rcases h with ⟨rfl, rfl⟩ | ⟨rfl, rfl⟩
 · refine (of_p256 w).mono ?_
   rintro e w' ⟨k, g, inv, ml, ol, rl, tl, fl, rfl, _, hn, hB⟩
   exact ⟨k, rfl, ⟨_, g, inv, ml, ol, rl, tl, fl, _, _, _, _, _, _, _, _, _, _, hn, fun b hb => hb.2⟩, hB⟩
 · refine (of_p384 w).mono ?_
   rintro e w' ⟨k, g, inv, ml, ol, rl, tl, fl, rfl, _, hn, hB⟩
   exact ⟨k, rfl, ⟨_, g, inv, ml, ol, rl, tl, fl, _, _, _, _, _, _, _, _, _, _, hn, fun b hb => hb.2⟩, hB⟩
set_option maxRecDepth 100000 in
theorem of_nil {c : Int} (h1 : c ≠ 1) (h2 : c ≠ 2) (w : World) : Calls Tryz.prog 64 #[.int .i64 c] w fun e w' => e = .returned (.pointer none) ∧ Ext w w' := by
 have e1 : (c == 1) = false := by simpa using h1
 have e2 : (c == 2) = false := by simpa using h2
 go_enter Tryz.func64, Tryz.ntmps64
 go_wp2
 go_ret
 exact ⟨rfl, Ext.refl _⟩
theorem on_c {C : Crv} {w : World} {k : Nat} (h : OfC C w k) (hC : C.Fine) (Pa Pb : Nat → Prop) (A A' : Option Addr) (c c' : Nat) (a b : List Nat) (inf : Bool) (ha : RN w Pa A c a) (hb : RN w Pb A' c' b) (hPa : ∀ b, Pa b → b < w.heap.size) (hPb : ∀ b, Pb b → b < w.heap.size) :
 Calls Tryz.prog 72 #[.pointer (some ⟨k, 0, none⟩), .agg #[.bool inf, .slice A a.length c, .slice A' b.length c']] w fun e w' => e = .returned (.bool (inf || onB C.M C.bb (val 18446744073709551616 a) (val 18446744073709551616 b))) ∧ Ext w w' := by
 obtain ⟨P0, g, inv, ml, ol, rl, tl, fl, Ap, An, Ab, Ax, Ay, cp, cn, cb, cx, cy, hn, hP⟩ := h
 exact on_any Pa Pb A A' c c' a b inf w hn hP ha hb hPa hPb hC.three hC.bb
abbrev infV : Value := .agg #[.bool true, .slice none 0 0, .slice none 0 0]
theorem infoP : (Tryz.prog.info? 33).map (·.size) = some 3 := by kernel_rfl
theorem end_pt {fn : Func} {R : Ending → World → Prop} {a : Act} {W : World} {p u : Tmp} {g : Nat} {ty : TypeId} {fr : Nat × Nat} {x0 x1 x2 v : Value} (hr : fn.results = #[.cell p 33, .tmp u]) (hp : a.tmps.getD p undef = .pointer (some ⟨g, 0, none⟩)) (hu : a.tmps.getD u undef = v) (hd : a.defers = [])
 (hg : W.heap[g]? = some (.cells #[x0, x1, x2] ty fr)) (hR : R (.returned (.tuple #[.agg #[x0, x1, x2], v])) W) : bodyPost Tryz.prog fn R .ret a W := by
 refine bodyPost_ret (v := .tuple #[.agg #[x0, x1, x2], v]) ?_ hd hR
 rw [results_cell_tmp hr, hp]
 have h1 : (asAddr (.pointer (some ⟨g, 0, none⟩)) : Sem Addr).run Tryz.prog W = .ok ⟨g, 0, none⟩ W := rfl
 rw [h1, Result.andThen_ok, run_loadVar_row W g ty 33 #[x0, x1, x2] fr _ hg Tryz.underlying33 rfl infoP, Result.andThen_ok, hu]
theorem end_p {fn : Func} {R : Ending → World → Prop} {a : Act} {W : World} {p : Tmp} {g : Nat} {ty : TypeId} {fr : Nat × Nat} {x0 x1 x2 : Value} (hr : fn.results = #[.cell p 33]) (hp : a.tmps.getD p undef = .pointer (some ⟨g, 0, none⟩)) (hd : a.defers = [])
 (hg : W.heap[g]? = some (.cells #[x0, x1, x2] ty fr)) (hR : R (.returned (.agg #[x0, x1, x2])) W) : bodyPost Tryz.prog fn R .ret a W :=
 bodyPost_ret (results_cell_row hr a.tmps W g _ _ _ _ hp hg Tryz.underlying33 rfl infoP) hd hR
theorem pt_facts {W : World} {g : Nat} {ty : TypeId} {x0 x1 x2 : Value} (h : W.heap[g]? = some (.cells #[x0, x1, x2] ty (0, 0))) :
 W.cell? ⟨g, 0, none⟩ = some x0 ∧ W.cell? ⟨g, 1, none⟩ = some x1 ∧ W.cell? ⟨g, 2, none⟩ = some x2 ∧ W.frozen? ⟨g, 0, none⟩ = false ∧ W.frozen? ⟨g, 1, none⟩ = false ∧ W.frozen? ⟨g, 2, none⟩ = false :=
 ⟨blk_cell h 0, blk_cell h 1, blk_cell h 2, blk_free h 0, blk_free h 1, blk_free h 2⟩
theorem pt_one (b : Bool) (A A' : Option Addr) (n n' c c' : Nat) : (#[Value.bool b, .slice A n c, .slice A' n' c'] : Array Value).all (·.oneCell') = true := by simp [Value.oneCell']
theorem pt_set {W : World} {g : Nat} {ty : TypeId} {x0 x1 x2 : Value} (h : W.heap[g]? = some (.cells #[x0, x1, x2] ty (0, 0))) (y0 y1 y2 : Value) : (((W.setCell ⟨g, 0, none⟩ y0).setCell ⟨g, 1, none⟩ y1).setCell ⟨g, 2, none⟩ y2).heap[g]? = some (.cells #[y0, y1, y2] ty (0, 0)) :=
 blk_set (blk_set (blk_set h 0 y0) 1 y1) 2 y2
theorem pt_just (W : World) (g : Nat) (y0 y1 y2 : Value) : Just g W (((W.setCell ⟨g, 0, none⟩ y0).setCell ⟨g, 1, none⟩ y1).setCell ⟨g, 2, none⟩ y2) := (((Just.refl g W).set 0 y0).set 1 y1).set 2 y2
theorem pt_ext {w W : World} {g : Nat} (hE : Ext w W) (hg : w.heap.size ≤ g) (y0 y1 y2 : Value) : Ext w (((W.setCell ⟨g, 0, none⟩ y0).setCell ⟨g, 1, none⟩ y1).setCell ⟨g, 2, none⟩ y2) :=
 ((Below.setCell hE (p := ⟨g, 0, none⟩) hg y0).setCell (p := ⟨g, 1, none⟩) hg y1).setCell (p := ⟨g, 2, none⟩) hg y2
set_option maxRecDepth 100000 in
theorem none_any (w : World) : Calls Tryz.prog 73 #[] w fun e w' => e = .returned infV ∧ Ext w w' := by
 go_enter Tryz.func73, Tryz.ntmps73
 go_wp2
 exact end_p rfl rfl rfl (heap_alloc_new w _) ⟨rfl, Ext.alloc _ _⟩
theorem OB.just {X Y : World} {base b : Nat} {A : Option Addr} {c : Nat} {l : List Nat} (h : OB X base A c l) (hj : Just b X Y) {cs : Array Value} {t : TypeId} (hb : X.heap[b]? = some (.cells cs t (0, 0))) (ht : t ≠ 65) : OB Y base A c l := by
 obtain ⟨h1, h2, h3, h4⟩ := h
 refine ⟨h1, h2, h3, fun hl => ?_⟩
 obtain ⟨g, cur, e, hg, hgc, hr⟩ := h4 hl
 refine ⟨g, cur, e, hg, hj.at_ (fun e => ?_) hgc, hr⟩
 subst e
 rw [hb] at hgc
 injection hgc with hgc
 injection hgc with _ hgc _
 exact ht hgc
theorem RB.mid {w : World} {P : Nat → Prop} {A : Option Addr} {c : Nat} {bs : List Nat} (h : RB w P A c bs) {k m c' : Nat} (hkm : k ≤ m) (hm : m ≤ bs.length) (hc : m - k ≤ c') (hc' : c' ≤ maxLen) {A' : Option Addr} (hA : k < m → A' = A.map (·.add k)) : RB w P A' c' ((bs.drop k).take (m - k)) := by
 have h1 := h.1.sub hkm hm hc hc' (A' := A') (by simpa using hA)
 have e : ((bys bs).drop (k * 1)).take ((m - k) * 1) = bys ((bs.drop k).take (m - k)) := by simp [bys, List.map_take, List.map_drop]
 rw [e] at h1
 have hl : ((bs.drop k).take (m - k)).length = m - k := by rw [List.length_take, List.length_drop]; omega
 refine ⟨by rw [hl]; exact h1, fun b hb => h.2.1 b (List.mem_of_mem_drop (List.mem_of_mem_take hb)), by rw [hl]; have := h.2.2; omega⟩
end Go.Proofs.YtaemogcomplhiaaGreatDoor

namespace Go.Proofs.YtaemogcomplhiaaGreatDoor
open Go.RowKit

theorem RN.ru {w : World} {P : Nat → Prop} {A : Option Addr} {c : Nat} {l : List Nat} (h : RN w P A c l) (hP : ∀ b, P b → b < w.heap.size) : RU w A c l := h.mono fun b hb => hP b hb
theorem of_b {c : Int} {C : Crv} (h : IsC c C) (w : World) : Calls Tryz.prog 64 #[.int .i64 c] w fun e w' => ∃ k, e = .returned (.pointer (some ⟨k, 0, none⟩)) ∧ (∃ (P0 : Nat → Prop) (g inv : Nat) (ml ol rl tl fl : List Nat) (Ap An Ab Ax Ay : Option Addr) (cp cn cb cx cy : Nat), Num w' P0 k g C.size C.n inv C.M C.bb C.pl C.nl C.bl C.xl C.yl ml ol rl tl fl Ap An Ab Ax Ay cp cn cb cx cy ∧ ∀ b, P0 b → w.heap.size ≤ b ∧ b < w'.heap.size) ∧ Ext w w' := by
 rcases h with ⟨rfl, rfl⟩ | ⟨rfl, rfl⟩
 · refine (of_p256 w).mono ?_
   rintro e w' ⟨k, g, inv, ml, ol, rl, tl, fl, rfl, _, hn, hB⟩
   exact ⟨k, rfl, ⟨_, g, inv, ml, ol, rl, tl, fl, _, _, _, _, _, _, _, _, _, _, hn, fun b hb => hb⟩, hB⟩
 · refine (of_p384 w).mono ?_
   rintro e w' ⟨k, g, inv, ml, ol, rl, tl, fl, rfl, _, hn, hB⟩
   exact ⟨k, rfl, ⟨_, g, inv, ml, ol, rl, tl, fl, _, _, _, _, _, _, _, _, _, _, hn, fun b hb => hb⟩, hB⟩
set_option maxHeartbeats 2000000
theorem order_c {c : Int} {C : Crv} (hC : IsC c C) (w : World) : Calls Tryz.prog 66 #[.int .i64 c] w fun e w' => ∃ A cc, e = .returned (.slice A C.nl.length cc) ∧ RU w' A cc C.nl ∧ Ext w w' := by
 go_enter Tryz.func66, Tryz.ntmps66
 go_wp2_with (go_at_call 64; refine (of_c hC _).mono ?_; rintro e wa ⟨k, rfl, ⟨P0, g, inv, ml, ol, rl, tl, fl, Ap, An, Ab, Ax, Ay, cp, cn, cb, cx, cy, hn, hP0⟩, hE1⟩; have k1 := hn.c_p; have k2 := hn.c_n; have k0 := hn.c_size; have Hn := Lib.hid hn; have HP := Lib.hid hP0; clear hn hP0)
 go_ret
 exact ⟨_, _, rfl, Hn.out.nn.ru HP.out, hE1⟩
theorem size_c {c : Int} {C : Crv} (hC : IsC c C) (w : World) : Calls Tryz.prog 29 #[.int .i64 c] w fun e w' => e = .returned (.int .i64 (C.size : Int)) ∧ Ext w w' := by
 go_enter Tryz.func29, Tryz.ntmps29
 go_wp2_with (go_at_call 64; refine (of_c hC _).mono ?_; rintro e wa ⟨k, rfl, hk, hE1⟩; have k0 := hk.size)
 go_ret
 exact ⟨rfl, hE1⟩
theorem order_nil {c : Int} (h1 : c ≠ 1) (h2 : c ≠ 2) (w : World) : Calls Tryz.prog 66 #[.int .i64 c] w fun e w' => e = .returned (.slice none 0 0) ∧ Ext w w' := by
 go_enter Tryz.func66, Tryz.ntmps66
 go_wp2_with (go_at_call 64; refine (of_nil h1 h2 _).mono ?_; rintro e wa ⟨rfl, hE1⟩)
 go_ret
 exact ⟨rfl, hE1⟩
theorem size_nil {c : Int} (h1 : c ≠ 1) (h2 : c ≠ 2) (w : World) : Calls Tryz.prog 29 #[.int .i64 c] w fun e w' => e = .returned (.int .i64 0) ∧ Ext w w' := by
 go_enter Tryz.func29, Tryz.ntmps29
 go_wp2_with (go_at_call 64; refine (of_nil h1 h2 _).mono ?_; rintro e wa ⟨rfl, hE1⟩)
 go_ret
 exact ⟨rfl, hE1⟩
set_option maxRecDepth 100000 in
theorem base_c {c : Int} {C : Crv} (hC : IsC c C) (w : World) : Calls Tryz.prog 36 #[.int .i64 c] w fun e w' => ∃ A cc A' cc', e = .returned (.agg #[.bool false, .slice A C.xl.length cc, .slice A' C.yl.length cc']) ∧ RU w' A cc C.xl ∧ RU w' A' cc' C.yl ∧ Ext w w' := by
 have hr := heap_alloc_new w (.cells #[.bool false, .slice none 0 0, .slice none 0 0] 33)
 go_enter Tryz.func36, Tryz.ntmps36
 go_wp2_with (go_at_call 64; refine (of_b hC _).mono ?_; rintro e wa ⟨k, rfl, ⟨P0, g, inv, ml, ol, rl, tl, fl, Ap, An, Ab, Ax, Ay, cp, cn, cb, cx, cy, hn, hP0⟩, hE1⟩; have k1 := hn.c_x; have k2 := hn.c_y; have k0 := hn.c_size; have Hn := Lib.hid hn; have HP := Lib.hid hP0; have hra := hE1.at_ hr; obtain ⟨z0, z1, z2, f0, f1, f2⟩ := pt_facts hra; clear hn hP0)
 obtain ⟨q, hq⟩ : ∃ q, w.heap.size = q := ⟨_, rfl⟩
 rw [hq] at hra
 clear z0 z1 z2 f0 f1 f2
 rw [hq]
 refine Par.region_ext (by kernel_rfl) 9 [0, 1, 3, 7, 0, 16, 48, 112, 255, 511] [] (fun j f X => match j with
  | 0 => f 0 = .pointer (some ⟨k, 0, none⟩)
  | 1 => f 1 = .pointer (some ⟨k, 0, none⟩)
  | 2 => f 2 = .pointer (some ⟨k, 4, none⟩)
  | 3 => f 3 = .slice Ax C.xl.length cx
  | 4 => f 4 = .pointer (some ⟨k, 0, none⟩)
  | 5 => f 5 = .pointer (some ⟨k, 0, none⟩)
  | 6 => f 6 = .pointer (some ⟨k, 5, none⟩)
  | 7 => f 7 = .slice Ay C.yl.length cy
  | 8 => f 8 = .agg #[.bool false, .slice Ax C.xl.length cx, .slice Ay C.yl.length cy]
  | _ => True) (by kernel_rfl) [(8, 0), (9, 1), (10, 2), (11, 3), (12, 4), (13, 5), (14, 6), (15, 7), (16, 8)] (by kernel_rfl) ?_
 refine Par.v0 1 8 ?_
 refine Par.v1 2 7 0 ?_
 refine Par.v1 3 6 1 ?_
 refine Par.ld1 4 5 2 k1 ?_
 refine Par.v0 5 4 ?_
 refine Par.v1 6 3 4 ?_
 refine Par.v1 7 2 5 ?_
 refine Par.ld1 8 1 6 k2 ?_
 refine Par.v2 9 0 3 7 ?_
 refine Par.AllOps.fin ⟨fun f X hX hR hal hap => ?_⟩
 have e8 : f 8 = .agg #[.bool false, .slice Ax C.xl.length cx, .slice Ay C.yl.length cy] := hR 8 (by decide)
 simp only [Par.putL, Act.put, List.setIfInBounds_toArray, List.set_cons_succ, List.set_cons_zero, e8]
 clear hR hal hap e8
 refine Par.Chain.next (fun K hK => ⟨Par.want (by kernel_rfl) (wp_storeV (cs' := #[.bool false, .slice Ax C.xl.length cx, .slice Ay C.yl.length cy]) (t := 33) 33 (.tmp 2) (.tmp 16) rfl rfl rfl rfl (hX.at_ hra) infoP rfl (pt_one _ _ _ _ _ _ _) (fun Y hY1 hY2 hY3 => hK.out _ _ ?_))⟩)
 refine Par.Chain.done ?_
 go_wp2
 have zA : q + 1 ≤ wa.heap.size := by have := hE1.bsize; simp only [World.size_alloc] at this; omega
 have hP1 : ∀ b, P0 b → q < b ∧ b < wa.heap.size := fun b hb => by have := HP.out b hb; simp only [World.size_alloc] at this; omega
 have hx : RN Y P0 Ax cx C.xl := (Hn.out.x.below hX (fun b hb => (hP1 b hb).2)).just hY2 (fun b hb => ⟨by have := hP1 b hb; have := hX.bsize; omega, by have := hP1 b hb; omega⟩)
 have hy : RN Y P0 Ay cy C.yl := (Hn.out.y.below hX (fun b hb => (hP1 b hb).2)).just hY2 (fun b hb => ⟨by have := hP1 b hb; have := hX.bsize; omega, by have := hP1 b hb; omega⟩)
 have hb : ∀ b, P0 b → b < Y.heap.size := fun b hb => by have := hP1 b hb; have := hX.bsize; omega
 exact end_p rfl rfl rfl hY1 ⟨_, _, _, _, rfl, hx.ru hb, hy.ru hb, hY2.ext (((Ext.alloc w _).trans hE1).trans hX) (by omega)⟩
end Go.Proofs.YtaemogcomplhiaaGreatDoor

namespace Go.Proofs.YtaemogcomplhiaaGreatDoor
open Go.RowKit

def DigitOk (B V k D G : Nat) : Prop := G < B ∧ V / (B ^ k * D) ≤ G
theorem quo_rest {B k D g V x : Nat} (hB : 0 < B) (hD : 0 < D) (hq : V / (B ^ k * D) ≤ g) (he : x + B ^ k * (g * D) = V) : x < B ^ k * D := by
 have h5 := Nat.lt_mul_div_succ V (show 0 < B ^ k * D from Nat.mul_pos (Nat.pow_pos hB) hD)
 have h6 : B ^ k * D * (V / (B ^ k * D) + 1) ≤ B ^ k * D * (g + 1) := Nat.mul_le_mul_left _ (by omega)
 have e : B ^ k * D * (g + 1) = B ^ k * (g * D) + B ^ k * D := by rw [Nat.mul_add, Nat.mul_one, Nat.mul_assoc, Nat.mul_comm D]
 omega
theorem scale_setup {y n1 : Nat} (hn : (digs 4294967296 y).length = n1 + 1) : ∃ top sc, dg (digs 4294967296 y) n1 = top ∧ 0 < top ∧ top < 4294967296 ∧ 4294967296 / (top + 1) = sc ∧ 0 < sc ∧ sc < 4294967296 ∧ (digs 4294967296 (sc * y)).length = n1 + 1 ∧ 0 < dg (digs 4294967296 (sc * y)) n1 ∧ 4294967296 ^ n1 ≤ y := by
 have hB : (2 : Nat) ≤ 4294967296 := by omega
 have hlt := digs_lt hB y
 have hy0 : 0 < y := by
  rcases Nat.eq_zero_or_pos y with h | h
  · subst h; rw [digs_zero] at hn; simp at hn
  · exact h
 have hlow := pow_digs_le hB hy0
 rw [hn, Nat.add_sub_cancel] at hlow
 obtain ⟨top, ht⟩ : ∃ top, dg (digs 4294967296 y) n1 = top := ⟨_, rfl⟩
 have htl : top < 4294967296 := by rw [← ht]; exact getD_lt (by omega) hlt _
 have ey : y = val 4294967296 ((digs 4294967296 y).take n1) + 4294967296 ^ n1 * top := by
  rw [← ht, ← val_take_getD, ← hn, List.take_length, val_digs hB]
 have hr : val 4294967296 ((digs 4294967296 y).take n1) < 4294967296 ^ n1 := by
  have := val_lt (B := 4294967296) (l := (digs 4294967296 y).take n1) fun x hx => hlt x (List.mem_of_mem_take hx)
  rwa [List.length_take, Nat.min_eq_left (by omega)] at this
 have h0 : 0 < top := by
  rcases Nat.eq_zero_or_pos top with h | h
  · subst h; omega
  · exact h
 obtain ⟨sc, hsc⟩ : ∃ sc, 4294967296 / (top + 1) = sc := ⟨_, rfl⟩
 have hs1 : sc * (top + 1) ≤ 4294967296 := by rw [← hsc]; exact Nat.div_mul_le_self _ _
 have hs0 : 0 < sc := by rw [← hsc]; exact Nat.div_pos (by omega) (by omega)
 have hsl : sc < 4294967296 := by rw [← hsc]; exact Nat.div_lt_self (by omega) (by omega)
 have hup : sc * y < 4294967296 ^ (n1 + 1) := by
  have k1 : y < 4294967296 ^ n1 * (top + 1) := by rw [Nat.mul_add, Nat.mul_one]; omega
  have k2 : sc * y < sc * (4294967296 ^ n1 * (top + 1)) := Nat.mul_lt_mul_of_pos_left k1 hs0
  have k3 : sc * (4294967296 ^ n1 * (top + 1)) = 4294967296 ^ n1 * (sc * (top + 1)) := Nat.mul_left_comm _ _ _
  have k4 : 4294967296 ^ n1 * (sc * (top + 1)) ≤ 4294967296 ^ n1 * 4294967296 := Nat.mul_le_mul_left _ hs1
  rw [Nat.pow_succ]
  omega
 have hlo2 : 4294967296 ^ n1 ≤ sc * y := Nat.le_trans hlow (Nat.le_mul_of_pos_left _ hs0)
 have hlen : (digs 4294967296 (sc * y)).length = n1 + 1 := by
  refine Nat.le_antisymm (digs_length_of_lt hB hup) ?_
  have := digs_length_mono hB (show y ≤ sc * y from Nat.le_mul_of_pos_left _ hs0)
  omega
 refine ⟨top, sc, ht, h0, htl, hsc, hs0, hsl, hlen, ?_, hlow⟩
 have ed : sc * y = val 4294967296 ((digs 4294967296 (sc * y)).take n1) + 4294967296 ^ n1 * dg (digs 4294967296 (sc * y)) n1 := by
  rw [← val_take_getD, ← hlen, List.take_length, val_digs hB]
 have hr2 : val 4294967296 ((digs 4294967296 (sc * y)).take n1) < 4294967296 ^ n1 := by
  have := val_lt (B := 4294967296) (l := (digs 4294967296 (sc * y)).take n1) fun x hx => digs_lt hB (sc * y) x (List.mem_of_mem_take hx)
  rwa [List.length_take, Nat.min_eq_left (by omega)] at this
 rcases Nat.eq_zero_or_pos (dg (digs 4294967296 (sc * y)) n1) with h | h
 · rw [h, Nat.mul_zero] at ed
   omega
 · exact h

def Tu (w : World) (b : Nat) : Prop := ∃ cur, w.heap[b]? = some (.cells cur 65 (0, 0))
theorem OB.tt {w : World} {base : Nat} {A : Option Addr} {c : Nat} {l : List Nat} (h : OB w base A c l) : RN w (fun b => b < w.heap.size ∧ Tu w b) A c l := by
 have hr := h.rn
 obtain ⟨h1, h2, h3, h4⟩ := h
 obtain ⟨⟨r1, r2, r3, r4⟩, r5⟩ := hr
 refine ⟨⟨r1, r2, r3, fun hl => ?_⟩, r5⟩
 obtain ⟨g, cur, rfl, hb, hg, hc⟩ := h4 hl
 obtain ⟨ad, e, hin, hcell⟩ := r4 hl
 cases e
 exact ⟨_, rfl, ⟨hin.2, cur, hg⟩, hcell⟩
theorem OB.rt {w : World} {base : Nat} {P : Nat → Prop} {A : Option Addr} {c : Nat} {l : List Nat} (h : OB w base A c l) : RN w (fun b => b < w.heap.size ∧ (P b ∨ Tu w b)) A c l := RN.mono h.tt fun _ hb => ⟨hb.1, .inr hb.2⟩
set_option maxRecDepth 100000 in
set_option maxHeartbeats 2000000 in
theorem refQuo_small3 (P P' : Nat → Prop) (A A' : Option Addr) (c c' : Nat) (x y : Nat) (w : World) (h : RN w P A c (digs 4294967296 x)) (h' : RN w P' A' c' (digs 4294967296 y)) (hP : ∀ b, P b → b < w.heap.size) (hl : (digs 4294967296 x).length < 100000) (h0 : 0 < y) (hs : x < y ∨ (digs 4294967296 y).length = 1) :
 Calls Tryz.prog 79 #[.slice A (digs 4294967296 x).length c, .slice A' (digs 4294967296 y).length c'] w fun e w' => ∃ A1 c1 A2 c2, e = .returned (.tuple #[.slice A1 (digs 4294967296 (x / y)).length c1, .slice A2 (digs 4294967296 (x % y)).length c2]) ∧ OB w' w.heap.size A1 c1 (digs 4294967296 (x / y)) ∧ RN w' (fun b => b < w'.heap.size ∧ (P b ∨ Tu w' b)) A2 c2 (digs 4294967296 (x % y)) ∧ Below w.heap.size w w' := by
 have tc := refCmp_any P P' A A' c c' x y w h h'
 by_cases hlt : x < y
 · rw [cmpV_lt hlt] at tc
   have Tc := Lib.hid tc
   have hd : x / y = 0 := Nat.div_eq_of_lt hlt
   have hm : x % y = x := Nat.mod_eq_of_lt hlt
   rw [hd, hm, digs_zero]
   clear tc hlt hs hd hm
   go_enter Tryz.func79, Tryz.ntmps79
   go_wp2_with fail
   refine Tc.out.mono ?_
   rintro e w1 ⟨rfl, nd, rfl⟩
   go_wp2
   go_ret2
   exact ⟨none, 0, A, c, rfl, OB.nil_ _ _, RN.drewN (h.mono fun b hb => ⟨hP b hb, .inl hb⟩) nd, below_drewN (Below.refl _ _) _⟩
 · have hn : (digs 4294967296 y).length = 1 := by omega
   have hyB : y < 4294967296 := by
    have := lt_pow_digs (B := 4294967296) (by omega) y
    rw [hn] at this
    omega
   have hd1 : digs 4294967296 y = [y] := by
    rw [digs_pos (by omega) h0, Nat.mod_eq_of_lt hyB, Nat.div_eq_of_lt hyB, digs_zero]
   have hcv : 0 ≤ cmpV x y := by rcases cmpV_cases x y with h | h | h <;> omega
   generalize cmpV x y = v at tc hcv
   have hcv' : ¬ v < 0 := by omega
   have Tc := Lib.hid tc
   obtain ⟨ad, rfl, _, q1⟩ := h'.at_ (i := 0) (by omega)
   rw [hd1] at q1 Tc
   rw [hd1]
   have q1' : w.cell? (ad.add 0) = some (.int .u64 (y : Int)) := q1
   have q2 : ad.add 0 = ad := rfl
   rw [q2] at q1'
   have tS := fun n => refSmall_any P A c _ y (w.drewN n) (h.drewN n) hP (Dig.digs x) hl h0 (by omega)
   rw [val_digs (by omega)] at tS
   have TS := Lib.hid tS
   have hrB : x % y < 4294967296 := Nat.lt_trans (Nat.mod_lt _ h0) hyB
   obtain ⟨r, hr⟩ : ∃ r, x % y = r := ⟨_, rfl⟩
   rw [hr] at TS hrB
   have Hr := Lib.hid hrB
   have Hrr := Lib.hid hr
   clear tc tS hlt hs hn hcv h' hr hrB hd1 q1 q2 hyB
   go_enter Tryz.func79, Tryz.ntmps79
   go_wp2_with fail
   refine Tc.out.mono ?_
   rintro e w1 ⟨rfl, nd, rfl⟩
   go_wp2_with fail
   refine (TS.out nd).mono ?_
   rintro e w2 ⟨A1, c1, rfl, hO, hB⟩
   have hdr : Dig [r] := by intro x hx; rw [List.mem_singleton.1 hx]; exact Hr.out
   have ht := refTrim_any _ _ _ [r] _ (RN.one w2 r (by have := Hr.out; omega)) hdr
   have hO2 := (OB.of_blk (c := 1) (w := w2.alloc (.cells #[.int .u64 (r : Int)] 65)) (g := w2.heap.size) (l := [r]) (show Blk (w2.alloc (.cells #[.int .u64 (r : Int)] 65)) w2.heap.size [r] from heap_alloc_new w2 _) (base := 0) (Nat.zero_le _) ⟨fun x hx => by have := hdr x hx; omega, by simp⟩ (by simp) (by unfold maxLen; omega)).trim32 hdr
   have hvr : val 4294967296 [r] = r := by simp
   rw [hvr] at ht hO2
   have Ht := Lib.hid ht
   clear ht hdr hvr
   go_wp2_with fail
   refine Ht.out.mono ?_
   rintro e w3 ⟨rfl, rfl⟩
   go_wp2
   go_ret2
   exact ⟨A1, c1, some ⟨w2.heap.size, 0, none⟩, (digs 4294967296 r).length, by rw [Hrr.out]; rfl, hO.below ((Below.refl w2.heap.size w2).alloc (Nat.le_refl _) _) (Nat.le_refl _), by rw [Hrr.out]; exact hO2.rt, (Below.mk hB.os hB.tape hB.output hB.size hB.block : Below w.heap.size w w2).alloc hB.size _⟩

set_option maxRecDepth 100000 in
set_option maxHeartbeats 2000000 in
theorem refQuo_big3 (P P' : Nat → Prop) (A A' : Option Addr) (c c' : Nat) (x y : Nat) (w : World) (h : RN w P A c (digs 4294967296 x)) (h' : RN w P' A' c' (digs 4294967296 y)) (hP : ∀ b, P b → b < w.heap.size) (hP' : ∀ b, P' b → b < w.heap.size) (hl : (digs 4294967296 x).length < 90000) (hge : y ≤ x) (hbig : 1 < (digs 4294967296 y).length) :
 Calls Tryz.prog 79 #[.slice A (digs 4294967296 x).length c, .slice A' (digs 4294967296 y).length c'] w fun e w' => ∃ A1 c1 A2 c2, e = .returned (.tuple #[.slice A1 (digs 4294967296 (x / y)).length c1, .slice A2 (digs 4294967296 (x % y)).length c2]) ∧ OB w' w.heap.size A1 c1 (digs 4294967296 (x / y)) ∧ RN w' (fun b => b < w'.heap.size ∧ (P b ∨ Tu w' b)) A2 c2 (digs 4294967296 (x % y)) ∧ Below w.heap.size w w' := by
 have tc := refCmp_any P P' A A' c c' x y w h h'
 have hcv : 0 ≤ cmpV x y := by rcases cmpV_cases x y with h | h | h <;> omega
 generalize cmpV x y = v at tc hcv
 have hcv' : ¬ v < 0 := by omega
 obtain ⟨n1, hn⟩ : ∃ n1, (digs 4294967296 y).length = n1 + 1 := ⟨(digs 4294967296 y).length - 1, by omega⟩
 obtain ⟨top, sc, htop, ht0, htl, hsc, hs0, hsl, hDn, hDt, hlow⟩ := scale_setup hn
 have hy0 : 0 < y := by have := Nat.pow_pos (n := n1) (show 0 < 4294967296 by omega); omega
 have hmono := digs_length_mono (B := 4294967296) (by omega) hge
 have hxl := lt_pow_digs (B := 4294967296) (by omega) x
 have hxv := val_digs (B := 4294967296) (by omega) x
 have hyv := val_digs (B := 4294967296) (by omega) y
 have dx := Dig.digs x
 have dy := Dig.digs y
 generalize digs 4294967296 x = l at *
 generalize digs 4294967296 y = m at *
 obtain ⟨n, hn'⟩ : ∃ n, n1 + 1 = n := ⟨_, rfl⟩
 rw [hn'] at hn hDn
 obtain ⟨t, htt⟩ : ∃ t, l.length + 1 - n = t := ⟨_, rfl⟩
 have hXD : sc * x < 4294967296 ^ t * (sc * y) := by
  have k1 : 4294967296 ^ l.length ≤ 4294967296 ^ t * y := by
   have : 4294967296 ^ t * 4294967296 ^ n1 ≤ 4294967296 ^ t * y := Nat.mul_le_mul_left _ hlow
   rwa [← Nat.pow_add, show t + n1 = l.length by omega] at this
  rw [Nat.mul_left_comm]
  exact Nat.mul_lt_mul_of_pos_left (Nat.lt_of_lt_of_le hxl k1) hs0
 have T1 := Lib.hid fun W (hW : RN W P A c l) (hp : ∀ b, P b → b < W.heap.size) => refTimes_any P A c l sc W hW hp dx (by omega) hsl
 have T2 := Lib.hid fun W (hW : RN W P' A' c' m) (hp : ∀ b, P' b → b < W.heap.size) => refTimes_any P' A' c' m sc W hW hp dy (by omega) hsl
 rw [hxv] at T1
 rw [hyv, hn] at T2
 rw [hn] at tc
 rw [hn]
 have hqx : (sc * x) / (sc * y) = x / y := Nat.mul_div_mul_left _ _ hs0
 have hrx : (sc * x) % (sc * y) / sc = x % y := by rw [Nat.mul_mod_mul_left, Nat.mul_div_cancel_left _ hs0]
 generalize x % y = rr at *
 have hD0 : 0 < sc * y := Nat.mul_pos hs0 hy0
 have dD := Dig.digs (sc * y)
 have hDv := val_digs (B := 4294967296) (by omega) (sc * y)
 obtain ⟨D, hD⟩ : ∃ D, sc * y = D := ⟨_, rfl⟩
 obtain ⟨X, hX⟩ : ∃ X, sc * x = X := ⟨_, rfl⟩
 rw [hD] at hqx hrx hD0 dD hDv hDn hDt hXD T2
 rw [hX] at hqx hrx hXD T1
 have hnb : n < 90000 := by omega
 have hlb : l.length < 90000 := by omega
 have i1 : (n : Int) - 1 = (n1 : Int) := by omega
 have i2 : n1 < n := by omega
 have i3 : ((n : Int) == 1) = false := eqB (by omega)
 have i4 : (l.length : Int) + 1 - (n : Int) = (t : Int) := by omega
 have i5 : (4294967296 : Int) / ((top : Int) + 1) = (sc : Int) := by rw [← hsc]; simp
 have i5' : (4294967296 : Int).tdiv ((top : Int) + 1) = (sc : Int) := by rw [Int.tdiv_eq_ediv_of_nonneg (by omega)]; exact i5
 have i6 : ((top : Int) + 1 == 0) = false := eqB (by omega)
 have i7 : IntKind.u64.wrap ((top : Int) + 1) = (top : Int) + 1 := IntWalk.u64_in _ (by omega)
 have i8 : IntKind.u64.wrap (sc : Int) = (sc : Int) := IntWalk.u64_in _ (by omega)
 have i9 : ¬ (top : Int) + 1 = 0 := by omega
 obtain ⟨ad', rfl, hPad, q1⟩ := h'.at_ (i := n1) (by omega)
 rw [htop] at q1
 have Htc := Lib.hid tc
 have Hn1 := Lib.hid hn'
 have HXD := Lib.hid hXD
 have Htt := Lib.hid htt
 have Hqx := Lib.hid hqx
 have Hrx := Lib.hid hrx
 have HDv := Lib.hid hDv
 have HDn := Lib.hid hDn
 have HDt := Lib.hid hDt
 have Hs0 := Lib.hid hs0
 have Hsl := Lib.hid (show sc < 4294967297 by omega)
 have HdD := Lib.hid dD
 clear tc hn' hXD htt hqx hrx hDv hDn hDt hX hD hlow hxl hxv hyv hsc htop ht0 hbig hge hy0 hmono dx dy hs0 hsl htl hcv dD
 go_enter Tryz.func79, Tryz.ntmps79
 go_wp2_with fail
 refine Htc.out.mono ?_
 rintro e w1 ⟨rfl, nd, rfl⟩
 obtain ⟨W, hW⟩ : ∃ W, W = w.drewN nd := ⟨_, rfl⟩
 have q2 : W.cell? (ad'.add n1) = some (.int .u64 (top : Int)) := by rw [hW]; exact q1
 have Hsz := Lib.hid (show W.heap.size = w.heap.size by rw [hW]; rfl)
 have hB0 : Below w.heap.size w W := by rw [hW]; exact below_drewN (Below.refl _ _) _
 have hRa : RN W P A c l := by rw [hW]; exact h.drewN _
 have hRb : RN W P' (some ad') c' m := by rw [hW]; exact h'.drewN _
 rw [← hW]
 have T1' := Lib.hid (T1.out W hRa (by rw [Hsz.out]; exact hP))
 clear hW q1 T1 hRa h h'
 go_wp2_with fail
 refine T1'.out.mono ?_
 rintro e w1 ⟨u0, rfl, hbu, hul, hDu, hvu, hB1⟩
 have hB1s := hB1.size
 have hgu := hbu.lt
 have T2' := Lib.hid (T2.out w1 (hRb.below hB1 (by rw [Hsz.out]; exact hP')) (by have := Hsz.out; intro b hb; have := hP' b hb; omega))
 clear T2 hRb q2
 go_wp2_with fail
 refine T2'.out.mono ?_
 rintro e w2 ⟨v0, rfl, hbv, hvl, hDv0, hvv, hB2⟩
 have hB2s := hB2.size
 have hOv : OB w2 w1.heap.size (some ⟨w1.heap.size, 0, none⟩) (n + 1) v0 := OB.of_blk hbv (Nat.le_refl _) ⟨fun x hx => by have := hDv0 x hx; omega, by omega⟩ (by omega) (by unfold maxLen; omega)
 have htv := refTrim_any _ _ _ _ _ hOv.rn hDv0
 have hRv := (hOv.trim32 hDv0).rn
 rw [hvv, HDn.out, hvl] at htv
 rw [hvv, HDn.out] at hRv
 have Htv := Lib.hid htv
 clear htv hOv hbv hvl hDv0 hvv T2' T1'
 go_wp2_with fail
 refine Htv.out.mono ?_
 rintro e w3 ⟨rfl, hw3⟩
 obtain rfl : w2 = w3 := hw3
 have hmk1 := run_make_row' (P := Tryz.prog) 28 65 (.int .u64 0) 8 Tryz.underlying28 info64 rfl .i64 .i64 t (by have := Htt.out; omega) (by have := Htt.out; omega)
 have hmk2 := run_make_row' (P := Tryz.prog) 28 65 (.int .u64 0) 8 Tryz.underlying28 info64 rfl .i64 .i64 (n + 1) (by omega) (by omega)
 simp only [Int.natCast_add, Int.cast_ofNat_Int] at hmk2
 have htb : t ≤ 90001 := by have := Htt.out; omega
 go_wp2_with fail
 have hWw := Hsz.out
 have hbu4 := ((hbu.below hB2 hgu).alloc (.cells (madeCells #[.int .u64 0] t) 65)).alloc (.cells (madeCells #[.int .u64 0] (n + 1)) 65)
 have hbq4 := (Blk.made w2 t).alloc (.cells (madeCells #[.int .u64 0] (n + 1)) 65)
 have hbw4 : Blk ((w2.alloc (.cells (madeCells #[.int .u64 0] t) 65)).alloc (.cells (madeCells #[.int .u64 0] (n + 1)) 65)) (w2.heap.size + 1) (List.replicate (n + 1) 0) := by
  have := Blk.made (w2.alloc (.cells (madeCells #[.int .u64 0] t) 65)) (n + 1)
  simpa using this
 have hRv4 := (hRv.alloc_ (fun b hb => hb.2) (.cells (madeCells #[.int .u64 0] t) 65)).alloc_ (fun b hb => by have := hb.2; simp; omega) (.cells (madeCells #[.int .u64 0] (n + 1)) 65)
 have hB4 := ((hB0.trans (hB1.mono (by omega))).trans (hB2.mono (by omega))).alloc (by omega) (.cells (madeCells #[.int .u64 0] t) 65) |>.alloc (by simp; omega) (.cells (madeCells #[.int .u64 0] (n + 1)) 65)
 have Hs := Lib.hid (Below1.start t)
 clear hbu hRv hB0 hB1 hB2 hWw
 go_loopw [14] (fun iv wr => ∃ (k : Nat) (z : Int) (L qs Wl : List Nat), iv = .int .i64 z ∧ Below1 k z ∧ k ≤ t ∧ QuoAt 4294967296 X D L qs k ∧ Hid (L.length = l.length + 1) ∧ Hid (qs.length = t) ∧ Hid (Wl.length = n + 1) ∧ Dig L ∧ Dig qs ∧ Blk wr W.heap.size L ∧ Blk wr w2.heap.size qs ∧ Blk wr (w2.heap.size + 1) Wl ∧ RN wr (In w1.heap.size w2.heap.size) (some ⟨w1.heap.size, 0, none⟩) n (digs 4294967296 D) ∧ Below w.heap.size w wr) (fun iv _ => (intOf iv + 1).toNat)
 case atStart => exact ⟨t, _, u0, List.replicate t 0, _, rfl, Hs.out, by omega, by rw [← hvu]; exact QuoAt.start (by simp) (by rw [hvu]; exact HXD.out), Lib.hid hul, Lib.hid (by simp), Lib.hid (by simp), hDu, by intro x hx; simp at hx; omega, hbu4, hbq4, hbw4, hRv4, hB4⟩
 case round =>
  obtain ⟨k, z, L, qs, Wl, rfl, hz, hk, hQ, HL, Hqs, HW, hDL, hDq, hbu, hbq, hbw, hRD, hB⟩ := hrel
  clear hbu4 hbq4 hbw4 hRv4 hB4 hvu hul hDu
  rcases hz with ⟨rfl, rfl⟩ | ⟨j, rfl, rfl⟩
  · obtain ⟨v1, v2⟩ := hQ.fin
    rw [Hqx.out] at v1
    have hws := hB.size
    have hWw := Hsz.out
    have hOu := OB.of_blk (c := l.length + 1) hbu (base := w.heap.size) (by omega) ⟨fun x hx => by have := hDL x hx; omega, by have := HL.out; omega⟩ (by have := HL.out; omega) (by unfold maxLen; omega)
    have hOq := OB.of_blk (c := t) hbq (base := w.heap.size) (by omega) ⟨fun x hx => by have := hDq x hx; omega, by have := Hqs.out; omega⟩ (by have := Hqs.out; omega) (by unfold maxLen; omega)
    have tu := refTrim_any _ _ _ _ _ hOu.rn hDL
    have hOu' := hOu.trim32 hDL
    have tq := fun w h => refTrim_any (fun b => b < w.heap.size) (some ⟨w2.heap.size, 0, none⟩) t qs w h hDq
    have hOq' := hOq.trim32 hDq
    rw [HL.out] at tu
    have hlu : (digs 4294967296 (val 4294967296 L)).length < 100000 := by have := digs_length_le (B := 4294967296) (by omega) hDL; have := HL.out; omega
    have ts := refSmall_any _ _ _ _ sc _ hOu'.rn (fun b hb => hb.2) (Dig.digs _) hlu Hs0.out Hsl.out
    rw [v1] at hOq' tq
    rw [Hqs.out] at tq
    have Hv6 := Lib.hid (show val 4294967296 (digs 4294967296 (val 4294967296 L)) / sc = rr by rw [v2, val_digs (B := 4294967296) (by omega), Hrx.out])
    have Tu := Lib.hid tu
    have Ts := Lib.hid ts
    have Tq := Lib.hid tq
    have hqu : RN _ (fun b => b < _) (some ⟨w2.heap.size, 0, none⟩) t qs := hOq.rn.mono fun b hb => hb.2
    clear hQ hDL hDq hbu hbq hbw hRD hOu hOu' tu ts tq hlu v1 v2 hOq hWw
    go_wp2_with fail
    refine Tu.out.mono ?_
    rintro e w5 ⟨rfl, rfl⟩
    go_wp2_with fail
    refine Ts.out.mono ?_
    rintro e w6 ⟨A6, c6, rfl, hO6, hB6⟩
    go_wp2_with fail
    refine (Tq.out w6 ((hqu.below hB6 fun b hb => hb).mono fun b hb => Nat.lt_of_lt_of_le hb hB6.size)).mono ?_
    rintro e w7 ⟨rfl, rfl⟩
    go_wp2
    go_ret2
    exact ⟨_, _, A6, c6, by rw [Hv6.out]; rfl, hOq'.below hB6 (Nat.le_refl _), by rw [← Hv6.out]; exact hO6.rt, hB.trans (hB6.mono hws)⟩
  · have hLl := HL.out
    have hDl := HDn.out
    have e1 := Hn1.out
    have hjt := Htt.out
    have hDd := HdD.out
    obtain ⟨hz0, hQB, hge⟩ := guess2_ge (k := j) e1 hDL hDd hDl (by omega) HDt.out (by rw [HDv.out]; exact hQ.2)
    rw [HDv.out] at hQB hge
    have d1 := hRD.cells n1 (by omega)
    obtain ⟨y0, hy0⟩ : ∃ y0, j + n = y0 := ⟨_, rfl⟩
    obtain ⟨y1, hy1⟩ : ∃ y1, j + n1 = y1 := ⟨_, rfl⟩
    rw [hy0, hy1] at hge
    have r0 := hbu.cell (i := y0) (by omega)
    have r1 := hbu.cell (i := y1) (by omega)
    rw [add_blk] at d1
    obtain ⟨a0, ha0⟩ : ∃ a0, dg L y0 = a0 := ⟨_, rfl⟩
    obtain ⟨a1, ha1⟩ : ∃ a1, dg L y1 = a1 := ⟨_, rfl⟩
    obtain ⟨vt, hvt⟩ : ∃ vt, dg (digs 4294967296 D) n1 = vt := ⟨_, rfl⟩
    have hvp := HDt.out
    have la0 := hDL.dgLt y0
    have la1 := hDL.dgLt y1
    rw [ha0] at r0 hge la0
    rw [ha1] at r1 hge la1
    rw [hvt] at d1 hge hvp
    obtain ⟨tt, htt⟩ : ∃ tt, a0 * 4294967296 + a1 = tt := ⟨_, rfl⟩
    rw [htt] at hge
    obtain ⟨G0, hG0⟩ : ∃ G0, tt / vt = G0 := ⟨_, rfl⟩
    rw [hG0] at hge
    have hG0t : G0 ≤ tt := by rw [← hG0]; exact Nat.div_le_self _ _
    have f0 : (a0 : Int) * 4294967296 + (a1 : Int) = (tt : Int) := by omega
    have f1 : (tt : Int) / (vt : Int) = (G0 : Int) := by rw [← Int.natCast_ediv, hG0]
    have f1' : (tt : Int).tdiv (vt : Int) = (G0 : Int) := by rw [Int.tdiv_eq_ediv_of_nonneg (by omega)]; exact f1
    have f2 : IntKind.u64.wrap ((a0 : Int) * 4294967296) = (a0 : Int) * 4294967296 := IntWalk.u64_in _ (by omega)
    have f3 : IntKind.u64.wrap (tt : Int) = (tt : Int) := IntWalk.u64_in _ (by omega)
    have f4 : IntKind.u64.wrap (G0 : Int) = (G0 : Int) := IntWalk.u64_in _ (by omega)
    have f5 : ((vt : Int) == 0) = false := eqB (by omega)
    have f6 : ¬ vt = 0 := by omega
    have c0 : (j : Int) + (n : Int) = (y0 : Int) := by omega
    have c1' : (y0 : Int) - 1 = (y1 : Int) := by omega
    have b0 : (y0 : Int) < (l.length : Int) + 1 := by omega
    have b1 : (y1 : Int) < (l.length : Int) + 1 := by omega
    have Hz0 := Lib.hid hz0
    have Hjk : Hid (j + n + 1 ≤ l.length + 1) := Lib.hid (by omega)
    have hQf := Lib.hid hQB
    have hgf := Lib.hid hge
    have Hy0 := Lib.hid hy0
    have hjb : j < 90001 := by omega
    have hy0b : y0 < 200000 := by omega
    clear hLl hDl e1 hjt hDd hz0 hQB hge hy1 ha0 ha1 hvt hvp la0 la1 htt hG0 hG0t hy0
    go_wp2_with fail
    go_quiet (fail)
    obtain ⟨bb, hb1, hb2, hb3⟩ : ∃ bb : Bool, decide ((4294967296 : Int) ≤ (G0 : Int)) = bb ∧ decide (4294967296 ≤ G0) = bb ∧ Hid (bb = true ↔ 4294967296 ≤ G0) := ⟨decide (4294967296 ≤ G0), by simp only [decide_eq_decide]; omega, rfl, Lib.hid (by simp)⟩
    go_upto_if 94 with fail
    go_cut [15] (fun s15 wx => ∃ G : Nat, s15 = .int .u64 (G : Int) ∧ DigitOk 4294967296 (val 4294967296 L) j D G ∧ wx = World.drewN wr nq)
    case first =>
     rcases bb with _ | _
     · have hGl : DigitOk 4294967296 (val 4294967296 L) j D G0 := ⟨(Nat.lt_or_ge G0 4294967296).elim id (fun h1 => absurd (hb3.out.2 h1) (by simp)), hgf.out⟩
       clear hb1 hb2 hb3 f0 f1 f1' f2 f3 f4 f5 f6 hgf
       go_wp2_with fail
       go_meet
       case rel => exact ⟨G0, rfl, hGl, rfl⟩
     · have hgg : DigitOk 4294967296 (val 4294967296 L) j D 4294967295 := ⟨by omega, by have := hQf.out; exact Nat.le_of_lt_succ this⟩
       clear hb1 hb2 hb3 f0 f1 f1' f2 f3 f4 f5 f6 hgf
       go_wp2_with fail
       go_meet
       case rel => exact ⟨4294967295, rfl, hgg, rfl⟩
    case rest =>
     obtain ⟨G, rfl, hGd, rfl⟩ := hcut
     clear hb1 hb2 hb3 hQf hgf f0 f1 f1' f2 f3 f4 f5 f6 r0 r1 d1 c1' b0 b1
     have hbu' := hbu.drewN nq
     have hbq' := hbq.drewN nq
     have hbw' := hbw.drewN nq
     have hRD' := hRD.drewN nq
     have hB' := below_drewN hB nq
     clear hbu hbq hbw hRD hB
     go_wp2_with fail
     go_loopw [15] (fun gv wr => ∃ (G : Nat) (Wl : List Nat), gv = .int .u64 (G : Int) ∧ DigitOk 4294967296 (val 4294967296 L) j D G ∧ Hid (Wl.length = n + 1) ∧ Blk wr W.heap.size L ∧ Blk wr w2.heap.size qs ∧ Blk wr (w2.heap.size + 1) Wl ∧ RN wr (In w1.heap.size w2.heap.size) (some ⟨w1.heap.size, 0, none⟩) n (digs 4294967296 D) ∧ Below w.heap.size w wr) (fun gv _ => (intOf gv).toNat)
     case atStart => exact ⟨G, Wl, rfl, hGd, HW, hbu', hbq', hbw', hRD', hB'⟩
     case round =>
      clear hGd HW hbu' hbq' hbw' hRD' hB'
      obtain ⟨G, Wl, rfl, hGd, HW, hbu, hbq, hbw, hRD, hB⟩ := hrel
      have hwW := Hsz.out
      have hless := less_any W.heap.size (w2.heap.size + 1) j n (l.length + 1) G _ _ _ L _ Wl wr hbu hbw hRD (by omega) (fun b hb => by have := hb.2; omega) hDL (Dig.digs D) HL.out HDn.out HW.out Hjk.out (by omega) hGd.1 Hz0.out
      rw [HDv.out] at hless
      have Hless := Lib.hid hless
      clear hwW hless
      go_wp2_with fail
      refine Hless.out.mono ?_
      rintro e w5 ⟨L5, W5, hbu5, hDL5, hl5, hbw5, hw5, htwo, ⟨rfl, hv5⟩ | ⟨rfl, rfl, hv5⟩⟩
      · have hlt5 := quo_rest (by omega) hD0 hGd.2 hv5
        have hjq : j < qs.length := by have := Hqs.out; have := Hjk.out; omega
        have hQ' := hQ.step hjq hv5 hlt5
        have hneq : w2.heap.size ≠ W.heap.size := by omega
        have hwW := Hsz.out
        have hbq5 : Blk w5 w2.heap.size qs := (htwo.block _ hneq (by omega)).trans hbq
        have hRD5 := hRD.two htwo (fun b hb => by have := hb.1; have := hb.2; omega)
        have hB5 := hB.trans (htwo.below (B := w.heap.size) (by omega) (by omega))
        have q3 := hbq5.cell hjq
        have q4 := hbq5.free j
        have hbq' := hbq5.set j G
        have hDq' := hDq.set j G hGd.1
        have hB' := hB5.setCell (p := ⟨w2.heap.size, j, none⟩) (by show w.heap.size ≤ w2.heap.size; omega) (.int .u64 (G : Int))
        have hRD' : RN (World.setCell w5 ⟨w2.heap.size, j, none⟩ (.int .u64 (G : Int))) (In w1.heap.size w2.heap.size) (some ⟨w1.heap.size, 0, none⟩) n (digs 4294967296 D) := hRD5.keep fun q hq => World.cell?_of_block (w := w5) (Below.heap_setCell _ _ _ q.block (by have := hq.2; show q.block ≠ w2.heap.size; omega))
        have hbu' := hbu5.other (p := ⟨w2.heap.size, j, none⟩) (by show W.heap.size ≠ w2.heap.size; omega) (.int .u64 (G : Int))
        have hbw' := hbw5.other (p := ⟨w2.heap.size, j, none⟩) (by show w2.heap.size + 1 ≠ w2.heap.size; omega) (.int .u64 (G : Int))
        have Hqs' : Hid ((qs.set j G).length = t) := Lib.hid (by simpa using Hqs.out)
        have k1 : j < t := by omega
        have Hs' := Lib.hid (Below1.start j)
        have HL5 := Lib.hid hl5
        have HW5 := Lib.hid hw5
        clear hQ hDq hB hRD hbu hbq hbw hbu5 hbq5 hbw5 hRD5 hB5 htwo hv5 hlt5 hl5 hw5 hneq hwW hjq Hless hGd
        go_wp2
        go_roundw
        case rel => exact ⟨j, _, L5, qs.set j G, W5, rfl, Hs'.out, by omega, hQ', HL5, Hqs', HW5, hDL5, hDq', hbu', hbq', hbw', hRD', hB'⟩
        case measure => simp [intOf]
      · have hpos := Nat.lt_of_le_of_lt (Nat.zero_le _) hv5
        obtain ⟨G, rfl⟩ : ∃ k, G = k + 1 := ⟨G - 1, by omega⟩
        have hGd' : DigitOk 4294967296 (val 4294967296 L5) j D G := ⟨by have := hGd.1; omega, Nat.le_of_lt_succ hv5⟩
        have hGi : IntKind.u64.wrap (G : Int) = (G : Int) := IntWalk.u64_in _ (by have := hGd'.1; omega)
        have hwW := Hsz.out
        have hbq5 : Blk w5 w2.heap.size qs := (htwo.block _ (by omega) (by omega)).trans hbq
        have hRD5 := hRD.two htwo (fun b hb => by have := hb.1; have := hb.2; omega)
        have hB5 := hB.trans (htwo.below (B := w.heap.size) (by omega) (by omega))
        have HW5 := Lib.hid hw5
        clear hQ hB hRD hbu hbq hbw htwo hv5 hl5 hw5 hwW Hless hGd hpos
        go_wp2
        go_roundw
        case rel => exact ⟨G, W5, by go_num, hGd', HW5, hbu5, hbq5, hbw5, hRD5, hB5⟩
        case measure => simp [intOf]
theorem refQuo_t (P P' : Nat → Prop) (A A' : Option Addr) (c c' : Nat) (x y : Nat) (w : World) (h : RN w P A c (digs 4294967296 x)) (h' : RN w P' A' c' (digs 4294967296 y)) (hP : ∀ b, P b → b < w.heap.size) (hP' : ∀ b, P' b → b < w.heap.size) (hl : (digs 4294967296 x).length < 90000) (h0 : 0 < y) :
 Calls Tryz.prog 79 #[.slice A (digs 4294967296 x).length c, .slice A' (digs 4294967296 y).length c'] w fun e w' => ∃ A1 c1 A2 c2, e = .returned (.tuple #[.slice A1 (digs 4294967296 (x / y)).length c1, .slice A2 (digs 4294967296 (x % y)).length c2]) ∧ OB w' w.heap.size A1 c1 (digs 4294967296 (x / y)) ∧ RN w' (fun b => b < w'.heap.size ∧ (P b ∨ Tu w' b)) A2 c2 (digs 4294967296 (x % y)) ∧ Below w.heap.size w w' := by
 have hpos : 0 < (digs 4294967296 y).length := by
  rw [digs_pos (by omega) h0]; simp
 by_cases hs : x < y ∨ (digs 4294967296 y).length = 1
 · exact refQuo_small3 P P' A A' c c' x y w h h' hP (by omega) h0 hs
 · exact refQuo_big3 P P' A A' c c' x y w h h' hP hP' hl (by omega) (by omega)
theorem refQuo_any (P P' : Nat → Prop) (A A' : Option Addr) (c c' : Nat) (x y : Nat) (w : World) (h : RN w P A c (digs 4294967296 x)) (h' : RN w P' A' c' (digs 4294967296 y)) (hP : ∀ b, P b → b < w.heap.size) (hP' : ∀ b, P' b → b < w.heap.size) (hl : (digs 4294967296 x).length < 90000) (h0 : 0 < y) :
 Calls Tryz.prog 79 #[.slice A (digs 4294967296 x).length c, .slice A' (digs 4294967296 y).length c'] w fun e w' => ∃ A1 c1 A2 c2, e = .returned (.tuple #[.slice A1 (digs 4294967296 (x / y)).length c1, .slice A2 (digs 4294967296 (x % y)).length c2]) ∧ OB w' w.heap.size A1 c1 (digs 4294967296 (x / y)) ∧ RN w' (fun b => b < w'.heap.size) A2 c2 (digs 4294967296 (x % y)) ∧ Below w.heap.size w w' :=
 (refQuo_t P P' A A' c c' x y w h h' hP hP' hl h0).mono fun _ _ ⟨A1, c1, A2, c2, he, hO, hR, hB⟩ => ⟨A1, c1, A2, c2, he, hO, RN.mono hR fun _ hb => hb.1, hB⟩
end Go.Proofs.YtaemogcomplhiaaGreatDoor

namespace Go.Proofs.YtaemogcomplhiaaGreatDoor
open Go.RowKit

theorem dig32_mul {x y j k : Nat} (hx : (digs 4294967296 x).length ≤ j) (hy : (digs 4294967296 y).length ≤ k) : (digs 4294967296 (x * y)).length ≤ j + k := by
 have h1 := lt_pow_digs (B := 4294967296) (by omega) x
 have h2 := lt_pow_digs (B := 4294967296) (by omega) y
 have h3 : 4294967296 ^ (digs 4294967296 x).length ≤ 4294967296 ^ j := Nat.pow_le_pow_right (by omega) hx
 have h4 : 4294967296 ^ (digs 4294967296 y).length ≤ 4294967296 ^ k := Nat.pow_le_pow_right (by omega) hy
 refine digs_length_of_lt (by omega) ?_
 rw [Nat.pow_add]
 exact Nat.mul_lt_mul'' (by omega) (by omega)
def RT (w : World) (A : Option Addr) (c : Nat) (l : List Nat) : Prop := RN w (fun b => b < w.heap.size ∧ Tu w b) A c l
set_option maxRecDepth 100000 in
set_option maxHeartbeats 1000000 in
theorem refMod_t (A A' : Option Addr) (c c' x y : Nat) (w : World) (h : RT w A c (digs 4294967296 x)) (h' : RU w A' c' (digs 4294967296 y)) (hl : (digs 4294967296 x).length < 90000) (h0 : 0 < y) :
 Calls Tryz.prog 49 #[.slice A (digs 4294967296 x).length c, .slice A' (digs 4294967296 y).length c'] w fun e w' => ∃ A1 c1, e = .returned (.slice A1 (digs 4294967296 (x % y)).length c1) ∧ RT w' A1 c1 (digs 4294967296 (x % y)) ∧ Below w.heap.size w w' := by
 have hq := Lib.hid (refQuo_t _ _ A A' c c' x y w h h' (fun _ hb => hb.1) (fun _ hb => hb) hl h0)
 go_enter Tryz.func49, Tryz.ntmps49
 go_wp2_with fail
 refine hq.out.mono ?_
 rintro e w1 ⟨A1, c1, A2, c2, rfl, hO, hR, hB⟩
 go_wp2
 go_ret
 exact ⟨A2, c2, rfl, RN.mono hR fun b hb => ⟨hb.1, hb.2.elim (fun g => ⟨g.2.choose, (hB.block b g.1).trans g.2.choose_spec⟩) id⟩, hB⟩
set_option maxRecDepth 100000 in
set_option maxHeartbeats 1000000 in
theorem refMod_any (A A' : Option Addr) (c c' x y : Nat) (w : World) (h : RU w A c (digs 4294967296 x)) (h' : RU w A' c' (digs 4294967296 y)) (hl : (digs 4294967296 x).length < 90000) (h0 : 0 < y) :
 Calls Tryz.prog 49 #[.slice A (digs 4294967296 x).length c, .slice A' (digs 4294967296 y).length c'] w fun e w' => ∃ A1 c1, e = .returned (.slice A1 (digs 4294967296 (x % y)).length c1) ∧ RU w' A1 c1 (digs 4294967296 (x % y)) ∧ Below w.heap.size w w' := by
 have hq := Lib.hid (refQuo_any _ _ A A' c c' x y w h h' (fun _ hb => hb) (fun _ hb => hb) hl h0)
 go_enter Tryz.func49, Tryz.ntmps49
 go_wp2_with fail
 refine hq.out.mono ?_
 rintro e w1 ⟨A1, c1, A2, c2, rfl, hO, hR, hB⟩
 go_wp2
 go_ret
 exact ⟨A2, c2, rfl, hR, hB⟩

set_option maxRecDepth 100000 in
set_option maxHeartbeats 1000000 in
theorem refMulMod_any (A A' Am : Option Addr) (c c' cm x y m : Nat) (w : World) (h : RU w A c (digs 4294967296 x)) (h' : RU w A' c' (digs 4294967296 y)) (hm : RU w Am cm (digs 4294967296 m)) (hl : (digs 4294967296 x).length < 40000) (hl' : (digs 4294967296 y).length < 40000) (h0 : 0 < m) :
 Calls Tryz.prog 82 #[.slice A (digs 4294967296 x).length c, .slice A' (digs 4294967296 y).length c', .slice Am (digs 4294967296 m).length cm] w fun e w' => ∃ A1 c1, e = .returned (.slice A1 (digs 4294967296 (x * y % m)).length c1) ∧ RU w' A1 c1 (digs 4294967296 (x * y % m)) ∧ Below w.heap.size w w' := by
 have hq := Lib.hid (refMul_any _ _ A A' c c' x y w h h' (fun _ hb => hb) (fun _ hb => hb) (by omega) (by omega))
 go_enter Tryz.func82, Tryz.ntmps82
 go_wp2_with fail
 refine hq.out.mono ?_
 rintro e w1 ⟨A1, c1, rfl, hO, hB⟩
 have hr := Lib.hid (refMod_any A1 Am c1 cm (x * y) m w1 hO.ru (hm.up hB) (by have := dig32_mul (Nat.le_refl (digs 4294967296 x).length) (Nat.le_refl (digs 4294967296 y).length); omega) h0)
 go_wp2_with fail
 refine hr.out.mono ?_
 rintro e w2 ⟨A2, c2, rfl, hR, hB2⟩
 go_wp2
 go_ret
 exact ⟨A2, c2, rfl, hR, hB.trans (hB2.mono hB.size)⟩
end Go.Proofs.YtaemogcomplhiaaGreatDoor
