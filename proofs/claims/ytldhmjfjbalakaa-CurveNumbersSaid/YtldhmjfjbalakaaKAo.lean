/- curve.of for P-384 (printed from P-256's by a program). Elements of a field in memory: how they are read and laid; a curve's record in later worlds. -/
import Derived.Test.YtldhmjfjbalakaaKAn
import Derived.Test.YtldhmjfjbalakaaPar
import Derived.Test.YtldhmjfjbalakaaKAk
import Derived.Deep.MidRow
namespace Go.Proofs.Ytldhmjfjbalakaa
open Go.RowKit

def p384p : List Nat := [4294967295, 18446744069414584320, 18446744073709551614, 18446744073709551615, 18446744073709551615, 18446744073709551615]
def p384n : List Nat := [17072048233947408755, 6348401684107011962, 14367412456785391071, 18446744073709551615, 18446744073709551615, 18446744073709551615]
def p384b : List Nat := [3064076045283764975, 14291673747578343837, 221811693264799578, 1737717031765098770, 10992729701402291481, 12912154004749740004]
def p384x : List Nat := [4203087948775033527, 6125724927633205612, 6482722621138151992, 7934563412932533144, 10282218360005504372, 12288012358878168375]
def p384y : List Nat := [8809917716911230559, 747793036959711645, 16850834916486723776, 17938995913990739068, 6745997240412855337, 3897828414440483951]
set_option maxRecDepth 100000 in
set_option maxHeartbeats 8000000 in
theorem of_p384 (w : World) : Calls Try.prog 42 #[.int .i64 2] w fun e w' => ∃ k g inv ml ol rl tl fl, e = .returned (.pointer (some ⟨k, 0, none⟩)) ∧ w.heap.size ≤ k ∧
    Num w' (In w.heap.size w'.heap.size) k g 48 6 inv (val 18446744073709551616 p384p) (val 18446744073709551616 p384b) p384p p384n p384b p384x p384y ml ol rl tl fl (some ⟨w.heap.size, 0, none⟩) (some ⟨w.heap.size + 1, 0, none⟩) (some ⟨w.heap.size + 1 + 1, 0, none⟩) (some ⟨w.heap.size + 1 + 1 + 1, 0, none⟩) (some ⟨w.heap.size + 1 + 1 + 1 + 1, 0, none⟩) 6 6 6 6 6 ∧ Below w.heap.size w w' := by
  obtain ⟨z, hz⟩ : ∃ z, z = World.alloc (((((w.alloc (.cells (nts p384p).toArray 72)).alloc (.cells (nts p384n).toArray 72)).alloc (.cells (nts p384b).toArray 72)).alloc (.cells (nts p384x).toArray 72)).alloc (.cells (nts p384y).toArray 72)) (.cells (kcells 48 (.slice (some ⟨w.heap.size, 0, none⟩) 6 6) (.slice (some ⟨w.heap.size + 1, 0, none⟩) 6 6) (.slice (some ⟨w.heap.size + 1 + 1, 0, none⟩) 6 6) (.slice (some ⟨w.heap.size + 1 + 1 + 1, 0, none⟩) 6 6) (.slice (some ⟨w.heap.size + 1 + 1 + 1 + 1, 0, none⟩) 6 6) (.pointer none) z6 z6).toArray 105) := ⟨_, rfl⟩
  obtain ⟨q1, q2, q3, q4, q5, q6, q7, q8⟩ := five_lits w p384p p384n p384b p384x p384y _ ⟨by decide, by decide⟩ ⟨by decide, by decide⟩ ⟨by decide, by decide⟩ ⟨by decide, by decide⟩ ⟨by decide, by decide⟩ z hz
  have hd : digs 18446744073709551616 (val 18446744073709551616 p384p) = p384p := digs_val (by omega) (by decide) (by decide)
  have hdl : (digs 18446744073709551616 (val 18446744073709551616 p384p)).length = 6 := by rw [hd]; rfl
  have hM1 : 1 < val 18446744073709551616 p384p := by decide +kernel
  have hMo : val 18446744073709551616 p384p % 2 = 1 := by decide +kernel
  have hM3 : 3 < val 18446744073709551616 p384p := by decide +kernel
  have hbM : val 18446744073709551616 p384b < val 18446744073709551616 p384p := by decide +kernel
  have hnew := znew_any _ _ _ p384p _ z q1 rfl hM1 hMo (by decide) (by rw [hdl]; omega)
  rw [hdl, q7] at hnew
  obtain ⟨M, hM⟩ : ∃ M, val 18446744073709551616 p384p = M := ⟨_, rfl⟩
  rw [hM] at hnew hM1 hMo hM3 hbM ⊢
  have Hnew := Lib.hid hnew
  have hb1 : p384p.length = 6 := rfl
  have Hz := Lib.hid hz
  have H2 := Hnew.out
  rw [hz, hb1] at H2
  have Hn2 := Lib.hid H2
  obtain ⟨K, hK⟩ : ∃ K, w.heap.size + 1 + 1 + 1 + 1 + 1 = K := ⟨_, rfl⟩
  clear hd hdl hnew H2 Hnew hz
  go_enter Try.func42, Try.ntmps42
  go_wp2_with fail
  refine Hn2.out.mono ?_
  rintro e w2 ⟨g, inv, ml, ol, rl, rfl, hg, hFR, hB2⟩
  rw [← Hz.out] at hB2
  rw [hK] at q6
  have hs2 := hB2.size
  have hG2 := (hB2.block K (by omega)).trans q6
  have k6 := blk_cell hG2 6
  rw [show (kcells 48 (.slice (some ⟨w.heap.size, 0, none⟩) 6 6) (.slice (some ⟨w.heap.size + 1, 0, none⟩) 6 6) (.slice (some ⟨w.heap.size + 1 + 1, 0, none⟩) 6 6) (.slice (some ⟨w.heap.size + 1 + 1 + 1, 0, none⟩) 6 6) (.slice (some ⟨w.heap.size + 1 + 1 + 1 + 1, 0, none⟩) 6 6) (.pointer none) z6 z6).toArray[6]? = some (.pointer none) by rfl] at k6
  have kf := blk_free hG2 6
  have hG3 := blk_set hG2 6 (.pointer (some ⟨g, 0, none⟩))
  rw [show (kcells 48 (.slice (some ⟨w.heap.size, 0, none⟩) 6 6) (.slice (some ⟨w.heap.size + 1, 0, none⟩) 6 6) (.slice (some ⟨w.heap.size + 1 + 1, 0, none⟩) 6 6) (.slice (some ⟨w.heap.size + 1 + 1 + 1, 0, none⟩) 6 6) (.slice (some ⟨w.heap.size + 1 + 1 + 1 + 1, 0, none⟩) 6 6) (.pointer none) z6 z6).toArray.setIfInBounds 6 (.pointer (some ⟨g, 0, none⟩)) = (kcells 48 (.slice (some ⟨w.heap.size, 0, none⟩) 6 6) (.slice (some ⟨w.heap.size + 1, 0, none⟩) 6 6) (.slice (some ⟨w.heap.size + 1 + 1, 0, none⟩) 6 6) (.slice (some ⟨w.heap.size + 1 + 1 + 1, 0, none⟩) 6 6) (.slice (some ⟨w.heap.size + 1 + 1 + 1 + 1, 0, none⟩) 6 6) (.pointer (some ⟨g, 0, none⟩)) z6 z6).toArray by rfl] at hG3
  have hgK : g ≠ K := by omega
  have hFR3 : FR (w2.setCell ⟨K, 6, none⟩ (.pointer (some ⟨g, 0, none⟩))) g 6 inv M ml ol rl := ⟨⟨⟨(Below.heap_setCell _ _ _ _ hgK).trans hFR.ff.fld.blk, hFR.ff.fld.m6, hFR.ff.fld.o6, hFR.ff.fld.r6⟩, hFR.ff.mlt, hFR.ff.mval, hFR.ff.mtake, hFR.ff.npos, hFR.ff.nle, hFR.ff.big, hFR.ff.invLt, hFR.ff.invV⟩, hFR.oelt, hFR.oval, hFR.relt, hFR.rval⟩
  have hB3 : Below K z (w2.setCell ⟨K, 6, none⟩ (.pointer (some ⟨g, 0, none⟩))) := (hB2.mono (show K ≤ w.heap.size + 6 by omega)).setCell (p := ⟨K, 6, none⟩) (Nat.le_refl _) _
  have hz3 : (w2.setCell ⟨K, 6, none⟩ (.pointer (some ⟨g, 0, none⟩))).heap.size = w2.heap.size := by simp [World.setCell]
  go_upto_region 9 with fail
  generalize w2.setCell ⟨K, 6, none⟩ (.pointer (some ⟨g, 0, none⟩)) = w3 at *
  have c6 := blk_cell hG3 6
  have c3 := blk_cell hG3 3
  rw [show (kcells 48 (.slice (some ⟨w.heap.size, 0, none⟩) 6 6) (.slice (some ⟨w.heap.size + 1, 0, none⟩) 6 6) (.slice (some ⟨w.heap.size + 1 + 1, 0, none⟩) 6 6) (.slice (some ⟨w.heap.size + 1 + 1 + 1, 0, none⟩) 6 6) (.slice (some ⟨w.heap.size + 1 + 1 + 1 + 1, 0, none⟩) 6 6) (.pointer (some ⟨g, 0, none⟩)) z6 z6).toArray[6]? = some (.pointer (some ⟨g, 0, none⟩)) by rfl] at c6
  rw [show (kcells 48 (.slice (some ⟨w.heap.size, 0, none⟩) 6 6) (.slice (some ⟨w.heap.size + 1, 0, none⟩) 6 6) (.slice (some ⟨w.heap.size + 1 + 1, 0, none⟩) 6 6) (.slice (some ⟨w.heap.size + 1 + 1 + 1, 0, none⟩) 6 6) (.slice (some ⟨w.heap.size + 1 + 1 + 1 + 1, 0, none⟩) 6 6) (.pointer (some ⟨g, 0, none⟩)) z6 z6).toArray[3]? = some (.slice (some ⟨w.heap.size + 1 + 1, 0, none⟩) 6 6) by rfl] at c3
  have hK3 : K < w3.heap.size := blk_lt hG3
  have q33 : RN w3 (In w.heap.size (w.heap.size + 5)) (some ⟨w.heap.size + 1 + 1, 0, none⟩) 6 p384b := q3.below hB3 (fun b hb => by have := hb.2; omega)
  have hof := of_any 3 w3.drew (by omega)
  rw [show digs 18446744073709551616 3 = [3] by rw [digs_pos (by omega) (by omega), Nat.mod_eq_of_lt (by omega), Nat.div_eq_of_lt (by omega), digs_zero]] at hof
  have hg3 : g < w3.heap.size := hFR3.ff.fld.lt
  have ht1 := fun (X : World) (hX : Below w3.heap.size w3 X) (A1 : Option Addr) (c1 : Nat) (hO : OB X w3.heap.size A1 c1 [3]) => zto_any _ A1 c1 [3] X (hFR3.below hX hg3) hO.rn (fun b hb => hb.2) (by simp) (by simp; exact hM3)
  have ht2 := fun (X : World) (hX : Below w3.heap.size w3 X) => zto_any _ _ 6 p384b X (hFR3.below hX hg3) (q33.below hX (fun b hb => by have := hb.2; omega)) (fun b hb => by have := hb.2; have := hX.size; omega) (by decide) hbM
  have Hof := Lib.hid hof
  have Ht1 := Lib.hid ht1
  have Ht2 := Lib.hid ht2
  clear hof ht1 ht2
  have c6d : w3.drew.cell? ⟨K, 6, none⟩ = some (.pointer (some ⟨g, 0, none⟩)) := c6
  have c3d : w3.drew.cell? ⟨K, 3, none⟩ = some (.slice (some ⟨w.heap.size + 1 + 1, 0, none⟩) 6 6) := c3
  go_region_held3 (fun w' => w'.cell? ⟨K, 6, none⟩ = some (.pointer (some ⟨g, 0, none⟩)) ∧ w'.cell? ⟨K, 3, none⟩ = some (.slice (some ⟨w.heap.size + 1 + 1, 0, none⟩) 6 6))
    (first | with_reducible exact ⟨set6 7 (by decide) (by decide) c63, set6 7 (by decide) (by decide) c33⟩ | with_reducible exact ⟨set6 13 (by decide) (by decide) (set6 7 (by decide) (by decide) c63), set6 13 (by decide) (by decide) (set6 7 (by decide) (by decide) c33)⟩ | exact ⟨c6, c3⟩ | exact ⟨c61, c31⟩ | exact ⟨c62, c32⟩ | exact ⟨c63, c33⟩)
    (first
      | (go_at_call 71; refine Hof.out.mono ?_; rintro e x1 ⟨A1, cc1, rfl, hO1, hx1'⟩; have hx1 : Below w3.heap.size w3 x1 := ⟨hx1'.os, hx1'.tape, hx1'.output, hx1'.size, hx1'.block⟩; have hO1' : OB x1 w3.heap.size A1 cc1 [3] := hO1; have c61 := (hx1.cell (p := ⟨K, 6, none⟩) hK3).trans c6; have c31 := (hx1.cell (p := ⟨K, 3, none⟩) hK3).trans c3; have T1 := Lib.hid (Ht1.out x1 hx1 A1 cc1 hO1'))
      | (go_at_call_has 70 A1; refine T1.out.mono ?_; rintro e x2 ⟨o3, rfl, hf3, hx2⟩; obtain ⟨u0, u1, u2, u3, u4, u5, hoe⟩ := six hf3.elt.six; have hve : EV o3 = .agg #[.int .u64 (u0 : Int), .int .u64 (u1 : Int), .int .u64 (u2 : Int), .int .u64 (u3 : Int), .int .u64 (u4 : Int), .int .u64 (u5 : Int)] := (by rw [hoe]; rfl); rw [hve]; clear hve; have Hoe := Lib.hid hoe; clear hoe; have hx12 := hx1.trans (hx2.mono hx1.size); have c62 := (hx12.cell (p := ⟨K, 6, none⟩) hK3).trans c6; have c32 := (hx12.cell (p := ⟨K, 3, none⟩) hK3).trans c3; have T2 := Lib.hid (Ht2.out x2 hx12))
      | (go_at_call 70; refine T2.out.mono ?_; rintro e x3 ⟨ob, rfl, hfb, hx3⟩; obtain ⟨v0, v1, v2, v3, v4, v5, hob⟩ := six hfb.elt.six; have hvb : EV ob = .agg #[.int .u64 (v0 : Int), .int .u64 (v1 : Int), .int .u64 (v2 : Int), .int .u64 (v3 : Int), .int .u64 (v4 : Int), .int .u64 (v5 : Int)] := (by rw [hob]; rfl); rw [hvb]; clear hvb; have Hob := Lib.hid hob; clear hob; have hx13 := hx12.trans (hx3.mono hx12.size); have c63 := (hx13.cell (p := ⟨K, 6, none⟩) hK3).trans c6; have c33 := (hx13.cell (p := ⟨K, 3, none⟩) hK3).trans c3; have hGx := (hx13.block K hK3).trans hG3; have dz := kcells_zero hGx; obtain ⟨d7, y7⟩ := dz 7 (by decide) (by decide); obtain ⟨d8, y8⟩ := dz 8 (by decide) (by decide); obtain ⟨d9, y9⟩ := dz 9 (by decide) (by decide); obtain ⟨d10, y10⟩ := dz 10 (by decide) (by decide); obtain ⟨d11, y11⟩ := dz 11 (by decide) (by decide); obtain ⟨d12, y12⟩ := dz 12 (by decide) (by decide); obtain ⟨d13, y13⟩ := dz 13 (by decide) (by decide); obtain ⟨d14, y14⟩ := dz 14 (by decide) (by decide); obtain ⟨d15, y15⟩ := dz 15 (by decide) (by decide); obtain ⟨d16, y16⟩ := dz 16 (by decide) (by decide); obtain ⟨d17, y17⟩ := dz 17 (by decide) (by decide); obtain ⟨d18, y18⟩ := dz 18 (by decide) (by decide); clear dz))
  obtain ⟨t1, t2, t3, t4⟩ := twelve hGx u0 u1 u2 u3 u4 u5 v0 v1 v2 v3 v4 v5
  have hB9 := t4 w.heap.size w (by omega) (q8.trans ((hB3.trans (hx13.mono (by omega))).mono (by have := q8.size; omega)))
  have hFR9 := hFR3.below hx13 hg3
  have hs3 : w3.heap.size ≤ x3.heap.size := hx13.size
  clear c61 c31 c62 c32 c63 c33 T1 T2 hGx hx1' hx1 hx2 hx3 hx12
  generalize ((((((((((((x3.setCell ⟨K, 7, none⟩ (.int .u64 (u0 : Int))).setCell ⟨K, 8, none⟩ (.int .u64 (u1 : Int))).setCell ⟨K, 9, none⟩ (.int .u64 (u2 : Int))).setCell ⟨K, 10, none⟩ (.int .u64 (u3 : Int))).setCell ⟨K, 11, none⟩ (.int .u64 (u4 : Int))).setCell ⟨K, 12, none⟩ (.int .u64 (u5 : Int))).setCell ⟨K, 13, none⟩ (.int .u64 (v0 : Int))).setCell ⟨K, 14, none⟩ (.int .u64 (v1 : Int))).setCell ⟨K, 15, none⟩ (.int .u64 (v2 : Int))).setCell ⟨K, 16, none⟩ (.int .u64 (v3 : Int))).setCell ⟨K, 17, none⟩ (.int .u64 (v4 : Int))).setCell ⟨K, 18, none⟩ (.int .u64 (v5 : Int))) = w9 at *
  have hFR9' : FR w9 g 6 inv M ml ol rl := ⟨⟨⟨(t2 g hgK).trans hFR9.ff.fld.blk, hFR9.ff.fld.m6, hFR9.ff.fld.o6, hFR9.ff.fld.r6⟩, hFR9.ff.mlt, hFR9.ff.mval, hFR9.ff.mtake, hFR9.ff.npos, hFR9.ff.nle, hFR9.ff.big, hFR9.ff.invLt, hFR9.ff.invV⟩, hFR9.oelt, hFR9.oval, hFR9.relt, hFR9.rval⟩
  have hz9 : w.heap.size + 6 ≤ w9.heap.size := by have := hB3.size; omega
  have hkeep : ∀ (l : List Nat) (A : Option Addr) (c : Nat), RN z (In w.heap.size (w.heap.size + 5)) A c l → RN w9 (In w.heap.size w9.heap.size) A c l := fun l A c hR =>
    (hR.keep fun q hq => World.cell?_of_block ((t2 q.block (by have := hq.2; omega)).trans ((hx13.block q.block (by have := hq.2; omega)).trans (hB3.block q.block (by have := hq.2; omega))))).mono fun b hb => ⟨hb.1, by have := hb.2; omega⟩
  have r1 := hkeep _ _ _ q1
  have r2 := hkeep _ _ _ q2
  have r3 := hkeep _ _ _ q3
  have r4 := hkeep _ _ _ q4
  have r5 := hkeep _ _ _ q5
  have ho3 := Hoe.out
  have hob := Hob.out
  rw [← ho3, ← hob] at t1
  have hfin : Num w9 (In w.heap.size w9.heap.size) K g 48 6 inv M (val 18446744073709551616 p384b) p384p p384n p384b p384x p384y ml ol rl o3 ob (some ⟨w.heap.size, 0, none⟩) (some ⟨w.heap.size + 1, 0, none⟩) (some ⟨w.heap.size + 1 + 1, 0, none⟩) (some ⟨w.heap.size + 1 + 1 + 1, 0, none⟩) (some ⟨w.heap.size + 1 + 1 + 1 + 1, 0, none⟩) 6 6 6 6 6 :=
    ⟨t1, r1, r2, r3, r4, r5, hFR9', hM, by have := hf3; simpa using this, hfb⟩
  have Hfin := Lib.hid hfin
  have HB9 := Lib.hid hB9
  clear hfin hB9 t1 t2 t3 t4 r1 r2 r3 r4 r5 hkeep hFR9 hFR9' hf3 hfb hFR3 hG3 q1 q2 q3 q4 q5 q6 q8
  go_wp2
  go_ret
  exact ⟨K, g, inv, ml, ol, rl, o3, ob, rfl, by omega, Hfin.out, HB9.out⟩
end Go.Proofs.Ytldhmjfjbalakaa

namespace Go.Proofs.Ytldhmjfjbalakaa
open Go.RowKit

theorem Ext.drewN (w : World) (n : Nat) : Ext w (w.drewN n) := below_drewN (Below.refl _ w) n
/-- A block that holds an element. -/
def BlkE (X : World) (b : Nat) (l : List Nat) : Prop := X.heap[b]? = some (.cells (nts l).toArray 81 (0, 0))
theorem BlkE.ext {X Y : World} {b : Nat} {l : List Nat} (h : BlkE X b l) (hE : Ext X Y) : BlkE Y b l := hE.at_ h
theorem BlkE.range {X : World} {b : Nat} {l : List Nat} (h : BlkE X b l) : X.rangeAt b 0 (nts l) := fun j v hv => by
  rw [Nat.zero_add, blk_cell h j]
  simpa using hv
theorem BlkE.lt {X : World} {b : Nat} {l : List Nat} (h : BlkE X b l) : b < X.heap.size := blk_lt h
theorem rangeAt_ext {X Y : World} {b o : Nat} {cs : List Value} (h : X.rangeAt b o cs) (hE : Ext X Y) : Y.rangeAt b o cs := fun j v hv => hE.cell (h j v hv)
theorem infoE : (Try.prog.info? 81).map (·.size) = some 6 := by kernel_rfl
theorem loadE {X : World} {b o : Nat} {l : List Nat} (h : X.rangeAt b o (nts l)) (h6 : l.length = 6) : (Instr.loadAt 81 (.pointer (some ⟨b, o, none⟩))).run Try.prog X = .ok (EV l) X :=
  run_loadAt_mid X b o 81 (nts l) _ h Try.underlying81 rfl (by rw [nts_length, h6]; exact infoE)
/-- All but one block stands. -/
structure Lay (b : Nat) (l : List Nat) (X Y : World) : Prop where
  just : Just b X Y
  blk : BlkE Y b l
  size : Y.heap.size = X.heap.size
theorem storeE {X : World} {b : Nat} {l : List Nat} {cs : List Value} (h : X.heap[b]? = some (.cells cs.toArray 81 (0, 0))) (hc : cs.length = 6) (h6 : l.length = 6) :
    ∃ Y, (Instr.storeAt 81 (.pointer (some ⟨b, 0, none⟩)) (EV l)).run Try.prog X = .ok () Y ∧ Lay b l X Y := by
  have ht : X.there b 0 (nts l).toArray.size := fun j hj => by
    have hj' : j < 6 := by simpa [nts, h6] using hj
    refine ⟨?_, blk_free h _⟩
    rw [Nat.zero_add, blk_cell h j]
    simp [hc, hj']
  have hr := run_storeAt_mid (P := Try.prog) X b 0 81 (nts l).toArray ht (by rw [List.size_toArray, nts_length, h6]; exact infoE) (all_oneCell_toArray (oneCell_nts l))
  obtain ⟨a0, a1, a2, a3, a4, a5, rfl⟩ := six h6
  obtain ⟨c0, c1, c2, c3, c4, c5, rfl⟩ : ∃ a b c d e f, cs = [a, b, c, d, e, f] := by
    match cs, hc with
    | [a, b, c, d, e, f], _ => exact ⟨a, b, c, d, e, f, rfl⟩
  refine ⟨_, hr, ?_⟩
  have e : X.setCells b 0 (nts [a0, a1, a2, a3, a4, a5]).toArray.toList = ((((((X.setCell ⟨b, 0, none⟩ (.int .u64 (a0 : Int))).setCell ⟨b, 0 + 1, none⟩ (.int .u64 (a1 : Int))).setCell ⟨b, 0 + 2, none⟩ (.int .u64 (a2 : Int))).setCell ⟨b, 0 + 3, none⟩ (.int .u64 (a3 : Int))).setCell ⟨b, 0 + 4, none⟩ (.int .u64 (a4 : Int))).setCell ⟨b, 0 + 5, none⟩ (.int .u64 (a5 : Int))) := rfl
  rw [e]
  refine ⟨((((((Just.refl b X).set _ _).set _ _).set _ _).set _ _).set _ _).set _ _, ?_, by simp [World.setCell]⟩
  exact six_mid [] [] (j := 0) rfl h
/-- An element is read. -/
theorem wp_loadE {op : Oper} {a : Act} {X : World} {K : Act → World → Prop} {Q : Exit → Act → World → Prop} (x : Operand) (ho : op.op = .load 81 x) {b o : Nat} {l : List Nat} (hx : a.eval x = .pointer (some ⟨b, o, none⟩)) (h : X.rangeAt b o (nts l)) (h6 : l.length = 6) (hK : K (a.put op.dst (EV l)) X) : op.wp Try.prog a X K Q :=
  wp_load_mid 81 x ho b o hx (nts l) _ h Try.underlying81 rfl (by rw [nts_length, h6]; exact infoE) hK
/-- A variable of the call's own gets an element. -/
theorem wp_storeE {op : Oper} {a : Act} {X : World} {K : Act → World → Prop} {Q : Exit → Act → World → Prop} (x y : Operand) (ho : op.op = .store 81 x y) (hd : op.dst = none) {b : Nat} {l : List Nat} {cs : List Value}
    (hx : a.eval x = .pointer (some ⟨b, 0, none⟩)) (hy : a.eval y = EV l) (h : X.heap[b]? = some (.cells cs.toArray 81 (0, 0))) (hc : cs.length = 6) (h6 : l.length = 6) (hK : ∀ Y, Lay b l X Y → K a Y) : op.wp Try.prog a X K Q := by
  obtain ⟨Y, hr, hl⟩ := storeE h hc h6
  unfold Oper.wp execOp
  simp only [ho, hx, hy, Sem.run_bind, hr, Result.andThen_ok]
  rw [Sem.run_pure]
  show K (a.put op.dst undef) Y
  rw [hd]
  exact hK Y hl
theorem Lay.ext {b : Nat} {l : List Nat} {w X Y : World} (h : Lay b l X Y) (hE : Ext w X) (hb : w.heap.size ≤ b) : Ext w Y := Below.trans hE (h.just.below hb hE.bsize)
theorem Lay.other {b c : Nat} {l : List Nat} {X Y : World} {o : Obj} (h : Lay b l X Y) (hc : c ≠ b) (hx : X.heap[c]? = some o) : Y.heap[c]? = some o := (h.just.block c (blk_lt hx) hc).trans hx
/-- A block holds an element whose number is x. -/
def VE (X : World) (M n b x : Nat) : Prop := ∃ l, BlkE X b l ∧ FE M n l x
theorem VE.ext {X Y : World} {M n b x : Nat} (h : VE X M n b x) (hE : Ext X Y) : VE Y M n b x := let ⟨l, h1, h2⟩ := h; ⟨l, h1.ext hE, h2⟩
theorem VE.load {X : World} {M n b x : Nat} (h : VE X M n b x) : ∃ l, (Instr.loadAt 81 (.pointer (some ⟨b, 0, none⟩))).run Try.prog X = .ok (EV l) X ∧ FE M n l x := let ⟨l, h1, h2⟩ := h; ⟨l, loadE h1.range h2.elt.six, h2⟩
theorem Lay.ve {b c x M n : Nat} {l : List Nat} {X Y : World} (h : Lay b l X Y) (hc : c ≠ b) (hx : VE X M n c x) : VE Y M n c x := let ⟨o, h1, h2⟩ := hx; ⟨o, h.other hc h1, h2⟩
theorem Lay.mk' {b x M n : Nat} {l : List Nat} {X Y : World} (h : Lay b l X Y) (hf : FE M n l x) : VE Y M n b x := ⟨l, h.blk, hf⟩

/-- A block of the call's own gets a value of many cells. -/
theorem wp_storeV {op : Oper} {a : Act} {X : World} {K : Act → World → Prop} {Q : Exit → Act → World → Prop} (ty : TypeId) (x y : Operand) (ho : op.op = .store ty x y) (hd : op.dst = none) {b : Nat} {cs cs' : Array Value} {t : TypeId}
    (hx : a.eval x = .pointer (some ⟨b, 0, none⟩)) (hy : a.eval y = .agg cs') (hg : X.heap[b]? = some (.cells cs t (0, 0))) (hi : (Try.prog.info? ty).map (·.size) = some cs'.size) (hold : cs.size = cs'.size) (h1 : cs'.all (·.oneCell') = true)
    (hK : ∀ Y, Y.heap[b]? = some (.cells cs' t (0, 0)) → Just b X Y → Y.heap.size = X.heap.size → K a Y) : op.wp Try.prog a X K Q := by
  refine wp_store_row ty x y ho b cs' hx hy t cs hg hi hold h1 ?_
  rw [hd]
  exact hK _ (Go.setRow_heap X b cs cs' t _ hg) ⟨rfl, rfl, rfl, by simp [World.setRow], fun k _ hk => Go.setRow_other X b k cs' hk⟩ (by simp [World.setRow])
/-- A block's value of many cells is read. -/
theorem wp_loadV {op : Oper} {a : Act} {X : World} {K : Act → World → Prop} {Q : Exit → Act → World → Prop} (ty : TypeId) (x : Operand) (ho : op.op = .load ty x) {b : Nat} {cs : Array Value} {t : TypeId} {d : TypeDesc} (hx : a.eval x = .pointer (some ⟨b, 0, none⟩)) (hg : X.heap[b]? = some (.cells cs t (0, 0)))
    (hu : Try.prog.underlying ty = some d) (hd : d.isRow = true) (hi : (Try.prog.info? ty).map (·.size) = some cs.size) {v : Value} (hv : v = .agg cs) (hK : K (a.put op.dst v) X) : op.wp Try.prog a X K Q :=
  wp_load_row ty x ho b hx t cs (0, 0) d hg hu (by cases d <;> first | rfl | exact hd) hi (by rw [← hv]; exact hK)
theorem Just.ext {b : Nat} {w X Y : World} (h : Just b X Y) (hE : Ext w X) (hb : w.heap.size ≤ b) : Ext w Y := Below.trans hE (h.below hb hE.bsize)
theorem Just.at_ {b c : Nat} {X Y : World} {o : Obj} (h : Just b X Y) (hc : c ≠ b) (hx : X.heap[c]? = some o) : Y.heap[c]? = some o := (h.block c (blk_lt hx) hc).trans hx

section
variable {w X : World} {P0 : Nat → Prop} {k g size n inv M bb : Nat} {pl nl bl xl yl ml ol rl tl fl : List Nat} {Ap An Ab Ax Ay : Option Addr} {cp cn cb cx cy : Nat}
theorem Num.ext (h : Num w P0 k g size n inv M bb pl nl bl xl yl ml ol rl tl fl Ap An Ab Ax Ay cp cn cb cx cy) (hP : ∀ b, P0 b → b < w.heap.size) (hE : Ext w X) : Num X P0 k g size n inv M bb pl nl bl xl yl ml ol rl tl fl Ap An Ab Ax Ay cp cn cb cx cy :=
  ⟨hE.at_ h.blk, h.p.below hE hP, h.nn.below hE hP, h.b.below hE hP, h.x.below hE hP, h.y.below hE hP, h.fr.below hE h.fr.ff.fld.lt, h.pv, h.three, h.fb⟩
theorem Num.c_size (h : Num w P0 k g size n inv M bb pl nl bl xl yl ml ol rl tl fl Ap An Ab Ax Ay cp cn cb cx cy) : w.cell? ⟨k, 0, none⟩ = some (.int .i64 (size : Int)) := blk_cell h.blk 0
theorem Num.c_p (h : Num w P0 k g size n inv M bb pl nl bl xl yl ml ol rl tl fl Ap An Ab Ax Ay cp cn cb cx cy) : w.cell? ⟨k, 1, none⟩ = some (.slice Ap pl.length cp) := blk_cell h.blk 1
theorem Num.c_n (h : Num w P0 k g size n inv M bb pl nl bl xl yl ml ol rl tl fl Ap An Ab Ax Ay cp cn cb cx cy) : w.cell? ⟨k, 2, none⟩ = some (.slice An nl.length cn) := blk_cell h.blk 2
theorem Num.c_x (h : Num w P0 k g size n inv M bb pl nl bl xl yl ml ol rl tl fl Ap An Ab Ax Ay cp cn cb cx cy) : w.cell? ⟨k, 4, none⟩ = some (.slice Ax xl.length cx) := blk_cell h.blk 4
theorem Num.c_y (h : Num w P0 k g size n inv M bb pl nl bl xl yl ml ol rl tl fl Ap An Ab Ax Ay cp cn cb cx cy) : w.cell? ⟨k, 5, none⟩ = some (.slice Ay yl.length cy) := blk_cell h.blk 5
theorem Num.c_f (h : Num w P0 k g size n inv M bb pl nl bl xl yl ml ol rl tl fl Ap An Ab Ax Ay cp cn cb cx cy) : w.cell? ⟨k, 6, none⟩ = some (.pointer (some ⟨g, 0, none⟩)) := blk_cell h.blk 6
theorem Num.r_three (h : Num w P0 k g size n inv M bb pl nl bl xl yl ml ol rl tl fl Ap An Ab Ax Ay cp cn cb cx cy) : w.rangeAt k 7 (nts tl) := fun j v hv => by
  rw [blk_cell h.blk]
  obtain ⟨a, b, c, d, e, f, rfl⟩ := six h.three.elt.six
  match j, hv with
  | 0, hv | 1, hv | 2, hv | 3, hv | 4, hv | 5, hv => exact hv
  | j + 6, hv => simp [nts] at hv
theorem Num.r_fb (h : Num w P0 k g size n inv M bb pl nl bl xl yl ml ol rl tl fl Ap An Ab Ax Ay cp cn cb cx cy) : w.rangeAt k 13 (nts fl) := fun j v hv => by
  rw [blk_cell h.blk]
  obtain ⟨a, b, c, d, e, f, rfl⟩ := six h.three.elt.six
  obtain ⟨a, b, c, d, e, f, rfl⟩ := six h.fb.elt.six
  match j, hv with
  | 0, hv | 1, hv | 2, hv | 3, hv | 4, hv | 5, hv => exact hv
  | j + 6, hv => simp [nts] at hv
theorem Num.six (h : Num w P0 k g size n inv M bb pl nl bl xl yl ml ol rl tl fl Ap An Ab Ax Ay cp cn cb cx cy) {x : Nat} (hx : x < M) : (digs 18446744073709551616 x).length ≤ 6 :=
  digs_length_of_lt (by omega) (Nat.lt_of_lt_of_le (Nat.lt_trans hx h.fr.ff.room) (Nat.pow_le_pow_right (by omega) h.fr.ff.nle))
end
end Go.Proofs.Ytldhmjfjbalakaa
