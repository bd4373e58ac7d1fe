/- Points by three elements, in memory. curve: a point is doubled. curve: a point by three elements. -/
import Derived.Test.YtendnkpiidhogaaGreatQ598c8aabe007
import Derived.Deep.DeepCutAuto
namespace Go.Proofs.YtendnkpiidhogaaGreat
open Go.RowKit

def JV (x y z : List Nat) : Value := .agg (nts (x ++ y ++ z)).toArray
def BlkJ (X : World) (b : Nat) (x y z : List Nat) : Prop := X.heap[b]? = some (.cells (nts (x ++ y ++ z)).toArray 199 (0, 0))
theorem infoJ : (Tryz.prog.info? 199).map (·.size) = some 18 := by kernel_rfl
theorem nts_append (a b : List Nat) : nts (a ++ b) = nts a ++ nts b := by simp [nts]
section
variable {X : World} {b : Nat} {x y z : List Nat}
theorem BlkJ.range (h : BlkJ X b x y z) (pre l post : List Nat) (e : x ++ y ++ z = pre ++ l ++ post) : X.rangeAt b pre.length (nts l) := fun j v hv => by
 rw [blk_cell h, e, List.getElem?_toArray, nts_append, nts_append, List.append_assoc, List.getElem?_append_right (by rw [nts_length]; omega), nts_length, Nat.add_sub_cancel_left, List.getElem?_append_left, hv]
 exact (List.getElem?_eq_some_iff.1 hv).1
theorem BlkJ.rx (h : BlkJ X b x y z) : X.rangeAt b 0 (nts x) := by have := h.range [] x (y ++ z) (by simp); simpa using this
theorem BlkJ.ry (h : BlkJ X b x y z) (hx : x.length = 6) : X.rangeAt b 6 (nts y) := by have := h.range x y z rfl; rwa [hx] at this
theorem BlkJ.rz (h : BlkJ X b x y z) (hx : x.length = 6) (hy : y.length = 6) : X.rangeAt b 12 (nts z) := by have := h.range (x ++ y) z [] (by simp); rwa [List.length_append, hx, hy] at this
end
theorem builtJ {x y z : List Nat} (hx : x.length = 6) (hy : y.length = 6) (hz : z.length = 6) : Tryz.prog.built 199 [(0, EV x), (1, EV y), (2, EV z)] = some (nts (x ++ y ++ z)).toArray := by
 obtain ⟨x0, x1, x2, x3, x4, x5, rfl⟩ := six hx
 obtain ⟨y0, y1, y2, y3, y4, y5, rfl⟩ := six hy
 obtain ⟨z0, z1, z2, z3, z4, z5, rfl⟩ := six hz
 kernel_rfl
theorem wp_buildJ {op : Oper} {a : Act} {X : World} {K : Act → World → Prop} {Q : Exit → Act → World → Prop} (p q r : Operand) (ho : op.op = .build 199 #[(0, p), (1, q), (2, r)]) {x y z : List Nat} (hp : a.eval p = EV x) (hq : a.eval q = EV y) (hr : a.eval r = EV z)
 (hx : x.length = 6) (hy : y.length = 6) (hz : z.length = 6) (hK : K (a.put op.dst (JV x y z)) X) : op.wp Tryz.prog a X K Q := by
 have hb : (#[(0, p), (1, q), (2, r)].map fun (i, x) => (i, a.eval x)).toList = [(0, EV x), (1, EV y), (2, EV z)] := by simp [hp, hq, hr]
 refine wp_build 199 #[(0, p), (1, q), (2, r)] ho (by rw [hb, builtJ hx hy hz]; rfl) ?_
 rw [hb, builtJ hx hy hz]
 exact hK
theorem all_one (l : List Nat) : (nts l).toArray.all (·.oneCell') = true := all_oneCell_toArray (oneCell_nts l)
theorem end_j {fn : Func} {R : Ending → World → Prop} {a : Act} {W : World} {p : Tmp} {g : Nat} {x y z : List Nat} (hr : fn.results = #[.cell p 199]) (hp : a.tmps.getD p undef = .pointer (some ⟨g, 0, none⟩)) (hd : a.defers = [])
 (hg : BlkJ W g x y z) (hx : x.length = 6) (hy : y.length = 6) (hz : z.length = 6) (hR : R (.returned (JV x y z)) W) : bodyPost Tryz.prog fn R .ret a W :=
 bodyPost_ret (results_cell_row hr a.tmps W g _ _ _ _ hp hg Tryz.underlying199 rfl (by rw [List.size_toArray, nts_length, List.length_append, List.length_append, hx, hy, hz]; exact infoJ)) hd hR
theorem wp_storeJ {op : Oper} {a : Act} {X : World} {K : Act → World → Prop} {Q : Exit → Act → World → Prop} (p q : Operand) (ho : op.op = .store 199 p q) (hd : op.dst = none) {b : Nat} {x y z : List Nat} {cs : Array Value}
 (hp : a.eval p = .pointer (some ⟨b, 0, none⟩)) (hq : a.eval q = JV x y z) (hg : X.heap[b]? = some (.cells cs 199 (0, 0))) (hc : cs.size = 18) (hx : x.length = 6) (hy : y.length = 6) (hz : z.length = 6)
 (hK : ∀ Y, BlkJ Y b x y z → Just b X Y → Y.heap.size = X.heap.size → K a Y) : op.wp Tryz.prog a X K Q := by
 have hs : (nts (x ++ y ++ z)).toArray.size = 18 := by rw [List.size_toArray, nts_length, List.length_append, List.length_append, hx, hy, hz]
 exact wp_storeV 199 p q ho hd hp hq hg (by rw [hs]; exact infoJ) (by rw [hs, hc]) (all_one _) hK
def mm (M a b : Nat) : Nat := a * b % M
def am (M a b : Nat) : Nat := (a + b) % M
def sm (M a b : Nat) : Nat := (a + M - b % M) % M
theorem fm_any {g n inv M : Nat} {ml ol rl a b : List Nat} {x y : Nat} (w : World) (hF : FF w g n inv M ml ol rl) (ha : FE M n a x) (hb : FE M n b y) :
 Calls Tryz.prog 175 #[.pointer (some ⟨g, 0, none⟩), EV a, EV b] w fun e w' => ∃ o, e = .returned (EV o) ∧ FE M n o (mm M x y) ∧ Ext w w' :=
 (fmul_any w hF ha hb).mono fun _ _ ⟨o, h1, h2, h3⟩ => ⟨o, h1, h2.mod, h3⟩
theorem fa_any {g n inv M : Nat} {ml ol rl a b : List Nat} {x y : Nat} (w : World) (hF : FF w g n inv M ml ol rl) (ha : FE M n a x) (hb : FE M n b y) :
 Calls Tryz.prog 174 #[.pointer (some ⟨g, 0, none⟩), EV a, EV b] w fun e w' => ∃ o, e = .returned (EV o) ∧ FE M n o (am M x y) ∧ Ext w w' :=
 (fadd_any w hF ha hb).mono fun _ _ ⟨o, h1, h2, h3⟩ => ⟨o, h1, h2.mod, h3⟩
theorem fs_any {g n inv M : Nat} {ml ol rl a b : List Nat} {x y : Nat} (w : World) (hF : FF w g n inv M ml ol rl) (ha : FE M n a x) (hb : FE M n b y) :
 Calls Tryz.prog 176 #[.pointer (some ⟨g, 0, none⟩), EV a, EV b] w fun e w' => ∃ o, e = .returned (EV o) ∧ FE M n o (sm M x y) ∧ Ext w w' :=
 (fsub_any w hF ha hb.mod (Nat.le_of_lt (Nat.mod_lt _ (by have := hF.big; omega)))).mono fun _ _ ⟨o, h1, h2, h3⟩ => ⟨o, h1, h2.mod, h3⟩
theorem two_at2 (w : World) (o1 o2 : Obj) : ((w.alloc o1).alloc o2).heap[w.heap.size]? = some o1 ∧ ((w.alloc o1).alloc o2).heap[w.heap.size + 1]? = some o2 ∧ ((w.alloc o1).alloc o2).heap.size = w.heap.size + 2 :=
 ⟨(Ext.alloc _ _).at_ (heap_alloc_new w _), by have := heap_alloc_new (w.alloc o1) o2; rwa [World.size_alloc] at this, by simp⟩
structure FJ (M n : Nat) (lx ly lz : List Nat) (x y z : Nat) : Prop where
 x : FE M n lx x
 y : FE M n ly y
 z : FE M n lz z
end Go.Proofs.YtendnkpiidhogaaGreat

namespace Go.Proofs.YtendnkpiidhogaaGreat
open Go.RowKit

def dblP (M x y z : Nat) : Nat × Nat × Nat := let u1 := mm M z z; let u2 := mm M y y; let u3 := mm M x u2; let u4 := sm M x u1; let u5 := am M x u1; let u6 := mm M u4 u5; let u7 := mm M 3 u6; let u8 := am M u3 u3; let u9 := am M u8 u8; let u10 := mm M u7 u7; let u11 := am M u9 u9; let u12 := sm M u10 u11; let u13 := am M y z; let u14 := mm M u13 u13; let u15 := sm M u14 u2; let u16 := sm M u15 u1; let u17 := mm M u2 u2; let u18 := am M u17 u17; let u19 := am M u18 u18; let u20 := sm M u9 u12; let u21 := mm M u7 u20; let u22 := am M u19 u19; let u23 := sm M u21 u22; (u12, u23, u16)
set_option maxRecDepth 100000 in
set_option maxHeartbeats 16000000 in
theorem double_any {P0 : Nat → Prop} {k g size n inv M bb : Nat} {pl nl bl xl yl ml ol rl tl fl lx ly lz : List Nat} {Ap An Ab Ax Ay : Option Addr} {cp cn cb cx cy x y z : Nat} (w : World)
 (hk : Num w P0 k g size n inv M bb pl nl bl xl yl ml ol rl tl fl Ap An Ab Ax Ay cp cn cb cx cy) (hP0 : ∀ b, P0 b → b < w.heap.size) (hj : FJ M n lx ly lz x y z) :
 Calls Tryz.prog 182 #[.pointer (some ⟨k, 0, none⟩), JV lx ly lz] w fun e w' => ∃ ox oy oz, e = .returned (JV ox oy oz) ∧ FJ M n ox oy oz (dblP M x y z).1 (dblP M x y z).2.1 (dblP M x y z).2.2 ∧ Ext w w' := by
 obtain ⟨cs, hcs⟩ : ∃ cs, (nts (lx ++ ly ++ lz)).toArray = cs := ⟨_, rfl⟩
 obtain ⟨W0, hW0⟩ : ∃ W0, W0 = (w.alloc (.cells cs 199)).alloc (.cells #[.int .u64 0, .int .u64 0, .int .u64 0, .int .u64 0, .int .u64 0, .int .u64 0, .int .u64 0, .int .u64 0, .int .u64 0, .int .u64 0, .int .u64 0, .int .u64 0, .int .u64 0, .int .u64 0, .int .u64 0, .int .u64 0, .int .u64 0, .int .u64 0] 199) := ⟨_, rfl⟩
 obtain ⟨q, hq⟩ : ∃ q, w.heap.size = q := ⟨_, rfl⟩
 have hE0 : Ext w W0 := by rw [hW0]; exact (Ext.alloc _ _).trans (Ext.alloc _ _)
 obtain ⟨hpj, hrb, hz0⟩ := two_at2 w (.cells cs 199) (.cells #[.int .u64 0, .int .u64 0, .int .u64 0, .int .u64 0, .int .u64 0, .int .u64 0, .int .u64 0, .int .u64 0, .int .u64 0, .int .u64 0, .int .u64 0, .int .u64 0, .int .u64 0, .int .u64 0, .int .u64 0, .int .u64 0, .int .u64 0, .int .u64 0] 199)
 rw [← hW0, hq] at hpj hrb hz0
 have hpj : BlkJ W0 q lx ly lz := by rw [BlkJ, hcs]; exact hpj
 have hn := Lib.hid (hk.ext hP0 hE0)
 have hP0' : ∀ b, P0 b → b < W0.heap.size := fun b hb => Nat.lt_of_lt_of_le (hP0 b hb) hE0.bsize
 have k6 := hn.out.c_f
 have hJ := Lib.hid hj
 have HE0 := Lib.hid hE0
 have Hz0 := Lib.hid hz0
 obtain ⟨u1, e_u1⟩ : ∃ v, mm M z z = v := ⟨_, rfl⟩
 have E_u1 := Lib.hid e_u1
 clear e_u1
 obtain ⟨u2, e_u2⟩ : ∃ v, mm M y y = v := ⟨_, rfl⟩
 have E_u2 := Lib.hid e_u2
 clear e_u2
 obtain ⟨u3, e_u3⟩ : ∃ v, mm M x u2 = v := ⟨_, rfl⟩
 have E_u3 := Lib.hid e_u3
 clear e_u3
 obtain ⟨u4, e_u4⟩ : ∃ v, sm M x u1 = v := ⟨_, rfl⟩
 have E_u4 := Lib.hid e_u4
 clear e_u4
 obtain ⟨u5, e_u5⟩ : ∃ v, am M x u1 = v := ⟨_, rfl⟩
 have E_u5 := Lib.hid e_u5
 clear e_u5
 obtain ⟨u6, e_u6⟩ : ∃ v, mm M u4 u5 = v := ⟨_, rfl⟩
 have E_u6 := Lib.hid e_u6
 clear e_u6
 obtain ⟨u7, e_u7⟩ : ∃ v, mm M 3 u6 = v := ⟨_, rfl⟩
 have E_u7 := Lib.hid e_u7
 clear e_u7
 obtain ⟨u8, e_u8⟩ : ∃ v, am M u3 u3 = v := ⟨_, rfl⟩
 have E_u8 := Lib.hid e_u8
 clear e_u8
 obtain ⟨u9, e_u9⟩ : ∃ v, am M u8 u8 = v := ⟨_, rfl⟩
 have E_u9 := Lib.hid e_u9
 clear e_u9
 obtain ⟨u10, e_u10⟩ : ∃ v, mm M u7 u7 = v := ⟨_, rfl⟩
 have E_u10 := Lib.hid e_u10
 clear e_u10
 obtain ⟨u11, e_u11⟩ : ∃ v, am M u9 u9 = v := ⟨_, rfl⟩
 have E_u11 := Lib.hid e_u11
 clear e_u11
 obtain ⟨u12, e_u12⟩ : ∃ v, sm M u10 u11 = v := ⟨_, rfl⟩
 have E_u12 := Lib.hid e_u12
 clear e_u12
 obtain ⟨u13, e_u13⟩ : ∃ v, am M y z = v := ⟨_, rfl⟩
 have E_u13 := Lib.hid e_u13
 clear e_u13
 obtain ⟨u14, e_u14⟩ : ∃ v, mm M u13 u13 = v := ⟨_, rfl⟩
 have E_u14 := Lib.hid e_u14
 clear e_u14
 obtain ⟨u15, e_u15⟩ : ∃ v, sm M u14 u2 = v := ⟨_, rfl⟩
 have E_u15 := Lib.hid e_u15
 clear e_u15
 obtain ⟨u16, e_u16⟩ : ∃ v, sm M u15 u1 = v := ⟨_, rfl⟩
 have E_u16 := Lib.hid e_u16
 clear e_u16
 obtain ⟨u17, e_u17⟩ : ∃ v, mm M u2 u2 = v := ⟨_, rfl⟩
 have E_u17 := Lib.hid e_u17
 clear e_u17
 obtain ⟨u18, e_u18⟩ : ∃ v, am M u17 u17 = v := ⟨_, rfl⟩
 have E_u18 := Lib.hid e_u18
 clear e_u18
 obtain ⟨u19, e_u19⟩ : ∃ v, am M u18 u18 = v := ⟨_, rfl⟩
 have E_u19 := Lib.hid e_u19
 clear e_u19
 obtain ⟨u20, e_u20⟩ : ∃ v, sm M u9 u12 = v := ⟨_, rfl⟩
 have E_u20 := Lib.hid e_u20
 clear e_u20
 obtain ⟨u21, e_u21⟩ : ∃ v, mm M u7 u20 = v := ⟨_, rfl⟩
 have E_u21 := Lib.hid e_u21
 clear e_u21
 obtain ⟨u22, e_u22⟩ : ∃ v, am M u19 u19 = v := ⟨_, rfl⟩
 have E_u22 := Lib.hid e_u22
 clear e_u22
 obtain ⟨u23, e_u23⟩ : ∃ v, sm M u21 u22 = v := ⟨_, rfl⟩
 have E_u23 := Lib.hid e_u23
 clear e_u23
 have hres := Lib.hid (show dblP M x y z = (u12, u23, u16) by simp only [dblP, E_u1.out, E_u2.out, E_u3.out, E_u4.out, E_u5.out, E_u6.out, E_u7.out, E_u8.out, E_u9.out, E_u10.out, E_u11.out, E_u12.out, E_u13.out, E_u14.out, E_u15.out, E_u16.out, E_u17.out, E_u18.out, E_u19.out, E_u20.out, E_u21.out, E_u22.out, E_u23.out])
 rw [hres.out]
 rw [show JV lx ly lz = .agg cs by rw [JV, hcs]]
 have Hcs := Lib.hid hcs
 clear hE0 hz0 hk hP0 hj hcs
 go_enter Tryz.func182, Tryz.ntmps182
 go_upto_region 1 with fail
 rw [← hW0]
 have Hq := Lib.hid hq
 have HW0 := Lib.hid hW0
 have hE := Ext.refl W0
 clear hq hW0
 go_upto_region 2 with fail
 clear k6
 refine Par.region_ext (by kernel_rfl) 14 [0, 0, 2, 0, 8, 31, 0, 0, 128, 0, 512, 2047, 0, 0, 16383, 32767] [12, 13] (fun j f X => match j with
  | 0 => f 0 = .pointer (some ⟨g, 0, none⟩)
  | 1 => f 1 = .pointer (some ⟨q, 12, none⟩)
  | 2 => ∃ o, f 2 = EV o ∧ FE M n o z
  | 3 => f 3 = .pointer (some ⟨q, 12, none⟩)
  | 4 => ∃ o, f 4 = EV o ∧ FE M n o z
  | 5 => ∃ o, f 5 = EV o ∧ FE M n o u1
  | 6 => f 6 = .pointer (some ⟨g, 0, none⟩)
  | 7 => f 7 = .pointer (some ⟨q, 6, none⟩)
  | 8 => ∃ o, f 8 = EV o ∧ FE M n o y
  | 9 => f 9 = .pointer (some ⟨q, 6, none⟩)
  | 10 => ∃ o, f 10 = EV o ∧ FE M n o y
  | 11 => ∃ o, f 11 = EV o ∧ FE M n o u2
  | 12 => ∃ b, f 12 = .pointer (some ⟨b, 0, none⟩) ∧ W0.heap.size ≤ b ∧ X.heap[b]? = some (.cells #[.int .u64 0, .int .u64 0, .int .u64 0, .int .u64 0, .int .u64 0, .int .u64 0] 160 (0, 0))
  | 13 => ∃ b, f 13 = .pointer (some ⟨b, 0, none⟩) ∧ W0.heap.size ≤ b ∧ X.heap[b]? = some (.cells #[.int .u64 0, .int .u64 0, .int .u64 0, .int .u64 0, .int .u64 0, .int .u64 0] 160 (0, 0))
  | _ => True) (by kernel_rfl) [(20, 0), (21, 1), (22, 2), (23, 3), (24, 4), (25, 5), (26, 6), (27, 7), (28, 8), (29, 9), (30, 10), (31, 11), (6, 12), (7, 13)] (by kernel_rfl) ?_
 refine Par.v0 1 13 ?_
 refine Par.v0 2 12 ?_
 refine lE 3 11 1 (fun _ hX => BlkJ.rz ((hE.trans hX).at_ hpj) hJ.out.x.elt.six hJ.out.y.elt.six) hJ.out.z ?_
 refine Par.v0 4 10 ?_
 refine lE 5 9 3 (fun _ hX => BlkJ.rz ((hE.trans hX).at_ hpj) hJ.out.x.elt.six hJ.out.y.elt.six) hJ.out.z ?_
 refine fc 6 8 0 2 4 (fun X hX _ _ h h' => fm_any X (hn.out.ext hP0' (hE.trans hX)).fr.ff h h') E_u1.out ?_
 refine Par.v0 7 7 ?_
 refine Par.v0 8 6 ?_
 refine lE 9 5 7 (fun _ hX => BlkJ.ry ((hE.trans hX).at_ hpj) hJ.out.x.elt.six) hJ.out.y ?_
 refine Par.v0 10 4 ?_
 refine lE 11 3 9 (fun _ hX => BlkJ.ry ((hE.trans hX).at_ hpj) hJ.out.x.elt.six) hJ.out.y ?_
 refine fc 12 2 6 8 10 (fun X hX _ _ h h' => fm_any X (hn.out.ext hP0' (hE.trans hX)).fr.ff h h') E_u2.out ?_
 refine Par.al 13 1 ?_
 refine Par.al 14 0 ?_
 refine Par.AllOps.fin ⟨fun f X hX hR hal hap => ?_⟩
 obtain ⟨o2, (e2 : f 2 = _), h2⟩ := hR 2 (by decide)
 obtain ⟨o4, (e4 : f 4 = _), h4⟩ := hR 4 (by decide)
 obtain ⟨o5, (e5 : f 5 = _), h5⟩ := hR 5 (by decide)
 obtain ⟨o8, (e8 : f 8 = _), h8⟩ := hR 8 (by decide)
 obtain ⟨o10, (e10 : f 10 = _), h10⟩ := hR 10 (by decide)
 obtain ⟨o11, (e11 : f 11 = _), h11⟩ := hR 11 (by decide)
 obtain ⟨br2_12, (e12 : f 12 = _), lr2_12, hr2_12⟩ := hR 12 (by decide)
 obtain ⟨br2_13, (e13 : f 13 = _), lr2_13, hr2_13⟩ := hR 13 (by decide)
 have nr2_13_12 : br2_13 ≠ br2_12 := fun e => hap 13 12 (by decide) (by decide) rfl rfl (by decide) (by rw [e13, e12, e])
 simp only [yA, yB, yD, yE, e2, e4, e5, e8, e10, e11, e12, e13]
 clear hR hal hap e2 e4 e5 e8 e10 e11 e12 e13
 refine Par.Chain.next (fun K hK => ⟨Par.want (by kernel_rfl) (wp_storeE (.tmp 6) (.tmp 25) rfl rfl rfl rfl (hr2_12) zero6 h5.elt.six (fun Y1_14 hl1_14 => hK.out _ _ ?_))⟩)
 refine Par.Chain.next (fun K hK => ⟨Par.want (by kernel_rfl) (wp_storeE (.tmp 7) (.tmp 31) rfl rfl rfl rfl (hl1_14.other nr2_13_12 (hr2_13)) zero6 h11.elt.six (fun Y1_15 hl1_15 => hK.out _ _ ?_))⟩)
 refine Par.Chain.done ?_
 have vbr2_12 : VE Y1_15 M n br2_12 u1 := (hl1_15.ve (Ne.symm nr2_13_12) (hl1_14.mk' h5))
 have lb_vbr2_12 := Nat.le_trans hE.bsize lr2_12
 have vbr2_13 : VE Y1_15 M n br2_13 u2 := (hl1_15.mk' h11)
 have lb_vbr2_13 := Nat.le_trans hE.bsize lr2_13
 have d_br2_12_br2_13 : br2_12 ≠ br2_13 := (Ne.symm nr2_13_12)
 have hE' : Ext W0 Y1_15 := (hl1_15.ext (hl1_14.ext (hE.trans hX) (Nat.le_trans hE.bsize lr2_12)) (Nat.le_trans hE.bsize lr2_13))
 clear hE hX hl1_14 hl1_15 h2 h4 h5 h8 h10 h11 
 have hE := hE'
 clear hE'
 go_upto_region 3 with fail
 refine Par.region_txt 6 [0, 0, 2, 0, 15, 0, 63] [5] (fun j f X => match j with
  | 0 => f 0 = .pointer (some ⟨g, 0, none⟩)
  | 1 => f 1 = .pointer (some ⟨q, 0, none⟩)
  | 2 => ∃ o, f 2 = EV o ∧ FE M n o x
  | 3 => ∃ o, f 3 = EV o ∧ FE M n o u2
  | 4 => ∃ o, f 4 = EV o ∧ FE M n o u3
  | 5 => ∃ b, f 5 = .pointer (some ⟨b, 0, none⟩) ∧ Y1_15.heap.size ≤ b ∧ X.heap[b]? = some (.cells #[.int .u64 0, .int .u64 0, .int .u64 0, .int .u64 0, .int .u64 0, .int .u64 0] 160 (0, 0))
  | _ => True) (by kernel_rfl) [(32, 0), (33, 1), (34, 2), (35, 3), (36, 4), (8, 5)] (by kernel_rfl) ?_
 refine Par.v0 1 5 ?_
 refine Par.v0 2 4 ?_
 refine lE 3 3 1 (fun _ hX => BlkJ.rx ((hE.trans hX).at_ hpj)) hJ.out.x ?_
 refine lX 4 2 (fun X hX => let ⟨o, hbl, ho⟩ := vbr2_13.ext hX; ⟨o, hbl.range, ho⟩) ?_
 refine fc 5 1 0 2 3 (fun X hX _ _ h h' => fm_any X (hn.out.ext hP0' (hE.trans hX)).fr.ff h h') E_u3.out ?_
 refine Par.al 6 0 ?_
 refine Par.AllOps.fin ⟨fun f X hX hR hal hap => ?_⟩
 obtain ⟨o2, (e2 : f 2 = _), h2⟩ := hR 2 (by decide)
 obtain ⟨o3, (e3 : f 3 = _), h3⟩ := hR 3 (by decide)
 obtain ⟨o4, (e4 : f 4 = _), h4⟩ := hR 4 (by decide)
 obtain ⟨br3_5, (e5 : f 5 = _), lr3_5, hr3_5⟩ := hR 5 (by decide)
 simp only [yA, yB, yD, yE, e2, e3, e4, e5]
 clear hR hal hap e2 e3 e4 e5
 refine Par.Chain.next (fun K hK => ⟨Par.want (by kernel_rfl) (wp_storeE (.tmp 8) (.tmp 36) rfl rfl rfl rfl (hr3_5) zero6 h4.elt.six (fun Y2_6 hl2_6 => hK.out _ _ ?_))⟩)
 refine Par.Chain.done ?_
 have d_br2_12_br3_5 : br2_12 ≠ br3_5 := by have := (let ⟨_, h, _⟩ := vbr2_12; h.lt : br2_12 < Y1_15.heap.size); omega
 replace vbr2_12 := (hl2_6.ve d_br2_12_br3_5 (vbr2_12.ext hX))
 have d_br2_13_br3_5 : br2_13 ≠ br3_5 := by have := (let ⟨_, h, _⟩ := vbr2_13; h.lt : br2_13 < Y1_15.heap.size); omega
 replace vbr2_13 := (hl2_6.ve d_br2_13_br3_5 (vbr2_13.ext hX))
 have vbr3_5 : VE Y2_6 M n br3_5 u3 := (hl2_6.mk' h4)
 have lb_vbr3_5 := Nat.le_trans hE.bsize lr3_5
 have hE' : Ext W0 Y2_6 := (hl2_6.ext (hE.trans hX) (Nat.le_trans hE.bsize lr3_5))
 clear hE hX hl2_6 h2 h3 h4
 have hE := hE'
 clear hE'
 go_upto_region 4 with fail
 refine Par.region_ext (by kernel_rfl) 19 [0, 0, 2, 6, 14, 0, 0, 0, 128, 0, 960, 0, 0, 4096, 0, 32704, 65504, 131071, 0, 524287] [18] (fun j f X => match j with
  | 0 => f 0 = .pointer (some ⟨g, 0, none⟩)
  | 1 => f 1 = .pointer (some ⟨k, 0, none⟩)
  | 2 => f 2 = .pointer (some ⟨k, 0, none⟩)
  | 3 => f 3 = .pointer (some ⟨k, 7, none⟩)
  | 4 => ∃ o, f 4 = EV o ∧ FE M n o 3
  | 5 => f 5 = .pointer (some ⟨g, 0, none⟩)
  | 6 => f 6 = .pointer (some ⟨g, 0, none⟩)
  | 7 => f 7 = .pointer (some ⟨q, 0, none⟩)
  | 8 => ∃ o, f 8 = EV o ∧ FE M n o x
  | 9 => ∃ o, f 9 = EV o ∧ FE M n o u1
  | 10 => ∃ o, f 10 = EV o ∧ FE M n o u4
  | 11 => f 11 = .pointer (some ⟨g, 0, none⟩)
  | 12 => f 12 = .pointer (some ⟨q, 0, none⟩)
  | 13 => ∃ o, f 13 = EV o ∧ FE M n o x
  | 14 => ∃ o, f 14 = EV o ∧ FE M n o u1
  | 15 => ∃ o, f 15 = EV o ∧ FE M n o u5
  | 16 => ∃ o, f 16 = EV o ∧ FE M n o u6
  | 17 => ∃ o, f 17 = EV o ∧ FE M n o u7
  | 18 => ∃ b, f 18 = .pointer (some ⟨b, 0, none⟩) ∧ Y2_6.heap.size ≤ b ∧ X.heap[b]? = some (.cells #[.int .u64 0, .int .u64 0, .int .u64 0, .int .u64 0, .int .u64 0, .int .u64 0] 160 (0, 0))
  | _ => True) (by kernel_rfl) [(37, 0), (38, 1), (39, 2), (40, 3), (41, 4), (42, 5), (43, 6), (44, 7), (45, 8), (46, 9), (47, 10), (48, 11), (49, 12), (50, 13), (51, 14), (52, 15), (53, 16), (54, 17), (9, 18)] (by kernel_rfl) ?_
 refine Par.v0 1 18 ?_
 refine Par.v0 2 17 ?_
 refine Par.v1 3 16 1 ?_
 refine Par.v1 4 15 2 ?_
 refine Par.S 5 14 [(37, 0), (38, 1), (39, 2), (40, 3), (42, 5), (43, 6), (44, 7), (45, 8), (46, 9), (47, 10), (48, 11), (49, 12), (50, 13), (51, 14), (52, 15), (53, 16), (9, 18)] (fun f X hX hR K hK => ?_) ?_
 · have e3 : f 3 = _ := hR.out 3 rfl
   simp only [yA, yB, yC, yD, yE, e3]
   refine ⟨Par.want (by kernel_rfl) (wp_loadE (.tmp 40) rfl rfl ((hn.out.ext hP0' (hE.trans hX)).r_three) hn.out.three.elt.six ?_)⟩
   exact hK.out _ (EV tl) _ (by simp only [yA, yB, yC, yD, yE, e3]) (Ext.refl _) trivial (fun Y hY => ⟨tl, rfl, hn.out.three⟩)
 refine Par.v0 6 13 ?_
 refine Par.v0 7 12 ?_
 refine Par.v0 8 11 ?_
 refine lE 9 10 7 (fun _ hX => BlkJ.rx ((hE.trans hX).at_ hpj)) hJ.out.x ?_
 refine lX 10 9 (fun X hX => let ⟨o, hbl, ho⟩ := vbr2_12.ext hX; ⟨o, hbl.range, ho⟩) ?_
 refine fc 11 8 6 8 9 (fun X hX _ _ h h' => fs_any X (hn.out.ext hP0' (hE.trans hX)).fr.ff h h') E_u4.out ?_
 refine Par.v0 12 7 ?_
 refine Par.v0 13 6 ?_
 refine lE 14 5 12 (fun _ hX => BlkJ.rx ((hE.trans hX).at_ hpj)) hJ.out.x ?_
 refine lX 15 4 (fun X hX => let ⟨o, hbl, ho⟩ := vbr2_12.ext hX; ⟨o, hbl.range, ho⟩) ?_
 refine fc 16 3 11 13 14 (fun X hX _ _ h h' => fa_any X (hn.out.ext hP0' (hE.trans hX)).fr.ff h h') E_u5.out ?_
 refine fc 17 2 5 10 15 (fun X hX _ _ h h' => fm_any X (hn.out.ext hP0' (hE.trans hX)).fr.ff h h') E_u6.out ?_
 refine fc 18 1 0 4 16 (fun X hX _ _ h h' => fm_any X (hn.out.ext hP0' (hE.trans hX)).fr.ff h h') E_u7.out ?_
 refine Par.al 19 0 ?_
 refine Par.AllOps.fin ⟨fun f X hX hR hal hap => ?_⟩
 obtain ⟨o4, (e4 : f 4 = _), h4⟩ := hR 4 (by decide)
 obtain ⟨o8, (e8 : f 8 = _), h8⟩ := hR 8 (by decide)
 obtain ⟨o9, (e9 : f 9 = _), h9⟩ := hR 9 (by decide)
 obtain ⟨o10, (e10 : f 10 = _), h10⟩ := hR 10 (by decide)
 obtain ⟨o13, (e13 : f 13 = _), h13⟩ := hR 13 (by decide)
 obtain ⟨o14, (e14 : f 14 = _), h14⟩ := hR 14 (by decide)
 obtain ⟨o15, (e15 : f 15 = _), h15⟩ := hR 15 (by decide)
 obtain ⟨o16, (e16 : f 16 = _), h16⟩ := hR 16 (by decide)
 obtain ⟨o17, (e17 : f 17 = _), h17⟩ := hR 17 (by decide)
 obtain ⟨br4_18, (e18 : f 18 = _), lr4_18, hr4_18⟩ := hR 18 (by decide)
 simp only [yA, yB, yD, yE, e4, e8, e9, e10, e13, e14, e15, e16, e17, e18]
 clear hR hal hap e4 e8 e9 e10 e13 e14 e15 e16 e17 e18
 refine Par.Chain.next (fun K hK => ⟨Par.want (by kernel_rfl) (wp_storeE (.tmp 9) (.tmp 54) rfl rfl rfl rfl (hr4_18) zero6 h17.elt.six (fun Y3_19 hl3_19 => hK.out _ _ ?_))⟩)
 refine Par.Chain.done ?_
 have d_br2_12_br4_18 : br2_12 ≠ br4_18 := by have := (let ⟨_, h, _⟩ := vbr2_12; h.lt : br2_12 < Y2_6.heap.size); omega
 replace vbr2_12 := (hl3_19.ve d_br2_12_br4_18 (vbr2_12.ext hX))
 have d_br2_13_br4_18 : br2_13 ≠ br4_18 := by have := (let ⟨_, h, _⟩ := vbr2_13; h.lt : br2_13 < Y2_6.heap.size); omega
 replace vbr2_13 := (hl3_19.ve d_br2_13_br4_18 (vbr2_13.ext hX))
 have d_br3_5_br4_18 : br3_5 ≠ br4_18 := by have := (let ⟨_, h, _⟩ := vbr3_5; h.lt : br3_5 < Y2_6.heap.size); omega
 replace vbr3_5 := (hl3_19.ve d_br3_5_br4_18 (vbr3_5.ext hX))
 have vbr4_18 : VE Y3_19 M n br4_18 u7 := (hl3_19.mk' h17)
 have lb_vbr4_18 := Nat.le_trans hE.bsize lr4_18
 have hE' : Ext W0 Y3_19 := (hl3_19.ext (hE.trans hX) (Nat.le_trans hE.bsize lr4_18))
 clear hE hX hl3_19 h4 h8 h9 h10 h13 h14 h15 h16 h17
 have hE := hE'
 clear hE'
 go_upto_region 5 with fail
 refine Par.region_ext (by kernel_rfl) 11 [0, 0, 0, 0, 14, 0, 0, 0, 254, 511, 0, 2047] [10] (fun j f X => match j with
  | 0 => f 0 = .pointer (some ⟨g, 0, none⟩)
  | 1 => f 1 = .pointer (some ⟨g, 0, none⟩)
  | 2 => ∃ o, f 2 = EV o ∧ FE M n o u3
  | 3 => ∃ o, f 3 = EV o ∧ FE M n o u3
  | 4 => ∃ o, f 4 = EV o ∧ FE M n o u8
  | 5 => f 5 = .pointer (some ⟨g, 0, none⟩)
  | 6 => ∃ o, f 6 = EV o ∧ FE M n o u3
  | 7 => ∃ o, f 7 = EV o ∧ FE M n o u3
  | 8 => ∃ o, f 8 = EV o ∧ FE M n o u8
  | 9 => ∃ o, f 9 = EV o ∧ FE M n o u9
  | 10 => ∃ b, f 10 = .pointer (some ⟨b, 0, none⟩) ∧ Y3_19.heap.size ≤ b ∧ X.heap[b]? = some (.cells #[.int .u64 0, .int .u64 0, .int .u64 0, .int .u64 0, .int .u64 0, .int .u64 0] 160 (0, 0))
  | _ => True) (by kernel_rfl) [(55, 0), (56, 1), (57, 2), (58, 3), (59, 4), (60, 5), (61, 6), (62, 7), (63, 8), (64, 9), (10, 10)] (by kernel_rfl) ?_
 refine Par.v0 1 10 ?_
 refine Par.v0 2 9 ?_
 refine lX 3 8 (fun X hX => let ⟨o, hbl, ho⟩ := vbr3_5.ext hX; ⟨o, hbl.range, ho⟩) ?_
 refine lX 4 7 (fun X hX => let ⟨o, hbl, ho⟩ := vbr3_5.ext hX; ⟨o, hbl.range, ho⟩) ?_
 refine fc 5 6 1 2 3 (fun X hX _ _ h h' => fa_any X (hn.out.ext hP0' (hE.trans hX)).fr.ff h h') E_u8.out ?_
 refine Par.v0 6 5 ?_
 refine lX 7 4 (fun X hX => let ⟨o, hbl, ho⟩ := vbr3_5.ext hX; ⟨o, hbl.range, ho⟩) ?_
 refine lX 8 3 (fun X hX => let ⟨o, hbl, ho⟩ := vbr3_5.ext hX; ⟨o, hbl.range, ho⟩) ?_
 refine fc 9 2 5 6 7 (fun X hX _ _ h h' => fa_any X (hn.out.ext hP0' (hE.trans hX)).fr.ff h h') E_u8.out ?_
 refine fc 10 1 0 4 8 (fun X hX _ _ h h' => fa_any X (hn.out.ext hP0' (hE.trans hX)).fr.ff h h') E_u9.out ?_
 refine Par.al 11 0 ?_
 refine Par.AllOps.fin ⟨fun f X hX hR hal hap => ?_⟩
 obtain ⟨o2, (e2 : f 2 = _), h2⟩ := hR 2 (by decide)
 obtain ⟨o3, (e3 : f 3 = _), h3⟩ := hR 3 (by decide)
 obtain ⟨o4, (e4 : f 4 = _), h4⟩ := hR 4 (by decide)
 obtain ⟨o6, (e6 : f 6 = _), h6⟩ := hR 6 (by decide)
 obtain ⟨o7, (e7 : f 7 = _), h7⟩ := hR 7 (by decide)
 obtain ⟨o8, (e8 : f 8 = _), h8⟩ := hR 8 (by decide)
 obtain ⟨o9, (e9 : f 9 = _), h9⟩ := hR 9 (by decide)
 obtain ⟨br5_10, (e10 : f 10 = _), lr5_10, hr5_10⟩ := hR 10 (by decide)
 simp only [yA, yB, yD, yE, e2, e3, e4, e6, e7, e8, e9, e10]
 clear hR hal hap e2 e3 e4 e6 e7 e8 e9 e10
 refine Par.Chain.next (fun K hK => ⟨Par.want (by kernel_rfl) (wp_storeE (.tmp 10) (.tmp 64) rfl rfl rfl rfl (hr5_10) zero6 h9.elt.six (fun Y4_11 hl4_11 => hK.out _ _ ?_))⟩)
 refine Par.Chain.done ?_
 have d_br2_12_br5_10 : br2_12 ≠ br5_10 := by have := (let ⟨_, h, _⟩ := vbr2_12; h.lt : br2_12 < Y3_19.heap.size); omega
 replace vbr2_12 := (hl4_11.ve d_br2_12_br5_10 (vbr2_12.ext hX))
 have d_br2_13_br5_10 : br2_13 ≠ br5_10 := by have := (let ⟨_, h, _⟩ := vbr2_13; h.lt : br2_13 < Y3_19.heap.size); omega
 replace vbr2_13 := (hl4_11.ve d_br2_13_br5_10 (vbr2_13.ext hX))
 have d_br3_5_br5_10 : br3_5 ≠ br5_10 := by have := (let ⟨_, h, _⟩ := vbr3_5; h.lt : br3_5 < Y3_19.heap.size); omega
 replace vbr3_5 := (hl4_11.ve d_br3_5_br5_10 (vbr3_5.ext hX))
 have d_br4_18_br5_10 : br4_18 ≠ br5_10 := by have := (let ⟨_, h, _⟩ := vbr4_18; h.lt : br4_18 < Y3_19.heap.size); omega
 replace vbr4_18 := (hl4_11.ve d_br4_18_br5_10 (vbr4_18.ext hX))
 have vbr5_10 : VE Y4_11 M n br5_10 u9 := (hl4_11.mk' h9)
 have lb_vbr5_10 := Nat.le_trans hE.bsize lr5_10
 have hE' : Ext W0 Y4_11 := (hl4_11.ext (hE.trans hX) (Nat.le_trans hE.bsize lr5_10))
 clear hE hX hl4_11 h2 h3 h4 h6 h7 h8 h9
 have hE := hE'
 clear hE'
 go_upto_region 6 with fail
 refine Par.region_ext (by kernel_rfl) 11 [0, 0, 0, 0, 14, 0, 0, 0, 254, 511, 0, 2047] [10] (fun j f X => match j with
  | 0 => f 0 = .pointer (some ⟨g, 0, none⟩)
  | 1 => f 1 = .pointer (some ⟨g, 0, none⟩)
  | 2 => ∃ o, f 2 = EV o ∧ FE M n o u7
  | 3 => ∃ o, f 3 = EV o ∧ FE M n o u7
  | 4 => ∃ o, f 4 = EV o ∧ FE M n o u10
  | 5 => f 5 = .pointer (some ⟨g, 0, none⟩)
  | 6 => ∃ o, f 6 = EV o ∧ FE M n o u9
  | 7 => ∃ o, f 7 = EV o ∧ FE M n o u9
  | 8 => ∃ o, f 8 = EV o ∧ FE M n o u11
  | 9 => ∃ o, f 9 = EV o ∧ FE M n o u12
  | 10 => ∃ b, f 10 = .pointer (some ⟨b, 0, none⟩) ∧ Y4_11.heap.size ≤ b ∧ X.heap[b]? = some (.cells #[.int .u64 0, .int .u64 0, .int .u64 0, .int .u64 0, .int .u64 0, .int .u64 0] 160 (0, 0))
  | _ => True) (by kernel_rfl) [(65, 0), (66, 1), (67, 2), (68, 3), (69, 4), (70, 5), (71, 6), (72, 7), (73, 8), (74, 9), (11, 10)] (by kernel_rfl) ?_
 refine Par.v0 1 10 ?_
 refine Par.v0 2 9 ?_
 refine lX 3 8 (fun X hX => let ⟨o, hbl, ho⟩ := vbr4_18.ext hX; ⟨o, hbl.range, ho⟩) ?_
 refine lX 4 7 (fun X hX => let ⟨o, hbl, ho⟩ := vbr4_18.ext hX; ⟨o, hbl.range, ho⟩) ?_
 refine fc 5 6 1 2 3 (fun X hX _ _ h h' => fm_any X (hn.out.ext hP0' (hE.trans hX)).fr.ff h h') E_u10.out ?_
 refine Par.v0 6 5 ?_
 refine lX 7 4 (fun X hX => let ⟨o, hbl, ho⟩ := vbr5_10.ext hX; ⟨o, hbl.range, ho⟩) ?_
 refine lX 8 3 (fun X hX => let ⟨o, hbl, ho⟩ := vbr5_10.ext hX; ⟨o, hbl.range, ho⟩) ?_
 refine fc 9 2 5 6 7 (fun X hX _ _ h h' => fa_any X (hn.out.ext hP0' (hE.trans hX)).fr.ff h h') E_u11.out ?_
 refine fc 10 1 0 4 8 (fun X hX _ _ h h' => fs_any X (hn.out.ext hP0' (hE.trans hX)).fr.ff h h') E_u12.out ?_
 refine Par.al 11 0 ?_
 refine Par.AllOps.fin ⟨fun f X hX hR hal hap => ?_⟩
 obtain ⟨o2, (e2 : f 2 = _), h2⟩ := hR 2 (by decide)
 obtain ⟨o3, (e3 : f 3 = _), h3⟩ := hR 3 (by decide)
 obtain ⟨o4, (e4 : f 4 = _), h4⟩ := hR 4 (by decide)
 obtain ⟨o6, (e6 : f 6 = _), h6⟩ := hR 6 (by decide)
 obtain ⟨o7, (e7 : f 7 = _), h7⟩ := hR 7 (by decide)
 obtain ⟨o8, (e8 : f 8 = _), h8⟩ := hR 8 (by decide)
 obtain ⟨o9, (e9 : f 9 = _), h9⟩ := hR 9 (by decide)
 obtain ⟨br6_10, (e10 : f 10 = _), lr6_10, hr6_10⟩ := hR 10 (by decide)
 simp only [yA, yB, yD, yE, e2, e3, e4, e6, e7, e8, e9, e10]
 clear hR hal hap e2 e3 e4 e6 e7 e8 e9 e10
 refine Par.Chain.next (fun K hK => ⟨Par.want (by kernel_rfl) (wp_storeE (.tmp 11) (.tmp 74) rfl rfl rfl rfl (hr6_10) zero6 h9.elt.six (fun Y5_11 hl5_11 => hK.out _ _ ?_))⟩)
 refine Par.Chain.done ?_
 have d_br2_12_br6_10 : br2_12 ≠ br6_10 := by have := (let ⟨_, h, _⟩ := vbr2_12; h.lt : br2_12 < Y4_11.heap.size); omega
 replace vbr2_12 := (hl5_11.ve d_br2_12_br6_10 (vbr2_12.ext hX))
 have d_br2_13_br6_10 : br2_13 ≠ br6_10 := by have := (let ⟨_, h, _⟩ := vbr2_13; h.lt : br2_13 < Y4_11.heap.size); omega
 replace vbr2_13 := (hl5_11.ve d_br2_13_br6_10 (vbr2_13.ext hX))
 have d_br3_5_br6_10 : br3_5 ≠ br6_10 := by have := (let ⟨_, h, _⟩ := vbr3_5; h.lt : br3_5 < Y4_11.heap.size); omega
 replace vbr3_5 := (hl5_11.ve d_br3_5_br6_10 (vbr3_5.ext hX))
 have d_br4_18_br6_10 : br4_18 ≠ br6_10 := by have := (let ⟨_, h, _⟩ := vbr4_18; h.lt : br4_18 < Y4_11.heap.size); omega
 replace vbr4_18 := (hl5_11.ve d_br4_18_br6_10 (vbr4_18.ext hX))
 have d_br5_10_br6_10 : br5_10 ≠ br6_10 := by have := (let ⟨_, h, _⟩ := vbr5_10; h.lt : br5_10 < Y4_11.heap.size); omega
 replace vbr5_10 := (hl5_11.ve d_br5_10_br6_10 (vbr5_10.ext hX))
 have vbr6_10 : VE Y5_11 M n br6_10 u12 := (hl5_11.mk' h9)
 have lb_vbr6_10 := Nat.le_trans hE.bsize lr6_10
 have hE' : Ext W0 Y5_11 := (hl5_11.ext (hE.trans hX) (Nat.le_trans hE.bsize lr6_10))
 clear hE hX hl5_11 h2 h3 h4 h6 h7 h8 h9
 have hE := hE'
 clear hE'
 go_upto_region 7 with fail
 refine Par.region_txt 7 [0, 0, 2, 0, 8, 31, 0, 127] [6] (fun j f X => match j with
  | 0 => f 0 = .pointer (some ⟨g, 0, none⟩)
  | 1 => f 1 = .pointer (some ⟨q, 6, none⟩)
  | 2 => ∃ o, f 2 = EV o ∧ FE M n o y
  | 3 => f 3 = .pointer (some ⟨q, 12, none⟩)
  | 4 => ∃ o, f 4 = EV o ∧ FE M n o z
  | 5 => ∃ o, f 5 = EV o ∧ FE M n o u13
  | 6 => ∃ b, f 6 = .pointer (some ⟨b, 0, none⟩) ∧ Y5_11.heap.size ≤ b ∧ X.heap[b]? = some (.cells #[.int .u64 0, .int .u64 0, .int .u64 0, .int .u64 0, .int .u64 0, .int .u64 0] 160 (0, 0))
  | _ => True) (by kernel_rfl) [(75, 0), (76, 1), (77, 2), (78, 3), (79, 4), (80, 5), (12, 6)] (by kernel_rfl) ?_
 refine Par.v0 1 6 ?_
 refine Par.v0 2 5 ?_
 refine lE 3 4 1 (fun _ hX => BlkJ.ry ((hE.trans hX).at_ hpj) hJ.out.x.elt.six) hJ.out.y ?_
 refine Par.v0 4 3 ?_
 refine lE 5 2 3 (fun _ hX => BlkJ.rz ((hE.trans hX).at_ hpj) hJ.out.x.elt.six hJ.out.y.elt.six) hJ.out.z ?_
 refine fc 6 1 0 2 4 (fun X hX _ _ h h' => fa_any X (hn.out.ext hP0' (hE.trans hX)).fr.ff h h') E_u13.out ?_
 refine Par.al 7 0 ?_
 refine Par.AllOps.fin ⟨fun f X hX hR hal hap => ?_⟩
 obtain ⟨o2, (e2 : f 2 = _), h2⟩ := hR 2 (by decide)
 obtain ⟨o4, (e4 : f 4 = _), h4⟩ := hR 4 (by decide)
 obtain ⟨o5, (e5 : f 5 = _), h5⟩ := hR 5 (by decide)
 obtain ⟨br7_6, (e6 : f 6 = _), lr7_6, hr7_6⟩ := hR 6 (by decide)
 simp only [yA, yB, yD, yE, e2, e4, e5, e6]
 clear hR hal hap e2 e4 e5 e6
 refine Par.Chain.next (fun K hK => ⟨Par.want (by kernel_rfl) (wp_storeE (.tmp 12) (.tmp 80) rfl rfl rfl rfl (hr7_6) zero6 h5.elt.six (fun Y6_7 hl6_7 => hK.out _ _ ?_))⟩)
 refine Par.Chain.done ?_
 have d_br2_12_br7_6 : br2_12 ≠ br7_6 := by have := (let ⟨_, h, _⟩ := vbr2_12; h.lt : br2_12 < Y5_11.heap.size); omega
 replace vbr2_12 := (hl6_7.ve d_br2_12_br7_6 (vbr2_12.ext hX))
 have d_br2_13_br7_6 : br2_13 ≠ br7_6 := by have := (let ⟨_, h, _⟩ := vbr2_13; h.lt : br2_13 < Y5_11.heap.size); omega
 replace vbr2_13 := (hl6_7.ve d_br2_13_br7_6 (vbr2_13.ext hX))
 have d_br3_5_br7_6 : br3_5 ≠ br7_6 := by have := (let ⟨_, h, _⟩ := vbr3_5; h.lt : br3_5 < Y5_11.heap.size); omega
 replace vbr3_5 := (hl6_7.ve d_br3_5_br7_6 (vbr3_5.ext hX))
 have d_br4_18_br7_6 : br4_18 ≠ br7_6 := by have := (let ⟨_, h, _⟩ := vbr4_18; h.lt : br4_18 < Y5_11.heap.size); omega
 replace vbr4_18 := (hl6_7.ve d_br4_18_br7_6 (vbr4_18.ext hX))
 have d_br5_10_br7_6 : br5_10 ≠ br7_6 := by have := (let ⟨_, h, _⟩ := vbr5_10; h.lt : br5_10 < Y5_11.heap.size); omega
 replace vbr5_10 := (hl6_7.ve d_br5_10_br7_6 (vbr5_10.ext hX))
 have d_br6_10_br7_6 : br6_10 ≠ br7_6 := by have := (let ⟨_, h, _⟩ := vbr6_10; h.lt : br6_10 < Y5_11.heap.size); omega
 replace vbr6_10 := (hl6_7.ve d_br6_10_br7_6 (vbr6_10.ext hX))
 have vbr7_6 : VE Y6_7 M n br7_6 u13 := (hl6_7.mk' h5)
 have lb_vbr7_6 := Nat.le_trans hE.bsize lr7_6
 have hE' : Ext W0 Y6_7 := (hl6_7.ext (hE.trans hX) (Nat.le_trans hE.bsize lr7_6))
 clear hE hX hl6_7 h2 h4 h5
 have hE := hE'
 clear hE'
 go_upto_region 8 with fail
 refine Par.region_ext (by kernel_rfl) 11 [0, 0, 0, 0, 0, 28, 0, 126, 0, 511, 0, 2047] [10] (fun j f X => match j with
  | 0 => f 0 = .pointer (some ⟨g, 0, none⟩)
  | 1 => f 1 = .pointer (some ⟨g, 0, none⟩)
  | 2 => f 2 = .pointer (some ⟨g, 0, none⟩)
  | 3 => ∃ o, f 3 = EV o ∧ FE M n o u13
  | 4 => ∃ o, f 4 = EV o ∧ FE M n o u13
  | 5 => ∃ o, f 5 = EV o ∧ FE M n o u14
  | 6 => ∃ o, f 6 = EV o ∧ FE M n o u2
  | 7 => ∃ o, f 7 = EV o ∧ FE M n o u15
  | 8 => ∃ o, f 8 = EV o ∧ FE M n o u1
  | 9 => ∃ o, f 9 = EV o ∧ FE M n o u16
  | 10 => ∃ b, f 10 = .pointer (some ⟨b, 0, none⟩) ∧ Y6_7.heap.size ≤ b ∧ X.heap[b]? = some (.cells #[.int .u64 0, .int .u64 0, .int .u64 0, .int .u64 0, .int .u64 0, .int .u64 0] 160 (0, 0))
  | _ => True) (by kernel_rfl) [(81, 0), (82, 1), (83, 2), (84, 3), (85, 4), (86, 5), (87, 6), (88, 7), (89, 8), (90, 9), (13, 10)] (by kernel_rfl) ?_
 refine Par.v0 1 10 ?_
 refine Par.v0 2 9 ?_
 refine Par.v0 3 8 ?_
 refine lX 4 7 (fun X hX => let ⟨o, hbl, ho⟩ := vbr7_6.ext hX; ⟨o, hbl.range, ho⟩) ?_
 refine lX 5 6 (fun X hX => let ⟨o, hbl, ho⟩ := vbr7_6.ext hX; ⟨o, hbl.range, ho⟩) ?_
 refine fc 6 5 2 3 4 (fun X hX _ _ h h' => fm_any X (hn.out.ext hP0' (hE.trans hX)).fr.ff h h') E_u14.out ?_
 refine lX 7 4 (fun X hX => let ⟨o, hbl, ho⟩ := vbr2_13.ext hX; ⟨o, hbl.range, ho⟩) ?_
 refine fc 8 3 1 5 6 (fun X hX _ _ h h' => fs_any X (hn.out.ext hP0' (hE.trans hX)).fr.ff h h') E_u15.out ?_
 refine lX 9 2 (fun X hX => let ⟨o, hbl, ho⟩ := vbr2_12.ext hX; ⟨o, hbl.range, ho⟩) ?_
 refine fc 10 1 0 7 8 (fun X hX _ _ h h' => fs_any X (hn.out.ext hP0' (hE.trans hX)).fr.ff h h') E_u16.out ?_
 refine Par.al 11 0 ?_
 refine Par.AllOps.fin ⟨fun f X hX hR hal hap => ?_⟩
 obtain ⟨o3, (e3 : f 3 = _), h3⟩ := hR 3 (by decide)
 obtain ⟨o4, (e4 : f 4 = _), h4⟩ := hR 4 (by decide)
 obtain ⟨o5, (e5 : f 5 = _), h5⟩ := hR 5 (by decide)
 obtain ⟨o6, (e6 : f 6 = _), h6⟩ := hR 6 (by decide)
 obtain ⟨o7, (e7 : f 7 = _), h7⟩ := hR 7 (by decide)
 obtain ⟨o8, (e8 : f 8 = _), h8⟩ := hR 8 (by decide)
 obtain ⟨o9, (e9 : f 9 = _), h9⟩ := hR 9 (by decide)
 obtain ⟨br8_10, (e10 : f 10 = _), lr8_10, hr8_10⟩ := hR 10 (by decide)
 simp only [yA, yB, yD, yE, e3, e4, e5, e6, e7, e8, e9, e10]
 clear hR hal hap e3 e4 e5 e6 e7 e8 e9 e10
 refine Par.Chain.next (fun K hK => ⟨Par.want (by kernel_rfl) (wp_storeE (.tmp 13) (.tmp 90) rfl rfl rfl rfl (hr8_10) zero6 h9.elt.six (fun Y7_11 hl7_11 => hK.out _ _ ?_))⟩)
 refine Par.Chain.done ?_
 have d_br2_12_br8_10 : br2_12 ≠ br8_10 := by have := (let ⟨_, h, _⟩ := vbr2_12; h.lt : br2_12 < Y6_7.heap.size); omega
 replace vbr2_12 := (hl7_11.ve d_br2_12_br8_10 (vbr2_12.ext hX))
 have d_br2_13_br8_10 : br2_13 ≠ br8_10 := by have := (let ⟨_, h, _⟩ := vbr2_13; h.lt : br2_13 < Y6_7.heap.size); omega
 replace vbr2_13 := (hl7_11.ve d_br2_13_br8_10 (vbr2_13.ext hX))
 have d_br3_5_br8_10 : br3_5 ≠ br8_10 := by have := (let ⟨_, h, _⟩ := vbr3_5; h.lt : br3_5 < Y6_7.heap.size); omega
 replace vbr3_5 := (hl7_11.ve d_br3_5_br8_10 (vbr3_5.ext hX))
 have d_br4_18_br8_10 : br4_18 ≠ br8_10 := by have := (let ⟨_, h, _⟩ := vbr4_18; h.lt : br4_18 < Y6_7.heap.size); omega
 replace vbr4_18 := (hl7_11.ve d_br4_18_br8_10 (vbr4_18.ext hX))
 have d_br5_10_br8_10 : br5_10 ≠ br8_10 := by have := (let ⟨_, h, _⟩ := vbr5_10; h.lt : br5_10 < Y6_7.heap.size); omega
 replace vbr5_10 := (hl7_11.ve d_br5_10_br8_10 (vbr5_10.ext hX))
 have d_br6_10_br8_10 : br6_10 ≠ br8_10 := by have := (let ⟨_, h, _⟩ := vbr6_10; h.lt : br6_10 < Y6_7.heap.size); omega
 replace vbr6_10 := (hl7_11.ve d_br6_10_br8_10 (vbr6_10.ext hX))
 have d_br7_6_br8_10 : br7_6 ≠ br8_10 := by have := (let ⟨_, h, _⟩ := vbr7_6; h.lt : br7_6 < Y6_7.heap.size); omega
 replace vbr7_6 := (hl7_11.ve d_br7_6_br8_10 (vbr7_6.ext hX))
 have vbr8_10 : VE Y7_11 M n br8_10 u16 := (hl7_11.mk' h9)
 have lb_vbr8_10 := Nat.le_trans hE.bsize lr8_10
 have hE' : Ext W0 Y7_11 := (hl7_11.ext (hE.trans hX) (Nat.le_trans hE.bsize lr8_10))
 clear hE hX hl7_11 h3 h4 h5 h6 h7 h8 h9
 have hE := hE'
 clear hE'
 go_upto_region 9 with fail
 refine Par.region_txt 5 [0, 0, 0, 7, 0, 31] [4] (fun j f X => match j with
  | 0 => f 0 = .pointer (some ⟨g, 0, none⟩)
  | 1 => ∃ o, f 1 = EV o ∧ FE M n o u2
  | 2 => ∃ o, f 2 = EV o ∧ FE M n o u2
  | 3 => ∃ o, f 3 = EV o ∧ FE M n o u17
  | 4 => ∃ b, f 4 = .pointer (some ⟨b, 0, none⟩) ∧ Y7_11.heap.size ≤ b ∧ X.heap[b]? = some (.cells #[.int .u64 0, .int .u64 0, .int .u64 0, .int .u64 0, .int .u64 0, .int .u64 0] 160 (0, 0))
  | _ => True) (by kernel_rfl) [(91, 0), (92, 1), (93, 2), (94, 3), (14, 4)] (by kernel_rfl) ?_
 refine Par.v0 1 4 ?_
 refine lX 2 3 (fun X hX => let ⟨o, hbl, ho⟩ := vbr2_13.ext hX; ⟨o, hbl.range, ho⟩) ?_
 refine lX 3 2 (fun X hX => let ⟨o, hbl, ho⟩ := vbr2_13.ext hX; ⟨o, hbl.range, ho⟩) ?_
 refine fc 4 1 0 1 2 (fun X hX _ _ h h' => fm_any X (hn.out.ext hP0' (hE.trans hX)).fr.ff h h') E_u17.out ?_
 refine Par.al 5 0 ?_
 refine Par.AllOps.fin ⟨fun f X hX hR hal hap => ?_⟩
 obtain ⟨o1, (e1 : f 1 = _), h1⟩ := hR 1 (by decide)
 obtain ⟨o2, (e2 : f 2 = _), h2⟩ := hR 2 (by decide)
 obtain ⟨o3, (e3 : f 3 = _), h3⟩ := hR 3 (by decide)
 obtain ⟨br9_4, (e4 : f 4 = _), lr9_4, hr9_4⟩ := hR 4 (by decide)
 simp only [yA, yB, yD, yE, e1, e2, e3, e4]
 clear hR hal hap e1 e2 e3 e4
 refine Par.Chain.next (fun K hK => ⟨Par.want (by kernel_rfl) (wp_storeE (.tmp 14) (.tmp 94) rfl rfl rfl rfl (hr9_4) zero6 h3.elt.six (fun Y8_5 hl8_5 => hK.out _ _ ?_))⟩)
 refine Par.Chain.done ?_
 have d_br2_12_br9_4 : br2_12 ≠ br9_4 := by have := (let ⟨_, h, _⟩ := vbr2_12; h.lt : br2_12 < Y7_11.heap.size); omega
 replace vbr2_12 := (hl8_5.ve d_br2_12_br9_4 (vbr2_12.ext hX))
 have d_br2_13_br9_4 : br2_13 ≠ br9_4 := by have := (let ⟨_, h, _⟩ := vbr2_13; h.lt : br2_13 < Y7_11.heap.size); omega
 replace vbr2_13 := (hl8_5.ve d_br2_13_br9_4 (vbr2_13.ext hX))
 have d_br3_5_br9_4 : br3_5 ≠ br9_4 := by have := (let ⟨_, h, _⟩ := vbr3_5; h.lt : br3_5 < Y7_11.heap.size); omega
 replace vbr3_5 := (hl8_5.ve d_br3_5_br9_4 (vbr3_5.ext hX))
 have d_br4_18_br9_4 : br4_18 ≠ br9_4 := by have := (let ⟨_, h, _⟩ := vbr4_18; h.lt : br4_18 < Y7_11.heap.size); omega
 replace vbr4_18 := (hl8_5.ve d_br4_18_br9_4 (vbr4_18.ext hX))
 have d_br5_10_br9_4 : br5_10 ≠ br9_4 := by have := (let ⟨_, h, _⟩ := vbr5_10; h.lt : br5_10 < Y7_11.heap.size); omega
 replace vbr5_10 := (hl8_5.ve d_br5_10_br9_4 (vbr5_10.ext hX))
 have d_br6_10_br9_4 : br6_10 ≠ br9_4 := by have := (let ⟨_, h, _⟩ := vbr6_10; h.lt : br6_10 < Y7_11.heap.size); omega
 replace vbr6_10 := (hl8_5.ve d_br6_10_br9_4 (vbr6_10.ext hX))
 have d_br7_6_br9_4 : br7_6 ≠ br9_4 := by have := (let ⟨_, h, _⟩ := vbr7_6; h.lt : br7_6 < Y7_11.heap.size); omega
 replace vbr7_6 := (hl8_5.ve d_br7_6_br9_4 (vbr7_6.ext hX))
 have d_br8_10_br9_4 : br8_10 ≠ br9_4 := by have := (let ⟨_, h, _⟩ := vbr8_10; h.lt : br8_10 < Y7_11.heap.size); omega
 replace vbr8_10 := (hl8_5.ve d_br8_10_br9_4 (vbr8_10.ext hX))
 have vbr9_4 : VE Y8_5 M n br9_4 u17 := (hl8_5.mk' h3)
 have lb_vbr9_4 := Nat.le_trans hE.bsize lr9_4
 have hE' : Ext W0 Y8_5 := (hl8_5.ext (hE.trans hX) (Nat.le_trans hE.bsize lr9_4))
 clear hE hX hl8_5 h1 h2 h3
 have hE := hE'
 clear hE'
 go_upto_region 10 with fail
 refine Par.region_txt 4 [0, 0, 0, 7, 15] [] (fun j f X => match j with
  | 0 => f 0 = .pointer (some ⟨g, 0, none⟩)
  | 1 => ∃ o, f 1 = EV o ∧ FE M n o u17
  | 2 => ∃ o, f 2 = EV o ∧ FE M n o u17
  | 3 => ∃ o, f 3 = EV o ∧ FE M n o u18
  | _ => True) (by kernel_rfl) [(95, 0), (96, 1), (97, 2), (98, 3)] (by kernel_rfl) ?_
 refine Par.v0 1 3 ?_
 refine lX 2 2 (fun X hX => let ⟨o, hbl, ho⟩ := vbr9_4.ext hX; ⟨o, hbl.range, ho⟩) ?_
 refine lX 3 1 (fun X hX => let ⟨o, hbl, ho⟩ := vbr9_4.ext hX; ⟨o, hbl.range, ho⟩) ?_
 refine fc 4 0 0 1 2 (fun X hX _ _ h h' => fa_any X (hn.out.ext hP0' (hE.trans hX)).fr.ff h h') E_u18.out ?_
 refine Par.AllOps.fin ⟨fun f X hX hR hal hap => ?_⟩
 obtain ⟨o1, (e1 : f 1 = _), h1⟩ := hR 1 (by decide)
 obtain ⟨o2, (e2 : f 2 = _), h2⟩ := hR 2 (by decide)
 obtain ⟨o3, (e3 : f 3 = _), h3⟩ := hR 3 (by decide)
 simp only [yA, yB, yD, yE, e1, e2, e3]
 clear hR hal hap e1 e2 e3
 obtain ⟨lo4, hbo4, hfo4⟩ := vbr9_4.ext hX
 refine Par.Chain.next (fun K hK => ⟨Par.want (by kernel_rfl) (wp_storeE (.tmp 14) (.tmp 98) rfl rfl rfl rfl hbo4 (by rw [nts_length]; exact hfo4.elt.six) h3.elt.six (fun Y9_4 hl9_4 => hK.out _ _ ?_))⟩)
 refine Par.Chain.done ?_
 replace vbr2_12 := (hl9_4.ve d_br2_12_br9_4 (vbr2_12.ext hX))
 replace vbr2_13 := (hl9_4.ve d_br2_13_br9_4 (vbr2_13.ext hX))
 replace vbr3_5 := (hl9_4.ve d_br3_5_br9_4 (vbr3_5.ext hX))
 replace vbr4_18 := (hl9_4.ve d_br4_18_br9_4 (vbr4_18.ext hX))
 replace vbr5_10 := (hl9_4.ve d_br5_10_br9_4 (vbr5_10.ext hX))
 replace vbr6_10 := (hl9_4.ve d_br6_10_br9_4 (vbr6_10.ext hX))
 replace vbr7_6 := (hl9_4.ve d_br7_6_br9_4 (vbr7_6.ext hX))
 replace vbr8_10 := (hl9_4.ve d_br8_10_br9_4 (vbr8_10.ext hX))
 have vbr9_4' : VE Y9_4 M n br9_4 u18 := hl9_4.mk' h3
 have hE' : Ext W0 Y9_4 := (hl9_4.ext (hE.trans hX) lb_vbr9_4)
 clear hE hX hl9_4 h1 h2 h3 vbr9_4
 have hE := hE'
 clear hE'
 have vbr9_4 := vbr9_4'
 clear vbr9_4'
 go_upto_region 11 with fail
 refine Par.region_txt 4 [0, 0, 0, 7, 15] [] (fun j f X => match j with
  | 0 => f 0 = .pointer (some ⟨g, 0, none⟩)
  | 1 => ∃ o, f 1 = EV o ∧ FE M n o u18
  | 2 => ∃ o, f 2 = EV o ∧ FE M n o u18
  | 3 => ∃ o, f 3 = EV o ∧ FE M n o u19
  | _ => True) (by kernel_rfl) [(99, 0), (100, 1), (101, 2), (102, 3)] (by kernel_rfl) ?_
 refine Par.v0 1 3 ?_
 refine lX 2 2 (fun X hX => let ⟨o, hbl, ho⟩ := vbr9_4.ext hX; ⟨o, hbl.range, ho⟩) ?_
 refine lX 3 1 (fun X hX => let ⟨o, hbl, ho⟩ := vbr9_4.ext hX; ⟨o, hbl.range, ho⟩) ?_
 refine fc 4 0 0 1 2 (fun X hX _ _ h h' => fa_any X (hn.out.ext hP0' (hE.trans hX)).fr.ff h h') E_u19.out ?_
 refine Par.AllOps.fin ⟨fun f X hX hR hal hap => ?_⟩
 obtain ⟨o1, (e1 : f 1 = _), h1⟩ := hR 1 (by decide)
 obtain ⟨o2, (e2 : f 2 = _), h2⟩ := hR 2 (by decide)
 obtain ⟨o3, (e3 : f 3 = _), h3⟩ := hR 3 (by decide)
 simp only [yA, yB, yD, yE, e1, e2, e3]
 clear hR hal hap e1 e2 e3
 obtain ⟨lo4, hbo4, hfo4⟩ := vbr9_4.ext hX
 refine Par.Chain.next (fun K hK => ⟨Par.want (by kernel_rfl) (wp_storeE (.tmp 14) (.tmp 102) rfl rfl rfl rfl hbo4 (by rw [nts_length]; exact hfo4.elt.six) h3.elt.six (fun Y10_4 hl10_4 => hK.out _ _ ?_))⟩)
 refine Par.Chain.done ?_
 replace vbr2_12 := (hl10_4.ve d_br2_12_br9_4 (vbr2_12.ext hX))
 replace vbr2_13 := (hl10_4.ve d_br2_13_br9_4 (vbr2_13.ext hX))
 replace vbr3_5 := (hl10_4.ve d_br3_5_br9_4 (vbr3_5.ext hX))
 replace vbr4_18 := (hl10_4.ve d_br4_18_br9_4 (vbr4_18.ext hX))
 replace vbr5_10 := (hl10_4.ve d_br5_10_br9_4 (vbr5_10.ext hX))
 replace vbr6_10 := (hl10_4.ve d_br6_10_br9_4 (vbr6_10.ext hX))
 replace vbr7_6 := (hl10_4.ve d_br7_6_br9_4 (vbr7_6.ext hX))
 replace vbr8_10 := (hl10_4.ve d_br8_10_br9_4 (vbr8_10.ext hX))
 have vbr9_4' : VE Y10_4 M n br9_4 u19 := hl10_4.mk' h3
 have hE' : Ext W0 Y10_4 := (hl10_4.ext (hE.trans hX) lb_vbr9_4)
 clear hE hX hl10_4 h1 h2 h3 vbr9_4
 have hE := hE'
 clear hE'
 have vbr9_4 := vbr9_4'
 clear vbr9_4'
 go_upto_region 12 with fail
 refine Par.region_ext (by kernel_rfl) 14 [0, 0, 0, 0, 0, 0, 56, 126, 0, 0, 0, 2046, 4095, 0, 16383] [13] (fun j f X => match j with
  | 0 => f 0 = .pointer (some ⟨g, 0, none⟩)
  | 1 => f 1 = .pointer (some ⟨g, 0, none⟩)
  | 2 => ∃ o, f 2 = EV o ∧ FE M n o u7
  | 3 => f 3 = .pointer (some ⟨g, 0, none⟩)
  | 4 => ∃ o, f 4 = EV o ∧ FE M n o u9
  | 5 => ∃ o, f 5 = EV o ∧ FE M n o u12
  | 6 => ∃ o, f 6 = EV o ∧ FE M n o u20
  | 7 => ∃ o, f 7 = EV o ∧ FE M n o u21
  | 8 => f 8 = .pointer (some ⟨g, 0, none⟩)
  | 9 => ∃ o, f 9 = EV o ∧ FE M n o u19
  | 10 => ∃ o, f 10 = EV o ∧ FE M n o u19
  | 11 => ∃ o, f 11 = EV o ∧ FE M n o u22
  | 12 => ∃ o, f 12 = EV o ∧ FE M n o u23
  | 13 => ∃ b, f 13 = .pointer (some ⟨b, 0, none⟩) ∧ Y10_4.heap.size ≤ b ∧ X.heap[b]? = some (.cells #[.int .u64 0, .int .u64 0, .int .u64 0, .int .u64 0, .int .u64 0, .int .u64 0] 160 (0, 0))
  | _ => True) (by kernel_rfl) [(103, 0), (104, 1), (105, 2), (106, 3), (107, 4), (108, 5), (109, 6), (110, 7), (111, 8), (112, 9), (113, 10), (114, 11), (115, 12), (15, 13)] (by kernel_rfl) ?_
 refine Par.v0 1 13 ?_
 refine Par.v0 2 12 ?_
 refine lX 3 11 (fun X hX => let ⟨o, hbl, ho⟩ := vbr4_18.ext hX; ⟨o, hbl.range, ho⟩) ?_
 refine Par.v0 4 10 ?_
 refine lX 5 9 (fun X hX => let ⟨o, hbl, ho⟩ := vbr5_10.ext hX; ⟨o, hbl.range, ho⟩) ?_
 refine lX 6 8 (fun X hX => let ⟨o, hbl, ho⟩ := vbr6_10.ext hX; ⟨o, hbl.range, ho⟩) ?_
 refine fc 7 7 3 4 5 (fun X hX _ _ h h' => fs_any X (hn.out.ext hP0' (hE.trans hX)).fr.ff h h') E_u20.out ?_
 refine fc 8 6 1 2 6 (fun X hX _ _ h h' => fm_any X (hn.out.ext hP0' (hE.trans hX)).fr.ff h h') E_u21.out ?_
 refine Par.v0 9 5 ?_
 refine lX 10 4 (fun X hX => let ⟨o, hbl, ho⟩ := vbr9_4.ext hX; ⟨o, hbl.range, ho⟩) ?_
 refine lX 11 3 (fun X hX => let ⟨o, hbl, ho⟩ := vbr9_4.ext hX; ⟨o, hbl.range, ho⟩) ?_
 refine fc 12 2 8 9 10 (fun X hX _ _ h h' => fa_any X (hn.out.ext hP0' (hE.trans hX)).fr.ff h h') E_u22.out ?_
 refine fc 13 1 0 7 11 (fun X hX _ _ h h' => fs_any X (hn.out.ext hP0' (hE.trans hX)).fr.ff h h') E_u23.out ?_
 refine Par.al 14 0 ?_
 refine Par.AllOps.fin ⟨fun f X hX hR hal hap => ?_⟩
 obtain ⟨o2, (e2 : f 2 = _), h2⟩ := hR 2 (by decide)
 obtain ⟨o4, (e4 : f 4 = _), h4⟩ := hR 4 (by decide)
 obtain ⟨o5, (e5 : f 5 = _), h5⟩ := hR 5 (by decide)
 obtain ⟨o6, (e6 : f 6 = _), h6⟩ := hR 6 (by decide)
 obtain ⟨o7, (e7 : f 7 = _), h7⟩ := hR 7 (by decide)
 obtain ⟨o9, (e9 : f 9 = _), h9⟩ := hR 9 (by decide)
 obtain ⟨o10, (e10 : f 10 = _), h10⟩ := hR 10 (by decide)
 obtain ⟨o11, (e11 : f 11 = _), h11⟩ := hR 11 (by decide)
 obtain ⟨o12, (e12 : f 12 = _), h12⟩ := hR 12 (by decide)
 obtain ⟨br12_13, (e13 : f 13 = _), lr12_13, hr12_13⟩ := hR 13 (by decide)
 simp only [yA, yB, yD, yE, e2, e4, e5, e6, e7, e9, e10, e11, e12, e13]
 clear hR hal hap e2 e4 e5 e6 e7 e9 e10 e11 e12 e13
 refine Par.Chain.next (fun K hK => ⟨Par.want (by kernel_rfl) (wp_storeE (.tmp 15) (.tmp 115) rfl rfl rfl rfl (hr12_13) zero6 h12.elt.six (fun Y11_14 hl11_14 => hK.out _ _ ?_))⟩)
 refine Par.Chain.done ?_
 have d_br2_12_br12_13 : br2_12 ≠ br12_13 := by have := (let ⟨_, h, _⟩ := vbr2_12; h.lt : br2_12 < Y10_4.heap.size); omega
 replace vbr2_12 := (hl11_14.ve d_br2_12_br12_13 (vbr2_12.ext hX))
 have d_br2_13_br12_13 : br2_13 ≠ br12_13 := by have := (let ⟨_, h, _⟩ := vbr2_13; h.lt : br2_13 < Y10_4.heap.size); omega
 replace vbr2_13 := (hl11_14.ve d_br2_13_br12_13 (vbr2_13.ext hX))
 have d_br3_5_br12_13 : br3_5 ≠ br12_13 := by have := (let ⟨_, h, _⟩ := vbr3_5; h.lt : br3_5 < Y10_4.heap.size); omega
 replace vbr3_5 := (hl11_14.ve d_br3_5_br12_13 (vbr3_5.ext hX))
 have d_br4_18_br12_13 : br4_18 ≠ br12_13 := by have := (let ⟨_, h, _⟩ := vbr4_18; h.lt : br4_18 < Y10_4.heap.size); omega
 replace vbr4_18 := (hl11_14.ve d_br4_18_br12_13 (vbr4_18.ext hX))
 have d_br5_10_br12_13 : br5_10 ≠ br12_13 := by have := (let ⟨_, h, _⟩ := vbr5_10; h.lt : br5_10 < Y10_4.heap.size); omega
 replace vbr5_10 := (hl11_14.ve d_br5_10_br12_13 (vbr5_10.ext hX))
 have d_br6_10_br12_13 : br6_10 ≠ br12_13 := by have := (let ⟨_, h, _⟩ := vbr6_10; h.lt : br6_10 < Y10_4.heap.size); omega
 replace vbr6_10 := (hl11_14.ve d_br6_10_br12_13 (vbr6_10.ext hX))
 have d_br7_6_br12_13 : br7_6 ≠ br12_13 := by have := (let ⟨_, h, _⟩ := vbr7_6; h.lt : br7_6 < Y10_4.heap.size); omega
 replace vbr7_6 := (hl11_14.ve d_br7_6_br12_13 (vbr7_6.ext hX))
 have d_br8_10_br12_13 : br8_10 ≠ br12_13 := by have := (let ⟨_, h, _⟩ := vbr8_10; h.lt : br8_10 < Y10_4.heap.size); omega
 replace vbr8_10 := (hl11_14.ve d_br8_10_br12_13 (vbr8_10.ext hX))
 have d_br9_4_br12_13 : br9_4 ≠ br12_13 := by have := (let ⟨_, h, _⟩ := vbr9_4; h.lt : br9_4 < Y10_4.heap.size); omega
 replace vbr9_4 := (hl11_14.ve d_br9_4_br12_13 (vbr9_4.ext hX))
 have vbr12_13 : VE Y11_14 M n br12_13 u23 := (hl11_14.mk' h12)
 have lb_vbr12_13 := Nat.le_trans hE.bsize lr12_13
 have hE' : Ext W0 Y11_14 := (hl11_14.ext (hE.trans hX) (Nat.le_trans hE.bsize lr12_13))
 clear hE hX hl11_14 h2 h4 h5 h6 h7 h9 h10 h11 h12
 have hE := hE'
 clear hE'
 obtain ⟨ox, blx, fx⟩ := vbr6_10
 obtain ⟨oy, bly, fy⟩ := vbr12_13
 obtain ⟨oz, blz, fz⟩ := vbr8_10
 have hb1 := hE.at_ hrb
 go_upto_region 13 with fail
 refine Par.region_txt 4 [0, 0, 0, 7, 15] [] (fun j f X => match j with
  | 0 => f 0 = EV ox
  | 1 => f 1 = EV oy
  | 2 => f 2 = EV oz
  | 3 => f 3 = JV ox oy oz
  | _ => True) (by kernel_rfl) [(116, 0), (117, 1), (118, 2), (119, 3)] (by kernel_rfl) ?_
 refine Par.S 1 3 [(117, 1), (118, 2)] (fun f X hX hR K hK => ?_) ?_
 · simp only [yA, yB, yC, yD, yE]
   refine ⟨Par.want (by kernel_rfl) (wp_loadE (.tmp 11) rfl rfl (BlkE.range (hX.at_ blx)) fx.elt.six ?_)⟩
   exact hK.out _ (EV ox) _ (by simp only [yA, yB, yC, yD, yE]) (Ext.refl _) trivial (fun _ _ => rfl)
 refine Par.S 2 2 [(116, 0), (118, 2)] (fun f X hX hR K hK => ?_) ?_
 · simp only [yA, yB, yC, yD, yE]
   refine ⟨Par.want (by kernel_rfl) (wp_loadE (.tmp 15) rfl rfl (BlkE.range (hX.at_ bly)) fy.elt.six ?_)⟩
   exact hK.out _ (EV oy) _ (by simp only [yA, yB, yC, yD, yE]) (Ext.refl _) trivial (fun _ _ => rfl)
 refine Par.S 3 1 [(116, 0), (117, 1)] (fun f X hX hR K hK => ?_) ?_
 · simp only [yA, yB, yC, yD, yE]
   refine ⟨Par.want (by kernel_rfl) (wp_loadE (.tmp 13) rfl rfl (BlkE.range (hX.at_ blz)) fz.elt.six ?_)⟩
   exact hK.out _ (EV oz) _ (by simp only [yA, yB, yC, yD, yE]) (Ext.refl _) trivial (fun _ _ => rfl)
 refine Par.S 4 0 [(116, 0), (117, 1), (118, 2)] (fun f X hX hR K hK => ?_) ?_
 · have e0 : f 0 = _ := hR.out 0 rfl
   have e1 : f 1 = _ := hR.out 1 rfl
   have e2 : f 2 = _ := hR.out 2 rfl
   simp only [yA, yB, yC, yD, yE, e0, e1, e2]
   refine ⟨Par.want (by kernel_rfl) (wp_buildJ (x := ox) (y := oy) (z := oz) (.tmp 116) (.tmp 117) (.tmp 118) rfl rfl rfl rfl fx.elt.six fy.elt.six fz.elt.six ?_)⟩
   exact hK.out _ (JV ox oy oz) _ (by simp only [yA, yB, yC, yD, yE, e0, e1, e2]) (Ext.refl _) trivial (fun _ _ => rfl)
 refine Par.AllOps.fin ⟨fun f X hX hR hal hap => ?_⟩
 have e3 : f 3 = _ := hR 3 (by decide)
 simp only [yA, yB, yD, yE, e3]
 clear hR hal hap e3
 refine Par.Chain.next (fun K hK => ⟨Par.want (by kernel_rfl) (wp_storeJ (x := ox) (y := oy) (z := oz) (.tmp 4) (.tmp 119) rfl rfl rfl rfl (hX.at_ hb1) rfl fx.elt.six fy.elt.six fz.elt.six (fun Y hY1 hY2 hY3 => hK.out _ _ ?_))⟩)
 refine Par.Chain.done ?_
 go_wp2
 exact end_j rfl rfl rfl hY1 fx.elt.six fy.elt.six fz.elt.six ⟨_, _, _, rfl, ⟨fx, fy, fz⟩, hY2.ext (HE0.out.trans (hE.trans hX)) (by have := Hq.out; omega)⟩
end Go.Proofs.YtendnkpiidhogaaGreat

namespace Go.Proofs.YtendnkpiidhogaaGreat
open Go.RowKit

theorem FE.zero {M n : Nat} (h : 0 < M) : FE M n [0, 0, 0, 0, 0, 0] 0 := ⟨⟨rfl, by intro x hx; simp at hx; omega, by simp [val]; omega⟩, by simp [val]⟩
set_option maxRecDepth 100000 in
set_option maxHeartbeats 8000000 in
theorem up_any {P0 : Nat → Prop} {k g size n inv M bb : Nat} {pl nl bl xl yl ml ol rl tl fl : List Nat} {Ap An Ab Ax Ay : Option Addr} {cp cn cb cx cy : Nat} (Pa Pb : Nat → Prop) (A A' : Option Addr) (c c' : Nat) (a b : List Nat) (inf : Bool) (w : World)
 (hk : Num w P0 k g size n inv M bb pl nl bl xl yl ml ol rl tl fl Ap An Ab Ax Ay cp cn cb cx cy) (hP0 : ∀ b, P0 b → b < w.heap.size) (h : RN w Pa A c a) (h' : RN w Pb A' c' b) (hPa : ∀ b, Pa b → b < w.heap.size) (hPb : ∀ b, Pb b → b < w.heap.size)
 (hxM : inf = false → val 18446744073709551616 a < M) (hyM : inf = false → val 18446744073709551616 b < M) :
 Calls Tryz.prog 179 #[.pointer (some ⟨k, 0, none⟩), .agg #[.bool inf, .slice A a.length c, .slice A' b.length c']] w fun e w' => ∃ ox oy oz, e = .returned (JV ox oy oz) ∧ FJ M n ox oy oz (if inf then 1 else val 18446744073709551616 a) (if inf then 1 else val 18446744073709551616 b) (if inf then 0 else 1) ∧ Ext w w' := by
 obtain ⟨W0, hW0⟩ : ∃ W0, W0 = (w.alloc (.cells #[.bool inf, .slice A a.length c, .slice A' b.length c'] 114)).alloc (.cells #[.int .u64 0, .int .u64 0, .int .u64 0, .int .u64 0, .int .u64 0, .int .u64 0, .int .u64 0, .int .u64 0, .int .u64 0, .int .u64 0, .int .u64 0, .int .u64 0, .int .u64 0, .int .u64 0, .int .u64 0, .int .u64 0, .int .u64 0, .int .u64 0] 199) := ⟨_, rfl⟩
 obtain ⟨q, hq⟩ : ∃ q, w.heap.size = q := ⟨_, rfl⟩
 have hE0 : Ext w W0 := by rw [hW0]; exact (Ext.alloc _ _).trans (Ext.alloc _ _)
 obtain ⟨hbx, hrb, hz0⟩ := two_at2 w (.cells #[.bool inf, .slice A a.length c, .slice A' b.length c'] 114) (.cells #[.int .u64 0, .int .u64 0, .int .u64 0, .int .u64 0, .int .u64 0, .int .u64 0, .int .u64 0, .int .u64 0, .int .u64 0, .int .u64 0, .int .u64 0, .int .u64 0, .int .u64 0, .int .u64 0, .int .u64 0, .int .u64 0, .int .u64 0, .int .u64 0] 199)
 rw [← hW0, hq] at hbx hrb hz0
 have b0 : W0.cell? ⟨q, 0, none⟩ = some (.bool inf) := blk_cell hbx 0
 have b1 : W0.cell? ⟨q, 1, none⟩ = some (.slice A a.length c) := blk_cell hbx 1
 have b2 : W0.cell? ⟨q, 2, none⟩ = some (.slice A' b.length c') := blk_cell hbx 2
 have hn := Lib.hid (hk.ext hP0 hE0)
 have hP0' : ∀ b, P0 b → b < W0.heap.size := fun b hb => Nat.lt_of_lt_of_le (hP0 b hb) hE0.bsize
 have hPa' : ∀ b, Pa b → b < W0.heap.size := fun b hb => Nat.lt_of_lt_of_le (hPa b hb) hE0.bsize
 have hPb' : ∀ b, Pb b → b < W0.heap.size := fun b hb => Nat.lt_of_lt_of_le (hPb b hb) hE0.bsize
 have ha := h.below hE0 hPa
 have hb := h'.below hE0 hPb
 have k6 := hn.out.c_f
 have HE0 := Lib.hid hE0
 have Hz0 := Lib.hid hz0
 have hM1 := hk.fr.ff.big
 obtain ⟨x, hx⟩ : ∃ x, val 18446744073709551616 a = x := ⟨_, rfl⟩
 obtain ⟨y, hy⟩ : ∃ y, val 18446744073709551616 b = y := ⟨_, rfl⟩
 rw [hx] at hxM
 rw [hy] at hyM
 rw [hx, hy]
 have Hx := Lib.hid hx
 have Hy := Lib.hid hy
 clear hE0 hz0 hk hP0 hx hy h h' hPa hPb
 cases inf
 case true =>
  clear b1 b2 ha hb Hx Hy hxM hyM hPa' hPb'
  simp only [if_true]
  go_enter Tryz.func179, Tryz.ntmps179
  go_upto_region 1 with fail
  rw [← hW0]
  have Hq := Lib.hid hq
  have HW0 := Lib.hid hW0
  have hE := Ext.refl W0
  clear hq hW0
  go_upto_region 3 with fail
  clear k6 b0
  refine Par.region_txt 6 [0, 1, 0, 7, 0, 31, 63] [] (fun j f X => match j with
   | 0 => f 0 = .pointer (some ⟨g, 0, none⟩)
   | 1 => f 1 = EV ol
   | 2 => f 2 = .pointer (some ⟨g, 0, none⟩)
   | 3 => f 3 = EV ol
   | 4 => f 4 = .agg #[.int .u64 0, .int .u64 0, .int .u64 0, .int .u64 0, .int .u64 0, .int .u64 0]
   | 5 => f 5 = JV ol ol [0, 0, 0, 0, 0, 0]
   | _ => True) (by kernel_rfl) [(12, 0), (13, 1), (14, 2), (15, 3), (16, 4), (17, 5)] (by kernel_rfl) ?_
  refine Par.v0 1 5 ?_
  refine Par.c0 2 4 (fun f => #[f 0]) (F' := 214) (fun f X hX hR => ?_) ?_
  · have e0 : f 0 = _ := hR.out 0 rfl
    simp only [e0]
    refine (one_any X (hn.out.ext hP0' (hE.trans hX)).fr).mono ?_
    rintro e w2 ⟨rfl, hB⟩
    exact ⟨(EV ol), rfl, hB, fun _ _ => rfl⟩
  refine Par.v0 3 3 ?_
  refine Par.c0 4 2 (fun f => #[f 2]) (F' := 214) (fun f X hX hR => ?_) ?_
  · have e2 : f 2 = _ := hR.out 2 rfl
    simp only [e2]
    refine (one_any X (hn.out.ext hP0' (hE.trans hX)).fr).mono ?_
    rintro e w2 ⟨rfl, hB⟩
    exact ⟨(EV ol), rfl, hB, fun _ _ => rfl⟩
  refine Par.v0 5 1 ?_
  refine Par.S 6 0 [(12, 0), (13, 1), (14, 2), (15, 3), (16, 4)] (fun f X hX hR K hK => ?_) ?_
  · have e1 : f 1 = _ := hR.out 1 rfl
    have e3 : f 3 = _ := hR.out 3 rfl
    have e4 : f 4 = _ := hR.out 4 rfl
    simp only [yA, yB, yC, yD, yE, e1, e3, e4]
    refine ⟨Par.want (by kernel_rfl) (wp_buildJ (x := ol) (y := ol) (z := [0, 0, 0, 0, 0, 0]) (.tmp 13) (.tmp 15) (.tmp 16) rfl rfl rfl rfl hn.out.fr.fone.elt.six hn.out.fr.fone.elt.six rfl ?_)⟩
    exact hK.out _ (JV ol ol [0, 0, 0, 0, 0, 0]) _ (by simp only [yA, yB, yC, yD, yE, e1, e3, e4]) (Ext.refl _) trivial (fun _ _ => rfl)
  refine Par.AllOps.fin ⟨fun f X hX hR hal hap => ?_⟩
  have e5 : f 5 = _ := hR 5 (by decide)
  simp only [yA, yB, yD, yE, e5]
  clear hR hal hap e5
  refine Par.Chain.next (fun K hK => ⟨Par.want (by kernel_rfl) (wp_storeJ (x := ol) (y := ol) (z := [0, 0, 0, 0, 0, 0]) (.tmp 4) (.tmp 17) rfl rfl rfl rfl (hX.at_ hrb) rfl hn.out.fr.fone.elt.six hn.out.fr.fone.elt.six rfl (fun Y hY1 hY2 hY3 => hK.out _ _ ?_))⟩)
  refine Par.Chain.done ?_
  go_wp2
  exact end_j rfl rfl rfl hY1 hn.out.fr.fone.elt.six hn.out.fr.fone.elt.six rfl ⟨_, _, _, rfl, ⟨hn.out.fr.fone, hn.out.fr.fone, FE.zero (by omega)⟩, hY2.ext (HE0.out.trans (hE.trans hX)) (by have := Hq.out; omega)⟩
 case false =>
  have hxM := hxM rfl
  have hyM := hyM rfl
  simp only [Bool.false_eq_true, if_false]
  go_enter Tryz.func179, Tryz.ntmps179
  go_upto_region 1 with fail
  rw [← hW0]
  have Hq := Lib.hid hq
  have HW0 := Lib.hid hW0
  have Hqs := Lib.hid (show q ≤ W0.heap.size by have := Hz0.out; omega)
  have hE := Ext.refl W0
  clear hq hW0
  go_upto_region 4 with fail
  clear k6 b0
  refine Par.region_ext (by kernel_rfl) 13 [0, 0, 2, 6, 15, 0, 0, 64, 223, 511, 0, 2047, 4095, 8191] [] (fun j f X => match j with
   | 0 => f 0 = .pointer (some ⟨g, 0, none⟩)
   | 1 => f 1 = .pointer (some ⟨q, 1, none⟩)
   | 2 => f 2 = .slice A a.length c
   | 3 => ∃ A1 c1, f 3 = .slice A1 (digs 18446744073709551616 x).length c1 ∧ OB X q A1 c1 (digs 18446744073709551616 x)
   | 4 => ∃ o, f 4 = EV o ∧ FE M n o x
   | 5 => f 5 = .pointer (some ⟨g, 0, none⟩)
   | 6 => f 6 = .pointer (some ⟨q, 2, none⟩)
   | 7 => f 7 = .slice A' b.length c'
   | 8 => ∃ A1 c1, f 8 = .slice A1 (digs 18446744073709551616 y).length c1 ∧ OB X q A1 c1 (digs 18446744073709551616 y)
   | 9 => ∃ o, f 9 = EV o ∧ FE M n o y
   | 10 => f 10 = .pointer (some ⟨g, 0, none⟩)
   | 11 => f 11 = EV ol
   | 12 => ∃ o o', f 12 = JV o o' ol ∧ FE M n o x ∧ FE M n o' y
   | _ => True) (by kernel_rfl) [(18, 0), (19, 1), (20, 2), (21, 3), (22, 4), (23, 5), (24, 6), (25, 7), (26, 8), (27, 9), (28, 10), (29, 11), (30, 12)] (by kernel_rfl) ?_
  refine Par.v0 1 12 ?_
  refine Par.v0 2 11 ?_
  refine Par.ld1 3 10 1 b1 ?_
  refine Par.c0 4 9 (fun f => #[f 2]) (F' := 173) (fun f X hX hR => ?_) ?_
  · have e2 : f 2 = _ := hR.out 2 rfl
    simp only [e2]
    refine (norm_any Pa A c a X (ha.below (hE.trans hX) hPa')).mono ?_
    rw [Hx.out]
    rintro e w2 ⟨A1, c1, rfl, hO, hB⟩
    exact ⟨_, rfl, hB, fun Y hY => ⟨A1, c1, rfl, (hO.mono (Nat.le_trans Hqs.out (hE.trans hX).bsize)).below hY (Nat.le_refl _)⟩⟩
  refine Par.c0 5 8 (fun f => #[f 0, f 3]) (F' := 172) (fun f X hX hR => ?_) ?_
  · have e0 : f 0 = _ := hR.out 0 rfl
    obtain ⟨A3, c3, (e3 : f 3 = _), o3⟩ := hR.out 3 rfl
    simp only [e0, e3]
    refine (zto_any _ A3 c3 _ X (hn.out.ext hP0' (hE.trans hX)).fr o3.rn (fun b hb => hb.2) (hn.out.six hxM) (by rw [val_digs (by omega)]; exact hxM)).mono ?_
    rintro e w2 ⟨o, rfl, ho, hB⟩
    rw [val_digs (by omega)] at ho
    exact ⟨(EV o), rfl, hB, fun Y hY => ⟨o, rfl, ho⟩⟩
  refine Par.v0 6 7 ?_
  refine Par.v0 7 6 ?_
  refine Par.ld1 8 5 6 b2 ?_
  refine Par.c0 9 4 (fun f => #[f 7]) (F' := 173) (fun f X hX hR => ?_) ?_
  · have e7 : f 7 = _ := hR.out 7 rfl
    simp only [e7]
    refine (norm_any Pb A' c' b X (hb.below (hE.trans hX) hPb')).mono ?_
    rw [Hy.out]
    rintro e w2 ⟨A1, c1, rfl, hO, hB⟩
    exact ⟨_, rfl, hB, fun Y hY => ⟨A1, c1, rfl, (hO.mono (Nat.le_trans Hqs.out (hE.trans hX).bsize)).below hY (Nat.le_refl _)⟩⟩
  refine Par.c0 10 3 (fun f => #[f 5, f 8]) (F' := 172) (fun f X hX hR => ?_) ?_
  · have e5 : f 5 = _ := hR.out 5 rfl
    obtain ⟨A8, c8, (e8 : f 8 = _), o8⟩ := hR.out 8 rfl
    simp only [e5, e8]
    refine (zto_any _ A8 c8 _ X (hn.out.ext hP0' (hE.trans hX)).fr o8.rn (fun b hb => hb.2) (hn.out.six hyM) (by rw [val_digs (by omega)]; exact hyM)).mono ?_
    rintro e w2 ⟨o, rfl, ho, hB⟩
    rw [val_digs (by omega)] at ho
    exact ⟨(EV o), rfl, hB, fun Y hY => ⟨o, rfl, ho⟩⟩
  refine Par.v0 11 2 ?_
  refine Par.c0 12 1 (fun f => #[f 10]) (F' := 214) (fun f X hX hR => ?_) ?_
  · have e10 : f 10 = _ := hR.out 10 rfl
    simp only [e10]
    refine (one_any X (hn.out.ext hP0' (hE.trans hX)).fr).mono ?_
    rintro e w2 ⟨rfl, hB⟩
    exact ⟨(EV ol), rfl, hB, fun _ _ => rfl⟩
  refine Par.S 13 0 [(18, 0), (19, 1), (20, 2), (21, 3), (22, 4), (23, 5), (24, 6), (25, 7), (26, 8), (27, 9), (28, 10), (29, 11)] (fun f X hX hR K hK => ?_) ?_
  · obtain ⟨o4, (e4 : f 4 = _), h4⟩ := hR.out 4 rfl
    obtain ⟨o9, (e9 : f 9 = _), h9⟩ := hR.out 9 rfl
    have e11 : f 11 = _ := hR.out 11 rfl
    simp only [yA, yB, yC, yD, yE, e4, e9, e11]
    refine ⟨Par.want (by kernel_rfl) (wp_buildJ (x := o4) (y := o9) (z := ol) (.tmp 22) (.tmp 27) (.tmp 29) rfl rfl rfl rfl h4.elt.six h9.elt.six hn.out.fr.fone.elt.six ?_)⟩
    exact hK.out _ (JV o4 o9 ol) _ (by simp only [yA, yB, yC, yD, yE, e4, e9, e11]) (Ext.refl _) trivial (fun _ _ => ⟨o4, o9, rfl, h4, h9⟩)
  refine Par.AllOps.fin ⟨fun f X hX hR hal hap => ?_⟩
  obtain ⟨A3, c3, (e3 : f 3 = _), o3⟩ := hR 3 (by decide)
  obtain ⟨o4, (e4 : f 4 = _), h4⟩ := hR 4 (by decide)
  obtain ⟨A8, c8, (e8 : f 8 = _), o8⟩ := hR 8 (by decide)
  obtain ⟨o9, (e9 : f 9 = _), h9⟩ := hR 9 (by decide)
  obtain ⟨ox, oy, (e12 : f 12 = _), fx, fy⟩ := hR 12 (by decide)
  simp only [yA, yB, yD, yE, e3, e4, e8, e9, e12]
  clear hR hal hap e3 e4 e8 e9 e12
  refine Par.Chain.next (fun K hK => ⟨Par.want (by kernel_rfl) (wp_storeJ (x := ox) (y := oy) (z := ol) (.tmp 4) (.tmp 30) rfl rfl rfl rfl (hX.at_ hrb) rfl fx.elt.six fy.elt.six hn.out.fr.fone.elt.six (fun Y hY1 hY2 hY3 => hK.out _ _ ?_))⟩)
  refine Par.Chain.done ?_
  go_wp2
  exact end_j rfl rfl rfl hY1 fx.elt.six fy.elt.six hn.out.fr.fone.elt.six ⟨_, _, _, rfl, ⟨fx, fy, hn.out.fr.fone⟩, hY2.ext (HE0.out.trans (hE.trans hX)) (by have := Hq.out; omega)⟩
end Go.Proofs.YtendnkpiidhogaaGreat
