/- Words of the reference's points. The reference's points: Base, From, Is. -/
import Derived.Test.YtldhmjfjbalakaaKBc
import Derived.Test.YtldhmjfjbalakaaKAq
import Derived.Test.YtldhmjfjbalakaaKAx
import Derived.Test.YtldhmjfjbalakaaKAd
namespace Go.Proofs.Ytldhmjfjbalakaa
open Go.RowKit

def noInt (v : Value) : Bool := match v with | .int _ _ => false | _ => true
/-- Limbs stand where a block without numbers gets something. -/
theorem RN.offJ {X Y : World} {A : Option Addr} {c : Nat} {l : List Nat} {g : Nat} {cs : Array Value} {T : TypeId} {fr : Nat × Nat} (h : RU X A c l) (hj : Just g X Y) (hg : X.heap[g]? = some (.cells cs T fr)) (hc : cs.all noInt = true) : RU Y A c l := by
  obtain ⟨⟨h1, h2, h3, h4⟩, h5⟩ := h
  refine ⟨⟨h1, h2, h3, fun hl => ?_⟩, h5⟩
  obtain ⟨ad, e, hb, hr⟩ := h4 hl
  refine ⟨ad, e, Nat.lt_of_lt_of_le hb hj.size, fun j v hv => ?_⟩
  have hcell := hr j v hv
  by_cases hne : (ad.add j).block = g
  · exfalso
    have hn : noInt v = false := by
      rw [nts, List.getElem?_map] at hv
      obtain ⟨n, _, rfl⟩ := Option.map_eq_some_iff.1 hv
      rfl
    unfold World.cell? at hcell
    rw [hne, hg] at hcell
    simp only at hcell
    split at hcell
    · cases hcell
    · rw [Array.all_eq_true] at hc
      obtain ⟨hlt, he⟩ := Array.getElem?_eq_some_iff.1 hcell
      have := hc _ hlt
      rw [he, hn] at this
      cases this
  · exact (World.cell?_of_block (hj.block _ (World.block_lt_of_cell? X _ hcell) hne)).trans hcell
theorem RN.nil0 (w : World) : RU w none 0 (digs 4294967296 0) := by rw [digs_zero]; exact RN.nil_ _ _
/-- The value is that point of the reference's. -/
def RPU (w : World) (v : Value) : Option (Nat × Nat) → Prop
  | none => v = infV
  | some p => ∃ A c A' c', v = .agg #[.bool false, .slice A (digs 4294967296 p.1).length c, .slice A' (digs 4294967296 p.2).length c'] ∧ RU w A c (digs 4294967296 p.1) ∧ RU w A' c' (digs 4294967296 p.2)
theorem RPU.ext {w X : World} {v : Value} {o : Option (Nat × Nat)} (h : RPU w v o) (hE : Ext w X) : RPU X v o := by
  cases o with
  | none => exact h
  | some p =>
    obtain ⟨A, c, A', c', rfl, h1, h2⟩ := h
    exact ⟨A, c, A', c', rfl, RN.up h1 hE, RN.up h2 hE⟩
theorem end_rpt {fn : Func} {R : Ending → World → Prop} {a : Act} {W : World} {p : Tmp} {g : Nat} {ty : TypeId} {fr : Nat × Nat} {x0 x1 x2 : Value} (hr : fn.results = #[.cell p 34]) (hp : a.tmps.getD p undef = .pointer (some ⟨g, 0, none⟩)) (hd : a.defers = [])
    (hg : W.heap[g]? = some (.cells #[x0, x1, x2] ty fr)) (hR : R (.returned (.agg #[x0, x1, x2])) W) : bodyPost Try.prog fn R .ret a W :=
  bodyPost_ret (results_cell_row hr a.tmps W g _ _ _ _ hp hg Try.underlying34 rfl infoRP) hd hR
end Go.Proofs.Ytldhmjfjbalakaa

namespace Go.Proofs.Ytldhmjfjbalakaa
open Go.RowKit

/-- The reference's point: whether it is nowhere, and two numbers. -/
def RPv (w : World) (v : Value) (bi : Bool) (x y : Nat) : Prop := ∃ (A A' : Option Addr) (c c' : Nat), v = .agg #[.bool bi, .slice A (digs 4294967296 x).length c, .slice A' (digs 4294967296 y).length c'] ∧ RU w A c (digs 4294967296 x) ∧ RU w A' c' (digs 4294967296 y)
theorem RPv.ext {w X : World} {v : Value} {bi : Bool} {x y : Nat} (h : RPv w v bi x y) (hE : Ext w X) : RPv X v bi x y := by
 obtain ⟨A, A', c, c', rfl, h1, h2⟩ := h
 exact ⟨A, A', c, c', rfl, RN.up h1 hE, RN.up h2 hE⟩
theorem RPv.inf_ (w : World) : RPv w infV true 0 0 := ⟨none, none, 0, 0, by rw [digs_zero]; rfl, RN.nil0 _, RN.nil0 _⟩
theorem RPU.pv {w : World} {v : Value} {o : Option (Nat × Nat)} (h : RPU w v o) : RPv w v o.isNone (o.elim 0 (·.1)) (o.elim 0 (·.2)) := by
 cases o with
 | none => cases h; exact RPv.inf_ w
 | some p =>
  obtain ⟨A, c, A', c', rfl, h1, h2⟩ := h
  exact ⟨A, A', c, c', rfl, h1, h2⟩
/-- The point's list of limbs is a number's. -/
def APn (w : World) (v : Value) (bi : Bool) (a b : List Nat) : Prop := ∃ (A A' : Option Addr) (c c' : Nat), v = .agg #[.bool bi, .slice A a.length c, .slice A' b.length c'] ∧ RU w A c a ∧ RU w A' c' b
theorem APn.ext {w X : World} {v : Value} {bi : Bool} {a b : List Nat} (h : APn w v bi a b) (hE : Ext w X) : APn X v bi a b := by
 obtain ⟨A, A', c, c', rfl, h1, h2⟩ := h
 exact ⟨A, A', c, c', rfl, RN.up h1 hE, RN.up h2 hE⟩
theorem APn.pt {w : World} {v : Value} {bi : Bool} {a b : List Nat} (h : APn w v bi a b) : APt w v bi (val 18446744073709551616 a) (val 18446744073709551616 b) := by
 obtain ⟨A, A', c, c', rfl, h1, h2⟩ := h
 exact ⟨A, A', c, c', a, b, rfl, h1, h2, rfl, rfl⟩
theorem APt.pn {w : World} {v : Value} {bi : Bool} {x y : Nat} (h : APt w v bi x y) : ∃ a b, APn w v bi a b ∧ val 18446744073709551616 a = x ∧ val 18446744073709551616 b = y := by
 obtain ⟨A, A', c, c', a, b, rfl, h1, h2, h3, h4⟩ := h
 exact ⟨a, b, ⟨A, A', c, c', rfl, h1, h2⟩, h3, h4⟩
theorem PtV.pn {w : World} {base : Nat} {v : Value} {o : Option (Nat × Nat)} (h : PtV w base v o) : APn w v o.isNone (digs 18446744073709551616 (o.elim 0 (·.1))) (digs 18446744073709551616 (o.elim 0 (·.2))) := by
 cases o with
 | none =>
  cases h
  exact ⟨none, none, 0, 0, by show infV = .agg #[.bool true, .slice none (digs 18446744073709551616 0).length 0, .slice none (digs 18446744073709551616 0).length 0]; rw [digs_zero]; rfl, by show RU w none 0 (digs 18446744073709551616 0); rw [digs_zero]; exact RN.nil_ _ _, by show RU w none 0 (digs 18446744073709551616 0); rw [digs_zero]; exact RN.nil_ _ _⟩
 | some p =>
  obtain ⟨A, c, A', c', rfl, h1, h2⟩ := h
  exact ⟨A, A', c, c', rfl, h1.ru, h2.ru⟩
set_option maxRecDepth 100000 in
set_option maxHeartbeats 4000000 in
theorem rbase_n {C : Crv} {v : Value} (w : World) (hc : RC w C v) : Calls Try.prog 32 #[v] w fun e w' => ∃ o, e = .returned o ∧ RPv w' o false (val 18446744073709551616 C.xl) (val 18446744073709551616 C.yl) ∧ Ext w w' := by
 obtain ⟨Ap, An, Ab, Ax, Ay, cp, cn, cb, cx, cy, rfl, hP, hN, hB, hX1, hY1⟩ := hc
 obtain ⟨W0, hW0⟩ : ∃ W0, W0 = (w.alloc (.cells #[.slice Ap (digs 4294967296 C.M).length cp, .slice An (digs 4294967296 (val 18446744073709551616 C.nl)).length cn, .slice Ab (digs 4294967296 C.bb).length cb, .slice Ax (digs 4294967296 (val 18446744073709551616 C.xl)).length cx, .slice Ay (digs 4294967296 (val 18446744073709551616 C.yl)).length cy, .int .i64 (C.size : Int)] 31)).alloc (.cells #[.bool false, .slice none 0 0, .slice none 0 0] 34) := ⟨_, rfl⟩
 obtain ⟨q, hq⟩ : ∃ q, w.heap.size = q := ⟨_, rfl⟩
 have hE0 : Ext w W0 := by rw [hW0]; exact (Ext.alloc _ _).trans (Ext.alloc _ _)
 obtain ⟨hcb, hrb, hz0⟩ := two_at2 w (.cells #[.slice Ap (digs 4294967296 C.M).length cp, .slice An (digs 4294967296 (val 18446744073709551616 C.nl)).length cn, .slice Ab (digs 4294967296 C.bb).length cb, .slice Ax (digs 4294967296 (val 18446744073709551616 C.xl)).length cx, .slice Ay (digs 4294967296 (val 18446744073709551616 C.yl)).length cy, .int .i64 (C.size : Int)] 31) (.cells #[.bool false, .slice none 0 0, .slice none 0 0] 34)
 rw [← hW0, hq] at hcb hrb hz0
 have c3 := blk_cell hcb 3
 have c4 := blk_cell hcb 4
 simp only [List.getElem?_toArray, List.getElem?_cons_zero, List.getElem?_cons_succ] at c3 c4
 have HX := Lib.hid (RN.up hX1 hE0)
 have HY := Lib.hid (RN.up hY1 hE0)
 have HE0 := Lib.hid hE0
 clear hP hN hB hX1 hY1 hE0 hz0 hcb
 go_enter Try.func32, Try.ntmps32
 go_upto_region 1 with fail
 rw [← hW0]
 have Hq := Lib.hid hq
 clear hW0 hq
 refine Par.region_txt 5 [0, 1, 0, 4, 15, 31] [] (fun j f X => match j with
  | 0 => f 0 = .pointer (some ⟨q, 3, none⟩)
  | 1 => f 1 = .slice Ax (digs 4294967296 (val 18446744073709551616 C.xl)).length cx
  | 2 => f 2 = .pointer (some ⟨q, 4, none⟩)
  | 3 => f 3 = .slice Ay (digs 4294967296 (val 18446744073709551616 C.yl)).length cy
  | 4 => f 4 = .agg #[.bool false, .slice Ax (digs 4294967296 (val 18446744073709551616 C.xl)).length cx, .slice Ay (digs 4294967296 (val 18446744073709551616 C.yl)).length cy]
  | _ => True) (by kernel_rfl) [(3, 0), (4, 1), (5, 2), (6, 3), (7, 4)] (by kernel_rfl) ?_
 refine Par.S 1 4 [(5, 2), (6, 3)] (fun f X hX hR K hK => ?_) ?_
 · simp only [yA, yB, yC, yD, yE]
   refine ⟨?_⟩
   go_simp
   exact Par.k hK (s := by simp only [yA, yB, yC, yD, yE])
 refine Par.S 2 3 [(3, 0), (5, 2), (6, 3)] (fun f X hX hR K hK => ?_) ?_
 · have e0 : f 0 = _ := hR.out 0 rfl
   have x0 := hX.cell c3
   simp only [yA, yB, yC, yD, yE, e0]
   refine ⟨?_⟩
   go_simp
   exact Par.k hK (s := by simp only [yA, yB, yC, yD, yE, e0])
 refine Par.S 3 2 [(3, 0), (4, 1)] (fun f X hX hR K hK => ?_) ?_
 · simp only [yA, yB, yC, yD, yE]
   refine ⟨?_⟩
   go_simp
   exact Par.k hK (s := by simp only [yA, yB, yC, yD, yE])
 refine Par.S 4 1 [(3, 0), (4, 1), (5, 2)] (fun f X hX hR K hK => ?_) ?_
 · have e2 : f 2 = _ := hR.out 2 rfl
   have x0 := hX.cell c4
   simp only [yA, yB, yC, yD, yE, e2]
   refine ⟨?_⟩
   go_simp
   exact Par.k hK (s := by simp only [yA, yB, yC, yD, yE, e2])
 refine Par.S 5 0 [(3, 0), (4, 1), (5, 2), (6, 3)] (fun f X hX hR K hK => ?_) ?_
 · have e1 : f 1 = _ := hR.out 1 rfl
   have e3 : f 3 = _ := hR.out 3 rfl
   simp only [yA, yB, yC, yD, yE, e1, e3]
   refine ⟨?_⟩
   go_simp
   exact Par.k hK (s := by simp only [yA, yB, yC, yD, yE, e1, e3])
 refine Par.AllOps.fin ⟨fun f X hX hR hal hap => ?_⟩
 have e0 : f 0 = _ := hR 0 (by decide)
 have e1 : f 1 = _ := hR 1 (by decide)
 have e2 : f 2 = _ := hR 2 (by decide)
 have e3 : f 3 = _ := hR 3 (by decide)
 have e4 : f 4 = _ := hR 4 (by decide)
 simp only [yA, yB, yC, yD, yE, e0, e1, e2, e3, e4]
 clear hR hal hap e0 e1 e2 e3 e4
 refine Par.Chain.next (fun K hK => ⟨Par.want (by kernel_rfl) (wp_storeV (cs' := #[.bool false, .slice Ax (digs 4294967296 (val 18446744073709551616 C.xl)).length cx, .slice Ay (digs 4294967296 (val 18446744073709551616 C.yl)).length cy]) (t := 34) 34 (.tmp 2) (.tmp 7) rfl rfl rfl rfl (hX.at_ hrb) infoRP rfl (pt_one _ _ _ _ _ _ _) (fun Y hY1 hY2 hY3 => hK.out _ _ ?_))⟩)
 refine Par.Chain.done ?_
 go_wp2
 exact end_rpt rfl rfl rfl hY1 ⟨_, rfl, ⟨_, _, _, _, rfl, (RN.up HX.out hX).offJ hY2 (hX.at_ hrb) (by kernel_rfl), (RN.up HY.out hX).offJ hY2 (hX.at_ hrb) (by kernel_rfl)⟩, hY2.ext (HE0.out.trans hX) (by have := Hq.out; omega)⟩
set_option maxRecDepth 100000 in
set_option maxHeartbeats 8000000 in
theorem ris_n {p r : Value} {bi bj : Bool} {a b : List Nat} {u v : Nat} (w : World) (hp : APn w p bi a b) (hr : RPv w r bj u v) : Calls Try.prog 17 #[p, r] w fun e w' => e = .returned (.bool (bi == bj && decide (a = digs 18446744073709551616 u) && decide (b = digs 18446744073709551616 v))) ∧ Ext w w' := by
 obtain ⟨A, A', c, c', rfl, ha, hb⟩ := hp
 obtain ⟨B, B', k, k', rfl, hu, hv⟩ := hr
 obtain ⟨W0, hW0⟩ : ∃ W0, W0 = (w.alloc (.cells #[.bool bi, .slice A a.length c, .slice A' b.length c'] 27)).alloc (.cells #[.bool bj, .slice B (digs 4294967296 u).length k, .slice B' (digs 4294967296 v).length k'] 34) := ⟨_, rfl⟩
 obtain ⟨q, hq⟩ : ∃ q, w.heap.size = q := ⟨_, rfl⟩
 have hE0 : Ext w W0 := by rw [hW0]; exact (Ext.alloc _ _).trans (Ext.alloc _ _)
 obtain ⟨h1, h2, hz0⟩ := two_at2 w (.cells #[.bool bi, .slice A a.length c, .slice A' b.length c'] 27) (.cells #[.bool bj, .slice B (digs 4294967296 u).length k, .slice B' (digs 4294967296 v).length k'] 34)
 rw [← hW0, hq] at h1 h2 hz0
 have p0 := blk_cell h1 0
 have p1 := blk_cell h1 1
 have p2 := blk_cell h1 2
 have r0 := blk_cell h2 0
 have r1 := blk_cell h2 1
 have r2 := blk_cell h2 2
 simp only [List.getElem?_toArray, List.getElem?_cons_zero, List.getElem?_cons_succ] at p0 p1 p2 r0 r1 r2
 have Ha := Lib.hid (RN.up ha hE0)
 have Hb := Lib.hid (RN.up hb hE0)
 have Hu := Lib.hid (RN.up hu hE0)
 have Hv := Lib.hid (RN.up hv hE0)
 have HE0 := Lib.hid hE0
 obtain ⟨z1, hz1⟩ : ∃ z, decide (a = digs 18446744073709551616 u) = z := ⟨_, rfl⟩
 obtain ⟨z2, hz2⟩ : ∃ z, decide (b = digs 18446744073709551616 v) = z := ⟨_, rfl⟩
 rw [hz1, hz2]
 have Hz1 := Lib.hid hz1
 have Hz2 := Lib.hid hz2
 obtain ⟨z0, hz⟩ : ∃ z, (bi == bj) = z := ⟨_, rfl⟩
 rw [hz]
 have hbeq : (bi == bj) = z0 := hz
 have Hz := Lib.hid hz
 clear ha hb hu hv hE0 hz0 h1 h2 hz1 hz2 hz
 cases z0
 case false =>
  go_enter Try.func17, Try.ntmps17
  go_upto_region 1 with fail
  rw [← hW0]
  have Hq := Lib.hid hq
  clear hW0 hq
  refine Par.region_txt 20 [0, 1, 0, 4, 15, 31, 63, 127, 63, 319, 1023, 2047, 4095, 8191, 16383, 8191, 40959, 131071, 262143, 524287] [] (fun j f X => match j with
   | 0 => f 0 = .pointer (some ⟨q, 0, none⟩)
   | 1 => f 1 = .bool bi
   | 2 => f 2 = .pointer (some ⟨q + 1, 0, none⟩)
   | 3 => f 3 = .bool bj
   | 4 => f 4 = .bool false
   | 5 => f 5 = .bool false
   | 6 => f 6 = undef
   | 7 => f 7 = undef
   | 8 => f 8 = undef
   | 9 => f 9 = undef
   | 10 => f 10 = undef
   | 11 => f 11 = .bool false
   | 12 => f 12 = .bool false
   | 13 => f 13 = undef
   | 14 => f 14 = undef
   | 15 => f 15 = undef
   | 16 => f 16 = undef
   | 17 => f 17 = undef
   | 18 => f 18 = .bool false
   | 19 => f 19 = .bool false
   | _ => True) (by kernel_rfl) [(5, 0), (6, 1), (7, 2), (8, 3), (9, 4), (10, 5), (11, 6), (12, 7), (13, 8), (14, 9), (15, 10), (16, 11), (17, 12), (18, 13), (19, 14), (20, 15), (21, 16), (22, 17), (23, 18), (4, 19)] (by kernel_rfl) ?_
  refine Par.S 1 19 [(7, 2), (8, 3)] (fun f X hX hR K hK => ?_) ?_
  · simp only [yA, yB, yC, yD, yE]
    refine ⟨?_⟩
    go_simp
    exact Par.k hK (s := by simp only [yA, yB, yC, yD, yE])
  refine Par.S 2 18 [(5, 0), (7, 2), (8, 3)] (fun f X hX hR K hK => ?_) ?_
  · have e0 : f 0 = _ := hR.out 0 rfl
    have x0 := hX.cell p0
    simp only [yA, yB, yC, yD, yE, e0]
    refine ⟨?_⟩
    go_simp
    exact Par.k hK (s := by simp only [yA, yB, yC, yD, yE, e0])
  refine Par.S 3 17 [(5, 0), (6, 1)] (fun f X hX hR K hK => ?_) ?_
  · simp only [yA, yB, yC, yD, yE]
    refine ⟨?_⟩
    go_simp
    exact Par.k hK (s := by simp only [yA, yB, yC, yD, yE])
  refine Par.S 4 16 [(5, 0), (6, 1), (7, 2)] (fun f X hX hR K hK => ?_) ?_
  · have e2 : f 2 = _ := hR.out 2 rfl
    have x0 := hX.cell r0
    simp only [yA, yB, yC, yD, yE, e2]
    refine ⟨?_⟩
    go_simp
    exact Par.k hK (s := by simp only [yA, yB, yC, yD, yE, e2])
  refine Par.S 5 15 [(5, 0), (6, 1), (7, 2), (8, 3)] (fun f X hX hR K hK => ?_) ?_
  · have e1 : f 1 = _ := hR.out 1 rfl
    have e3 : f 3 = _ := hR.out 3 rfl
    have hbe := Hz.out
    simp only [yA, yB, yC, yD, yE, e1, e3]
    refine ⟨?_⟩
    go_simp
    exact Par.k hK (s := by simp only [yA, yB, yC, yD, yE, e1, e3])
  refine Par.S 6 14 [(5, 0), (6, 1), (7, 2), (8, 3), (9, 4)] (fun f X hX hR K hK => ?_) ?_
  · have e4 : f 4 = _ := hR.out 4 rfl
    simp only [yA, yB, yC, yD, yE, e4]
    refine ⟨?_⟩
    go_simp
    exact Par.k hK (s := by simp only [yA, yB, yC, yD, yE, e4])
  refine Par.S 7 13 [(5, 0), (6, 1), (7, 2), (8, 3), (9, 4), (10, 5), (13, 8), (14, 9)] (fun f X hX hR K hK => ?_) ?_
  · have e5 : f 5 = _ := hR.out 5 rfl
    simp only [yA, yB, yC, yD, yE, e5]
    refine ⟨Par.unwant (by kernel_rfl) ?_⟩
    exact hK.out _ (undef) _ (by simp only [yA, yB, yC, yD, yE, e5]) (Ext.refl _) trivial (fun _ _ => rfl)
  refine Par.S 8 12 [(5, 0), (6, 1), (7, 2), (8, 3), (9, 4), (10, 5), (11, 6), (13, 8), (14, 9)] (fun f X hX hR K hK => ?_) ?_
  · have e5 : f 5 = _ := hR.out 5 rfl
    have e6 : f 6 = _ := hR.out 6 rfl
    simp only [yA, yB, yC, yD, yE, e5, e6]
    refine ⟨Par.unwant (by kernel_rfl) ?_⟩
    exact hK.out _ (undef) _ (by simp only [yA, yB, yC, yD, yE, e5, e6]) (Ext.refl _) trivial (fun _ _ => rfl)
  refine Par.S 9 11 [(5, 0), (6, 1), (7, 2), (8, 3), (9, 4), (10, 5), (11, 6), (12, 7)] (fun f X hX hR K hK => ?_) ?_
  · have e5 : f 5 = _ := hR.out 5 rfl
    simp only [yA, yB, yC, yD, yE, e5]
    refine ⟨Par.unwant (by kernel_rfl) ?_⟩
    exact hK.out _ (undef) _ (by simp only [yA, yB, yC, yD, yE, e5]) (Ext.refl _) trivial (fun _ _ => rfl)
  refine Par.S 10 10 [(5, 0), (6, 1), (7, 2), (8, 3), (9, 4), (10, 5), (11, 6), (12, 7), (13, 8)] (fun f X hX hR K hK => ?_) ?_
  · have e5 : f 5 = _ := hR.out 5 rfl
    have e8 : f 8 = _ := hR.out 8 rfl
    simp only [yA, yB, yC, yD, yE, e5, e8]
    refine ⟨Par.unwant (by kernel_rfl) ?_⟩
    exact hK.out _ (undef) _ (by simp only [yA, yB, yC, yD, yE, e5, e8]) (Ext.refl _) trivial (fun _ _ => rfl)
  refine Par.S 11 9 [(5, 0), (6, 1), (7, 2), (8, 3), (9, 4), (10, 5), (11, 6), (12, 7), (13, 8), (14, 9)] (fun f X hX hR K hK => ?_) ?_
  · have e5 : f 5 = _ := hR.out 5 rfl
    have e7 : f 7 = _ := hR.out 7 rfl
    have e9 : f 9 = _ := hR.out 9 rfl
    simp only [yA, yB, yC, yD, yE, e5, e7, e9]
    refine ⟨Par.unwant (by kernel_rfl) ?_⟩
    exact hK.out _ (undef) _ (by simp only [yA, yB, yC, yD, yE, e5, e7, e9]) (Ext.refl _) trivial (fun _ _ => rfl)
  refine Par.S 12 8 [(5, 0), (6, 1), (7, 2), (8, 3), (9, 4), (10, 5), (11, 6), (12, 7), (13, 8), (14, 9), (15, 10)] (fun f X hX hR K hK => ?_) ?_
  · have e5 : f 5 = _ := hR.out 5 rfl
    have e10 : f 10 = _ := hR.out 10 rfl
    simp only [yA, yB, yC, yD, yE, e5, e10]
    refine ⟨?_⟩
    go_simp
    exact Par.k hK (s := by simp only [yA, yB, yC, yD, yE, e5, e10])
  refine Par.S 13 7 [(5, 0), (6, 1), (7, 2), (8, 3), (9, 4), (10, 5), (11, 6), (12, 7), (13, 8), (14, 9), (15, 10), (16, 11)] (fun f X hX hR K hK => ?_) ?_
  · have e11 : f 11 = _ := hR.out 11 rfl
    simp only [yA, yB, yC, yD, yE, e11]
    refine ⟨?_⟩
    go_simp
    exact Par.k hK (s := by simp only [yA, yB, yC, yD, yE, e11])
  refine Par.S 14 6 [(5, 0), (6, 1), (7, 2), (8, 3), (9, 4), (10, 5), (11, 6), (12, 7), (13, 8), (14, 9), (15, 10), (16, 11), (17, 12), (20, 15), (21, 16)] (fun f X hX hR K hK => ?_) ?_
  · have e12 : f 12 = _ := hR.out 12 rfl
    simp only [yA, yB, yC, yD, yE, e12]
    refine ⟨Par.unwant (by kernel_rfl) ?_⟩
    exact hK.out _ (undef) _ (by simp only [yA, yB, yC, yD, yE, e12]) (Ext.refl _) trivial (fun _ _ => rfl)
  refine Par.S 15 5 [(5, 0), (6, 1), (7, 2), (8, 3), (9, 4), (10, 5), (11, 6), (12, 7), (13, 8), (14, 9), (15, 10), (16, 11), (17, 12), (18, 13), (20, 15), (21, 16)] (fun f X hX hR K hK => ?_) ?_
  · have e12 : f 12 = _ := hR.out 12 rfl
    have e13 : f 13 = _ := hR.out 13 rfl
    simp only [yA, yB, yC, yD, yE, e12, e13]
    refine ⟨Par.unwant (by kernel_rfl) ?_⟩
    exact hK.out _ (undef) _ (by simp only [yA, yB, yC, yD, yE, e12, e13]) (Ext.refl _) trivial (fun _ _ => rfl)
  refine Par.S 16 4 [(5, 0), (6, 1), (7, 2), (8, 3), (9, 4), (10, 5), (11, 6), (12, 7), (13, 8), (14, 9), (15, 10), (16, 11), (17, 12), (18, 13), (19, 14)] (fun f X hX hR K hK => ?_) ?_
  · have e12 : f 12 = _ := hR.out 12 rfl
    simp only [yA, yB, yC, yD, yE, e12]
    refine ⟨Par.unwant (by kernel_rfl) ?_⟩
    exact hK.out _ (undef) _ (by simp only [yA, yB, yC, yD, yE, e12]) (Ext.refl _) trivial (fun _ _ => rfl)
  refine Par.S 17 3 [(5, 0), (6, 1), (7, 2), (8, 3), (9, 4), (10, 5), (11, 6), (12, 7), (13, 8), (14, 9), (15, 10), (16, 11), (17, 12), (18, 13), (19, 14), (20, 15)] (fun f X hX hR K hK => ?_) ?_
  · have e12 : f 12 = _ := hR.out 12 rfl
    have e15 : f 15 = _ := hR.out 15 rfl
    simp only [yA, yB, yC, yD, yE, e12, e15]
    refine ⟨Par.unwant (by kernel_rfl) ?_⟩
    exact hK.out _ (undef) _ (by simp only [yA, yB, yC, yD, yE, e12, e15]) (Ext.refl _) trivial (fun _ _ => rfl)
  refine Par.S 18 2 [(5, 0), (6, 1), (7, 2), (8, 3), (9, 4), (10, 5), (11, 6), (12, 7), (13, 8), (14, 9), (15, 10), (16, 11), (17, 12), (18, 13), (19, 14), (20, 15), (21, 16)] (fun f X hX hR K hK => ?_) ?_
  · have e12 : f 12 = _ := hR.out 12 rfl
    have e14 : f 14 = _ := hR.out 14 rfl
    have e16 : f 16 = _ := hR.out 16 rfl
    simp only [yA, yB, yC, yD, yE, e12, e14, e16]
    refine ⟨Par.unwant (by kernel_rfl) ?_⟩
    exact hK.out _ (undef) _ (by simp only [yA, yB, yC, yD, yE, e12, e14, e16]) (Ext.refl _) trivial (fun _ _ => rfl)
  refine Par.S 19 1 [(5, 0), (6, 1), (7, 2), (8, 3), (9, 4), (10, 5), (11, 6), (12, 7), (13, 8), (14, 9), (15, 10), (16, 11), (17, 12), (18, 13), (19, 14), (20, 15), (21, 16), (22, 17)] (fun f X hX hR K hK => ?_) ?_
  · have e12 : f 12 = _ := hR.out 12 rfl
    have e17 : f 17 = _ := hR.out 17 rfl
    simp only [yA, yB, yC, yD, yE, e12, e17]
    refine ⟨?_⟩
    go_simp
    exact Par.k hK (s := by simp only [yA, yB, yC, yD, yE, e12, e17])
  refine Par.S 20 0 [(5, 0), (6, 1), (7, 2), (8, 3), (9, 4), (10, 5), (11, 6), (12, 7), (13, 8), (14, 9), (15, 10), (16, 11), (17, 12), (18, 13), (19, 14), (20, 15), (21, 16), (22, 17), (23, 18)] (fun f X hX hR K hK => ?_) ?_
  · have e18 : f 18 = _ := hR.out 18 rfl
    simp only [yA, yB, yC, yD, yE, e18]
    refine ⟨?_⟩
    go_simp
    exact Par.k hK (s := by simp only [yA, yB, yC, yD, yE, e18])
  refine Par.AllOps.fin ⟨fun f X hX hR hal hap => ?_⟩
  have e0 : f 0 = _ := hR 0 (by decide)
  have e1 : f 1 = _ := hR 1 (by decide)
  have e2 : f 2 = _ := hR 2 (by decide)
  have e3 : f 3 = _ := hR 3 (by decide)
  have e4 : f 4 = _ := hR 4 (by decide)
  have e5 : f 5 = _ := hR 5 (by decide)
  have e6 : f 6 = _ := hR 6 (by decide)
  have e7 : f 7 = _ := hR 7 (by decide)
  have e8 : f 8 = _ := hR 8 (by decide)
  have e9 : f 9 = _ := hR 9 (by decide)
  have e10 : f 10 = _ := hR 10 (by decide)
  have e11 : f 11 = _ := hR 11 (by decide)
  have e12 : f 12 = _ := hR 12 (by decide)
  have e13 : f 13 = _ := hR 13 (by decide)
  have e14 : f 14 = _ := hR 14 (by decide)
  have e15 : f 15 = _ := hR 15 (by decide)
  have e16 : f 16 = _ := hR 16 (by decide)
  have e17 : f 17 = _ := hR 17 (by decide)
  have e18 : f 18 = _ := hR 18 (by decide)
  have e19 : f 19 = _ := hR 19 (by decide)
  simp only [yA, yB, yC, yD, yE, e0, e1, e2, e3, e4, e5, e6, e7, e8, e9, e10, e11, e12, e13, e14, e15, e16, e17, e18, e19]
  clear hR hal hap e0 e1 e2 e3 e4 e5 e6 e7 e8 e9 e10 e11 e12 e13 e14 e15 e16 e17 e18 e19
  refine Par.Chain.done ?_
  go_wp2
  go_ret
  exact ⟨rfl, HE0.out.trans hX⟩
 case true =>
  cases z1
  case false =>
   go_enter Try.func17, Try.ntmps17
   go_upto_region 1 with fail
   rw [← hW0]
   have Hq := Lib.hid hq
   clear hW0 hq
   refine Par.region_txt 20 [0, 1, 0, 4, 15, 31, 63, 127, 63, 319, 1023, 2047, 4095, 8191, 16383, 8191, 40959, 131071, 262143, 524287] [] (fun j f X => match j with
    | 0 => f 0 = .pointer (some ⟨q, 0, none⟩)
    | 1 => f 1 = .bool bi
    | 2 => f 2 = .pointer (some ⟨q + 1, 0, none⟩)
    | 3 => f 3 = .bool bj
    | 4 => f 4 = .bool true
    | 5 => f 5 = .bool true
    | 6 => f 6 = .pointer (some ⟨q, 1, none⟩)
    | 7 => f 7 = .slice A a.length c
    | 8 => f 8 = .pointer (some ⟨q + 1, 1, none⟩)
    | 9 => f 9 = .slice B (digs 4294967296 u).length k
    | 10 => f 10 = .bool false
    | 11 => f 11 = .bool false
    | 12 => f 12 = .bool false
    | 13 => f 13 = undef
    | 14 => f 14 = undef
    | 15 => f 15 = undef
    | 16 => f 16 = undef
    | 17 => f 17 = undef
    | 18 => f 18 = .bool false
    | 19 => f 19 = .bool false
    | _ => True) (by kernel_rfl) [(5, 0), (6, 1), (7, 2), (8, 3), (9, 4), (10, 5), (11, 6), (12, 7), (13, 8), (14, 9), (15, 10), (16, 11), (17, 12), (18, 13), (19, 14), (20, 15), (21, 16), (22, 17), (23, 18), (4, 19)] (by kernel_rfl) ?_
   refine Par.S 1 19 [(7, 2), (8, 3)] (fun f X hX hR K hK => ?_) ?_
   · simp only [yA, yB, yC, yD, yE]
     refine ⟨?_⟩
     go_simp
     exact Par.k hK (s := by simp only [yA, yB, yC, yD, yE])
   refine Par.S 2 18 [(5, 0), (7, 2), (8, 3)] (fun f X hX hR K hK => ?_) ?_
   · have e0 : f 0 = _ := hR.out 0 rfl
     have x0 := hX.cell p0
     simp only [yA, yB, yC, yD, yE, e0]
     refine ⟨?_⟩
     go_simp
     exact Par.k hK (s := by simp only [yA, yB, yC, yD, yE, e0])
   refine Par.S 3 17 [(5, 0), (6, 1)] (fun f X hX hR K hK => ?_) ?_
   · simp only [yA, yB, yC, yD, yE]
     refine ⟨?_⟩
     go_simp
     exact Par.k hK (s := by simp only [yA, yB, yC, yD, yE])
   refine Par.S 4 16 [(5, 0), (6, 1), (7, 2)] (fun f X hX hR K hK => ?_) ?_
   · have e2 : f 2 = _ := hR.out 2 rfl
     have x0 := hX.cell r0
     simp only [yA, yB, yC, yD, yE, e2]
     refine ⟨?_⟩
     go_simp
     exact Par.k hK (s := by simp only [yA, yB, yC, yD, yE, e2])
   refine Par.S 5 15 [(5, 0), (6, 1), (7, 2), (8, 3)] (fun f X hX hR K hK => ?_) ?_
   · have e1 : f 1 = _ := hR.out 1 rfl
     have e3 : f 3 = _ := hR.out 3 rfl
     have hbe := Hz.out
     simp only [yA, yB, yC, yD, yE, e1, e3]
     refine ⟨?_⟩
     go_simp
     exact Par.k hK (s := by simp only [yA, yB, yC, yD, yE, e1, e3])
   refine Par.S 6 14 [(5, 0), (6, 1), (7, 2), (8, 3), (9, 4)] (fun f X hX hR K hK => ?_) ?_
   · have e4 : f 4 = _ := hR.out 4 rfl
     simp only [yA, yB, yC, yD, yE, e4]
     refine ⟨?_⟩
     go_simp
     exact Par.k hK (s := by simp only [yA, yB, yC, yD, yE, e4])
   refine Par.S 7 13 [(5, 0), (6, 1), (7, 2), (8, 3), (9, 4), (10, 5), (13, 8), (14, 9)] (fun f X hX hR K hK => ?_) ?_
   · have e5 : f 5 = _ := hR.out 5 rfl
     simp only [yA, yB, yC, yD, yE, e5]
     refine ⟨Par.want (by kernel_rfl) ?_⟩
     go_simp
     exact Par.k hK (s := by simp only [yA, yB, yC, yD, yE, e5])
   refine Par.S 8 12 [(5, 0), (6, 1), (7, 2), (8, 3), (9, 4), (10, 5), (11, 6), (13, 8), (14, 9)] (fun f X hX hR K hK => ?_) ?_
   · have e5 : f 5 = _ := hR.out 5 rfl
     have e6 : f 6 = _ := hR.out 6 rfl
     have x0 := hX.cell p1
     simp only [yA, yB, yC, yD, yE, e5, e6]
     refine ⟨Par.want (by kernel_rfl) ?_⟩
     go_simp
     exact Par.k hK (s := by simp only [yA, yB, yC, yD, yE, e5, e6])
   refine Par.S 9 11 [(5, 0), (6, 1), (7, 2), (8, 3), (9, 4), (10, 5), (11, 6), (12, 7)] (fun f X hX hR K hK => ?_) ?_
   · have e5 : f 5 = _ := hR.out 5 rfl
     simp only [yA, yB, yC, yD, yE, e5]
     refine ⟨Par.want (by kernel_rfl) ?_⟩
     go_simp
     exact Par.k hK (s := by simp only [yA, yB, yC, yD, yE, e5])
   refine Par.S 10 10 [(5, 0), (6, 1), (7, 2), (8, 3), (9, 4), (10, 5), (11, 6), (12, 7), (13, 8)] (fun f X hX hR K hK => ?_) ?_
   · have e5 : f 5 = _ := hR.out 5 rfl
     have e8 : f 8 = _ := hR.out 8 rfl
     have x0 := hX.cell r1
     simp only [yA, yB, yC, yD, yE, e5, e8]
     refine ⟨Par.want (by kernel_rfl) ?_⟩
     go_simp
     exact Par.k hK (s := by simp only [yA, yB, yC, yD, yE, e5, e8])
   refine Par.S 11 9 [(5, 0), (6, 1), (7, 2), (8, 3), (9, 4), (10, 5), (11, 6), (12, 7), (13, 8), (14, 9)] (fun f X hX hR K hK => ?_) ?_
   · have e5 : f 5 = _ := hR.out 5 rfl
     have e7 : f 7 = _ := hR.out 7 rfl
     have e9 : f 9 = _ := hR.out 9 rfl
     simp only [yA, yB, yC, yD, yE, e5, e7, e9]
     refine ⟨Par.want (by kernel_rfl) ?_⟩
     go_simp
     refine (is_bool _ _ A B c k a u X (RN.up Ha.out hX) (RN.up Hu.out hX) (fun _ h => h) (fun _ h => h)).mono ?_
     rw [Hz1.out]
     rintro e w2 ⟨rfl, hB⟩
     exact hK.out _ _ _ (by simp only [yA, yB, yC, yD, yE, e5, e7, e9]) hB trivial (fun _ _ => rfl)
   refine Par.S 12 8 [(5, 0), (6, 1), (7, 2), (8, 3), (9, 4), (10, 5), (11, 6), (12, 7), (13, 8), (14, 9), (15, 10)] (fun f X hX hR K hK => ?_) ?_
   · have e5 : f 5 = _ := hR.out 5 rfl
     have e10 : f 10 = _ := hR.out 10 rfl
     simp only [yA, yB, yC, yD, yE, e5, e10]
     refine ⟨?_⟩
     go_simp
     exact Par.k hK (s := by simp only [yA, yB, yC, yD, yE, e5, e10])
   refine Par.S 13 7 [(5, 0), (6, 1), (7, 2), (8, 3), (9, 4), (10, 5), (11, 6), (12, 7), (13, 8), (14, 9), (15, 10), (16, 11)] (fun f X hX hR K hK => ?_) ?_
   · have e11 : f 11 = _ := hR.out 11 rfl
     simp only [yA, yB, yC, yD, yE, e11]
     refine ⟨?_⟩
     go_simp
     exact Par.k hK (s := by simp only [yA, yB, yC, yD, yE, e11])
   refine Par.S 14 6 [(5, 0), (6, 1), (7, 2), (8, 3), (9, 4), (10, 5), (11, 6), (12, 7), (13, 8), (14, 9), (15, 10), (16, 11), (17, 12), (20, 15), (21, 16)] (fun f X hX hR K hK => ?_) ?_
   · have e12 : f 12 = _ := hR.out 12 rfl
     simp only [yA, yB, yC, yD, yE, e12]
     refine ⟨Par.unwant (by kernel_rfl) ?_⟩
     exact hK.out _ (undef) _ (by simp only [yA, yB, yC, yD, yE, e12]) (Ext.refl _) trivial (fun _ _ => rfl)
   refine Par.S 15 5 [(5, 0), (6, 1), (7, 2), (8, 3), (9, 4), (10, 5), (11, 6), (12, 7), (13, 8), (14, 9), (15, 10), (16, 11), (17, 12), (18, 13), (20, 15), (21, 16)] (fun f X hX hR K hK => ?_) ?_
   · have e12 : f 12 = _ := hR.out 12 rfl
     have e13 : f 13 = _ := hR.out 13 rfl
     simp only [yA, yB, yC, yD, yE, e12, e13]
     refine ⟨Par.unwant (by kernel_rfl) ?_⟩
     exact hK.out _ (undef) _ (by simp only [yA, yB, yC, yD, yE, e12, e13]) (Ext.refl _) trivial (fun _ _ => rfl)
   refine Par.S 16 4 [(5, 0), (6, 1), (7, 2), (8, 3), (9, 4), (10, 5), (11, 6), (12, 7), (13, 8), (14, 9), (15, 10), (16, 11), (17, 12), (18, 13), (19, 14)] (fun f X hX hR K hK => ?_) ?_
   · have e12 : f 12 = _ := hR.out 12 rfl
     simp only [yA, yB, yC, yD, yE, e12]
     refine ⟨Par.unwant (by kernel_rfl) ?_⟩
     exact hK.out _ (undef) _ (by simp only [yA, yB, yC, yD, yE, e12]) (Ext.refl _) trivial (fun _ _ => rfl)
   refine Par.S 17 3 [(5, 0), (6, 1), (7, 2), (8, 3), (9, 4), (10, 5), (11, 6), (12, 7), (13, 8), (14, 9), (15, 10), (16, 11), (17, 12), (18, 13), (19, 14), (20, 15)] (fun f X hX hR K hK => ?_) ?_
   · have e12 : f 12 = _ := hR.out 12 rfl
     have e15 : f 15 = _ := hR.out 15 rfl
     simp only [yA, yB, yC, yD, yE, e12, e15]
     refine ⟨Par.unwant (by kernel_rfl) ?_⟩
     exact hK.out _ (undef) _ (by simp only [yA, yB, yC, yD, yE, e12, e15]) (Ext.refl _) trivial (fun _ _ => rfl)
   refine Par.S 18 2 [(5, 0), (6, 1), (7, 2), (8, 3), (9, 4), (10, 5), (11, 6), (12, 7), (13, 8), (14, 9), (15, 10), (16, 11), (17, 12), (18, 13), (19, 14), (20, 15), (21, 16)] (fun f X hX hR K hK => ?_) ?_
   · have e12 : f 12 = _ := hR.out 12 rfl
     have e14 : f 14 = _ := hR.out 14 rfl
     have e16 : f 16 = _ := hR.out 16 rfl
     simp only [yA, yB, yC, yD, yE, e12, e14, e16]
     refine ⟨Par.unwant (by kernel_rfl) ?_⟩
     exact hK.out _ (undef) _ (by simp only [yA, yB, yC, yD, yE, e12, e14, e16]) (Ext.refl _) trivial (fun _ _ => rfl)
   refine Par.S 19 1 [(5, 0), (6, 1), (7, 2), (8, 3), (9, 4), (10, 5), (11, 6), (12, 7), (13, 8), (14, 9), (15, 10), (16, 11), (17, 12), (18, 13), (19, 14), (20, 15), (21, 16), (22, 17)] (fun f X hX hR K hK => ?_) ?_
   · have e12 : f 12 = _ := hR.out 12 rfl
     have e17 : f 17 = _ := hR.out 17 rfl
     simp only [yA, yB, yC, yD, yE, e12, e17]
     refine ⟨?_⟩
     go_simp
     exact Par.k hK (s := by simp only [yA, yB, yC, yD, yE, e12, e17])
   refine Par.S 20 0 [(5, 0), (6, 1), (7, 2), (8, 3), (9, 4), (10, 5), (11, 6), (12, 7), (13, 8), (14, 9), (15, 10), (16, 11), (17, 12), (18, 13), (19, 14), (20, 15), (21, 16), (22, 17), (23, 18)] (fun f X hX hR K hK => ?_) ?_
   · have e18 : f 18 = _ := hR.out 18 rfl
     simp only [yA, yB, yC, yD, yE, e18]
     refine ⟨?_⟩
     go_simp
     exact Par.k hK (s := by simp only [yA, yB, yC, yD, yE, e18])
   refine Par.AllOps.fin ⟨fun f X hX hR hal hap => ?_⟩
   have e0 : f 0 = _ := hR 0 (by decide)
   have e1 : f 1 = _ := hR 1 (by decide)
   have e2 : f 2 = _ := hR 2 (by decide)
   have e3 : f 3 = _ := hR 3 (by decide)
   have e4 : f 4 = _ := hR 4 (by decide)
   have e5 : f 5 = _ := hR 5 (by decide)
   have e6 : f 6 = _ := hR 6 (by decide)
   have e7 : f 7 = _ := hR 7 (by decide)
   have e8 : f 8 = _ := hR 8 (by decide)
   have e9 : f 9 = _ := hR 9 (by decide)
   have e10 : f 10 = _ := hR 10 (by decide)
   have e11 : f 11 = _ := hR 11 (by decide)
   have e12 : f 12 = _ := hR 12 (by decide)
   have e13 : f 13 = _ := hR 13 (by decide)
   have e14 : f 14 = _ := hR 14 (by decide)
   have e15 : f 15 = _ := hR 15 (by decide)
   have e16 : f 16 = _ := hR 16 (by decide)
   have e17 : f 17 = _ := hR 17 (by decide)
   have e18 : f 18 = _ := hR 18 (by decide)
   have e19 : f 19 = _ := hR 19 (by decide)
   simp only [yA, yB, yC, yD, yE, e0, e1, e2, e3, e4, e5, e6, e7, e8, e9, e10, e11, e12, e13, e14, e15, e16, e17, e18, e19]
   clear hR hal hap e0 e1 e2 e3 e4 e5 e6 e7 e8 e9 e10 e11 e12 e13 e14 e15 e16 e17 e18 e19
   refine Par.Chain.done ?_
   go_wp2
   go_ret
   exact ⟨rfl, HE0.out.trans hX⟩
  case true =>
   go_enter Try.func17, Try.ntmps17
   go_upto_region 1 with fail
   rw [← hW0]
   have Hq := Lib.hid hq
   clear hW0 hq
   refine Par.region_txt 20 [0, 1, 0, 4, 15, 31, 63, 127, 63, 319, 1023, 2047, 4095, 8191, 16383, 8191, 40959, 131071, 262143, 524287] [] (fun j f X => match j with
    | 0 => f 0 = .pointer (some ⟨q, 0, none⟩)
    | 1 => f 1 = .bool bi
    | 2 => f 2 = .pointer (some ⟨q + 1, 0, none⟩)
    | 3 => f 3 = .bool bj
    | 4 => f 4 = .bool true
    | 5 => f 5 = .bool true
    | 6 => f 6 = .pointer (some ⟨q, 1, none⟩)
    | 7 => f 7 = .slice A a.length c
    | 8 => f 8 = .pointer (some ⟨q + 1, 1, none⟩)
    | 9 => f 9 = .slice B (digs 4294967296 u).length k
    | 10 => f 10 = .bool true
    | 11 => f 11 = .bool true
    | 12 => f 12 = .bool true
    | 13 => f 13 = .pointer (some ⟨q, 2, none⟩)
    | 14 => f 14 = .slice A' b.length c'
    | 15 => f 15 = .pointer (some ⟨q + 1, 2, none⟩)
    | 16 => f 16 = .slice B' (digs 4294967296 v).length k'
    | 17 => f 17 = .bool z2
    | 18 => f 18 = .bool z2
    | 19 => f 19 = .bool z2
    | _ => True) (by kernel_rfl) [(5, 0), (6, 1), (7, 2), (8, 3), (9, 4), (10, 5), (11, 6), (12, 7), (13, 8), (14, 9), (15, 10), (16, 11), (17, 12), (18, 13), (19, 14), (20, 15), (21, 16), (22, 17), (23, 18), (4, 19)] (by kernel_rfl) ?_
   refine Par.S 1 19 [(7, 2), (8, 3)] (fun f X hX hR K hK => ?_) ?_
   · simp only [yA, yB, yC, yD, yE]
     refine ⟨?_⟩
     go_simp
     exact Par.k hK (s := by simp only [yA, yB, yC, yD, yE])
   refine Par.S 2 18 [(5, 0), (7, 2), (8, 3)] (fun f X hX hR K hK => ?_) ?_
   · have e0 : f 0 = _ := hR.out 0 rfl
     have x0 := hX.cell p0
     simp only [yA, yB, yC, yD, yE, e0]
     refine ⟨?_⟩
     go_simp
     exact Par.k hK (s := by simp only [yA, yB, yC, yD, yE, e0])
   refine Par.S 3 17 [(5, 0), (6, 1)] (fun f X hX hR K hK => ?_) ?_
   · simp only [yA, yB, yC, yD, yE]
     refine ⟨?_⟩
     go_simp
     exact Par.k hK (s := by simp only [yA, yB, yC, yD, yE])
   refine Par.S 4 16 [(5, 0), (6, 1), (7, 2)] (fun f X hX hR K hK => ?_) ?_
   · have e2 : f 2 = _ := hR.out 2 rfl
     have x0 := hX.cell r0
     simp only [yA, yB, yC, yD, yE, e2]
     refine ⟨?_⟩
     go_simp
     exact Par.k hK (s := by simp only [yA, yB, yC, yD, yE, e2])
   refine Par.S 5 15 [(5, 0), (6, 1), (7, 2), (8, 3)] (fun f X hX hR K hK => ?_) ?_
   · have e1 : f 1 = _ := hR.out 1 rfl
     have e3 : f 3 = _ := hR.out 3 rfl
     have hbe := Hz.out
     simp only [yA, yB, yC, yD, yE, e1, e3]
     refine ⟨?_⟩
     go_simp
     exact Par.k hK (s := by simp only [yA, yB, yC, yD, yE, e1, e3])
   refine Par.S 6 14 [(5, 0), (6, 1), (7, 2), (8, 3), (9, 4)] (fun f X hX hR K hK => ?_) ?_
   · have e4 : f 4 = _ := hR.out 4 rfl
     simp only [yA, yB, yC, yD, yE, e4]
     refine ⟨?_⟩
     go_simp
     exact Par.k hK (s := by simp only [yA, yB, yC, yD, yE, e4])
   refine Par.S 7 13 [(5, 0), (6, 1), (7, 2), (8, 3), (9, 4), (10, 5), (13, 8), (14, 9)] (fun f X hX hR K hK => ?_) ?_
   · have e5 : f 5 = _ := hR.out 5 rfl
     simp only [yA, yB, yC, yD, yE, e5]
     refine ⟨Par.want (by kernel_rfl) ?_⟩
     go_simp
     exact Par.k hK (s := by simp only [yA, yB, yC, yD, yE, e5])
   refine Par.S 8 12 [(5, 0), (6, 1), (7, 2), (8, 3), (9, 4), (10, 5), (11, 6), (13, 8), (14, 9)] (fun f X hX hR K hK => ?_) ?_
   · have e5 : f 5 = _ := hR.out 5 rfl
     have e6 : f 6 = _ := hR.out 6 rfl
     have x0 := hX.cell p1
     simp only [yA, yB, yC, yD, yE, e5, e6]
     refine ⟨Par.want (by kernel_rfl) ?_⟩
     go_simp
     exact Par.k hK (s := by simp only [yA, yB, yC, yD, yE, e5, e6])
   refine Par.S 9 11 [(5, 0), (6, 1), (7, 2), (8, 3), (9, 4), (10, 5), (11, 6), (12, 7)] (fun f X hX hR K hK => ?_) ?_
   · have e5 : f 5 = _ := hR.out 5 rfl
     simp only [yA, yB, yC, yD, yE, e5]
     refine ⟨Par.want (by kernel_rfl) ?_⟩
     go_simp
     exact Par.k hK (s := by simp only [yA, yB, yC, yD, yE, e5])
   refine Par.S 10 10 [(5, 0), (6, 1), (7, 2), (8, 3), (9, 4), (10, 5), (11, 6), (12, 7), (13, 8)] (fun f X hX hR K hK => ?_) ?_
   · have e5 : f 5 = _ := hR.out 5 rfl
     have e8 : f 8 = _ := hR.out 8 rfl
     have x0 := hX.cell r1
     simp only [yA, yB, yC, yD, yE, e5, e8]
     refine ⟨Par.want (by kernel_rfl) ?_⟩
     go_simp
     exact Par.k hK (s := by simp only [yA, yB, yC, yD, yE, e5, e8])
   refine Par.S 11 9 [(5, 0), (6, 1), (7, 2), (8, 3), (9, 4), (10, 5), (11, 6), (12, 7), (13, 8), (14, 9)] (fun f X hX hR K hK => ?_) ?_
   · have e5 : f 5 = _ := hR.out 5 rfl
     have e7 : f 7 = _ := hR.out 7 rfl
     have e9 : f 9 = _ := hR.out 9 rfl
     simp only [yA, yB, yC, yD, yE, e5, e7, e9]
     refine ⟨Par.want (by kernel_rfl) ?_⟩
     go_simp
     refine (is_bool _ _ A B c k a u X (RN.up Ha.out hX) (RN.up Hu.out hX) (fun _ h => h) (fun _ h => h)).mono ?_
     rw [Hz1.out]
     rintro e w2 ⟨rfl, hB⟩
     exact hK.out _ _ _ (by simp only [yA, yB, yC, yD, yE, e5, e7, e9]) hB trivial (fun _ _ => rfl)
   refine Par.S 12 8 [(5, 0), (6, 1), (7, 2), (8, 3), (9, 4), (10, 5), (11, 6), (12, 7), (13, 8), (14, 9), (15, 10)] (fun f X hX hR K hK => ?_) ?_
   · have e5 : f 5 = _ := hR.out 5 rfl
     have e10 : f 10 = _ := hR.out 10 rfl
     simp only [yA, yB, yC, yD, yE, e5, e10]
     refine ⟨?_⟩
     go_simp
     exact Par.k hK (s := by simp only [yA, yB, yC, yD, yE, e5, e10])
   refine Par.S 13 7 [(5, 0), (6, 1), (7, 2), (8, 3), (9, 4), (10, 5), (11, 6), (12, 7), (13, 8), (14, 9), (15, 10), (16, 11)] (fun f X hX hR K hK => ?_) ?_
   · have e11 : f 11 = _ := hR.out 11 rfl
     simp only [yA, yB, yC, yD, yE, e11]
     refine ⟨?_⟩
     go_simp
     exact Par.k hK (s := by simp only [yA, yB, yC, yD, yE, e11])
   refine Par.S 14 6 [(5, 0), (6, 1), (7, 2), (8, 3), (9, 4), (10, 5), (11, 6), (12, 7), (13, 8), (14, 9), (15, 10), (16, 11), (17, 12), (20, 15), (21, 16)] (fun f X hX hR K hK => ?_) ?_
   · have e12 : f 12 = _ := hR.out 12 rfl
     simp only [yA, yB, yC, yD, yE, e12]
     refine ⟨Par.want (by kernel_rfl) ?_⟩
     go_simp
     exact Par.k hK (s := by simp only [yA, yB, yC, yD, yE, e12])
   refine Par.S 15 5 [(5, 0), (6, 1), (7, 2), (8, 3), (9, 4), (10, 5), (11, 6), (12, 7), (13, 8), (14, 9), (15, 10), (16, 11), (17, 12), (18, 13), (20, 15), (21, 16)] (fun f X hX hR K hK => ?_) ?_
   · have e12 : f 12 = _ := hR.out 12 rfl
     have e13 : f 13 = _ := hR.out 13 rfl
     have x0 := hX.cell p2
     simp only [yA, yB, yC, yD, yE, e12, e13]
     refine ⟨Par.want (by kernel_rfl) ?_⟩
     go_simp
     exact Par.k hK (s := by simp only [yA, yB, yC, yD, yE, e12, e13])
   refine Par.S 16 4 [(5, 0), (6, 1), (7, 2), (8, 3), (9, 4), (10, 5), (11, 6), (12, 7), (13, 8), (14, 9), (15, 10), (16, 11), (17, 12), (18, 13), (19, 14)] (fun f X hX hR K hK => ?_) ?_
   · have e12 : f 12 = _ := hR.out 12 rfl
     simp only [yA, yB, yC, yD, yE, e12]
     refine ⟨Par.want (by kernel_rfl) ?_⟩
     go_simp
     exact Par.k hK (s := by simp only [yA, yB, yC, yD, yE, e12])
   refine Par.S 17 3 [(5, 0), (6, 1), (7, 2), (8, 3), (9, 4), (10, 5), (11, 6), (12, 7), (13, 8), (14, 9), (15, 10), (16, 11), (17, 12), (18, 13), (19, 14), (20, 15)] (fun f X hX hR K hK => ?_) ?_
   · have e12 : f 12 = _ := hR.out 12 rfl
     have e15 : f 15 = _ := hR.out 15 rfl
     have x0 := hX.cell r2
     simp only [yA, yB, yC, yD, yE, e12, e15]
     refine ⟨Par.want (by kernel_rfl) ?_⟩
     go_simp
     exact Par.k hK (s := by simp only [yA, yB, yC, yD, yE, e12, e15])
   refine Par.S 18 2 [(5, 0), (6, 1), (7, 2), (8, 3), (9, 4), (10, 5), (11, 6), (12, 7), (13, 8), (14, 9), (15, 10), (16, 11), (17, 12), (18, 13), (19, 14), (20, 15), (21, 16)] (fun f X hX hR K hK => ?_) ?_
   · have e12 : f 12 = _ := hR.out 12 rfl
     have e14 : f 14 = _ := hR.out 14 rfl
     have e16 : f 16 = _ := hR.out 16 rfl
     simp only [yA, yB, yC, yD, yE, e12, e14, e16]
     refine ⟨Par.want (by kernel_rfl) ?_⟩
     go_simp
     refine (is_bool _ _ A' B' c' k' b v X (RN.up Hb.out hX) (RN.up Hv.out hX) (fun _ h => h) (fun _ h => h)).mono ?_
     rw [Hz2.out]
     rintro e w2 ⟨rfl, hB⟩
     exact hK.out _ _ _ (by simp only [yA, yB, yC, yD, yE, e12, e14, e16]) hB trivial (fun _ _ => rfl)
   refine Par.S 19 1 [(5, 0), (6, 1), (7, 2), (8, 3), (9, 4), (10, 5), (11, 6), (12, 7), (13, 8), (14, 9), (15, 10), (16, 11), (17, 12), (18, 13), (19, 14), (20, 15), (21, 16), (22, 17)] (fun f X hX hR K hK => ?_) ?_
   · have e12 : f 12 = _ := hR.out 12 rfl
     have e17 : f 17 = _ := hR.out 17 rfl
     simp only [yA, yB, yC, yD, yE, e12, e17]
     refine ⟨?_⟩
     go_simp
     exact Par.k hK (s := by simp only [yA, yB, yC, yD, yE, e12, e17])
   refine Par.S 20 0 [(5, 0), (6, 1), (7, 2), (8, 3), (9, 4), (10, 5), (11, 6), (12, 7), (13, 8), (14, 9), (15, 10), (16, 11), (17, 12), (18, 13), (19, 14), (20, 15), (21, 16), (22, 17), (23, 18)] (fun f X hX hR K hK => ?_) ?_
   · have e18 : f 18 = _ := hR.out 18 rfl
     simp only [yA, yB, yC, yD, yE, e18]
     refine ⟨?_⟩
     go_simp
     exact Par.k hK (s := by simp only [yA, yB, yC, yD, yE, e18])
   refine Par.AllOps.fin ⟨fun f X hX hR hal hap => ?_⟩
   have e0 : f 0 = _ := hR 0 (by decide)
   have e1 : f 1 = _ := hR 1 (by decide)
   have e2 : f 2 = _ := hR 2 (by decide)
   have e3 : f 3 = _ := hR 3 (by decide)
   have e4 : f 4 = _ := hR 4 (by decide)
   have e5 : f 5 = _ := hR 5 (by decide)
   have e6 : f 6 = _ := hR 6 (by decide)
   have e7 : f 7 = _ := hR 7 (by decide)
   have e8 : f 8 = _ := hR 8 (by decide)
   have e9 : f 9 = _ := hR 9 (by decide)
   have e10 : f 10 = _ := hR 10 (by decide)
   have e11 : f 11 = _ := hR 11 (by decide)
   have e12 : f 12 = _ := hR 12 (by decide)
   have e13 : f 13 = _ := hR 13 (by decide)
   have e14 : f 14 = _ := hR 14 (by decide)
   have e15 : f 15 = _ := hR 15 (by decide)
   have e16 : f 16 = _ := hR 16 (by decide)
   have e17 : f 17 = _ := hR 17 (by decide)
   have e18 : f 18 = _ := hR 18 (by decide)
   have e19 : f 19 = _ := hR 19 (by decide)
   simp only [yA, yB, yC, yD, yE, e0, e1, e2, e3, e4, e5, e6, e7, e8, e9, e10, e11, e12, e13, e14, e15, e16, e17, e18, e19]
   clear hR hal hap e0 e1 e2 e3 e4 e5 e6 e7 e8 e9 e10 e11 e12 e13 e14 e15 e16 e17 e18 e19
   refine Par.Chain.done ?_
   go_wp2
   go_ret
   exact ⟨rfl, HE0.out.trans hX⟩
end Go.Proofs.Ytldhmjfjbalakaa
