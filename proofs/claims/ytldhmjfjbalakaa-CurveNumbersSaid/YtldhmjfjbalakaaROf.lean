/- The reference's curves: Of. -/
import Derived.Test.YtldhmjfjbalakaaROn
import Derived.Deep.DeepCutAuto
namespace Go.Proofs.Ytldhmjfjbalakaa
open Go.RowKit

def c0 : Crv := ⟨0, 0, 0, 0, [], [], [], [], []⟩
theorem end_rc {fn : Func} {R : Ending → World → Prop} {a : Act} {W : World} {p : Tmp} {g : Nat} {ty : TypeId} {fr : Nat × Nat} {x0 x1 x2 x3 x4 x5 : Value} (hr : fn.results = #[.cell p 31]) (hp : a.tmps.getD p undef = .pointer (some ⟨g, 0, none⟩)) (hd : a.defers = [])
 (hg : W.heap[g]? = some (.cells #[x0, x1, x2, x3, x4, x5] ty fr)) (hR : R (.returned (.agg #[x0, x1, x2, x3, x4, x5])) W) : bodyPost Try.prog fn R .ret a W :=
 bodyPost_ret (results_cell_row hr a.tmps W g _ _ _ _ hp hg Try.underlying31 rfl infoRC) hd hR
theorem rc_one (A1 A2 A3 A4 A5 : Option Addr) (n1 n2 n3 n4 n5 c1 c2 c3 c4 c5 : Nat) (s : Int) : (#[Value.slice A1 n1 c1, .slice A2 n2 c2, .slice A3 n3 c3, .slice A4 n4 c4, .slice A5 n5 c5, .int .i64 s] : Array Value).all (·.oneCell') = true := by simp [Value.oneCell']
set_option maxRecDepth 100000 in
set_option maxHeartbeats 8000000 in
theorem refOf_c {c : Int} {C : Crv} (hC : IsC c C) (w : World) : Calls Try.prog 13 #[.int .i64 c] w fun e w' => ∃ v, e = .returned v ∧ RC w' C v ∧ Ext w w' := by
 have hz : (w.alloc (.cells #[.slice none 0 0, .slice none 0 0, .slice none 0 0, .slice none 0 0, .slice none 0 0, .int .i64 0] 31)).heap[w.heap.size]? = some (.cells #[.slice none 0 0, .slice none 0 0, .slice none 0 0, .slice none 0 0, .slice none 0 0, .int .i64 0] 31 (0, 0)) := heap_alloc_new w _
 rcases hC with ⟨rfl, rfl⟩ | ⟨rfl, rfl⟩
 · go_enter Try.func13, Try.ntmps13
   go_upto_region 3 with fail
   refine Par.region_txt 11 [0, 1, 0, 7, 0, 31, 0, 127, 0, 511, 1023, 2047] [] (fun j f X => match j with
    | 0 => ∃ b, f 0 = .slice (some ⟨b, 0, none⟩) 4 4 ∧ RU X (some ⟨b, 0, none⟩) 4 p256p
    | 1 => ∃ A1 c1, f 1 = .slice A1 (digs 4294967296 (val 18446744073709551616 p256p)).length c1 ∧ OB X w.heap.size A1 c1 (digs 4294967296 (val 18446744073709551616 p256p))
    | 2 => ∃ b, f 2 = .slice (some ⟨b, 0, none⟩) 4 4 ∧ RU X (some ⟨b, 0, none⟩) 4 p256n
    | 3 => ∃ A1 c1, f 3 = .slice A1 (digs 4294967296 (val 18446744073709551616 p256n)).length c1 ∧ OB X w.heap.size A1 c1 (digs 4294967296 (val 18446744073709551616 p256n))
    | 4 => ∃ b, f 4 = .slice (some ⟨b, 0, none⟩) 4 4 ∧ RU X (some ⟨b, 0, none⟩) 4 p256b
    | 5 => ∃ A1 c1, f 5 = .slice A1 (digs 4294967296 (val 18446744073709551616 p256b)).length c1 ∧ OB X w.heap.size A1 c1 (digs 4294967296 (val 18446744073709551616 p256b))
    | 6 => ∃ b, f 6 = .slice (some ⟨b, 0, none⟩) 4 4 ∧ RU X (some ⟨b, 0, none⟩) 4 p256x
    | 7 => ∃ A1 c1, f 7 = .slice A1 (digs 4294967296 (val 18446744073709551616 p256x)).length c1 ∧ OB X w.heap.size A1 c1 (digs 4294967296 (val 18446744073709551616 p256x))
    | 8 => ∃ b, f 8 = .slice (some ⟨b, 0, none⟩) 4 4 ∧ RU X (some ⟨b, 0, none⟩) 4 p256y
    | 9 => ∃ A1 c1, f 9 = .slice A1 (digs 4294967296 (val 18446744073709551616 p256y)).length c1 ∧ OB X w.heap.size A1 c1 (digs 4294967296 (val 18446744073709551616 p256y))
    | 10 => f 10 = .agg #[f 1, f 3, f 5, f 7, f 9, .int .i64 32]
    | _ => True) (by kernel_rfl) [(6, 0), (7, 1), (8, 2), (9, 3), (10, 4), (11, 5), (12, 6), (13, 7), (14, 8), (15, 9), (16, 10)] (by kernel_rfl) ?_
   refine Par.S 1 10 [(8, 2), (10, 4), (12, 6), (14, 8)] (fun f X hX hR K hK => ?_) ?_
   · simp only [yA, yB, yC, yD, yE]
     refine ⟨?_⟩
     go_simp
     exact hK.out _ (.slice (some ⟨X.heap.size, 0, none⟩) 4 4) _ (by simp only [yA, yB, yC, yD, yE]) (Ext.alloc _ _) trivial (fun Y hY => ⟨X.heap.size, rfl, ((RN.lits X p256p ⟨by decide, by decide⟩).mono (fun b hb => by rw [World.size_alloc]; exact hb.2)).up hY⟩)
   refine Par.S 2 9 [(6, 0), (8, 2), (10, 4), (12, 6), (14, 8)] (fun f X hX hR K hK => ?_) ?_
   · obtain ⟨b0, (e0 : f 0 = _), h0⟩ := hR.out 0 rfl
     simp only [yA, yB, yC, yD, yE, e0]
     refine ⟨?_⟩
     go_simp
     refine (from_any _ (some ⟨b0, 0, none⟩) 4 p256p X h0 (fun _ hb => hb) (by decide)).mono ?_
     rintro e w2 ⟨A1, c1, rfl, hO, hB⟩
     exact hK.out _ (.slice A1 (digs 4294967296 (val 18446744073709551616 p256p)).length c1) _ (by simp only [yA, yB, yC, yD, yE, e0]) hB trivial (fun Y hY => ⟨A1, c1, rfl, (hO.mono (Nat.le_trans (Ext.alloc w _).bsize hX.bsize)).below hY (Nat.le_refl _)⟩)
   refine Par.S 3 8 [(6, 0), (7, 1), (10, 4), (12, 6), (14, 8)] (fun f X hX hR K hK => ?_) ?_
   · simp only [yA, yB, yC, yD, yE]
     refine ⟨?_⟩
     go_simp
     exact hK.out _ (.slice (some ⟨X.heap.size, 0, none⟩) 4 4) _ (by simp only [yA, yB, yC, yD, yE]) (Ext.alloc _ _) trivial (fun Y hY => ⟨X.heap.size, rfl, ((RN.lits X p256n ⟨by decide, by decide⟩).mono (fun b hb => by rw [World.size_alloc]; exact hb.2)).up hY⟩)
   refine Par.S 4 7 [(6, 0), (7, 1), (8, 2), (10, 4), (12, 6), (14, 8)] (fun f X hX hR K hK => ?_) ?_
   · obtain ⟨b2, (e2 : f 2 = _), h2⟩ := hR.out 2 rfl
     simp only [yA, yB, yC, yD, yE, e2]
     refine ⟨?_⟩
     go_simp
     refine (from_any _ (some ⟨b2, 0, none⟩) 4 p256n X h2 (fun _ hb => hb) (by decide)).mono ?_
     rintro e w2 ⟨A1, c1, rfl, hO, hB⟩
     exact hK.out _ (.slice A1 (digs 4294967296 (val 18446744073709551616 p256n)).length c1) _ (by simp only [yA, yB, yC, yD, yE, e2]) hB trivial (fun Y hY => ⟨A1, c1, rfl, (hO.mono (Nat.le_trans (Ext.alloc w _).bsize hX.bsize)).below hY (Nat.le_refl _)⟩)
   refine Par.S 5 6 [(6, 0), (7, 1), (8, 2), (9, 3), (12, 6), (14, 8)] (fun f X hX hR K hK => ?_) ?_
   · simp only [yA, yB, yC, yD, yE]
     refine ⟨?_⟩
     go_simp
     exact hK.out _ (.slice (some ⟨X.heap.size, 0, none⟩) 4 4) _ (by simp only [yA, yB, yC, yD, yE]) (Ext.alloc _ _) trivial (fun Y hY => ⟨X.heap.size, rfl, ((RN.lits X p256b ⟨by decide, by decide⟩).mono (fun b hb => by rw [World.size_alloc]; exact hb.2)).up hY⟩)
   refine Par.S 6 5 [(6, 0), (7, 1), (8, 2), (9, 3), (10, 4), (12, 6), (14, 8)] (fun f X hX hR K hK => ?_) ?_
   · obtain ⟨b4, (e4 : f 4 = _), h4⟩ := hR.out 4 rfl
     simp only [yA, yB, yC, yD, yE, e4]
     refine ⟨?_⟩
     go_simp
     refine (from_any _ (some ⟨b4, 0, none⟩) 4 p256b X h4 (fun _ hb => hb) (by decide)).mono ?_
     rintro e w2 ⟨A1, c1, rfl, hO, hB⟩
     exact hK.out _ (.slice A1 (digs 4294967296 (val 18446744073709551616 p256b)).length c1) _ (by simp only [yA, yB, yC, yD, yE, e4]) hB trivial (fun Y hY => ⟨A1, c1, rfl, (hO.mono (Nat.le_trans (Ext.alloc w _).bsize hX.bsize)).below hY (Nat.le_refl _)⟩)
   refine Par.S 7 4 [(6, 0), (7, 1), (8, 2), (9, 3), (10, 4), (11, 5), (14, 8)] (fun f X hX hR K hK => ?_) ?_
   · simp only [yA, yB, yC, yD, yE]
     refine ⟨?_⟩
     go_simp
     exact hK.out _ (.slice (some ⟨X.heap.size, 0, none⟩) 4 4) _ (by simp only [yA, yB, yC, yD, yE]) (Ext.alloc _ _) trivial (fun Y hY => ⟨X.heap.size, rfl, ((RN.lits X p256x ⟨by decide, by decide⟩).mono (fun b hb => by rw [World.size_alloc]; exact hb.2)).up hY⟩)
   refine Par.S 8 3 [(6, 0), (7, 1), (8, 2), (9, 3), (10, 4), (11, 5), (12, 6), (14, 8)] (fun f X hX hR K hK => ?_) ?_
   · obtain ⟨b6, (e6 : f 6 = _), h6⟩ := hR.out 6 rfl
     simp only [yA, yB, yC, yD, yE, e6]
     refine ⟨?_⟩
     go_simp
     refine (from_any _ (some ⟨b6, 0, none⟩) 4 p256x X h6 (fun _ hb => hb) (by decide)).mono ?_
     rintro e w2 ⟨A1, c1, rfl, hO, hB⟩
     exact hK.out _ (.slice A1 (digs 4294967296 (val 18446744073709551616 p256x)).length c1) _ (by simp only [yA, yB, yC, yD, yE, e6]) hB trivial (fun Y hY => ⟨A1, c1, rfl, (hO.mono (Nat.le_trans (Ext.alloc w _).bsize hX.bsize)).below hY (Nat.le_refl _)⟩)
   refine Par.S 9 2 [(6, 0), (7, 1), (8, 2), (9, 3), (10, 4), (11, 5), (12, 6), (13, 7)] (fun f X hX hR K hK => ?_) ?_
   · simp only [yA, yB, yC, yD, yE]
     refine ⟨?_⟩
     go_simp
     exact hK.out _ (.slice (some ⟨X.heap.size, 0, none⟩) 4 4) _ (by simp only [yA, yB, yC, yD, yE]) (Ext.alloc _ _) trivial (fun Y hY => ⟨X.heap.size, rfl, ((RN.lits X p256y ⟨by decide, by decide⟩).mono (fun b hb => by rw [World.size_alloc]; exact hb.2)).up hY⟩)
   refine Par.S 10 1 [(6, 0), (7, 1), (8, 2), (9, 3), (10, 4), (11, 5), (12, 6), (13, 7), (14, 8)] (fun f X hX hR K hK => ?_) ?_
   · obtain ⟨b8, (e8 : f 8 = _), h8⟩ := hR.out 8 rfl
     simp only [yA, yB, yC, yD, yE, e8]
     refine ⟨?_⟩
     go_simp
     refine (from_any _ (some ⟨b8, 0, none⟩) 4 p256y X h8 (fun _ hb => hb) (by decide)).mono ?_
     rintro e w2 ⟨A1, c1, rfl, hO, hB⟩
     exact hK.out _ (.slice A1 (digs 4294967296 (val 18446744073709551616 p256y)).length c1) _ (by simp only [yA, yB, yC, yD, yE, e8]) hB trivial (fun Y hY => ⟨A1, c1, rfl, (hO.mono (Nat.le_trans (Ext.alloc w _).bsize hX.bsize)).below hY (Nat.le_refl _)⟩)
   refine Par.S 11 0 [(6, 0), (7, 1), (8, 2), (9, 3), (10, 4), (11, 5), (12, 6), (13, 7), (14, 8), (15, 9)] (fun f X hX hR K hK => ?_) ?_
   · obtain ⟨A1, c1, (e1 : f 1 = _), o1⟩ := hR.out 1 rfl
     obtain ⟨A3, c3, (e3 : f 3 = _), o3⟩ := hR.out 3 rfl
     obtain ⟨A5, c5, (e5 : f 5 = _), o5⟩ := hR.out 5 rfl
     obtain ⟨A7, c7, (e7 : f 7 = _), o7⟩ := hR.out 7 rfl
     obtain ⟨A9, c9, (e9 : f 9 = _), o9⟩ := hR.out 9 rfl
     simp only [yA, yB, yC, yD, yE, e1, e3, e5, e7, e9]
     refine ⟨?_⟩
     go_simp
     exact hK.out _ (.agg #[f 1, f 3, f 5, f 7, f 9, .int .i64 32]) _ (by simp only [yA, yB, yC, yD, yE, e1, e3, e5, e7, e9]) (Ext.refl _) trivial (fun _ _ => rfl)
   refine Par.AllOps.fin ⟨fun f X hX hR hal hap => ?_⟩
   obtain ⟨b0, (e0 : f 0 = _), h0⟩ := hR 0 (by decide)
   obtain ⟨A1, c1, (e1 : f 1 = _), o1⟩ := hR 1 (by decide)
   obtain ⟨b2, (e2 : f 2 = _), h2⟩ := hR 2 (by decide)
   obtain ⟨A3, c3, (e3 : f 3 = _), o3⟩ := hR 3 (by decide)
   obtain ⟨b4, (e4 : f 4 = _), h4⟩ := hR 4 (by decide)
   obtain ⟨A5, c5, (e5 : f 5 = _), o5⟩ := hR 5 (by decide)
   obtain ⟨b6, (e6 : f 6 = _), h6⟩ := hR 6 (by decide)
   obtain ⟨A7, c7, (e7 : f 7 = _), o7⟩ := hR 7 (by decide)
   obtain ⟨b8, (e8 : f 8 = _), h8⟩ := hR 8 (by decide)
   obtain ⟨A9, c9, (e9 : f 9 = _), o9⟩ := hR 9 (by decide)
   have e10 : f 10 = .agg #[f 1, f 3, f 5, f 7, f 9, .int .i64 32] := hR 10 (by decide)
   simp only [yA, yB, yC, yD, yE, e0, e1, e2, e3, e4, e5, e6, e7, e8, e9, e10]
   clear hR hal hap e0 e1 e2 e3 e4 e5 e6 e7 e8 e9 e10
   refine Par.Chain.next (fun K hK => ⟨Par.want (by kernel_rfl) (wp_storeV 31 (.tmp 2) (.tmp 16) rfl rfl rfl rfl (hX.at_ hz) infoRC rfl (rc_one _ _ _ _ _ _ _ _ _ _ _ _ _ _ _ _) (fun Y1 g1 g2 g3 => hK.out _ _ ?_))⟩)
   refine Par.Chain.done ?_
   go_wp2
   refine end_rc rfl rfl rfl g1 ⟨_, rfl, ⟨A1, A3, A5, A7, A9, c1, c3, c5, c7, c9, rfl, (o1.just g2 (hX.at_ hz) (by decide)).ru, (o3.just g2 (hX.at_ hz) (by decide)).ru, (o5.just g2 (hX.at_ hz) (by decide)).ru, (o7.just g2 (hX.at_ hz) (by decide)).ru, (o9.just g2 (hX.at_ hz) (by decide)).ru⟩, g2.ext ((Ext.alloc w _).trans hX) (Nat.le_refl _)⟩
 · go_enter Try.func13, Try.ntmps13
   go_upto_region 5 with fail
   refine Par.region_txt 11 [0, 1, 0, 7, 0, 31, 0, 127, 0, 511, 1023, 2047] [] (fun j f X => match j with
    | 0 => ∃ b, f 0 = .slice (some ⟨b, 0, none⟩) 6 6 ∧ RU X (some ⟨b, 0, none⟩) 6 p384p
    | 1 => ∃ A1 c1, f 1 = .slice A1 (digs 4294967296 (val 18446744073709551616 p384p)).length c1 ∧ OB X w.heap.size A1 c1 (digs 4294967296 (val 18446744073709551616 p384p))
    | 2 => ∃ b, f 2 = .slice (some ⟨b, 0, none⟩) 6 6 ∧ RU X (some ⟨b, 0, none⟩) 6 p384n
    | 3 => ∃ A1 c1, f 3 = .slice A1 (digs 4294967296 (val 18446744073709551616 p384n)).length c1 ∧ OB X w.heap.size A1 c1 (digs 4294967296 (val 18446744073709551616 p384n))
    | 4 => ∃ b, f 4 = .slice (some ⟨b, 0, none⟩) 6 6 ∧ RU X (some ⟨b, 0, none⟩) 6 p384b
    | 5 => ∃ A1 c1, f 5 = .slice A1 (digs 4294967296 (val 18446744073709551616 p384b)).length c1 ∧ OB X w.heap.size A1 c1 (digs 4294967296 (val 18446744073709551616 p384b))
    | 6 => ∃ b, f 6 = .slice (some ⟨b, 0, none⟩) 6 6 ∧ RU X (some ⟨b, 0, none⟩) 6 p384x
    | 7 => ∃ A1 c1, f 7 = .slice A1 (digs 4294967296 (val 18446744073709551616 p384x)).length c1 ∧ OB X w.heap.size A1 c1 (digs 4294967296 (val 18446744073709551616 p384x))
    | 8 => ∃ b, f 8 = .slice (some ⟨b, 0, none⟩) 6 6 ∧ RU X (some ⟨b, 0, none⟩) 6 p384y
    | 9 => ∃ A1 c1, f 9 = .slice A1 (digs 4294967296 (val 18446744073709551616 p384y)).length c1 ∧ OB X w.heap.size A1 c1 (digs 4294967296 (val 18446744073709551616 p384y))
    | 10 => f 10 = .agg #[f 1, f 3, f 5, f 7, f 9, .int .i64 48]
    | _ => True) (by kernel_rfl) [(19, 0), (20, 1), (21, 2), (22, 3), (23, 4), (24, 5), (25, 6), (26, 7), (27, 8), (28, 9), (29, 10)] (by kernel_rfl) ?_
   refine Par.S 1 10 [(21, 2), (23, 4), (25, 6), (27, 8)] (fun f X hX hR K hK => ?_) ?_
   · simp only [yA, yB, yC, yD, yE]
     refine ⟨?_⟩
     go_simp
     exact hK.out _ (.slice (some ⟨X.heap.size, 0, none⟩) 6 6) _ (by simp only [yA, yB, yC, yD, yE]) (Ext.alloc _ _) trivial (fun Y hY => ⟨X.heap.size, rfl, ((RN.lits X p384p ⟨by decide, by decide⟩).mono (fun b hb => by rw [World.size_alloc]; exact hb.2)).up hY⟩)
   refine Par.S 2 9 [(19, 0), (21, 2), (23, 4), (25, 6), (27, 8)] (fun f X hX hR K hK => ?_) ?_
   · obtain ⟨b0, (e0 : f 0 = _), h0⟩ := hR.out 0 rfl
     simp only [yA, yB, yC, yD, yE, e0]
     refine ⟨?_⟩
     go_simp
     refine (from_any _ (some ⟨b0, 0, none⟩) 6 p384p X h0 (fun _ hb => hb) (by decide)).mono ?_
     rintro e w2 ⟨A1, c1, rfl, hO, hB⟩
     exact hK.out _ (.slice A1 (digs 4294967296 (val 18446744073709551616 p384p)).length c1) _ (by simp only [yA, yB, yC, yD, yE, e0]) hB trivial (fun Y hY => ⟨A1, c1, rfl, (hO.mono (Nat.le_trans (Ext.alloc w _).bsize hX.bsize)).below hY (Nat.le_refl _)⟩)
   refine Par.S 3 8 [(19, 0), (20, 1), (23, 4), (25, 6), (27, 8)] (fun f X hX hR K hK => ?_) ?_
   · simp only [yA, yB, yC, yD, yE]
     refine ⟨?_⟩
     go_simp
     exact hK.out _ (.slice (some ⟨X.heap.size, 0, none⟩) 6 6) _ (by simp only [yA, yB, yC, yD, yE]) (Ext.alloc _ _) trivial (fun Y hY => ⟨X.heap.size, rfl, ((RN.lits X p384n ⟨by decide, by decide⟩).mono (fun b hb => by rw [World.size_alloc]; exact hb.2)).up hY⟩)
   refine Par.S 4 7 [(19, 0), (20, 1), (21, 2), (23, 4), (25, 6), (27, 8)] (fun f X hX hR K hK => ?_) ?_
   · obtain ⟨b2, (e2 : f 2 = _), h2⟩ := hR.out 2 rfl
     simp only [yA, yB, yC, yD, yE, e2]
     refine ⟨?_⟩
     go_simp
     refine (from_any _ (some ⟨b2, 0, none⟩) 6 p384n X h2 (fun _ hb => hb) (by decide)).mono ?_
     rintro e w2 ⟨A1, c1, rfl, hO, hB⟩
     exact hK.out _ (.slice A1 (digs 4294967296 (val 18446744073709551616 p384n)).length c1) _ (by simp only [yA, yB, yC, yD, yE, e2]) hB trivial (fun Y hY => ⟨A1, c1, rfl, (hO.mono (Nat.le_trans (Ext.alloc w _).bsize hX.bsize)).below hY (Nat.le_refl _)⟩)
   refine Par.S 5 6 [(19, 0), (20, 1), (21, 2), (22, 3), (25, 6), (27, 8)] (fun f X hX hR K hK => ?_) ?_
   · simp only [yA, yB, yC, yD, yE]
     refine ⟨?_⟩
     go_simp
     exact hK.out _ (.slice (some ⟨X.heap.size, 0, none⟩) 6 6) _ (by simp only [yA, yB, yC, yD, yE]) (Ext.alloc _ _) trivial (fun Y hY => ⟨X.heap.size, rfl, ((RN.lits X p384b ⟨by decide, by decide⟩).mono (fun b hb => by rw [World.size_alloc]; exact hb.2)).up hY⟩)
   refine Par.S 6 5 [(19, 0), (20, 1), (21, 2), (22, 3), (23, 4), (25, 6), (27, 8)] (fun f X hX hR K hK => ?_) ?_
   · obtain ⟨b4, (e4 : f 4 = _), h4⟩ := hR.out 4 rfl
     simp only [yA, yB, yC, yD, yE, e4]
     refine ⟨?_⟩
     go_simp
     refine (from_any _ (some ⟨b4, 0, none⟩) 6 p384b X h4 (fun _ hb => hb) (by decide)).mono ?_
     rintro e w2 ⟨A1, c1, rfl, hO, hB⟩
     exact hK.out _ (.slice A1 (digs 4294967296 (val 18446744073709551616 p384b)).length c1) _ (by simp only [yA, yB, yC, yD, yE, e4]) hB trivial (fun Y hY => ⟨A1, c1, rfl, (hO.mono (Nat.le_trans (Ext.alloc w _).bsize hX.bsize)).below hY (Nat.le_refl _)⟩)
   refine Par.S 7 4 [(19, 0), (20, 1), (21, 2), (22, 3), (23, 4), (24, 5), (27, 8)] (fun f X hX hR K hK => ?_) ?_
   · simp only [yA, yB, yC, yD, yE]
     refine ⟨?_⟩
     go_simp
     exact hK.out _ (.slice (some ⟨X.heap.size, 0, none⟩) 6 6) _ (by simp only [yA, yB, yC, yD, yE]) (Ext.alloc _ _) trivial (fun Y hY => ⟨X.heap.size, rfl, ((RN.lits X p384x ⟨by decide, by decide⟩).mono (fun b hb => by rw [World.size_alloc]; exact hb.2)).up hY⟩)
   refine Par.S 8 3 [(19, 0), (20, 1), (21, 2), (22, 3), (23, 4), (24, 5), (25, 6), (27, 8)] (fun f X hX hR K hK => ?_) ?_
   · obtain ⟨b6, (e6 : f 6 = _), h6⟩ := hR.out 6 rfl
     simp only [yA, yB, yC, yD, yE, e6]
     refine ⟨?_⟩
     go_simp
     refine (from_any _ (some ⟨b6, 0, none⟩) 6 p384x X h6 (fun _ hb => hb) (by decide)).mono ?_
     rintro e w2 ⟨A1, c1, rfl, hO, hB⟩
     exact hK.out _ (.slice A1 (digs 4294967296 (val 18446744073709551616 p384x)).length c1) _ (by simp only [yA, yB, yC, yD, yE, e6]) hB trivial (fun Y hY => ⟨A1, c1, rfl, (hO.mono (Nat.le_trans (Ext.alloc w _).bsize hX.bsize)).below hY (Nat.le_refl _)⟩)
   refine Par.S 9 2 [(19, 0), (20, 1), (21, 2), (22, 3), (23, 4), (24, 5), (25, 6), (26, 7)] (fun f X hX hR K hK => ?_) ?_
   · simp only [yA, yB, yC, yD, yE]
     refine ⟨?_⟩
     go_simp
     exact hK.out _ (.slice (some ⟨X.heap.size, 0, none⟩) 6 6) _ (by simp only [yA, yB, yC, yD, yE]) (Ext.alloc _ _) trivial (fun Y hY => ⟨X.heap.size, rfl, ((RN.lits X p384y ⟨by decide, by decide⟩).mono (fun b hb => by rw [World.size_alloc]; exact hb.2)).up hY⟩)
   refine Par.S 10 1 [(19, 0), (20, 1), (21, 2), (22, 3), (23, 4), (24, 5), (25, 6), (26, 7), (27, 8)] (fun f X hX hR K hK => ?_) ?_
   · obtain ⟨b8, (e8 : f 8 = _), h8⟩ := hR.out 8 rfl
     simp only [yA, yB, yC, yD, yE, e8]
     refine ⟨?_⟩
     go_simp
     refine (from_any _ (some ⟨b8, 0, none⟩) 6 p384y X h8 (fun _ hb => hb) (by decide)).mono ?_
     rintro e w2 ⟨A1, c1, rfl, hO, hB⟩
     exact hK.out _ (.slice A1 (digs 4294967296 (val 18446744073709551616 p384y)).length c1) _ (by simp only [yA, yB, yC, yD, yE, e8]) hB trivial (fun Y hY => ⟨A1, c1, rfl, (hO.mono (Nat.le_trans (Ext.alloc w _).bsize hX.bsize)).below hY (Nat.le_refl _)⟩)
   refine Par.S 11 0 [(19, 0), (20, 1), (21, 2), (22, 3), (23, 4), (24, 5), (25, 6), (26, 7), (27, 8), (28, 9)] (fun f X hX hR K hK => ?_) ?_
   · obtain ⟨A1, c1, (e1 : f 1 = _), o1⟩ := hR.out 1 rfl
     obtain ⟨A3, c3, (e3 : f 3 = _), o3⟩ := hR.out 3 rfl
     obtain ⟨A5, c5, (e5 : f 5 = _), o5⟩ := hR.out 5 rfl
     obtain ⟨A7, c7, (e7 : f 7 = _), o7⟩ := hR.out 7 rfl
     obtain ⟨A9, c9, (e9 : f 9 = _), o9⟩ := hR.out 9 rfl
     simp only [yA, yB, yC, yD, yE, e1, e3, e5, e7, e9]
     refine ⟨?_⟩
     go_simp
     exact hK.out _ (.agg #[f 1, f 3, f 5, f 7, f 9, .int .i64 48]) _ (by simp only [yA, yB, yC, yD, yE, e1, e3, e5, e7, e9]) (Ext.refl _) trivial (fun _ _ => rfl)
   refine Par.AllOps.fin ⟨fun f X hX hR hal hap => ?_⟩
   obtain ⟨b0, (e0 : f 0 = _), h0⟩ := hR 0 (by decide)
   obtain ⟨A1, c1, (e1 : f 1 = _), o1⟩ := hR 1 (by decide)
   obtain ⟨b2, (e2 : f 2 = _), h2⟩ := hR 2 (by decide)
   obtain ⟨A3, c3, (e3 : f 3 = _), o3⟩ := hR 3 (by decide)
   obtain ⟨b4, (e4 : f 4 = _), h4⟩ := hR 4 (by decide)
   obtain ⟨A5, c5, (e5 : f 5 = _), o5⟩ := hR 5 (by decide)
   obtain ⟨b6, (e6 : f 6 = _), h6⟩ := hR 6 (by decide)
   obtain ⟨A7, c7, (e7 : f 7 = _), o7⟩ := hR 7 (by decide)
   obtain ⟨b8, (e8 : f 8 = _), h8⟩ := hR 8 (by decide)
   obtain ⟨A9, c9, (e9 : f 9 = _), o9⟩ := hR 9 (by decide)
   have e10 : f 10 = .agg #[f 1, f 3, f 5, f 7, f 9, .int .i64 48] := hR 10 (by decide)
   simp only [yA, yB, yC, yD, yE, e0, e1, e2, e3, e4, e5, e6, e7, e8, e9, e10]
   clear hR hal hap e0 e1 e2 e3 e4 e5 e6 e7 e8 e9 e10
   refine Par.Chain.next (fun K hK => ⟨Par.want (by kernel_rfl) (wp_storeV 31 (.tmp 2) (.tmp 29) rfl rfl rfl rfl (hX.at_ hz) infoRC rfl (rc_one _ _ _ _ _ _ _ _ _ _ _ _ _ _ _ _) (fun Y1 g1 g2 g3 => hK.out _ _ ?_))⟩)
   refine Par.Chain.done ?_
   go_wp2
   refine end_rc rfl rfl rfl g1 ⟨_, rfl, ⟨A1, A3, A5, A7, A9, c1, c3, c5, c7, c9, rfl, (o1.just g2 (hX.at_ hz) (by decide)).ru, (o3.just g2 (hX.at_ hz) (by decide)).ru, (o5.just g2 (hX.at_ hz) (by decide)).ru, (o7.just g2 (hX.at_ hz) (by decide)).ru, (o9.just g2 (hX.at_ hz) (by decide)).ru⟩, g2.ext ((Ext.alloc w _).trans hX) (Nat.le_refl _)⟩
set_option maxRecDepth 100000 in
theorem refOf_none {c : Int} (h1 : c ≠ 1) (h2 : c ≠ 2) (w : World) : Calls Try.prog 13 #[.int .i64 c] w fun e w' => ∃ v, e = .returned v ∧ RC w' c0 v ∧ Ext w w' := by
 have e1 : (c == 1) = false := by simpa using h1
 have e2 : (c == 2) = false := by simpa using h2
 have hn : ∀ X : World, RU X none 0 (digs 4294967296 0) := fun X => by rw [digs_zero]; exact RN.nil_ X _
 have hd : (digs 4294967296 0).length = 0 := by rw [digs_zero]; rfl
 have hc : ∀ X : World, RC X c0 (.agg #[.slice none 0 0, .slice none 0 0, .slice none 0 0, .slice none 0 0, .slice none 0 0, .int .i64 0]) := fun X => by
  refine ⟨none, none, none, none, none, 0, 0, 0, 0, 0, ?_, hn X, hn X, hn X, hn X, hn X⟩
  show _ = Value.agg #[.slice none (digs 4294967296 0).length 0, .slice none (digs 4294967296 0).length 0, .slice none (digs 4294967296 0).length 0, .slice none (digs 4294967296 0).length 0, .slice none (digs 4294967296 0).length 0, .int .i64 0]
  rw [hd]
 have Hc := Lib.hid hc
 clear hc hn hd
 go_enter Try.func13, Try.ntmps13
 go_wp2
 refine end_rc rfl rfl rfl (heap_alloc_new w _) ⟨_, rfl, Hc.out _, Ext.alloc _ _⟩
end Go.Proofs.Ytldhmjfjbalakaa
