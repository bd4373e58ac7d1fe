/- CurveNumbers: the curves' numbers are the document's. -/
import Derived.Test.YtldhmjfjbalakaaBeg9
import Derived.Test.YtldhmjfjbalakaaROf
namespace Go.Proofs.Ytldhmjfjbalakaa
open Go.RowKit

/-- A curve or none. -/
def IsU (c : Int) (C : Crv) : Prop := IsC c C ∨ (c ≠ 1 ∧ c ≠ 2 ∧ C = c0)
theorem isU (c : Int) : ∃ C, IsU c C := by
 by_cases h1 : c = 1
 · exact ⟨c256, Or.inl (Or.inl ⟨h1, rfl⟩)⟩
 · by_cases h2 : c = 2
   · exact ⟨c384, Or.inl (Or.inr ⟨h2, rfl⟩)⟩
   · exact ⟨c0, Or.inr ⟨h1, h2, rfl⟩⟩
/-- The numbers stand in normal form. -/
structure Crv.Norm (C : Crv) : Prop where
 p : digs 18446744073709551616 C.M = C.pl
 n : digs 18446744073709551616 (val 18446744073709551616 C.nl) = C.nl
 x : digs 18446744073709551616 (val 18446744073709551616 C.xl) = C.xl
 y : digs 18446744073709551616 (val 18446744073709551616 C.yl) = C.yl
theorem IsU.norm {c : Int} {C : Crv} (h : IsU c C) : C.Norm := by
 rcases h with (⟨_, rfl⟩ | ⟨_, rfl⟩) | ⟨_, _, rfl⟩
 · exact ⟨digs_val (by decide) (by decide) (by decide), digs_val (by decide) (by decide) (by decide), digs_val (by decide) (by decide) (by decide), digs_val (by decide) (by decide) (by decide)⟩
 · exact ⟨digs_val (by decide) (by decide) (by decide), digs_val (by decide) (by decide) (by decide), digs_val (by decide) (by decide) (by decide), digs_val (by decide) (by decide) (by decide)⟩
 · exact ⟨digs_zero _, digs_zero _, digs_zero _, digs_zero _⟩
def Crv.inf (C : Crv) : Bool := C.size == 0
theorem IsC.inf {c : Int} {C : Crv} (h : IsC c C) : C.inf = false := by
 rcases h with ⟨_, rfl⟩ | ⟨_, rfl⟩ <;> rfl
theorem refOf_u {c : Int} {C : Crv} (h : IsU c C) (w : World) : Calls Try.prog 13 #[.int .i64 c] w fun e w' => ∃ v, e = .returned v ∧ RC w' C v ∧ Ext w w' := by
 rcases h with h | ⟨h1, h2, rfl⟩
 · exact refOf_c h w
 · exact refOf_none h1 h2 w
theorem prime_u {c : Int} {C : Crv} (h : IsU c C) (w : World) : Calls Try.prog 34 #[.int .i64 c] w fun e w' => ∃ A cc, e = .returned (.slice A C.pl.length cc) ∧ RU w' A cc C.pl ∧ Ext w w' := by
 rcases h with h | ⟨h1, h2, rfl⟩
 · exact prime_c h w
 · exact (prime_nil h1 h2 w).mono fun e w' ⟨h, hE⟩ => ⟨none, 0, h, RN.nil_ _ _, hE⟩
theorem order_u {c : Int} {C : Crv} (h : IsU c C) (w : World) : Calls Try.prog 24 #[.int .i64 c] w fun e w' => ∃ A cc, e = .returned (.slice A C.nl.length cc) ∧ RU w' A cc C.nl ∧ Ext w w' := by
 rcases h with h | ⟨h1, h2, rfl⟩
 · exact order_c h w
 · exact (order_nil h1 h2 w).mono fun e w' ⟨h, hE⟩ => ⟨none, 0, h, RN.nil_ _ _, hE⟩
theorem size_u {c : Int} {C : Crv} (h : IsU c C) (w : World) : Calls Try.prog 35 #[.int .i64 c] w fun e w' => e = .returned (.int .i64 (C.size : Int)) ∧ Ext w w' := by
 rcases h with h | ⟨h1, h2, rfl⟩
 · exact size_c h w
 · exact size_nil h1 h2 w
theorem base_u {c : Int} {C : Crv} (h : IsU c C) (w : World) : Calls Try.prog 20 #[.int .i64 c] w fun e w' => ∃ v, e = .returned v ∧ APn w' v C.inf C.xl C.yl ∧ Ext w w' := by
 rcases h with h | ⟨h1, h2, rfl⟩
 · refine (base_c h w).mono ?_
   rintro e w' ⟨A, cc, A', cc', rfl, hx, hy, hE⟩
   exact ⟨_, rfl, ⟨A, A', cc, cc', by rw [h.inf], hx, hy⟩, hE⟩
 · refine (base_nil h1 h2 w).mono ?_
   rintro e w' ⟨rfl, hE⟩
   exact ⟨_, rfl, ⟨none, none, 0, 0, rfl, RN.nil_ _ _, RN.nil_ _ _⟩, hE⟩
theorem is_nat {w : World} {A A' : Option Addr} {c c' : Nat} {l : List Nat} {x : Nat} (h : RU w A c l) (h' : RU w A' c' (digs 4294967296 x)) (hl : digs 18446744073709551616 x = l) :
 Calls Try.prog 33 #[.slice A l.length c, .slice A' (digs 4294967296 x).length c'] w fun e w' => e = .returned (.bool true) ∧ Ext w w' := by
 subst hl
 exact is_yes _ _ A A' c c' x w h h' (fun _ h => h) (fun _ h => h)
theorem six_facts {W : World} {g : Nat} {ty : TypeId} {x0 x1 x2 x3 x4 x5 : Value} (h : W.heap[g]? = some (.cells #[x0, x1, x2, x3, x4, x5] ty (0, 0))) :
 W.cell? ⟨g, 0, none⟩ = some x0 ∧ W.cell? ⟨g, 1, none⟩ = some x1 ∧ W.cell? ⟨g, 2, none⟩ = some x2 ∧ W.cell? ⟨g, 3, none⟩ = some x3 ∧ W.cell? ⟨g, 4, none⟩ = some x4 ∧ W.cell? ⟨g, 5, none⟩ = some x5 :=
 ⟨blk_cell h 0, blk_cell h 1, blk_cell h 2, blk_cell h 3, blk_cell h 4, blk_cell h 5⟩
set_option maxRecDepth 100000 in
set_option maxHeartbeats 8000000 in
theorem numbers_law (c : Int) (w : World) : Calls Try.prog 7 #[.int .i64 c] w fun e w' => e = .returned (.bool true) ∧ Ext w w' := by
 obtain ⟨C, hC⟩ := isU c
 have HC := Lib.hid hC
 have HN := Lib.hid hC.norm
 clear hC
 go_enter Try.func7, Try.ntmps7
 go_upto_region 2 with (go_at_call 10; refine (begun9_any _).mono ?_; rintro e w1 ⟨rfl, hE1⟩)
 go_upto_region 3 with (go_at_call 13; refine (refOf_u HC.out _).mono ?_; rintro e w2 ⟨v, rfl, ⟨Ap, An, Ab, Ax, Ay, cp, cn, cb, cx, cy, rfl, hp, hn, hb, hx, hy⟩, hE2⟩)
 have hc0 := heap_alloc_new w2 (.cells #[.slice Ap (digs 4294967296 C.M).length cp, .slice An (digs 4294967296 (val 18446744073709551616 C.nl)).length cn, .slice Ab (digs 4294967296 C.bb).length cb, .slice Ax (digs 4294967296 (val 18446744073709551616 C.xl)).length cx, .slice Ay (digs 4294967296 (val 18446744073709551616 C.yl)).length cy, .int .i64 (C.size : Int)] 31)
 have hA := Ext.alloc w2 (.cells #[.slice Ap (digs 4294967296 C.M).length cp, .slice An (digs 4294967296 (val 18446744073709551616 C.nl)).length cn, .slice Ab (digs 4294967296 C.bb).length cb, .slice Ax (digs 4294967296 (val 18446744073709551616 C.xl)).length cx, .slice Ay (digs 4294967296 (val 18446744073709551616 C.yl)).length cy, .int .i64 (C.size : Int)] 31)
 have hrc : RC w2 C (.agg #[.slice Ap (digs 4294967296 C.M).length cp, .slice An (digs 4294967296 (val 18446744073709551616 C.nl)).length cn, .slice Ab (digs 4294967296 C.bb).length cb, .slice Ax (digs 4294967296 (val 18446744073709551616 C.xl)).length cx, .slice Ay (digs 4294967296 (val 18446744073709551616 C.yl)).length cy, .int .i64 (C.size : Int)]) := ⟨Ap, An, Ab, Ax, Ay, cp, cn, cb, cx, cy, rfl, hp, hn, hb, hx, hy⟩
 replace hrc := hrc.ext hA
 have HE := Lib.hid ((hE1.trans hE2).trans hA)
 have Hp := Lib.hid (RN.up hp hA)
 have Hn := Lib.hid (RN.up hn hA)
 generalize hV1 : w2.alloc (.cells #[.slice Ap (digs 4294967296 C.M).length cp, .slice An (digs 4294967296 (val 18446744073709551616 C.nl)).length cn, .slice Ab (digs 4294967296 C.bb).length cb, .slice Ax (digs 4294967296 (val 18446744073709551616 C.xl)).length cx, .slice Ay (digs 4294967296 (val 18446744073709551616 C.yl)).length cy, .int .i64 (C.size : Int)] 31) = V1 at *
 obtain ⟨b1, hq1⟩ : ∃ b, w2.heap.size = b := ⟨_, rfl⟩
 rw [hq1] at hc0 ⊢
 clear hV1 hq1 hp hn hb hx hy hE1 hE2 hA
 have Hrc := Lib.hid hrc
 clear hrc
 obtain ⟨z0, z1, z2, z3, z4, z5⟩ := six_facts hc0
 go_upto_region 4 with (go_at_call 32; refine (rbase_n _ Hrc.out).mono ?_; rintro e w3 ⟨o, rfl, ⟨B, B', k, k', rfl, hu, hv⟩, hE3⟩)
 replace hc0 := hE3.at_ hc0
 replace HE := Lib.hid (HE.out.trans hE3)
 replace Hp := Lib.hid (RN.up Hp.out hE3)
 replace Hn := Lib.hid (RN.up Hn.out hE3)
 have Hu := Lib.hid hu
 have Hv := Lib.hid hv
 clear Hrc z0 z1 z2 z3 z4 z5 hE3 hu hv
 rcases HC.out with hC | ⟨h1, h2, rfl⟩
 · have hs : C.size ≠ 0 := by have := hC.fine.pos; omega
   have hs' : ((C.size : Int) == 0) = false := by rw [beq_eq_false_iff_ne]; omega
   have hb0 := heap_alloc_new w3 (.cells #[.bool false, .slice B (digs 4294967296 (val 18446744073709551616 C.xl)).length k, .slice B' (digs 4294967296 (val 18446744073709551616 C.yl)).length k'] 34)
   have hA := Ext.alloc w3 (.cells #[.bool false, .slice B (digs 4294967296 (val 18446744073709551616 C.xl)).length k, .slice B' (digs 4294967296 (val 18446744073709551616 C.yl)).length k'] 34)
   replace hc0 := hA.at_ hc0
   obtain ⟨z0, z1, z2, z3, z4, z5⟩ := six_facts hc0
   obtain ⟨q0, q1, q2, f0, f1, f2⟩ := pt_facts hb0
   have Hf := Lib.hid hC.inf
   clear hC
   go_upto_region 6 with fail
   have HA := Lib.hid hA
   clear hs hs' q0 q1 q2 f0 f1 f2 z2 z3 z4 hA
   generalize hW0 : w3.alloc (.cells #[.bool false, .slice B (digs 4294967296 (val 18446744073709551616 C.xl)).length k, .slice B' (digs 4294967296 (val 18446744073709551616 C.yl)).length k'] 34) = W0 at *
   obtain ⟨b2, hq2⟩ : ∃ b, w3.heap.size = b := ⟨_, rfl⟩
   rw [hq2] at hb0 ⊢
   have Hr := Lib.hid (show RPv W0 (.agg #[.bool false, .slice B (digs 4294967296 (val 18446744073709551616 C.xl)).length k, .slice B' (digs 4294967296 (val 18446744073709551616 C.yl)).length k']) C.inf (val 18446744073709551616 C.xl) (val 18446744073709551616 C.yl) from ⟨B, B', k, k', by rw [Hf.out], RN.up Hu.out HA.out, RN.up Hv.out HA.out⟩)
   clear hW0 hq2
   replace HE := Lib.hid (HE.out.trans HA.out)
   replace Hp := Lib.hid (RN.up Hp.out HA.out)
   replace Hn := Lib.hid (RN.up Hn.out HA.out)
   refine Par.region_ext (by kernel_rfl) 29 [0, 1, 3, 7, 3, 19, 63, 127, 255, 511, 1023, 511, 2559, 8191, 16383, 32767, 65535, 131071, 65535, 524287, 1048575, 2097151, 4194303, 8388607, 4194303, 20971519, 67108863, 134217727, 268435455] [] (fun j f X => match j with
    | 0 => f 0 = .bool true
    | 1 => f 1 = .bool true
    | 2 => f 2 = .int .i64 c
    | 3 => ∃ A cc, f 3 = .slice A C.pl.length cc ∧ RU X A cc C.pl
    | 4 => f 4 = .pointer (some ⟨b1, 0, none⟩)
    | 5 => f 5 = .slice Ap (digs 4294967296 C.M).length cp
    | 6 => f 6 = .bool true
    | 7 => f 7 = .bool true
    | 8 => f 8 = .bool true
    | 9 => f 9 = .int .i64 c
    | 10 => ∃ A cc, f 10 = .slice A C.nl.length cc ∧ RU X A cc C.nl
    | 11 => f 11 = .pointer (some ⟨b1, 1, none⟩)
    | 12 => f 12 = .slice An (digs 4294967296 (val 18446744073709551616 C.nl)).length cn
    | 13 => f 13 = .bool true
    | 14 => f 14 = .bool true
    | 15 => f 15 = .bool true
    | 16 => f 16 = .int .i64 c
    | 17 => ∃ v, f 17 = v ∧ APn X v C.inf C.xl C.yl
    | 18 => f 18 = (.agg #[.bool false, .slice B (digs 4294967296 (val 18446744073709551616 C.xl)).length k, .slice B' (digs 4294967296 (val 18446744073709551616 C.yl)).length k'])
    | 19 => f 19 = .bool true
    | 20 => f 20 = .bool true
    | 21 => f 21 = .bool true
    | 22 => f 22 = .int .i64 c
    | 23 => f 23 = .int .i64 (C.size : Int)
    | 24 => f 24 = .pointer (some ⟨b1, 5, none⟩)
    | 25 => f 25 = .int .i64 (C.size : Int)
    | 26 => f 26 = .bool true
    | 27 => f 27 = .bool true
    | 28 => f 28 = .bool true
    | _ => True) (by kernel_rfl) [(15, 0), (16, 1), (17, 2), (18, 3), (19, 4), (20, 5), (21, 6), (22, 7), (23, 8), (24, 9), (25, 10), (26, 11), (27, 12), (28, 13), (29, 14), (30, 15), (31, 16), (32, 17), (33, 18), (34, 19), (35, 20), (36, 21), (37, 22), (38, 23), (39, 24), (40, 25), (41, 26), (42, 27), (2, 28)] (by kernel_rfl) ?_
   refine Par.S 1 28 [] (fun f X hX hR K hK => ?_) ?_
   · simp only [yA, yB, yC, yD, yE]
     refine ⟨?_⟩
     go_simp
     exact Par.k hK (s := by simp only [yA, yB, yC, yD, yE])
   refine Par.S 2 27 [(15, 0)] (fun f X hX hR K hK => ?_) ?_
   · have e0 : f 0 = _ := hR.out 0 rfl
     simp only [yA, yB, yC, yD, yE, e0]
     refine ⟨?_⟩
     go_simp
     exact Par.k hK (s := by simp only [yA, yB, yC, yD, yE, e0])
   refine Par.S 3 26 [(15, 0), (16, 1), (19, 4), (20, 5)] (fun f X hX hR K hK => ?_) ?_
   · have e1 : f 1 = _ := hR.out 1 rfl
     simp only [yA, yB, yC, yD, yE, e1]
     refine ⟨Par.want (by kernel_rfl) ?_⟩
     go_simp
     exact Par.k hK (s := by simp only [yA, yB, yC, yD, yE, e1])
   refine Par.S 4 25 [(15, 0), (16, 1), (17, 2), (19, 4), (20, 5)] (fun f X hX hR K hK => ?_) ?_
   · have e1 : f 1 = _ := hR.out 1 rfl
     have e2 : f 2 = _ := hR.out 2 rfl
     simp only [yA, yB, yC, yD, yE, e1, e2]
     refine ⟨Par.want (by kernel_rfl) ?_⟩
     go_simp
     refine (prime_u HC.out X).mono ?_
     rintro e w2 ⟨A, cc, rfl, h, hB⟩
     exact hK.out _ (.slice A C.pl.length cc) _ (by simp only [yA, yB, yC, yD, yE, e1, e2]) hB trivial (fun Y hY => ⟨A, cc, rfl, RN.up h hY⟩)
   refine Par.S 5 24 [(15, 0), (16, 1), (17, 2), (18, 3)] (fun f X hX hR K hK => ?_) ?_
   · have e1 : f 1 = _ := hR.out 1 rfl
     simp only [yA, yB, yC, yD, yE, e1]
     refine ⟨Par.want (by kernel_rfl) ?_⟩
     go_simp
     exact Par.k hK (s := by simp only [yA, yB, yC, yD, yE, e1])
   refine Par.S 6 23 [(15, 0), (16, 1), (17, 2), (18, 3), (19, 4)] (fun f X hX hR K hK => ?_) ?_
   · have e1 : f 1 = _ := hR.out 1 rfl
     have e4 : f 4 = _ := hR.out 4 rfl
     have x0 := hX.cell z0
     simp only [yA, yB, yC, yD, yE, e1, e4]
     refine ⟨Par.want (by kernel_rfl) ?_⟩
     go_simp
     exact Par.k hK (s := by simp only [yA, yB, yC, yD, yE, e1, e4])
   refine Par.S 7 22 [(15, 0), (16, 1), (17, 2), (18, 3), (19, 4), (20, 5)] (fun f X hX hR K hK => ?_) ?_
   · have e1 : f 1 = _ := hR.out 1 rfl
     obtain ⟨A3, c3, (e3 : f 3 = _), h3⟩ := hR.out 3 rfl
     have e5 : f 5 = _ := hR.out 5 rfl
     simp only [yA, yB, yC, yD, yE, e1, e3, e5]
     refine ⟨Par.want (by kernel_rfl) ?_⟩
     go_simp
     refine (is_nat h3 (RN.up Hp.out hX) HN.out.p).mono ?_
     rintro e w2 ⟨rfl, hB⟩
     exact hK.out _ _ _ (by simp only [yA, yB, yC, yD, yE, e1, e3, e5]) hB trivial (fun _ _ => rfl)
   refine Par.S 8 21 [(15, 0), (16, 1), (17, 2), (18, 3), (19, 4), (20, 5), (21, 6)] (fun f X hX hR K hK => ?_) ?_
   · have e1 : f 1 = _ := hR.out 1 rfl
     have e6 : f 6 = _ := hR.out 6 rfl
     simp only [yA, yB, yC, yD, yE, e1, e6]
     refine ⟨?_⟩
     go_simp
     exact Par.k hK (s := by simp only [yA, yB, yC, yD, yE, e1, e6])
   refine Par.S 9 20 [(15, 0), (16, 1), (17, 2), (18, 3), (19, 4), (20, 5), (21, 6), (22, 7)] (fun f X hX hR K hK => ?_) ?_
   · have e7 : f 7 = _ := hR.out 7 rfl
     simp only [yA, yB, yC, yD, yE, e7]
     refine ⟨?_⟩
     go_simp
     exact Par.k hK (s := by simp only [yA, yB, yC, yD, yE, e7])
   refine Par.S 10 19 [(15, 0), (16, 1), (17, 2), (18, 3), (19, 4), (20, 5), (21, 6), (22, 7), (23, 8), (26, 11), (27, 12)] (fun f X hX hR K hK => ?_) ?_
   · have e8 : f 8 = _ := hR.out 8 rfl
     simp only [yA, yB, yC, yD, yE, e8]
     refine ⟨Par.want (by kernel_rfl) ?_⟩
     go_simp
     exact Par.k hK (s := by simp only [yA, yB, yC, yD, yE, e8])
   refine Par.S 11 18 [(15, 0), (16, 1), (17, 2), (18, 3), (19, 4), (20, 5), (21, 6), (22, 7), (23, 8), (24, 9), (26, 11), (27, 12)] (fun f X hX hR K hK => ?_) ?_
   · have e8 : f 8 = _ := hR.out 8 rfl
     have e9 : f 9 = _ := hR.out 9 rfl
     simp only [yA, yB, yC, yD, yE, e8, e9]
     refine ⟨Par.want (by kernel_rfl) ?_⟩
     go_simp
     refine (order_u HC.out X).mono ?_
     rintro e w2 ⟨A, cc, rfl, h, hB⟩
     exact hK.out _ (.slice A C.nl.length cc) _ (by simp only [yA, yB, yC, yD, yE, e8, e9]) hB trivial (fun Y hY => ⟨A, cc, rfl, RN.up h hY⟩)
   refine Par.S 12 17 [(15, 0), (16, 1), (17, 2), (18, 3), (19, 4), (20, 5), (21, 6), (22, 7), (23, 8), (24, 9), (25, 10)] (fun f X hX hR K hK => ?_) ?_
   · have e8 : f 8 = _ := hR.out 8 rfl
     simp only [yA, yB, yC, yD, yE, e8]
     refine ⟨Par.want (by kernel_rfl) ?_⟩
     go_simp
     exact Par.k hK (s := by simp only [yA, yB, yC, yD, yE, e8])
   refine Par.S 13 16 [(15, 0), (16, 1), (17, 2), (18, 3), (19, 4), (20, 5), (21, 6), (22, 7), (23, 8), (24, 9), (25, 10), (26, 11)] (fun f X hX hR K hK => ?_) ?_
   · have e8 : f 8 = _ := hR.out 8 rfl
     have e11 : f 11 = _ := hR.out 11 rfl
     have x0 := hX.cell z1
     simp only [yA, yB, yC, yD, yE, e8, e11]
     refine ⟨Par.want (by kernel_rfl) ?_⟩
     go_simp
     exact Par.k hK (s := by simp only [yA, yB, yC, yD, yE, e8, e11])
   refine Par.S 14 15 [(15, 0), (16, 1), (17, 2), (18, 3), (19, 4), (20, 5), (21, 6), (22, 7), (23, 8), (24, 9), (25, 10), (26, 11), (27, 12)] (fun f X hX hR K hK => ?_) ?_
   · have e8 : f 8 = _ := hR.out 8 rfl
     obtain ⟨A10, c10, (e10 : f 10 = _), h10⟩ := hR.out 10 rfl
     have e12 : f 12 = _ := hR.out 12 rfl
     simp only [yA, yB, yC, yD, yE, e8, e10, e12]
     refine ⟨Par.want (by kernel_rfl) ?_⟩
     go_simp
     refine (is_nat h10 (RN.up Hn.out hX) HN.out.n).mono ?_
     rintro e w2 ⟨rfl, hB⟩
     exact hK.out _ _ _ (by simp only [yA, yB, yC, yD, yE, e8, e10, e12]) hB trivial (fun _ _ => rfl)
   refine Par.S 15 14 [(15, 0), (16, 1), (17, 2), (18, 3), (19, 4), (20, 5), (21, 6), (22, 7), (23, 8), (24, 9), (25, 10), (26, 11), (27, 12), (28, 13)] (fun f X hX hR K hK => ?_) ?_
   · have e8 : f 8 = _ := hR.out 8 rfl
     have e13 : f 13 = _ := hR.out 13 rfl
     simp only [yA, yB, yC, yD, yE, e8, e13]
     refine ⟨?_⟩
     go_simp
     exact Par.k hK (s := by simp only [yA, yB, yC, yD, yE, e8, e13])
   refine Par.S 16 13 [(15, 0), (16, 1), (17, 2), (18, 3), (19, 4), (20, 5), (21, 6), (22, 7), (23, 8), (24, 9), (25, 10), (26, 11), (27, 12), (28, 13), (29, 14)] (fun f X hX hR K hK => ?_) ?_
   · have e14 : f 14 = _ := hR.out 14 rfl
     simp only [yA, yB, yC, yD, yE, e14]
     refine ⟨?_⟩
     go_simp
     exact Par.k hK (s := by simp only [yA, yB, yC, yD, yE, e14])
   refine Par.S 17 12 [(15, 0), (16, 1), (17, 2), (18, 3), (19, 4), (20, 5), (21, 6), (22, 7), (23, 8), (24, 9), (25, 10), (26, 11), (27, 12), (28, 13), (29, 14), (30, 15), (33, 18)] (fun f X hX hR K hK => ?_) ?_
   · have e15 : f 15 = _ := hR.out 15 rfl
     simp only [yA, yB, yC, yD, yE, e15]
     refine ⟨Par.want (by kernel_rfl) ?_⟩
     go_simp
     exact Par.k hK (s := by simp only [yA, yB, yC, yD, yE, e15])
   refine Par.S 18 11 [(15, 0), (16, 1), (17, 2), (18, 3), (19, 4), (20, 5), (21, 6), (22, 7), (23, 8), (24, 9), (25, 10), (26, 11), (27, 12), (28, 13), (29, 14), (30, 15), (31, 16), (33, 18)] (fun f X hX hR K hK => ?_) ?_
   · have e15 : f 15 = _ := hR.out 15 rfl
     have e16 : f 16 = _ := hR.out 16 rfl
     simp only [yA, yB, yC, yD, yE, e15, e16]
     refine ⟨Par.want (by kernel_rfl) ?_⟩
     go_simp
     refine (base_u HC.out X).mono ?_
     rintro e w2 ⟨v, rfl, h, hB⟩
     exact hK.out _ v _ (by simp only [yA, yB, yC, yD, yE, e15, e16]) hB trivial (fun Y hY => ⟨v, rfl, h.ext hY⟩)
   refine Par.S 19 10 [(15, 0), (16, 1), (17, 2), (18, 3), (19, 4), (20, 5), (21, 6), (22, 7), (23, 8), (24, 9), (25, 10), (26, 11), (27, 12), (28, 13), (29, 14), (30, 15), (31, 16), (32, 17)] (fun f X hX hR K hK => ?_) ?_
   · have e15 : f 15 = _ := hR.out 15 rfl
     simp only [yA, yB, yC, yD, yE, e15]
     refine ⟨Par.want (by kernel_rfl) (wp_loadV (v := (.agg #[.bool false, .slice B (digs 4294967296 (val 18446744073709551616 C.xl)).length k, .slice B' (digs 4294967296 (val 18446744073709551616 C.yl)).length k'])) (t := 34) 34 (.tmp 5) rfl rfl (hX.at_ hb0) Try.underlying34 rfl infoRP rfl ?_)⟩
     exact hK.out _ ((.agg #[.bool false, .slice B (digs 4294967296 (val 18446744073709551616 C.xl)).length k, .slice B' (digs 4294967296 (val 18446744073709551616 C.yl)).length k'])) _ (by simp only [yA, yB, yC, yD, yE, e15]) (Ext.refl _) trivial (fun _ _ => rfl)
   refine Par.S 20 9 [(15, 0), (16, 1), (17, 2), (18, 3), (19, 4), (20, 5), (21, 6), (22, 7), (23, 8), (24, 9), (25, 10), (26, 11), (27, 12), (28, 13), (29, 14), (30, 15), (31, 16), (32, 17), (33, 18)] (fun f X hX hR K hK => ?_) ?_
   · have e15 : f 15 = _ := hR.out 15 rfl
     obtain ⟨v17, (e17 : f 17 = _), h17⟩ := hR.out 17 rfl
     have e18 : f 18 = _ := hR.out 18 rfl
     simp only [yA, yB, yC, yD, yE, e15, e17, e18]
     refine ⟨Par.want (by kernel_rfl) ?_⟩
     go_simp
     refine (ris_n X h17 (Hr.out.ext hX)).mono ?_
     rintro e w2 ⟨he, hB⟩
     rw [HN.out.x, HN.out.y] at he
     simp only [beq_self_eq_true, decide_true, Bool.and_self] at he
     subst he
     exact hK.out _ _ _ (by simp only [yA, yB, yC, yD, yE, e15, e17, e18]) hB trivial (fun _ _ => rfl)
   refine Par.S 21 8 [(15, 0), (16, 1), (17, 2), (18, 3), (19, 4), (20, 5), (21, 6), (22, 7), (23, 8), (24, 9), (25, 10), (26, 11), (27, 12), (28, 13), (29, 14), (30, 15), (31, 16), (32, 17), (33, 18), (34, 19)] (fun f X hX hR K hK => ?_) ?_
   · have e15 : f 15 = _ := hR.out 15 rfl
     have e19 : f 19 = _ := hR.out 19 rfl
     simp only [yA, yB, yC, yD, yE, e15, e19]
     refine ⟨?_⟩
     go_simp
     exact Par.k hK (s := by simp only [yA, yB, yC, yD, yE, e15, e19])
   refine Par.S 22 7 [(15, 0), (16, 1), (17, 2), (18, 3), (19, 4), (20, 5), (21, 6), (22, 7), (23, 8), (24, 9), (25, 10), (26, 11), (27, 12), (28, 13), (29, 14), (30, 15), (31, 16), (32, 17), (33, 18), (34, 19), (35, 20)] (fun f X hX hR K hK => ?_) ?_
   · have e20 : f 20 = _ := hR.out 20 rfl
     simp only [yA, yB, yC, yD, yE, e20]
     refine ⟨?_⟩
     go_simp
     exact Par.k hK (s := by simp only [yA, yB, yC, yD, yE, e20])
   refine Par.S 23 6 [(15, 0), (16, 1), (17, 2), (18, 3), (19, 4), (20, 5), (21, 6), (22, 7), (23, 8), (24, 9), (25, 10), (26, 11), (27, 12), (28, 13), (29, 14), (30, 15), (31, 16), (32, 17), (33, 18), (34, 19), (35, 20), (36, 21), (39, 24), (40, 25)] (fun f X hX hR K hK => ?_) ?_
   · have e21 : f 21 = _ := hR.out 21 rfl
     simp only [yA, yB, yC, yD, yE, e21]
     refine ⟨Par.want (by kernel_rfl) ?_⟩
     go_simp
     exact Par.k hK (s := by simp only [yA, yB, yC, yD, yE, e21])
   refine Par.S 24 5 [(15, 0), (16, 1), (17, 2), (18, 3), (19, 4), (20, 5), (21, 6), (22, 7), (23, 8), (24, 9), (25, 10), (26, 11), (27, 12), (28, 13), (29, 14), (30, 15), (31, 16), (32, 17), (33, 18), (34, 19), (35, 20), (36, 21), (37, 22), (39, 24), (40, 25)] (fun f X hX hR K hK => ?_) ?_
   · have e21 : f 21 = _ := hR.out 21 rfl
     have e22 : f 22 = _ := hR.out 22 rfl
     simp only [yA, yB, yC, yD, yE, e21, e22]
     refine ⟨Par.want (by kernel_rfl) ?_⟩
     go_simp
     refine (size_u HC.out X).mono ?_
     rintro e w2 ⟨rfl, hB⟩
     exact hK.out _ _ _ (by simp only [yA, yB, yC, yD, yE, e21, e22]) hB trivial (fun _ _ => rfl)
   refine Par.S 25 4 [(15, 0), (16, 1), (17, 2), (18, 3), (19, 4), (20, 5), (21, 6), (22, 7), (23, 8), (24, 9), (25, 10), (26, 11), (27, 12), (28, 13), (29, 14), (30, 15), (31, 16), (32, 17), (33, 18), (34, 19), (35, 20), (36, 21), (37, 22), (38, 23)] (fun f X hX hR K hK => ?_) ?_
   · have e21 : f 21 = _ := hR.out 21 rfl
     simp only [yA, yB, yC, yD, yE, e21]
     refine ⟨Par.want (by kernel_rfl) ?_⟩
     go_simp
     exact Par.k hK (s := by simp only [yA, yB, yC, yD, yE, e21])
   refine Par.S 26 3 [(15, 0), (16, 1), (17, 2), (18, 3), (19, 4), (20, 5), (21, 6), (22, 7), (23, 8), (24, 9), (25, 10), (26, 11), (27, 12), (28, 13), (29, 14), (30, 15), (31, 16), (32, 17), (33, 18), (34, 19), (35, 20), (36, 21), (37, 22), (38, 23), (39, 24)] (fun f X hX hR K hK => ?_) ?_
   · have e21 : f 21 = _ := hR.out 21 rfl
     have e24 : f 24 = _ := hR.out 24 rfl
     have x0 := hX.cell z5
     simp only [yA, yB, yC, yD, yE, e21, e24]
     refine ⟨Par.want (by kernel_rfl) ?_⟩
     go_simp
     exact Par.k hK (s := by simp only [yA, yB, yC, yD, yE, e21, e24])
   refine Par.S 27 2 [(15, 0), (16, 1), (17, 2), (18, 3), (19, 4), (20, 5), (21, 6), (22, 7), (23, 8), (24, 9), (25, 10), (26, 11), (27, 12), (28, 13), (29, 14), (30, 15), (31, 16), (32, 17), (33, 18), (34, 19), (35, 20), (36, 21), (37, 22), (38, 23), (39, 24), (40, 25)] (fun f X hX hR K hK => ?_) ?_
   · have e21 : f 21 = _ := hR.out 21 rfl
     have e23 : f 23 = _ := hR.out 23 rfl
     have e25 : f 25 = _ := hR.out 25 rfl
     simp only [yA, yB, yC, yD, yE, e21, e23, e25]
     refine ⟨Par.want (by kernel_rfl) ?_⟩
     go_simp
     exact Par.k hK (s := by simp only [yA, yB, yC, yD, yE, e21, e23, e25])
   refine Par.S 28 1 [(15, 0), (16, 1), (17, 2), (18, 3), (19, 4), (20, 5), (21, 6), (22, 7), (23, 8), (24, 9), (25, 10), (26, 11), (27, 12), (28, 13), (29, 14), (30, 15), (31, 16), (32, 17), (33, 18), (34, 19), (35, 20), (36, 21), (37, 22), (38, 23), (39, 24), (40, 25), (41, 26)] (fun f X hX hR K hK => ?_) ?_
   · have e21 : f 21 = _ := hR.out 21 rfl
     have e26 : f 26 = _ := hR.out 26 rfl
     simp only [yA, yB, yC, yD, yE, e21, e26]
     refine ⟨?_⟩
     go_simp
     exact Par.k hK (s := by simp only [yA, yB, yC, yD, yE, e21, e26])
   refine Par.S 29 0 [(15, 0), (16, 1), (17, 2), (18, 3), (19, 4), (20, 5), (21, 6), (22, 7), (23, 8), (24, 9), (25, 10), (26, 11), (27, 12), (28, 13), (29, 14), (30, 15), (31, 16), (32, 17), (33, 18), (34, 19), (35, 20), (36, 21), (37, 22), (38, 23), (39, 24), (40, 25), (41, 26), (42, 27)] (fun f X hX hR K hK => ?_) ?_
   · have e27 : f 27 = _ := hR.out 27 rfl
     simp only [yA, yB, yC, yD, yE, e27]
     refine ⟨?_⟩
     go_simp
     exact Par.k hK (s := by simp only [yA, yB, yC, yD, yE, e27])
   refine Par.AllOps.fin ⟨fun f X hX hR hal hap => ?_⟩
   have e0 : f 0 = _ := hR 0 (by decide)
   have e1 : f 1 = _ := hR 1 (by decide)
   have e2 : f 2 = _ := hR 2 (by decide)
   obtain ⟨A3, c3, (e3 : f 3 = _), h3⟩ := hR 3 (by decide)
   have e4 : f 4 = _ := hR 4 (by decide)
   have e5 : f 5 = _ := hR 5 (by decide)
   have e6 : f 6 = _ := hR 6 (by decide)
   have e7 : f 7 = _ := hR 7 (by decide)
   have e8 : f 8 = _ := hR 8 (by decide)
   have e9 : f 9 = _ := hR 9 (by decide)
   obtain ⟨A10, c10, (e10 : f 10 = _), h10⟩ := hR 10 (by decide)
   have e11 : f 11 = _ := hR 11 (by decide)
   have e12 : f 12 = _ := hR 12 (by decide)
   have e13 : f 13 = _ := hR 13 (by decide)
   have e14 : f 14 = _ := hR 14 (by decide)
   have e15 : f 15 = _ := hR 15 (by decide)
   have e16 : f 16 = _ := hR 16 (by decide)
   obtain ⟨v17, (e17 : f 17 = _), h17⟩ := hR 17 (by decide)
   have e18 : f 18 = _ := hR 18 (by decide)
   have e19 : f 19 = _ := hR 19 (by decide)
   have e20 : f 20 = _ := hR 20 (by decide)
   have e21 : f 21 = _ := hR 21 (by decide)
   have e22 : f 22 = _ := hR 22 (by decide)
   have e23 : f 23 = _ := hR 23 (by decide)
   have e24 : f 24 = _ := hR 24 (by decide)
   have e25 : f 25 = _ := hR 25 (by decide)
   have e26 : f 26 = _ := hR 26 (by decide)
   have e27 : f 27 = _ := hR 27 (by decide)
   have e28 : f 28 = _ := hR 28 (by decide)
   simp only [yA, yB, yC, yD, yE, e0, e1, e2, e3, e4, e5, e6, e7, e8, e9, e10, e11, e12, e13, e14, e15, e16, e17, e18, e19, e20, e21, e22, e23, e24, e25, e26, e27, e28]
   clear hR hal hap e0 e1 e2 e3 e4 e5 e6 e7 e8 e9 e10 e11 e12 e13 e14 e15 e16 e17 e18 e19 e20 e21 e22 e23 e24 e25 e26 e27 e28
   refine Par.Chain.done ?_
   go_wp2
   go_ret
   exact ⟨rfl, HE.out.trans hX⟩
 · have hb0 := heap_alloc_new w3 (.cells #[.bool true, .slice none 0 0, .slice none 0 0] 34)
   have hb1 := heap_alloc_new w3 (.cells #[.bool false, .slice B (digs 4294967296 (val 18446744073709551616 c0.xl)).length k, .slice B' (digs 4294967296 (val 18446744073709551616 c0.yl)).length k'] 34)
   have hA := Ext.alloc w3 (.cells #[.bool true, .slice none 0 0, .slice none 0 0] 34)
   have hA' := Ext.alloc w3 (.cells #[.bool false, .slice B (digs 4294967296 (val 18446744073709551616 c0.xl)).length k, .slice B' (digs 4294967296 (val 18446744073709551616 c0.yl)).length k'] 34)
   obtain ⟨z0, z1, z2, z3, z4, z5⟩ := six_facts (hA'.at_ hc0)
   obtain ⟨q0, q1, q2, f0, f1, f2⟩ := pt_facts hb1
   have hs' : ((c0.size : Int) == 0) = true := rfl
   go_upto_region 6 with fail
   clear z0 z1 z2 z3 z4 z5 q0 q1 q2 f0 f1 f2 hA' hb1
   replace hc0 := hA.at_ hc0
   obtain ⟨z0, z1, z2, z3, z4, z5⟩ := six_facts hc0
   have HA := Lib.hid hA
   clear hs' z2 z3 z4 hA
   generalize hW0 : w3.alloc (.cells #[.bool true, .slice none 0 0, .slice none 0 0] 34) = W0 at *
   obtain ⟨b2, hq2⟩ : ∃ b, w3.heap.size = b := ⟨_, rfl⟩
   rw [hq2] at hb0 ⊢
   have Hr := Lib.hid (show RPv W0 (.agg #[.bool true, .slice none 0 0, .slice none 0 0]) c0.inf (val 18446744073709551616 c0.xl) (val 18446744073709551616 c0.yl) from RPv.inf_ W0)
   clear hW0 hq2
   replace HE := Lib.hid (HE.out.trans HA.out)
   replace Hp := Lib.hid (RN.up Hp.out HA.out)
   replace Hn := Lib.hid (RN.up Hn.out HA.out)
   refine Par.region_ext (by kernel_rfl) 29 [0, 1, 3, 7, 3, 19, 63, 127, 255, 511, 1023, 511, 2559, 8191, 16383, 32767, 65535, 131071, 65535, 524287, 1048575, 2097151, 4194303, 8388607, 4194303, 20971519, 67108863, 134217727, 268435455] [] (fun j f X => match j with
    | 0 => f 0 = .bool true
    | 1 => f 1 = .bool true
    | 2 => f 2 = .int .i64 c
    | 3 => ∃ A cc, f 3 = .slice A c0.pl.length cc ∧ RU X A cc c0.pl
    | 4 => f 4 = .pointer (some ⟨b1, 0, none⟩)
    | 5 => f 5 = .slice Ap (digs 4294967296 c0.M).length cp
    | 6 => f 6 = .bool true
    | 7 => f 7 = .bool true
    | 8 => f 8 = .bool true
    | 9 => f 9 = .int .i64 c
    | 10 => ∃ A cc, f 10 = .slice A c0.nl.length cc ∧ RU X A cc c0.nl
    | 11 => f 11 = .pointer (some ⟨b1, 1, none⟩)
    | 12 => f 12 = .slice An (digs 4294967296 (val 18446744073709551616 c0.nl)).length cn
    | 13 => f 13 = .bool true
    | 14 => f 14 = .bool true
    | 15 => f 15 = .bool true
    | 16 => f 16 = .int .i64 c
    | 17 => ∃ v, f 17 = v ∧ APn X v c0.inf c0.xl c0.yl
    | 18 => f 18 = (.agg #[.bool true, .slice none 0 0, .slice none 0 0])
    | 19 => f 19 = .bool true
    | 20 => f 20 = .bool true
    | 21 => f 21 = .bool true
    | 22 => f 22 = .int .i64 c
    | 23 => f 23 = .int .i64 (c0.size : Int)
    | 24 => f 24 = .pointer (some ⟨b1, 5, none⟩)
    | 25 => f 25 = .int .i64 (c0.size : Int)
    | 26 => f 26 = .bool true
    | 27 => f 27 = .bool true
    | 28 => f 28 = .bool true
    | _ => True) (by kernel_rfl) [(15, 0), (16, 1), (17, 2), (18, 3), (19, 4), (20, 5), (21, 6), (22, 7), (23, 8), (24, 9), (25, 10), (26, 11), (27, 12), (28, 13), (29, 14), (30, 15), (31, 16), (32, 17), (33, 18), (34, 19), (35, 20), (36, 21), (37, 22), (38, 23), (39, 24), (40, 25), (41, 26), (42, 27), (2, 28)] (by kernel_rfl) ?_
   refine Par.S 1 28 [] (fun f X hX hR K hK => ?_) ?_
   · simp only [yA, yB, yC, yD, yE]
     refine ⟨?_⟩
     go_simp
     exact Par.k hK (s := by simp only [yA, yB, yC, yD, yE])
   refine Par.S 2 27 [(15, 0)] (fun f X hX hR K hK => ?_) ?_
   · have e0 : f 0 = _ := hR.out 0 rfl
     simp only [yA, yB, yC, yD, yE, e0]
     refine ⟨?_⟩
     go_simp
     exact Par.k hK (s := by simp only [yA, yB, yC, yD, yE, e0])
   refine Par.S 3 26 [(15, 0), (16, 1), (19, 4), (20, 5)] (fun f X hX hR K hK => ?_) ?_
   · have e1 : f 1 = _ := hR.out 1 rfl
     simp only [yA, yB, yC, yD, yE, e1]
     refine ⟨Par.want (by kernel_rfl) ?_⟩
     go_simp
     exact Par.k hK (s := by simp only [yA, yB, yC, yD, yE, e1])
   refine Par.S 4 25 [(15, 0), (16, 1), (17, 2), (19, 4), (20, 5)] (fun f X hX hR K hK => ?_) ?_
   · have e1 : f 1 = _ := hR.out 1 rfl
     have e2 : f 2 = _ := hR.out 2 rfl
     simp only [yA, yB, yC, yD, yE, e1, e2]
     refine ⟨Par.want (by kernel_rfl) ?_⟩
     go_simp
     refine (prime_u HC.out X).mono ?_
     rintro e w2 ⟨A, cc, rfl, h, hB⟩
     exact hK.out _ (.slice A c0.pl.length cc) _ (by simp only [yA, yB, yC, yD, yE, e1, e2]) hB trivial (fun Y hY => ⟨A, cc, rfl, RN.up h hY⟩)
   refine Par.S 5 24 [(15, 0), (16, 1), (17, 2), (18, 3)] (fun f X hX hR K hK => ?_) ?_
   · have e1 : f 1 = _ := hR.out 1 rfl
     simp only [yA, yB, yC, yD, yE, e1]
     refine ⟨Par.want (by kernel_rfl) ?_⟩
     go_simp
     exact Par.k hK (s := by simp only [yA, yB, yC, yD, yE, e1])
   refine Par.S 6 23 [(15, 0), (16, 1), (17, 2), (18, 3), (19, 4)] (fun f X hX hR K hK => ?_) ?_
   · have e1 : f 1 = _ := hR.out 1 rfl
     have e4 : f 4 = _ := hR.out 4 rfl
     have x0 := hX.cell z0
     simp only [yA, yB, yC, yD, yE, e1, e4]
     refine ⟨Par.want (by kernel_rfl) ?_⟩
     go_simp
     exact Par.k hK (s := by simp only [yA, yB, yC, yD, yE, e1, e4])
   refine Par.S 7 22 [(15, 0), (16, 1), (17, 2), (18, 3), (19, 4), (20, 5)] (fun f X hX hR K hK => ?_) ?_
   · have e1 : f 1 = _ := hR.out 1 rfl
     obtain ⟨A3, c3, (e3 : f 3 = _), h3⟩ := hR.out 3 rfl
     have e5 : f 5 = _ := hR.out 5 rfl
     simp only [yA, yB, yC, yD, yE, e1, e3, e5]
     refine ⟨Par.want (by kernel_rfl) ?_⟩
     go_simp
     refine (is_nat h3 (RN.up Hp.out hX) HN.out.p).mono ?_
     rintro e w2 ⟨rfl, hB⟩
     exact hK.out _ _ _ (by simp only [yA, yB, yC, yD, yE, e1, e3, e5]) hB trivial (fun _ _ => rfl)
   refine Par.S 8 21 [(15, 0), (16, 1), (17, 2), (18, 3), (19, 4), (20, 5), (21, 6)] (fun f X hX hR K hK => ?_) ?_
   · have e1 : f 1 = _ := hR.out 1 rfl
     have e6 : f 6 = _ := hR.out 6 rfl
     simp only [yA, yB, yC, yD, yE, e1, e6]
     refine ⟨?_⟩
     go_simp
     exact Par.k hK (s := by simp only [yA, yB, yC, yD, yE, e1, e6])
   refine Par.S 9 20 [(15, 0), (16, 1), (17, 2), (18, 3), (19, 4), (20, 5), (21, 6), (22, 7)] (fun f X hX hR K hK => ?_) ?_
   · have e7 : f 7 = _ := hR.out 7 rfl
     simp only [yA, yB, yC, yD, yE, e7]
     refine ⟨?_⟩
     go_simp
     exact Par.k hK (s := by simp only [yA, yB, yC, yD, yE, e7])
   refine Par.S 10 19 [(15, 0), (16, 1), (17, 2), (18, 3), (19, 4), (20, 5), (21, 6), (22, 7), (23, 8), (26, 11), (27, 12)] (fun f X hX hR K hK => ?_) ?_
   · have e8 : f 8 = _ := hR.out 8 rfl
     simp only [yA, yB, yC, yD, yE, e8]
     refine ⟨Par.want (by kernel_rfl) ?_⟩
     go_simp
     exact Par.k hK (s := by simp only [yA, yB, yC, yD, yE, e8])
   refine Par.S 11 18 [(15, 0), (16, 1), (17, 2), (18, 3), (19, 4), (20, 5), (21, 6), (22, 7), (23, 8), (24, 9), (26, 11), (27, 12)] (fun f X hX hR K hK => ?_) ?_
   · have e8 : f 8 = _ := hR.out 8 rfl
     have e9 : f 9 = _ := hR.out 9 rfl
     simp only [yA, yB, yC, yD, yE, e8, e9]
     refine ⟨Par.want (by kernel_rfl) ?_⟩
     go_simp
     refine (order_u HC.out X).mono ?_
     rintro e w2 ⟨A, cc, rfl, h, hB⟩
     exact hK.out _ (.slice A c0.nl.length cc) _ (by simp only [yA, yB, yC, yD, yE, e8, e9]) hB trivial (fun Y hY => ⟨A, cc, rfl, RN.up h hY⟩)
   refine Par.S 12 17 [(15, 0), (16, 1), (17, 2), (18, 3), (19, 4), (20, 5), (21, 6), (22, 7), (23, 8), (24, 9), (25, 10)] (fun f X hX hR K hK => ?_) ?_
   · have e8 : f 8 = _ := hR.out 8 rfl
     simp only [yA, yB, yC, yD, yE, e8]
     refine ⟨Par.want (by kernel_rfl) ?_⟩
     go_simp
     exact Par.k hK (s := by simp only [yA, yB, yC, yD, yE, e8])
   refine Par.S 13 16 [(15, 0), (16, 1), (17, 2), (18, 3), (19, 4), (20, 5), (21, 6), (22, 7), (23, 8), (24, 9), (25, 10), (26, 11)] (fun f X hX hR K hK => ?_) ?_
   · have e8 : f 8 = _ := hR.out 8 rfl
     have e11 : f 11 = _ := hR.out 11 rfl
     have x0 := hX.cell z1
     simp only [yA, yB, yC, yD, yE, e8, e11]
     refine ⟨Par.want (by kernel_rfl) ?_⟩
     go_simp
     exact Par.k hK (s := by simp only [yA, yB, yC, yD, yE, e8, e11])
   refine Par.S 14 15 [(15, 0), (16, 1), (17, 2), (18, 3), (19, 4), (20, 5), (21, 6), (22, 7), (23, 8), (24, 9), (25, 10), (26, 11), (27, 12)] (fun f X hX hR K hK => ?_) ?_
   · have e8 : f 8 = _ := hR.out 8 rfl
     obtain ⟨A10, c10, (e10 : f 10 = _), h10⟩ := hR.out 10 rfl
     have e12 : f 12 = _ := hR.out 12 rfl
     simp only [yA, yB, yC, yD, yE, e8, e10, e12]
     refine ⟨Par.want (by kernel_rfl) ?_⟩
     go_simp
     refine (is_nat h10 (RN.up Hn.out hX) HN.out.n).mono ?_
     rintro e w2 ⟨rfl, hB⟩
     exact hK.out _ _ _ (by simp only [yA, yB, yC, yD, yE, e8, e10, e12]) hB trivial (fun _ _ => rfl)
   refine Par.S 15 14 [(15, 0), (16, 1), (17, 2), (18, 3), (19, 4), (20, 5), (21, 6), (22, 7), (23, 8), (24, 9), (25, 10), (26, 11), (27, 12), (28, 13)] (fun f X hX hR K hK => ?_) ?_
   · have e8 : f 8 = _ := hR.out 8 rfl
     have e13 : f 13 = _ := hR.out 13 rfl
     simp only [yA, yB, yC, yD, yE, e8, e13]
     refine ⟨?_⟩
     go_simp
     exact Par.k hK (s := by simp only [yA, yB, yC, yD, yE, e8, e13])
   refine Par.S 16 13 [(15, 0), (16, 1), (17, 2), (18, 3), (19, 4), (20, 5), (21, 6), (22, 7), (23, 8), (24, 9), (25, 10), (26, 11), (27, 12), (28, 13), (29, 14)] (fun f X hX hR K hK => ?_) ?_
   · have e14 : f 14 = _ := hR.out 14 rfl
     simp only [yA, yB, yC, yD, yE, e14]
     refine ⟨?_⟩
     go_simp
     exact Par.k hK (s := by simp only [yA, yB, yC, yD, yE, e14])
   refine Par.S 17 12 [(15, 0), (16, 1), (17, 2), (18, 3), (19, 4), (20, 5), (21, 6), (22, 7), (23, 8), (24, 9), (25, 10), (26, 11), (27, 12), (28, 13), (29, 14), (30, 15), (33, 18)] (fun f X hX hR K hK => ?_) ?_
   · have e15 : f 15 = _ := hR.out 15 rfl
     simp only [yA, yB, yC, yD, yE, e15]
     refine ⟨Par.want (by kernel_rfl) ?_⟩
     go_simp
     exact Par.k hK (s := by simp only [yA, yB, yC, yD, yE, e15])
   refine Par.S 18 11 [(15, 0), (16, 1), (17, 2), (18, 3), (19, 4), (20, 5), (21, 6), (22, 7), (23, 8), (24, 9), (25, 10), (26, 11), (27, 12), (28, 13), (29, 14), (30, 15), (31, 16), (33, 18)] (fun f X hX hR K hK => ?_) ?_
   · have e15 : f 15 = _ := hR.out 15 rfl
     have e16 : f 16 = _ := hR.out 16 rfl
     simp only [yA, yB, yC, yD, yE, e15, e16]
     refine ⟨Par.want (by kernel_rfl) ?_⟩
     go_simp
     refine (base_u HC.out X).mono ?_
     rintro e w2 ⟨v, rfl, h, hB⟩
     exact hK.out _ v _ (by simp only [yA, yB, yC, yD, yE, e15, e16]) hB trivial (fun Y hY => ⟨v, rfl, h.ext hY⟩)
   refine Par.S 19 10 [(15, 0), (16, 1), (17, 2), (18, 3), (19, 4), (20, 5), (21, 6), (22, 7), (23, 8), (24, 9), (25, 10), (26, 11), (27, 12), (28, 13), (29, 14), (30, 15), (31, 16), (32, 17)] (fun f X hX hR K hK => ?_) ?_
   · have e15 : f 15 = _ := hR.out 15 rfl
     simp only [yA, yB, yC, yD, yE, e15]
     refine ⟨Par.want (by kernel_rfl) (wp_loadV (v := (.agg #[.bool true, .slice none 0 0, .slice none 0 0])) (t := 34) 34 (.tmp 5) rfl rfl (hX.at_ hb0) Try.underlying34 rfl infoRP rfl ?_)⟩
     exact hK.out _ ((.agg #[.bool true, .slice none 0 0, .slice none 0 0])) _ (by simp only [yA, yB, yC, yD, yE, e15]) (Ext.refl _) trivial (fun _ _ => rfl)
   refine Par.S 20 9 [(15, 0), (16, 1), (17, 2), (18, 3), (19, 4), (20, 5), (21, 6), (22, 7), (23, 8), (24, 9), (25, 10), (26, 11), (27, 12), (28, 13), (29, 14), (30, 15), (31, 16), (32, 17), (33, 18)] (fun f X hX hR K hK => ?_) ?_
   · have e15 : f 15 = _ := hR.out 15 rfl
     obtain ⟨v17, (e17 : f 17 = _), h17⟩ := hR.out 17 rfl
     have e18 : f 18 = _ := hR.out 18 rfl
     simp only [yA, yB, yC, yD, yE, e15, e17, e18]
     refine ⟨Par.want (by kernel_rfl) ?_⟩
     go_simp
     refine (ris_n X h17 (Hr.out.ext hX)).mono ?_
     rintro e w2 ⟨he, hB⟩
     rw [HN.out.x, HN.out.y] at he
     simp only [beq_self_eq_true, decide_true, Bool.and_self] at he
     subst he
     exact hK.out _ _ _ (by simp only [yA, yB, yC, yD, yE, e15, e17, e18]) hB trivial (fun _ _ => rfl)
   refine Par.S 21 8 [(15, 0), (16, 1), (17, 2), (18, 3), (19, 4), (20, 5), (21, 6), (22, 7), (23, 8), (24, 9), (25, 10), (26, 11), (27, 12), (28, 13), (29, 14), (30, 15), (31, 16), (32, 17), (33, 18), (34, 19)] (fun f X hX hR K hK => ?_) ?_
   · have e15 : f 15 = _ := hR.out 15 rfl
     have e19 : f 19 = _ := hR.out 19 rfl
     simp only [yA, yB, yC, yD, yE, e15, e19]
     refine ⟨?_⟩
     go_simp
     exact Par.k hK (s := by simp only [yA, yB, yC, yD, yE, e15, e19])
   refine Par.S 22 7 [(15, 0), (16, 1), (17, 2), (18, 3), (19, 4), (20, 5), (21, 6), (22, 7), (23, 8), (24, 9), (25, 10), (26, 11), (27, 12), (28, 13), (29, 14), (30, 15), (31, 16), (32, 17), (33, 18), (34, 19), (35, 20)] (fun f X hX hR K hK => ?_) ?_
   · have e20 : f 20 = _ := hR.out 20 rfl
     simp only [yA, yB, yC, yD, yE, e20]
     refine ⟨?_⟩
     go_simp
     exact Par.k hK (s := by simp only [yA, yB, yC, yD, yE, e20])
   refine Par.S 23 6 [(15, 0), (16, 1), (17, 2), (18, 3), (19, 4), (20, 5), (21, 6), (22, 7), (23, 8), (24, 9), (25, 10), (26, 11), (27, 12), (28, 13), (29, 14), (30, 15), (31, 16), (32, 17), (33, 18), (34, 19), (35, 20), (36, 21), (39, 24), (40, 25)] (fun f X hX hR K hK => ?_) ?_
   · have e21 : f 21 = _ := hR.out 21 rfl
     simp only [yA, yB, yC, yD, yE, e21]
     refine ⟨Par.want (by kernel_rfl) ?_⟩
     go_simp
     exact Par.k hK (s := by simp only [yA, yB, yC, yD, yE, e21])
   refine Par.S 24 5 [(15, 0), (16, 1), (17, 2), (18, 3), (19, 4), (20, 5), (21, 6), (22, 7), (23, 8), (24, 9), (25, 10), (26, 11), (27, 12), (28, 13), (29, 14), (30, 15), (31, 16), (32, 17), (33, 18), (34, 19), (35, 20), (36, 21), (37, 22), (39, 24), (40, 25)] (fun f X hX hR K hK => ?_) ?_
   · have e21 : f 21 = _ := hR.out 21 rfl
     have e22 : f 22 = _ := hR.out 22 rfl
     simp only [yA, yB, yC, yD, yE, e21, e22]
     refine ⟨Par.want (by kernel_rfl) ?_⟩
     go_simp
     refine (size_u HC.out X).mono ?_
     rintro e w2 ⟨rfl, hB⟩
     exact hK.out _ _ _ (by simp only [yA, yB, yC, yD, yE, e21, e22]) hB trivial (fun _ _ => rfl)
   refine Par.S 25 4 [(15, 0), (16, 1), (17, 2), (18, 3), (19, 4), (20, 5), (21, 6), (22, 7), (23, 8), (24, 9), (25, 10), (26, 11), (27, 12), (28, 13), (29, 14), (30, 15), (31, 16), (32, 17), (33, 18), (34, 19), (35, 20), (36, 21), (37, 22), (38, 23)] (fun f X hX hR K hK => ?_) ?_
   · have e21 : f 21 = _ := hR.out 21 rfl
     simp only [yA, yB, yC, yD, yE, e21]
     refine ⟨Par.want (by kernel_rfl) ?_⟩
     go_simp
     exact Par.k hK (s := by simp only [yA, yB, yC, yD, yE, e21])
   refine Par.S 26 3 [(15, 0), (16, 1), (17, 2), (18, 3), (19, 4), (20, 5), (21, 6), (22, 7), (23, 8), (24, 9), (25, 10), (26, 11), (27, 12), (28, 13), (29, 14), (30, 15), (31, 16), (32, 17), (33, 18), (34, 19), (35, 20), (36, 21), (37, 22), (38, 23), (39, 24)] (fun f X hX hR K hK => ?_) ?_
   · have e21 : f 21 = _ := hR.out 21 rfl
     have e24 : f 24 = _ := hR.out 24 rfl
     have x0 := hX.cell z5
     simp only [yA, yB, yC, yD, yE, e21, e24]
     refine ⟨Par.want (by kernel_rfl) ?_⟩
     go_simp
     exact Par.k hK (s := by simp only [yA, yB, yC, yD, yE, e21, e24])
   refine Par.S 27 2 [(15, 0), (16, 1), (17, 2), (18, 3), (19, 4), (20, 5), (21, 6), (22, 7), (23, 8), (24, 9), (25, 10), (26, 11), (27, 12), (28, 13), (29, 14), (30, 15), (31, 16), (32, 17), (33, 18), (34, 19), (35, 20), (36, 21), (37, 22), (38, 23), (39, 24), (40, 25)] (fun f X hX hR K hK => ?_) ?_
   · have e21 : f 21 = _ := hR.out 21 rfl
     have e23 : f 23 = _ := hR.out 23 rfl
     have e25 : f 25 = _ := hR.out 25 rfl
     simp only [yA, yB, yC, yD, yE, e21, e23, e25]
     refine ⟨Par.want (by kernel_rfl) ?_⟩
     go_simp
     exact Par.k hK (s := by simp only [yA, yB, yC, yD, yE, e21, e23, e25])
   refine Par.S 28 1 [(15, 0), (16, 1), (17, 2), (18, 3), (19, 4), (20, 5), (21, 6), (22, 7), (23, 8), (24, 9), (25, 10), (26, 11), (27, 12), (28, 13), (29, 14), (30, 15), (31, 16), (32, 17), (33, 18), (34, 19), (35, 20), (36, 21), (37, 22), (38, 23), (39, 24), (40, 25), (41, 26)] (fun f X hX hR K hK => ?_) ?_
   · have e21 : f 21 = _ := hR.out 21 rfl
     have e26 : f 26 = _ := hR.out 26 rfl
     simp only [yA, yB, yC, yD, yE, e21, e26]
     refine ⟨?_⟩
     go_simp
     exact Par.k hK (s := by simp only [yA, yB, yC, yD, yE, e21, e26])
   refine Par.S 29 0 [(15, 0), (16, 1), (17, 2), (18, 3), (19, 4), (20, 5), (21, 6), (22, 7), (23, 8), (24, 9), (25, 10), (26, 11), (27, 12), (28, 13), (29, 14), (30, 15), (31, 16), (32, 17), (33, 18), (34, 19), (35, 20), (36, 21), (37, 22), (38, 23), (39, 24), (40, 25), (41, 26), (42, 27)] (fun f X hX hR K hK => ?_) ?_
   · have e27 : f 27 = _ := hR.out 27 rfl
     simp only [yA, yB, yC, yD, yE, e27]
     refine ⟨?_⟩
     go_simp
     exact Par.k hK (s := by simp only [yA, yB, yC, yD, yE, e27])
   refine Par.AllOps.fin ⟨fun f X hX hR hal hap => ?_⟩
   have e0 : f 0 = _ := hR 0 (by decide)
   have e1 : f 1 = _ := hR 1 (by decide)
   have e2 : f 2 = _ := hR 2 (by decide)
   obtain ⟨A3, c3, (e3 : f 3 = _), h3⟩ := hR 3 (by decide)
   have e4 : f 4 = _ := hR 4 (by decide)
   have e5 : f 5 = _ := hR 5 (by decide)
   have e6 : f 6 = _ := hR 6 (by decide)
   have e7 : f 7 = _ := hR 7 (by decide)
   have e8 : f 8 = _ := hR 8 (by decide)
   have e9 : f 9 = _ := hR 9 (by decide)
   obtain ⟨A10, c10, (e10 : f 10 = _), h10⟩ := hR 10 (by decide)
   have e11 : f 11 = _ := hR 11 (by decide)
   have e12 : f 12 = _ := hR 12 (by decide)
   have e13 : f 13 = _ := hR 13 (by decide)
   have e14 : f 14 = _ := hR 14 (by decide)
   have e15 : f 15 = _ := hR 15 (by decide)
   have e16 : f 16 = _ := hR 16 (by decide)
   obtain ⟨v17, (e17 : f 17 = _), h17⟩ := hR 17 (by decide)
   have e18 : f 18 = _ := hR 18 (by decide)
   have e19 : f 19 = _ := hR 19 (by decide)
   have e20 : f 20 = _ := hR 20 (by decide)
   have e21 : f 21 = _ := hR 21 (by decide)
   have e22 : f 22 = _ := hR 22 (by decide)
   have e23 : f 23 = _ := hR 23 (by decide)
   have e24 : f 24 = _ := hR 24 (by decide)
   have e25 : f 25 = _ := hR 25 (by decide)
   have e26 : f 26 = _ := hR 26 (by decide)
   have e27 : f 27 = _ := hR 27 (by decide)
   have e28 : f 28 = _ := hR 28 (by decide)
   simp only [yA, yB, yC, yD, yE, e0, e1, e2, e3, e4, e5, e6, e7, e8, e9, e10, e11, e12, e13, e14, e15, e16, e17, e18, e19, e20, e21, e22, e23, e24, e25, e26, e27, e28]
   clear hR hal hap e0 e1 e2 e3 e4 e5 e6 e7 e8 e9 e10 e11 e12 e13 e14 e15 e16 e17 e18 e19 e20 e21 e22 e23 e24 e25 e26 e27 e28
   refine Par.Chain.done ?_
   go_wp2
   go_ret
   exact ⟨rfl, HE.out.trans hX⟩
end Go.Proofs.Ytldhmjfjbalakaa
