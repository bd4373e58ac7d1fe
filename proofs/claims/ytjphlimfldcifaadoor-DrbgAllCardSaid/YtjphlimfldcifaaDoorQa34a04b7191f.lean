/- The great regions of the reference's SHA-256, each a law of its own. The reference's SHA-256. The reference's Of, Join, HMAC at SHA-256. The reference's HMAC at SHA-256. The reference's generator: its block. -/
import Derived.Test.YtjphlimfldcifaaDoorQ6042e1c57064
import Derived.Deep.DeepCutAuto
namespace Go.Proofs.YtjphlimfldcifaaDoor
open Go.RowKit
open Sha

def findR (n : Nat) : Code → Option Code
 | .region id ops d => if id = n then some (.region id ops d) else none
 | .seq a b => (findR n a).or (findR n b)
 | .cond _ a b => (findR n a).or (findR n b)
 | .block _ a => findR n a
 | .loop a => findR n a
 | .scope a => findR n a
 | _ => none
def regOf (f : Func) (n : Nat) : Code := (f.body.bind (findR n)).getD .skip
theorem right2 (x : W) (w : World) : Calls Tryd.prog 82 #[.int .u32 (x.toNat : Int), .int .u64 2] w fun e w' => e = .returned (.int .u32 ((rr 2 x).toNat : Int)) ∧ w' = w := right_any x 2 w (by omega)
theorem right6 (x : W) (w : World) : Calls Tryd.prog 82 #[.int .u32 (x.toNat : Int), .int .u64 6] w fun e w' => e = .returned (.int .u32 ((rr 6 x).toNat : Int)) ∧ w' = w := right_any x 6 w (by omega)
theorem right7 (x : W) (w : World) : Calls Tryd.prog 82 #[.int .u32 (x.toNat : Int), .int .u64 7] w fun e w' => e = .returned (.int .u32 ((rr 7 x).toNat : Int)) ∧ w' = w := right_any x 7 w (by omega)
theorem right11 (x : W) (w : World) : Calls Tryd.prog 82 #[.int .u32 (x.toNat : Int), .int .u64 11] w fun e w' => e = .returned (.int .u32 ((rr 11 x).toNat : Int)) ∧ w' = w := right_any x 11 w (by omega)
theorem right13 (x : W) (w : World) : Calls Tryd.prog 82 #[.int .u32 (x.toNat : Int), .int .u64 13] w fun e w' => e = .returned (.int .u32 ((rr 13 x).toNat : Int)) ∧ w' = w := right_any x 13 w (by omega)
theorem right17 (x : W) (w : World) : Calls Tryd.prog 82 #[.int .u32 (x.toNat : Int), .int .u64 17] w fun e w' => e = .returned (.int .u32 ((rr 17 x).toNat : Int)) ∧ w' = w := right_any x 17 w (by omega)
theorem right18 (x : W) (w : World) : Calls Tryd.prog 82 #[.int .u32 (x.toNat : Int), .int .u64 18] w fun e w' => e = .returned (.int .u32 ((rr 18 x).toNat : Int)) ∧ w' = w := right_any x 18 w (by omega)
theorem right19 (x : W) (w : World) : Calls Tryd.prog 82 #[.int .u32 (x.toNat : Int), .int .u64 19] w fun e w' => e = .returned (.int .u32 ((rr 19 x).toNat : Int)) ∧ w' = w := right_any x 19 w (by omega)
theorem right22 (x : W) (w : World) : Calls Tryd.prog 82 #[.int .u32 (x.toNat : Int), .int .u64 22] w fun e w' => e = .returned (.int .u32 ((rr 22 x).toNat : Int)) ∧ w' = w := right_any x 22 w (by omega)
theorem right25 (x : W) (w : World) : Calls Tryd.prog 82 #[.int .u32 (x.toNat : Int), .int .u64 25] w fun e w' => e = .returned (.int .u32 ((rr 25 x).toNat : Int)) ∧ w' = w := right_any x 25 w (by omega)
set_option maxRecDepth 100000 in
set_option maxHeartbeats 8000000 in
theorem rsha13 {Q : Exit → Act → World → Prop} {w : World} {gw k z z7 : Nat} {x16 x15 x7 x2 nw : W} {y : Value} {u0 u1 u2 u3 u4 u5 u6 u11 u12 u13 u14 u15 u16 u17 u18 u19 u20 u21 u22 u23 u24 u25 u26 u27 u28 u29 u30 u31 u32 u33 u34 u35 u36 u37 u38 u39 u40 u41 u42 u43 u44 u45 u46 u47 u48 u49 u50 u51 u52 u53 u54 u55 u56 u57 u58 u59 u60 u61 u62 u63 u64 u65 u66 u67 u68 u69 u70 u71 u72 u73 u74 u75 u76 u77 u78 u79 u80 u81 u82 u83 u84 u85 u86 u87 u88 u89 u90 u91 u92 u93 u94 u95 u96 u97 u98 u99 u100 u101 u102 u103 u104 u105 u106 u107 u108 u109 u110 u111 u112 u113 u114 u115 u116 u117 u118 u119 u120 u121 u122 u123 u124 u125 u126 u127 u128 u129 u130 u131 u132 u133 u134 u135 u136 u137 u138 u139 u140 u141 u142 u143 u144 u145 u146 u147 u148 u149 u150 u151 u152 u153 u154 u155 u156 u157 u158 u159 u160 u161 u162 u163 u164 u165 u166 u167 u168 u169 u170 u171 u172 u173 u174 u175 u176 u177 u178 u179 u180 u181 u182 u183 u184 u185 u186 u187 u188 u189 u190 u191 u192 u193 u194 u195 u196 u197 u198 u199 u200 : Value}
 (k64 : (k : Int) < 64) (l16 : (z : Int) < 64) (l7 : (z7 : Int) < 64) (w16 : IntKind.i64.wrap ((k : Int) - 16) = (z : Int)) (w7 : IntKind.i64.wrap ((k : Int) - 7) = (z7 : Int)) (d16 : w.cell? ⟨gw, z, none⟩ = some (.int .u32 ((x16).toNat : Int))) (d7 : w.cell? ⟨gw, z7, none⟩ = some (.int .u32 ((x7).toNat : Int))) (dk : w.cell? ⟨gw, k, none⟩ = some y) (fk : ∀ X, Ext w X → X.frozen? ⟨gw, k, none⟩ = false) (hnw : x16 + g0 x15 + x7 + g1 x2 = nw)
 (h : ∀ (X : World) , Ext w X → ∀ (y51 y52 y53 y54 y55 y56 y57 y58 y59 y60 y61 y62 y63 y64 y65 y66 y67 y68 y69 y70 y71 y72 y73 y74 y75 y76 y77 y78 y79 y80 y81 y82 : Value), Q .normal { tmps := #[u0, u1, u2, u3, u4, u5, u6, .slice (some ⟨gw, 0, none⟩) 64 64, .int .i64 (k : Int), .int .u32 ((x15).toNat : Int), .int .u32 ((x2).toNat : Int), u11, u12, u13, u14, u15, u16, u17, u18, u19, u20, u21, u22, u23, u24, u25, u26, u27, u28, u29, u30, u31, u32, u33, u34, u35, u36, u37, u38, u39, u40, u41, u42, u43, u44, u45, u46, u47, u48, u49, u50, y51, y52, y53, y54, y55, y56, y57, y58, y59, y60, y61, y62, y63, y64, y65, y66, y67, y68, y69, y70, y71, y72, y73, y74, y75, y76, y77, y78, y79, y80, y81, y82, u83, u84, u85, u86, u87, u88, u89, u90, u91, u92, u93, u94, u95, u96, u97, u98, u99, u100, u101, u102, u103, u104, u105, u106, u107, u108, u109, u110, u111, u112, u113, u114, u115, u116, u117, u118, u119, u120, u121, u122, u123, u124, u125, u126, u127, u128, u129, u130, u131, u132, u133, u134, u135, u136, u137, u138, u139, u140, u141, u142, u143, u144, u145, u146, u147, u148, u149, u150, u151, u152, u153, u154, u155, u156, u157, u158, u159, u160, u161, u162, u163, u164, u165, u166, u167, u168, u169, u170, u171, u172, u173, u174, u175, u176, u177, u178, u179, u180, u181, u182, u183, u184, u185, u186, u187, u188, u189, u190, u191, u192, u193, u194, u195, u196, u197, u198, u199, u200], defers := [] } (X.setCell ⟨gw, k, none⟩ (.int .u32 ((nw).toNat : Int)))) :
 (regOf Tryd.f69 13).wp Tryd.prog Q { tmps := #[u0, u1, u2, u3, u4, u5, u6, .slice (some ⟨gw, 0, none⟩) 64 64, .int .i64 (k : Int), .int .u32 ((x15).toNat : Int), .int .u32 ((x2).toNat : Int), u11, u12, u13, u14, u15, u16, u17, u18, u19, u20, u21, u22, u23, u24, u25, u26, u27, u28, u29, u30, u31, u32, u33, u34, u35, u36, u37, u38, u39, u40, u41, u42, u43, u44, u45, u46, u47, u48, u49, u50, u51, u52, u53, u54, u55, u56, u57, u58, u59, u60, u61, u62, u63, u64, u65, u66, u67, u68, u69, u70, u71, u72, u73, u74, u75, u76, u77, u78, u79, u80, u81, u82, u83, u84, u85, u86, u87, u88, u89, u90, u91, u92, u93, u94, u95, u96, u97, u98, u99, u100, u101, u102, u103, u104, u105, u106, u107, u108, u109, u110, u111, u112, u113, u114, u115, u116, u117, u118, u119, u120, u121, u122, u123, u124, u125, u126, u127, u128, u129, u130, u131, u132, u133, u134, u135, u136, u137, u138, u139, u140, u141, u142, u143, u144, u145, u146, u147, u148, u149, u150, u151, u152, u153, u154, u155, u156, u157, u158, u159, u160, u161, u162, u163, u164, u165, u166, u167, u168, u169, u170, u171, u172, u173, u174, u175, u176, u177, u178, u179, u180, u181, u182, u183, u184, u185, u186, u187, u188, u189, u190, u191, u192, u193, u194, u195, u196, u197, u198, u199, u200], defers := [] } w := by
 refine Par.region_ext (by kernel_rfl) 32 [0, 0, 0, 0, 8, 28, 60, 0, 128, 0, 896, 1920, 0, 4096, 16256, 32764, 0, 0, 131072, 458752, 983040, 2097148, 0, 4196224, 0, 29362048, 62916480, 0, 134217728, 532678528, 1073741820, 2147483647, 4294967295] [] (fun j f X => match j with
  | 0 => f 0 = .slice (some ⟨gw, 0, none⟩) 64 64
  | 1 => f 1 = .int .i64 (k : Int)
  | 2 => f 2 = .slice (some ⟨gw, 0, none⟩) 64 64
  | 3 => f 3 = .int .i64 (k : Int)
  | 4 => f 4 = .int .i64 (z : Int)
  | 5 => f 5 = .pointer (some ⟨gw, z, none⟩)
  | 6 => f 6 = .int .u32 ((x16).toNat : Int)
  | 7 => f 7 = .int .u32 ((x15).toNat : Int)
  | 8 => f 8 = .int .u32 ((rr 7 x15).toNat : Int)
  | 9 => f 9 = .int .u32 ((x15).toNat : Int)
  | 10 => f 10 = .int .u32 ((rr 18 x15).toNat : Int)
  | 11 => f 11 = .int .u32 (((rr 7 x15) ^^^ (rr 18 x15)).toNat : Int)
  | 12 => f 12 = .int .u32 ((x15).toNat : Int)
  | 13 => f 13 = .int .u32 ((x15 >>> 3).toNat : Int)
  | 14 => f 14 = .int .u32 ((g0 x15).toNat : Int)
  | 15 => f 15 = .int .u32 ((x16 + (g0 x15)).toNat : Int)
  | 16 => f 16 = .slice (some ⟨gw, 0, none⟩) 64 64
  | 17 => f 17 = .int .i64 (k : Int)
  | 18 => f 18 = .int .i64 (z7 : Int)
  | 19 => f 19 = .pointer (some ⟨gw, z7, none⟩)
  | 20 => f 20 = .int .u32 ((x7).toNat : Int)
  | 21 => f 21 = .int .u32 (((x16 + (g0 x15)) + x7).toNat : Int)
  | 22 => f 22 = .int .u32 ((x2).toNat : Int)
  | 23 => f 23 = .int .u32 ((rr 17 x2).toNat : Int)
  | 24 => f 24 = .int .u32 ((x2).toNat : Int)
  | 25 => f 25 = .int .u32 ((rr 19 x2).toNat : Int)
  | 26 => f 26 = .int .u32 (((rr 17 x2) ^^^ (rr 19 x2)).toNat : Int)
  | 27 => f 27 = .int .u32 ((x2).toNat : Int)
  | 28 => f 28 = .int .u32 ((x2 >>> 10).toNat : Int)
  | 29 => f 29 = .int .u32 ((g1 x2).toNat : Int)
  | 30 => f 30 = .int .u32 ((nw).toNat : Int)
  | 31 => f 31 = .pointer (some ⟨gw, k, none⟩)
  | _ => True) (by kernel_rfl) [(51, 0), (52, 1), (53, 2), (54, 3), (55, 4), (56, 5), (57, 6), (58, 7), (59, 8), (60, 9), (61, 10), (62, 11), (63, 12), (64, 13), (65, 14), (66, 15), (67, 16), (68, 17), (69, 18), (70, 19), (71, 20), (72, 21), (73, 22), (74, 23), (75, 24), (76, 25), (77, 26), (78, 27), (79, 28), (80, 29), (81, 30), (82, 31)] (by kernel_rfl) ?_
 refine Par.v0 1 31 ?_
 refine Par.v0 2 30 ?_
 refine Par.v0 3 29 ?_
 refine Par.v0 4 28 ?_
 refine Par.v1 5 27 3 (hR := fun _ _ h => h.trans (congrArg (Value.int .i64) w16)) ?_
 refine Par.S 6 26 [(51, 0), (52, 1), (53, 2), (54, 3), (55, 4), (58, 7), (59, 8), (60, 9), (61, 10), (62, 11), (63, 12), (64, 13), (65, 14), (67, 16), (68, 17), (69, 18), (70, 19), (71, 20), (73, 22), (74, 23), (75, 24), (76, 25), (77, 26), (78, 27), (79, 28), (80, 29)] (fun f X hX hR K hK => ?_) ?_
 · have e2 : f 2 = _ := hR.out 2 rfl
   have e4 : f 4 = _ := hR.out 4 rfl
   simp only [yA, yB, yC, yD, yE, e2, e4]
   refine ⟨?_⟩
   go_simp
   exact Par.k hK (s := by simp only [yA, yB, yC, yD, yE, e2, e4])
 refine Par.ld1 7 25 5 d16 ?_
 refine Par.v0 8 24 ?_
 refine Par.c0 9 23 (fun f => #[f 7, Value.int IntKind.u64 7]) (F' := 82) (fun f X hX hR => ?_) ?_
 · have e7 : f 7 = _ := hR.out 7 rfl
   simp only [e7]
   refine (right7 x15 X).mono ?_
   rintro e w2 ⟨rfl, rfl⟩
   exact ⟨(.int .u32 ((rr 7 x15).toNat : Int)), rfl, (Ext.refl _), fun _ _ => rfl⟩
 refine Par.v0 10 22 ?_
 refine Par.c0 11 21 (fun f => #[f 9, Value.int IntKind.u64 18]) (F' := 82) (fun f X hX hR => ?_) ?_
 · have e9 : f 9 = _ := hR.out 9 rfl
   simp only [e9]
   refine (right18 x15 X).mono ?_
   rintro e w2 ⟨rfl, rfl⟩
   exact ⟨(.int .u32 ((rr 18 x15).toNat : Int)), rfl, (Ext.refl _), fun _ _ => rfl⟩
 refine Par.v2 12 20 8 10 (hR := fun _ _ h => h.trans (v_xor _ _)) ?_
 refine Par.v0 13 19 ?_
 refine Par.v1 14 18 12 (hR := fun _ _ h => h.trans (v_shr _ 3)) ?_
 refine Par.v2 15 17 11 13 (hR := fun _ _ h => h.trans (v_xor _ _)) ?_
 refine Par.v2 16 16 6 14 (hR := fun _ _ h => h.trans (v_add _ _)) ?_
 refine Par.v0 17 15 ?_
 refine Par.v0 18 14 ?_
 refine Par.v1 19 13 17 (hR := fun _ _ h => h.trans (congrArg (Value.int .i64) w7)) ?_
 refine Par.S 20 12 [(51, 0), (52, 1), (53, 2), (54, 3), (55, 4), (56, 5), (57, 6), (58, 7), (59, 8), (60, 9), (61, 10), (62, 11), (63, 12), (64, 13), (65, 14), (66, 15), (67, 16), (68, 17), (69, 18), (73, 22), (74, 23), (75, 24), (76, 25), (77, 26), (78, 27), (79, 28), (80, 29)] (fun f X hX hR K hK => ?_) ?_
 · have e16 : f 16 = _ := hR.out 16 rfl
   have e18 : f 18 = _ := hR.out 18 rfl
   simp only [yA, yB, yC, yD, yE, e16, e18]
   refine ⟨?_⟩
   go_simp
   exact Par.k hK (s := by simp only [yA, yB, yC, yD, yE, e16, e18])
 refine Par.ld1 21 11 19 d7 ?_
 refine Par.v2 22 10 15 20 (hR := fun _ _ h => h.trans (v_add _ _)) ?_
 refine Par.v0 23 9 ?_
 refine Par.c0 24 8 (fun f => #[f 22, Value.int IntKind.u64 17]) (F' := 82) (fun f X hX hR => ?_) ?_
 · have e22 : f 22 = _ := hR.out 22 rfl
   simp only [e22]
   refine (right17 x2 X).mono ?_
   rintro e w2 ⟨rfl, rfl⟩
   exact ⟨(.int .u32 ((rr 17 x2).toNat : Int)), rfl, (Ext.refl _), fun _ _ => rfl⟩
 refine Par.v0 25 7 ?_
 refine Par.c0 26 6 (fun f => #[f 24, Value.int IntKind.u64 19]) (F' := 82) (fun f X hX hR => ?_) ?_
 · have e24 : f 24 = _ := hR.out 24 rfl
   simp only [e24]
   refine (right19 x2 X).mono ?_
   rintro e w2 ⟨rfl, rfl⟩
   exact ⟨(.int .u32 ((rr 19 x2).toNat : Int)), rfl, (Ext.refl _), fun _ _ => rfl⟩
 refine Par.v2 27 5 23 25 (hR := fun _ _ h => h.trans (v_xor _ _)) ?_
 refine Par.v0 28 4 ?_
 refine Par.v1 29 3 27 (hR := fun _ _ h => h.trans (v_shr _ 10)) ?_
 refine Par.v2 30 2 26 28 (hR := fun _ _ h => h.trans (v_xor _ _)) ?_
 refine Par.v2 31 1 21 29 (hR := fun _ _ h => h.trans ((v_add (x16 + g0 x15 + x7) (g1 x2)).trans (congrArg (fun y : W => Value.int .u32 (y.toNat : Int)) hnw))) ?_
 refine Par.S 32 0 [(51, 0), (52, 1), (53, 2), (54, 3), (55, 4), (56, 5), (57, 6), (58, 7), (59, 8), (60, 9), (61, 10), (62, 11), (63, 12), (64, 13), (65, 14), (66, 15), (67, 16), (68, 17), (69, 18), (70, 19), (71, 20), (72, 21), (73, 22), (74, 23), (75, 24), (76, 25), (77, 26), (78, 27), (79, 28), (80, 29), (81, 30)] (fun f X hX hR K hK => ?_) ?_
 · have e0 : f 0 = _ := hR.out 0 rfl
   have e1 : f 1 = _ := hR.out 1 rfl
   simp only [yA, yB, yC, yD, yE, e0, e1]
   refine ⟨?_⟩
   go_simp
   exact Par.k hK (s := by simp only [yA, yB, yC, yD, yE, e0, e1])
 refine Par.AllOps.fin ⟨fun f X hX hR hal hap => ?_⟩
 have e30 : f 30 = _ := hR 30 (by decide)
 have e31 : f 31 = _ := hR 31 (by decide)
 simp only [yA, yB, yD, yE, e30, e31]
 clear hR hal hap e30 e31
 replace dk := hX.cell dk
 have fk' := fk X hX
 refine Par.Chain.next (fun K hK => ⟨Par.want (by kernel_rfl) ?_⟩)
 go_simp
 refine hK.out _ _ ?_
 refine Par.Chain.done ?_
 exact h X hX _ _ _ _ _ _ _ _ _ _ _ _ _ _ _ _ _ _ _ _ _ _ _ _ _ _ _ _ _ _ _ _
set_option maxRecDepth 100000 in
set_option maxHeartbeats 8000000 in
theorem rsha20 {Q : Exit → Act → World → Prop} {w : World} {gk gw gv cv k : Nat} {re rf rg rh kw x t : W} {u0 u1 u2 u3 u4 u6 u8 u9 u10 u14 u15 u16 u17 u18 u19 u20 u21 u22 u23 u24 u25 u26 u27 u28 u29 u30 u31 u32 u33 u34 u35 u36 u37 u38 u39 u40 u41 u42 u43 u44 u45 u46 u47 u48 u49 u50 u51 u52 u53 u54 u55 u56 u57 u58 u59 u60 u61 u62 u63 u64 u65 u66 u67 u68 u69 u70 u71 u72 u73 u74 u75 u76 u77 u78 u79 u80 u81 u82 u83 u84 u85 u86 u87 u88 u89 u90 u91 u92 u93 u94 u95 u96 u97 u98 u99 u100 u101 u102 u103 u104 u105 u106 u107 u108 u109 u110 u111 u112 u113 u114 u115 u116 u117 u118 u119 u120 u121 u122 u123 u124 u125 u126 u127 u128 u129 u130 u131 u132 u133 u134 u135 u136 u137 u138 u139 u140 u141 u142 u143 u144 u145 u146 u147 u148 u149 u150 u151 u152 u153 u154 u155 u156 u157 u158 u159 u160 u161 u162 u163 u164 u165 u166 u167 u168 u169 u170 u171 u172 u173 u174 u175 u176 u177 u178 u179 u180 u181 u182 u183 u184 u185 u186 u187 u188 u189 u190 u191 u192 u193 u194 u195 u196 u197 u198 u199 u200 : Value}
 (k64 : (k : Int) < 64) (v5 : w.cell? ⟨gv, 5, none⟩ = some (.int .u32 ((rf).toNat : Int))) (v6 : w.cell? ⟨gv, 6, none⟩ = some (.int .u32 ((rg).toNat : Int))) (v7 : w.cell? ⟨gv, 7, none⟩ = some (.int .u32 ((rh).toNat : Int))) (ck : w.cell? ⟨gk, k, none⟩ = some (.int .u32 ((kw).toNat : Int))) (cx : w.cell? ⟨gw, k, none⟩ = some (.int .u32 ((x).toNat : Int))) (ht : rh + S1 re + ch re rf rg + kw + x = t)
 (h : ∀ (X : World) , Ext w X → ∀ (y95 y96 y97 y98 y99 y100 y101 y102 y103 y104 y105 y106 y107 y108 y109 y110 y111 y112 y113 y114 y115 y116 y117 y118 y119 y120 y121 y122 y123 y124 y125 y126 y127 y128 y129 : Value), Q .normal { tmps := #[u0, u1, u2, u3, u4, .slice (some ⟨gk, 0, none⟩) 64 64, u6, .slice (some ⟨gw, 0, none⟩) 64 64, u8, u9, u10, .slice (some ⟨gv, 0, none⟩) 8 cv, .int .i64 (k : Int), .int .u32 ((re).toNat : Int), u14, .int .u32 ((t).toNat : Int), u16, u17, u18, u19, u20, u21, u22, u23, u24, u25, u26, u27, u28, u29, u30, u31, u32, u33, u34, u35, u36, u37, u38, u39, u40, u41, u42, u43, u44, u45, u46, u47, u48, u49, u50, u51, u52, u53, u54, u55, u56, u57, u58, u59, u60, u61, u62, u63, u64, u65, u66, u67, u68, u69, u70, u71, u72, u73, u74, u75, u76, u77, u78, u79, u80, u81, u82, u83, u84, u85, u86, u87, u88, u89, u90, u91, u92, u93, u94, y95, y96, y97, y98, y99, y100, y101, y102, y103, y104, y105, y106, y107, y108, y109, y110, y111, y112, y113, y114, y115, y116, y117, y118, y119, y120, y121, y122, y123, y124, y125, y126, y127, y128, y129, u130, u131, u132, u133, u134, u135, u136, u137, u138, u139, u140, u141, u142, u143, u144, u145, u146, u147, u148, u149, u150, u151, u152, u153, u154, u155, u156, u157, u158, u159, u160, u161, u162, u163, u164, u165, u166, u167, u168, u169, u170, u171, u172, u173, u174, u175, u176, u177, u178, u179, u180, u181, u182, u183, u184, u185, u186, u187, u188, u189, u190, u191, u192, u193, u194, u195, u196, u197, u198, u199, u200], defers := [] } X) :
 (regOf Tryd.f69 20).wp Tryd.prog Q { tmps := #[u0, u1, u2, u3, u4, .slice (some ⟨gk, 0, none⟩) 64 64, u6, .slice (some ⟨gw, 0, none⟩) 64 64, u8, u9, u10, .slice (some ⟨gv, 0, none⟩) 8 cv, .int .i64 (k : Int), .int .u32 ((re).toNat : Int), u14, u15, u16, u17, u18, u19, u20, u21, u22, u23, u24, u25, u26, u27, u28, u29, u30, u31, u32, u33, u34, u35, u36, u37, u38, u39, u40, u41, u42, u43, u44, u45, u46, u47, u48, u49, u50, u51, u52, u53, u54, u55, u56, u57, u58, u59, u60, u61, u62, u63, u64, u65, u66, u67, u68, u69, u70, u71, u72, u73, u74, u75, u76, u77, u78, u79, u80, u81, u82, u83, u84, u85, u86, u87, u88, u89, u90, u91, u92, u93, u94, u95, u96, u97, u98, u99, u100, u101, u102, u103, u104, u105, u106, u107, u108, u109, u110, u111, u112, u113, u114, u115, u116, u117, u118, u119, u120, u121, u122, u123, u124, u125, u126, u127, u128, u129, u130, u131, u132, u133, u134, u135, u136, u137, u138, u139, u140, u141, u142, u143, u144, u145, u146, u147, u148, u149, u150, u151, u152, u153, u154, u155, u156, u157, u158, u159, u160, u161, u162, u163, u164, u165, u166, u167, u168, u169, u170, u171, u172, u173, u174, u175, u176, u177, u178, u179, u180, u181, u182, u183, u184, u185, u186, u187, u188, u189, u190, u191, u192, u193, u194, u195, u196, u197, u198, u199, u200], defers := [] } w := by
 refine Par.region_ext (by kernel_rfl) 36 [0, 1, 3, 0, 8, 0, 56, 120, 0, 376, 1016, 2047, 0, 0, 8192, 24576, 61440, 0, 131072, 0, 524288, 1572864, 4063232, 8384512, 16777215, 0, 0, 100663296, 234881024, 536870911, 0, 0, 3221225472, 7516192768, 17179869183, 34359738367] [] (fun j f X => match j with
  | 0 => f 0 = .slice (some ⟨gv, 0, none⟩) 8 cv
  | 1 => f 1 = .pointer (some ⟨gv, 7, none⟩)
  | 2 => f 2 = .int .u32 ((rh).toNat : Int)
  | 3 => f 3 = .int .u32 ((re).toNat : Int)
  | 4 => f 4 = .int .u32 ((rr 6 re).toNat : Int)
  | 5 => f 5 = .int .u32 ((re).toNat : Int)
  | 6 => f 6 = .int .u32 ((rr 11 re).toNat : Int)
  | 7 => f 7 = .int .u32 (((rr 6 re) ^^^ (rr 11 re)).toNat : Int)
  | 8 => f 8 = .int .u32 ((re).toNat : Int)
  | 9 => f 9 = .int .u32 ((rr 25 re).toNat : Int)
  | 10 => f 10 = .int .u32 ((S1 re).toNat : Int)
  | 11 => f 11 = .int .u32 ((rh + (S1 re)).toNat : Int)
  | 12 => f 12 = .int .u32 ((re).toNat : Int)
  | 13 => f 13 = .slice (some ⟨gv, 0, none⟩) 8 cv
  | 14 => f 14 = .pointer (some ⟨gv, 5, none⟩)
  | 15 => f 15 = .int .u32 ((rf).toNat : Int)
  | 16 => f 16 = .int .u32 ((re &&& rf).toNat : Int)
  | 17 => f 17 = .int .u32 ((re).toNat : Int)
  | 18 => f 18 = .int .u32 ((~~~re).toNat : Int)
  | 19 => f 19 = .slice (some ⟨gv, 0, none⟩) 8 cv
  | 20 => f 20 = .pointer (some ⟨gv, 6, none⟩)
  | 21 => f 21 = .int .u32 ((rg).toNat : Int)
  | 22 => f 22 = .int .u32 (((~~~re) &&& rg).toNat : Int)
  | 23 => f 23 = .int .u32 ((ch re rf rg).toNat : Int)
  | 24 => f 24 = .int .u32 (((rh + (S1 re)) + (ch re rf rg)).toNat : Int)
  | 25 => f 25 = .slice (some ⟨gk, 0, none⟩) 64 64
  | 26 => f 26 = .int .i64 (k : Int)
  | 27 => f 27 = .pointer (some ⟨gk, k, none⟩)
  | 28 => f 28 = .int .u32 ((kw).toNat : Int)
  | 29 => f 29 = .int .u32 ((((rh + (S1 re)) + (ch re rf rg)) + kw).toNat : Int)
  | 30 => f 30 = .slice (some ⟨gw, 0, none⟩) 64 64
  | 31 => f 31 = .int .i64 (k : Int)
  | 32 => f 32 = .pointer (some ⟨gw, k, none⟩)
  | 33 => f 33 = .int .u32 ((x).toNat : Int)
  | 34 => f 34 = .int .u32 ((t).toNat : Int)
  | 35 => f 35 = .int .u32 ((t).toNat : Int)
  | _ => True) (by kernel_rfl) [(95, 0), (96, 1), (97, 2), (98, 3), (99, 4), (100, 5), (101, 6), (102, 7), (103, 8), (104, 9), (105, 10), (106, 11), (107, 12), (108, 13), (109, 14), (110, 15), (111, 16), (112, 17), (113, 18), (114, 19), (115, 20), (116, 21), (117, 22), (118, 23), (119, 24), (120, 25), (121, 26), (122, 27), (123, 28), (124, 29), (125, 30), (126, 31), (127, 32), (128, 33), (129, 34), (15, 35)] (by kernel_rfl) ?_
 refine Par.v0 1 35 ?_
 refine Par.v1 2 34 0 ?_
 refine Par.ld1 3 33 1 v7 ?_
 refine Par.v0 4 32 ?_
 refine Par.c0 5 31 (fun f => #[f 3, Value.int IntKind.u64 6]) (F' := 82) (fun f X hX hR => ?_) ?_
 · have e3 : f 3 = _ := hR.out 3 rfl
   simp only [e3]
   refine (right6 re X).mono ?_
   rintro e w2 ⟨rfl, rfl⟩
   exact ⟨(.int .u32 ((rr 6 re).toNat : Int)), rfl, (Ext.refl _), fun _ _ => rfl⟩
 refine Par.v0 6 30 ?_
 refine Par.c0 7 29 (fun f => #[f 5, Value.int IntKind.u64 11]) (F' := 82) (fun f X hX hR => ?_) ?_
 · have e5 : f 5 = _ := hR.out 5 rfl
   simp only [e5]
   refine (right11 re X).mono ?_
   rintro e w2 ⟨rfl, rfl⟩
   exact ⟨(.int .u32 ((rr 11 re).toNat : Int)), rfl, (Ext.refl _), fun _ _ => rfl⟩
 refine Par.v2 8 28 4 6 (hR := fun _ _ h => h.trans (v_xor _ _)) ?_
 refine Par.v0 9 27 ?_
 refine Par.c0 10 26 (fun f => #[f 8, Value.int IntKind.u64 25]) (F' := 82) (fun f X hX hR => ?_) ?_
 · have e8 : f 8 = _ := hR.out 8 rfl
   simp only [e8]
   refine (right25 re X).mono ?_
   rintro e w2 ⟨rfl, rfl⟩
   exact ⟨(.int .u32 ((rr 25 re).toNat : Int)), rfl, (Ext.refl _), fun _ _ => rfl⟩
 refine Par.v2 11 25 7 9 (hR := fun _ _ h => h.trans (v_xor _ _)) ?_
 refine Par.v2 12 24 2 10 (hR := fun _ _ h => h.trans (v_add _ _)) ?_
 refine Par.v0 13 23 ?_
 refine Par.v0 14 22 ?_
 refine Par.v1 15 21 13 ?_
 refine Par.ld1 16 20 14 v5 ?_
 refine Par.v2 17 19 12 15 (hR := fun _ _ h => h.trans (v_and _ _)) ?_
 refine Par.v0 18 18 ?_
 refine Par.v1 19 17 17 (hR := fun _ _ h => h.trans (v_not _)) ?_
 refine Par.v0 20 16 ?_
 refine Par.v1 21 15 19 ?_
 refine Par.ld1 22 14 20 v6 ?_
 refine Par.v2 23 13 18 21 (hR := fun _ _ h => h.trans (v_and _ _)) ?_
 refine Par.v2 24 12 16 22 (hR := fun _ _ h => h.trans (v_xor _ _)) ?_
 refine Par.v2 25 11 11 23 (hR := fun _ _ h => h.trans (v_add _ _)) ?_
 refine Par.v0 26 10 ?_
 refine Par.v0 27 9 ?_
 refine Par.S 28 8 [(95, 0), (96, 1), (97, 2), (98, 3), (99, 4), (100, 5), (101, 6), (102, 7), (103, 8), (104, 9), (105, 10), (106, 11), (107, 12), (108, 13), (109, 14), (110, 15), (111, 16), (112, 17), (113, 18), (114, 19), (115, 20), (116, 21), (117, 22), (118, 23), (119, 24), (120, 25), (121, 26), (125, 30), (126, 31), (127, 32), (128, 33)] (fun f X hX hR K hK => ?_) ?_
 · have e25 : f 25 = _ := hR.out 25 rfl
   have e26 : f 26 = _ := hR.out 26 rfl
   simp only [yA, yB, yC, yD, yE, e25, e26]
   refine ⟨?_⟩
   go_simp
   exact Par.k hK (s := by simp only [yA, yB, yC, yD, yE, e25, e26])
 refine Par.ld1 29 7 27 ck ?_
 refine Par.v2 30 6 24 28 (hR := fun _ _ h => h.trans (v_add _ _)) ?_
 refine Par.v0 31 5 ?_
 refine Par.v0 32 4 ?_
 refine Par.S 33 3 [(95, 0), (96, 1), (97, 2), (98, 3), (99, 4), (100, 5), (101, 6), (102, 7), (103, 8), (104, 9), (105, 10), (106, 11), (107, 12), (108, 13), (109, 14), (110, 15), (111, 16), (112, 17), (113, 18), (114, 19), (115, 20), (116, 21), (117, 22), (118, 23), (119, 24), (120, 25), (121, 26), (122, 27), (123, 28), (124, 29), (125, 30), (126, 31)] (fun f X hX hR K hK => ?_) ?_
 · have e30 : f 30 = _ := hR.out 30 rfl
   have e31 : f 31 = _ := hR.out 31 rfl
   simp only [yA, yB, yC, yD, yE, e30, e31]
   refine ⟨?_⟩
   go_simp
   exact Par.k hK (s := by simp only [yA, yB, yC, yD, yE, e30, e31])
 refine Par.ld1 34 2 32 cx ?_
 refine Par.v2 35 1 29 33 (hR := fun _ _ h => h.trans ((v_add _ _).trans (congrArg (fun y : W => Value.int .u32 (y.toNat : Int)) ht))) ?_
 refine Par.v1 36 0 34 ?_
 refine Par.AllOps.fin ⟨fun f X hX hR hal hap => ?_⟩
 have e35 : f 35 = _ := hR 35 (by decide)
 simp only [yA, yB, yD, yE, e35]
 clear hR hal hap e35
 refine Par.Chain.done ?_
 exact h X hX _ _ _ _ _ _ _ _ _ _ _ _ _ _ _ _ _ _ _ _ _ _ _ _ _ _ _ _ _ _ _ _ _ _ _
set_option maxRecDepth 100000 in
set_option maxHeartbeats 8000000 in
theorem rsha21 {Q : Exit → Act → World → Prop} {w : World} {gv cv : Nat} {ra rb rc u : W} {u0 u1 u2 u3 u4 u5 u6 u7 u8 u9 u10 u12 u13 u15 u16 u17 u18 u19 u20 u21 u22 u23 u24 u25 u26 u27 u28 u29 u30 u31 u32 u33 u34 u35 u36 u37 u38 u39 u40 u41 u42 u43 u44 u45 u46 u47 u48 u49 u50 u51 u52 u53 u54 u55 u56 u57 u58 u59 u60 u61 u62 u63 u64 u65 u66 u67 u68 u69 u70 u71 u72 u73 u74 u75 u76 u77 u78 u79 u80 u81 u82 u83 u84 u85 u86 u87 u88 u89 u90 u91 u92 u93 u94 u95 u96 u97 u98 u99 u100 u101 u102 u103 u104 u105 u106 u107 u108 u109 u110 u111 u112 u113 u114 u115 u116 u117 u118 u119 u120 u121 u122 u123 u124 u125 u126 u127 u128 u129 u130 u131 u132 u133 u134 u135 u136 u137 u138 u139 u140 u141 u142 u143 u144 u145 u146 u147 u148 u149 u150 u151 u152 u153 u154 u155 u156 u157 u158 u159 u160 u161 u162 u163 u164 u165 u166 u167 u168 u169 u170 u171 u172 u173 u174 u175 u176 u177 u178 u179 u180 u181 u182 u183 u184 u185 u186 u187 u188 u189 u190 u191 u192 u193 u194 u195 u196 u197 u198 u199 u200 : Value}
 (v1 : w.cell? ⟨gv, 1, none⟩ = some (.int .u32 ((rb).toNat : Int))) (v2 : w.cell? ⟨gv, 2, none⟩ = some (.int .u32 ((rc).toNat : Int))) (hu : S0 ra + mj ra rb rc = u)
 (h : ∀ (X : World) , Ext w X → ∀ (y130 y131 y132 y133 y134 y135 y136 y137 y138 y139 y140 y141 y142 y143 y144 y145 y146 y147 y148 y149 y150 y151 y152 y153 y154 y155 y156 y157 : Value), Q .normal { tmps := #[u0, u1, u2, u3, u4, u5, u6, u7, u8, u9, u10, .slice (some ⟨gv, 0, none⟩) 8 cv, u12, u13, .int .u32 ((ra).toNat : Int), u15, .int .u32 ((u).toNat : Int), u17, u18, u19, u20, u21, u22, u23, u24, u25, u26, u27, u28, u29, u30, u31, u32, u33, u34, u35, u36, u37, u38, u39, u40, u41, u42, u43, u44, u45, u46, u47, u48, u49, u50, u51, u52, u53, u54, u55, u56, u57, u58, u59, u60, u61, u62, u63, u64, u65, u66, u67, u68, u69, u70, u71, u72, u73, u74, u75, u76, u77, u78, u79, u80, u81, u82, u83, u84, u85, u86, u87, u88, u89, u90, u91, u92, u93, u94, u95, u96, u97, u98, u99, u100, u101, u102, u103, u104, u105, u106, u107, u108, u109, u110, u111, u112, u113, u114, u115, u116, u117, u118, u119, u120, u121, u122, u123, u124, u125, u126, u127, u128, u129, y130, y131, y132, y133, y134, y135, y136, y137, y138, y139, y140, y141, y142, y143, y144, y145, y146, y147, y148, y149, y150, y151, y152, y153, y154, y155, y156, y157, u158, u159, u160, u161, u162, u163, u164, u165, u166, u167, u168, u169, u170, u171, u172, u173, u174, u175, u176, u177, u178, u179, u180, u181, u182, u183, u184, u185, u186, u187, u188, u189, u190, u191, u192, u193, u194, u195, u196, u197, u198, u199, u200], defers := [] } X) :
 (regOf Tryd.f69 21).wp Tryd.prog Q { tmps := #[u0, u1, u2, u3, u4, u5, u6, u7, u8, u9, u10, .slice (some ⟨gv, 0, none⟩) 8 cv, u12, u13, .int .u32 ((ra).toNat : Int), u15, u16, u17, u18, u19, u20, u21, u22, u23, u24, u25, u26, u27, u28, u29, u30, u31, u32, u33, u34, u35, u36, u37, u38, u39, u40, u41, u42, u43, u44, u45, u46, u47, u48, u49, u50, u51, u52, u53, u54, u55, u56, u57, u58, u59, u60, u61, u62, u63, u64, u65, u66, u67, u68, u69, u70, u71, u72, u73, u74, u75, u76, u77, u78, u79, u80, u81, u82, u83, u84, u85, u86, u87, u88, u89, u90, u91, u92, u93, u94, u95, u96, u97, u98, u99, u100, u101, u102, u103, u104, u105, u106, u107, u108, u109, u110, u111, u112, u113, u114, u115, u116, u117, u118, u119, u120, u121, u122, u123, u124, u125, u126, u127, u128, u129, u130, u131, u132, u133, u134, u135, u136, u137, u138, u139, u140, u141, u142, u143, u144, u145, u146, u147, u148, u149, u150, u151, u152, u153, u154, u155, u156, u157, u158, u159, u160, u161, u162, u163, u164, u165, u166, u167, u168, u169, u170, u171, u172, u173, u174, u175, u176, u177, u178, u179, u180, u181, u182, u183, u184, u185, u186, u187, u188, u189, u190, u191, u192, u193, u194, u195, u196, u197, u198, u199, u200], defers := [] } w := by
 refine Par.region_ext (by kernel_rfl) 29 [0, 1, 0, 7, 15, 0, 47, 127, 0, 0, 512, 1536, 3840, 0, 0, 16384, 49152, 122880, 261888, 0, 524288, 1572864, 0, 4194304, 12582912, 33030144, 67108608, 134217727, 268435455] [] (fun j f X => match j with
  | 0 => f 0 = .int .u32 ((ra).toNat : Int)
  | 1 => f 1 = .int .u32 ((rr 2 ra).toNat : Int)
  | 2 => f 2 = .int .u32 ((ra).toNat : Int)
  | 3 => f 3 = .int .u32 ((rr 13 ra).toNat : Int)
  | 4 => f 4 = .int .u32 (((rr 2 ra) ^^^ (rr 13 ra)).toNat : Int)
  | 5 => f 5 = .int .u32 ((ra).toNat : Int)
  | 6 => f 6 = .int .u32 ((rr 22 ra).toNat : Int)
  | 7 => f 7 = .int .u32 ((S0 ra).toNat : Int)
  | 8 => f 8 = .int .u32 ((ra).toNat : Int)
  | 9 => f 9 = .slice (some ⟨gv, 0, none⟩) 8 cv
  | 10 => f 10 = .pointer (some ⟨gv, 1, none⟩)
  | 11 => f 11 = .int .u32 ((rb).toNat : Int)
  | 12 => f 12 = .int .u32 ((ra &&& rb).toNat : Int)
  | 13 => f 13 = .int .u32 ((ra).toNat : Int)
  | 14 => f 14 = .slice (some ⟨gv, 0, none⟩) 8 cv
  | 15 => f 15 = .pointer (some ⟨gv, 2, none⟩)
  | 16 => f 16 = .int .u32 ((rc).toNat : Int)
  | 17 => f 17 = .int .u32 ((ra &&& rc).toNat : Int)
  | 18 => f 18 = .int .u32 (((ra &&& rb) ^^^ (ra &&& rc)).toNat : Int)
  | 19 => f 19 = .slice (some ⟨gv, 0, none⟩) 8 cv
  | 20 => f 20 = .pointer (some ⟨gv, 1, none⟩)
  | 21 => f 21 = .int .u32 ((rb).toNat : Int)
  | 22 => f 22 = .slice (some ⟨gv, 0, none⟩) 8 cv
  | 23 => f 23 = .pointer (some ⟨gv, 2, none⟩)
  | 24 => f 24 = .int .u32 ((rc).toNat : Int)
  | 25 => f 25 = .int .u32 ((rb &&& rc).toNat : Int)
  | 26 => f 26 = .int .u32 ((mj ra rb rc).toNat : Int)
  | 27 => f 27 = .int .u32 ((u).toNat : Int)
  | 28 => f 28 = .int .u32 ((u).toNat : Int)
  | _ => True) (by kernel_rfl) [(130, 0), (131, 1), (132, 2), (133, 3), (134, 4), (135, 5), (136, 6), (137, 7), (138, 8), (139, 9), (140, 10), (141, 11), (142, 12), (143, 13), (144, 14), (145, 15), (146, 16), (147, 17), (148, 18), (149, 19), (150, 20), (151, 21), (152, 22), (153, 23), (154, 24), (155, 25), (156, 26), (157, 27), (16, 28)] (by kernel_rfl) ?_
 refine Par.v0 1 28 ?_
 refine Par.c0 2 27 (fun f => #[f 0, Value.int IntKind.u64 2]) (F' := 82) (fun f X hX hR => ?_) ?_
 · have e0 : f 0 = _ := hR.out 0 rfl
   simp only [e0]
   refine (right2 ra X).mono ?_
   rintro e w2 ⟨rfl, rfl⟩
   exact ⟨(.int .u32 ((rr 2 ra).toNat : Int)), rfl, (Ext.refl _), fun _ _ => rfl⟩
 refine Par.v0 3 26 ?_
 refine Par.c0 4 25 (fun f => #[f 2, Value.int IntKind.u64 13]) (F' := 82) (fun f X hX hR => ?_) ?_
 · have e2 : f 2 = _ := hR.out 2 rfl
   simp only [e2]
   refine (right13 ra X).mono ?_
   rintro e w2 ⟨rfl, rfl⟩
   exact ⟨(.int .u32 ((rr 13 ra).toNat : Int)), rfl, (Ext.refl _), fun _ _ => rfl⟩
 refine Par.v2 5 24 1 3 (hR := fun _ _ h => h.trans (v_xor _ _)) ?_
 refine Par.v0 6 23 ?_
 refine Par.c0 7 22 (fun f => #[f 5, Value.int IntKind.u64 22]) (F' := 82) (fun f X hX hR => ?_) ?_
 · have e5 : f 5 = _ := hR.out 5 rfl
   simp only [e5]
   refine (right22 ra X).mono ?_
   rintro e w2 ⟨rfl, rfl⟩
   exact ⟨(.int .u32 ((rr 22 ra).toNat : Int)), rfl, (Ext.refl _), fun _ _ => rfl⟩
 refine Par.v2 8 21 4 6 (hR := fun _ _ h => h.trans (v_xor _ _)) ?_
 refine Par.v0 9 20 ?_
 refine Par.v0 10 19 ?_
 refine Par.v1 11 18 9 ?_
 refine Par.ld1 12 17 10 v1 ?_
 refine Par.v2 13 16 8 11 (hR := fun _ _ h => h.trans (v_and _ _)) ?_
 refine Par.v0 14 15 ?_
 refine Par.v0 15 14 ?_
 refine Par.v1 16 13 14 ?_
 refine Par.ld1 17 12 15 v2 ?_
 refine Par.v2 18 11 13 16 (hR := fun _ _ h => h.trans (v_and _ _)) ?_
 refine Par.v2 19 10 12 17 (hR := fun _ _ h => h.trans (v_xor _ _)) ?_
 refine Par.v0 20 9 ?_
 refine Par.v1 21 8 19 ?_
 refine Par.ld1 22 7 20 v1 ?_
 refine Par.v0 23 6 ?_
 refine Par.v1 24 5 22 ?_
 refine Par.ld1 25 4 23 v2 ?_
 refine Par.v2 26 3 21 24 (hR := fun _ _ h => h.trans (v_and _ _)) ?_
 refine Par.v2 27 2 18 25 (hR := fun _ _ h => h.trans (v_xor _ _)) ?_
 refine Par.v2 28 1 7 26 (hR := fun _ _ h => h.trans ((v_add _ _).trans (congrArg (fun y : W => Value.int .u32 (y.toNat : Int)) hu))) ?_
 refine Par.v1 29 0 27 ?_
 refine Par.AllOps.fin ⟨fun f X hX hR hal hap => ?_⟩
 have e28 : f 28 = _ := hR 28 (by decide)
 simp only [yA, yB, yD, yE, e28]
 clear hR hal hap e28
 refine Par.Chain.done ?_
 exact h X hX _ _ _ _ _ _ _ _ _ _ _ _ _ _ _ _ _ _ _ _ _ _ _ _ _ _ _ _
set_option maxRecDepth 100000 in
set_option maxHeartbeats 8000000 in
theorem rsha22 {Q : Exit → Act → World → Prop} {w : World} {gv cv : Nat} {ra rb rc rd re rf rg t u na ne : W} {u0 u1 u2 u3 u4 u5 u6 u7 u8 u9 u10 u12 u13 u14 u17 u18 u19 u20 u21 u22 u23 u24 u25 u26 u27 u28 u29 u30 u31 u32 u33 u34 u35 u36 u37 u38 u39 u40 u41 u42 u43 u44 u45 u46 u47 u48 u49 u50 u51 u52 u53 u54 u55 u56 u57 u58 u59 u60 u61 u62 u63 u64 u65 u66 u67 u68 u69 u70 u71 u72 u73 u74 u75 u76 u77 u78 u79 u80 u81 u82 u83 u84 u85 u86 u87 u88 u89 u90 u91 u92 u93 u94 u95 u96 u97 u98 u99 u100 u101 u102 u103 u104 u105 u106 u107 u108 u109 u110 u111 u112 u113 u114 u115 u116 u117 u118 u119 u120 u121 u122 u123 u124 u125 u126 u127 u128 u129 u130 u131 u132 u133 u134 u135 u136 u137 u138 u139 u140 u141 u142 u143 u144 u145 u146 u147 u148 u149 u150 u151 u152 u153 u154 u155 u156 u157 u158 u159 u160 u161 u162 u163 u164 u165 u166 u167 u168 u169 u170 u171 u172 u173 u174 u175 u176 u177 u178 u179 u180 u181 u182 u183 u184 u185 u186 u187 u188 u189 u190 u191 u192 u193 u194 u195 u196 u197 u198 u199 u200 : Value}
 (v0 : w.cell? ⟨gv, 0, none⟩ = some (.int .u32 ((ra).toNat : Int))) (v1 : w.cell? ⟨gv, 1, none⟩ = some (.int .u32 ((rb).toNat : Int))) (v2 : w.cell? ⟨gv, 2, none⟩ = some (.int .u32 ((rc).toNat : Int))) (v3 : w.cell? ⟨gv, 3, none⟩ = some (.int .u32 ((rd).toNat : Int))) (v4 : w.cell? ⟨gv, 4, none⟩ = some (.int .u32 ((re).toNat : Int))) (v5 : w.cell? ⟨gv, 5, none⟩ = some (.int .u32 ((rf).toNat : Int))) (v6 : w.cell? ⟨gv, 6, none⟩ = some (.int .u32 ((rg).toNat : Int))) (hna : t + u = na) (hne : rd + t = ne)
 (h : ∀ (X : World) (g' : Nat) , Ext w X → w.heap.size ≤ g' → VC X g' [na, ra, rb, rc, ne, re, rf, rg] → ∀ (y158 y159 y160 y161 y162 y163 y164 y165 y166 y167 y168 y169 y170 y171 y172 y173 y174 y175 y176 y177 y178 y179 y180 y181 y182 y183 y184 : Value), Q .normal { tmps := #[u0, u1, u2, u3, u4, u5, u6, u7, u8, u9, u10, .slice (some ⟨g', 0, none⟩) 8 8, u12, u13, u14, .int .u32 ((t).toNat : Int), .int .u32 ((u).toNat : Int), u17, u18, u19, u20, u21, u22, u23, u24, u25, u26, u27, u28, u29, u30, u31, u32, u33, u34, u35, u36, u37, u38, u39, u40, u41, u42, u43, u44, u45, u46, u47, u48, u49, u50, u51, u52, u53, u54, u55, u56, u57, u58, u59, u60, u61, u62, u63, u64, u65, u66, u67, u68, u69, u70, u71, u72, u73, u74, u75, u76, u77, u78, u79, u80, u81, u82, u83, u84, u85, u86, u87, u88, u89, u90, u91, u92, u93, u94, u95, u96, u97, u98, u99, u100, u101, u102, u103, u104, u105, u106, u107, u108, u109, u110, u111, u112, u113, u114, u115, u116, u117, u118, u119, u120, u121, u122, u123, u124, u125, u126, u127, u128, u129, u130, u131, u132, u133, u134, u135, u136, u137, u138, u139, u140, u141, u142, u143, u144, u145, u146, u147, u148, u149, u150, u151, u152, u153, u154, u155, u156, u157, y158, y159, y160, y161, y162, y163, y164, y165, y166, y167, y168, y169, y170, y171, y172, y173, y174, y175, y176, y177, y178, y179, y180, y181, y182, y183, y184, u185, u186, u187, u188, u189, u190, u191, u192, u193, u194, u195, u196, u197, u198, u199, u200], defers := [] } X) :
 (regOf Tryd.f69 22).wp Tryd.prog Q { tmps := #[u0, u1, u2, u3, u4, u5, u6, u7, u8, u9, u10, .slice (some ⟨gv, 0, none⟩) 8 cv, u12, u13, u14, .int .u32 ((t).toNat : Int), .int .u32 ((u).toNat : Int), u17, u18, u19, u20, u21, u22, u23, u24, u25, u26, u27, u28, u29, u30, u31, u32, u33, u34, u35, u36, u37, u38, u39, u40, u41, u42, u43, u44, u45, u46, u47, u48, u49, u50, u51, u52, u53, u54, u55, u56, u57, u58, u59, u60, u61, u62, u63, u64, u65, u66, u67, u68, u69, u70, u71, u72, u73, u74, u75, u76, u77, u78, u79, u80, u81, u82, u83, u84, u85, u86, u87, u88, u89, u90, u91, u92, u93, u94, u95, u96, u97, u98, u99, u100, u101, u102, u103, u104, u105, u106, u107, u108, u109, u110, u111, u112, u113, u114, u115, u116, u117, u118, u119, u120, u121, u122, u123, u124, u125, u126, u127, u128, u129, u130, u131, u132, u133, u134, u135, u136, u137, u138, u139, u140, u141, u142, u143, u144, u145, u146, u147, u148, u149, u150, u151, u152, u153, u154, u155, u156, u157, u158, u159, u160, u161, u162, u163, u164, u165, u166, u167, u168, u169, u170, u171, u172, u173, u174, u175, u176, u177, u178, u179, u180, u181, u182, u183, u184, u185, u186, u187, u188, u189, u190, u191, u192, u193, u194, u195, u196, u197, u198, u199, u200], defers := [] } w := by
 refine Par.region_ext (by kernel_rfl) 28 [0, 0, 3, 0, 8, 24, 0, 64, 192, 0, 512, 1536, 0, 4096, 12288, 0, 61440, 0, 131072, 393216, 0, 1048576, 3145728, 0, 8388608, 25165824, 67108863, 134217727] [] (fun j f X => match j with
  | 0 => f 0 = .int .u32 ((t).toNat : Int)
  | 1 => f 1 = .int .u32 ((u).toNat : Int)
  | 2 => f 2 = .int .u32 ((na).toNat : Int)
  | 3 => f 3 = .slice (some ⟨gv, 0, none⟩) 8 cv
  | 4 => f 4 = .pointer (some ⟨gv, 0, none⟩)
  | 5 => f 5 = .int .u32 ((ra).toNat : Int)
  | 6 => f 6 = .slice (some ⟨gv, 0, none⟩) 8 cv
  | 7 => f 7 = .pointer (some ⟨gv, 1, none⟩)
  | 8 => f 8 = .int .u32 ((rb).toNat : Int)
  | 9 => f 9 = .slice (some ⟨gv, 0, none⟩) 8 cv
  | 10 => f 10 = .pointer (some ⟨gv, 2, none⟩)
  | 11 => f 11 = .int .u32 ((rc).toNat : Int)
  | 12 => f 12 = .slice (some ⟨gv, 0, none⟩) 8 cv
  | 13 => f 13 = .pointer (some ⟨gv, 3, none⟩)
  | 14 => f 14 = .int .u32 ((rd).toNat : Int)
  | 15 => f 15 = .int .u32 ((t).toNat : Int)
  | 16 => f 16 = .int .u32 ((ne).toNat : Int)
  | 17 => f 17 = .slice (some ⟨gv, 0, none⟩) 8 cv
  | 18 => f 18 = .pointer (some ⟨gv, 4, none⟩)
  | 19 => f 19 = .int .u32 ((re).toNat : Int)
  | 20 => f 20 = .slice (some ⟨gv, 0, none⟩) 8 cv
  | 21 => f 21 = .pointer (some ⟨gv, 5, none⟩)
  | 22 => f 22 = .int .u32 ((rf).toNat : Int)
  | 23 => f 23 = .slice (some ⟨gv, 0, none⟩) 8 cv
  | 24 => f 24 = .pointer (some ⟨gv, 6, none⟩)
  | 25 => f 25 = .int .u32 ((rg).toNat : Int)
  | 26 => ∃ g, f 26 = .slice (some ⟨g, 0, none⟩) 8 8 ∧ w.heap.size ≤ g ∧ VC X g [na, ra, rb, rc, ne, re, rf, rg]
  | 27 => ∃ g, f 27 = .slice (some ⟨g, 0, none⟩) 8 8 ∧ w.heap.size ≤ g ∧ VC X g [na, ra, rb, rc, ne, re, rf, rg]
  | _ => True) (by kernel_rfl) [(158, 0), (159, 1), (160, 2), (161, 3), (162, 4), (163, 5), (164, 6), (165, 7), (166, 8), (167, 9), (168, 10), (169, 11), (170, 12), (171, 13), (172, 14), (173, 15), (174, 16), (175, 17), (176, 18), (177, 19), (178, 20), (179, 21), (180, 22), (181, 23), (182, 24), (183, 25), (184, 26), (11, 27)] (by kernel_rfl) ?_
 refine Par.v0 1 27 ?_
 refine Par.v0 2 26 ?_
 refine Par.v2 3 25 0 1 (hR := fun _ _ h => h.trans ((v_add _ _).trans (congrArg (fun y : W => Value.int .u32 (y.toNat : Int)) hna))) ?_
 refine Par.v0 4 24 ?_
 refine Par.v1 5 23 3 ?_
 refine Par.ld1 6 22 4 v0 ?_
 refine Par.v0 7 21 ?_
 refine Par.v1 8 20 6 ?_
 refine Par.ld1 9 19 7 v1 ?_
 refine Par.v0 10 18 ?_
 refine Par.v1 11 17 9 ?_
 refine Par.ld1 12 16 10 v2 ?_
 refine Par.v0 13 15 ?_
 refine Par.v1 14 14 12 ?_
 refine Par.ld1 15 13 13 v3 ?_
 refine Par.v0 16 12 ?_
 refine Par.v2 17 11 14 15 (hR := fun _ _ h => h.trans ((v_add _ _).trans (congrArg (fun y : W => Value.int .u32 (y.toNat : Int)) hne))) ?_
 refine Par.v0 18 10 ?_
 refine Par.v1 19 9 17 ?_
 refine Par.ld1 20 8 18 v4 ?_
 refine Par.v0 21 7 ?_
 refine Par.v1 22 6 20 ?_
 refine Par.ld1 23 5 21 v5 ?_
 refine Par.v0 24 4 ?_
 refine Par.v1 25 3 23 ?_
 refine Par.ld1 26 2 24 v6 ?_
 refine Par.S 27 1 [(158, 0), (159, 1), (160, 2), (161, 3), (162, 4), (163, 5), (164, 6), (165, 7), (166, 8), (167, 9), (168, 10), (169, 11), (170, 12), (171, 13), (172, 14), (173, 15), (174, 16), (175, 17), (176, 18), (177, 19), (178, 20), (179, 21), (180, 22), (181, 23), (182, 24), (183, 25)] (fun f X hX hR K hK => ?_) ?_
 · have e2 : f 2 = _ := hR.out 2 rfl
   have e5 : f 5 = _ := hR.out 5 rfl
   have e8 : f 8 = _ := hR.out 8 rfl
   have e11 : f 11 = _ := hR.out 11 rfl
   have e16 : f 16 = _ := hR.out 16 rfl
   have e19 : f 19 = _ := hR.out 19 rfl
   have e22 : f 22 = _ := hR.out 22 rfl
   have e25 : f 25 = _ := hR.out 25 rfl
   simp only [yA, yB, yC, yD, yE, e2, e5, e8, e11, e16, e19, e22, e25]
   refine ⟨?_⟩
   go_simp
   exact hK.out _ _ _ (by simp only [yA, yB, yC, yD, yE, e2, e5, e8, e11, e16, e19, e22, e25]) (Ext.alloc _ _) trivial (fun Y hY => ⟨_, rfl, hX.bsize, (VB.vc (show VB _ _ [na, ra, rb, rc, ne, re, rf, rg] 83 from heap_alloc_new _ _)).ext hY⟩)
 refine Par.S 28 0 [(158, 0), (159, 1), (160, 2), (161, 3), (162, 4), (163, 5), (164, 6), (165, 7), (166, 8), (167, 9), (168, 10), (169, 11), (170, 12), (171, 13), (172, 14), (173, 15), (174, 16), (175, 17), (176, 18), (177, 19), (178, 20), (179, 21), (180, 22), (181, 23), (182, 24), (183, 25), (184, 26)] (fun f X hX hR K hK => ?_) ?_
 · obtain ⟨g26, (e26 : f 26 = _), l26, h26⟩ := hR.out 26 rfl
   simp only [yA, yB, yC, yD, yE, e26]
   refine ⟨?_⟩
   go_simp
   exact hK.out _ _ _ (by simp only [yA, yB, yC, yD, yE, e26]) (Ext.refl _) trivial (fun Y hY => ⟨_, rfl, l26, h26.ext hY⟩)
 refine Par.AllOps.fin ⟨fun f X hX hR hal hap => ?_⟩
 obtain ⟨g26, (e26 : f 26 = _), l26, h26⟩ := hR 26 (by decide)
 obtain ⟨g27, (e27 : f 27 = _), l27, h27⟩ := hR 27 (by decide)
 simp only [yA, yB, yD, yE, e26, e27]
 clear hR hal hap e26 e27
 refine Par.Chain.done ?_
 exact h X g27 hX l27 h27 _ _ _ _ _ _ _ _ _ _ _ _ _ _ _ _ _ _ _ _ _ _ _ _ _ _ _
set_option maxRecDepth 100000 in
set_option maxHeartbeats 8000000 in
theorem rsha26 {Q : Exit → Act → World → Prop} {w : World} {g gv cv k : Nat} {x y z : W} {u0 u2 u3 u4 u5 u6 u7 u8 u9 u10 u12 u13 u14 u15 u16 u18 u19 u20 u21 u22 u23 u24 u25 u26 u27 u28 u29 u30 u31 u32 u33 u34 u35 u36 u37 u38 u39 u40 u41 u42 u43 u44 u45 u46 u47 u48 u49 u50 u51 u52 u53 u54 u55 u56 u57 u58 u59 u60 u61 u62 u63 u64 u65 u66 u67 u68 u69 u70 u71 u72 u73 u74 u75 u76 u77 u78 u79 u80 u81 u82 u83 u84 u85 u86 u87 u88 u89 u90 u91 u92 u93 u94 u95 u96 u97 u98 u99 u100 u101 u102 u103 u104 u105 u106 u107 u108 u109 u110 u111 u112 u113 u114 u115 u116 u117 u118 u119 u120 u121 u122 u123 u124 u125 u126 u127 u128 u129 u130 u131 u132 u133 u134 u135 u136 u137 u138 u139 u140 u141 u142 u143 u144 u145 u146 u147 u148 u149 u150 u151 u152 u153 u154 u155 u156 u157 u158 u159 u160 u161 u162 u163 u164 u165 u166 u167 u168 u169 u170 u171 u172 u173 u174 u175 u176 u177 u178 u179 u180 u181 u182 u183 u184 u185 u186 u187 u188 u189 u190 u191 u192 u193 u194 u195 u196 u197 u198 u199 u200 : Value}
 (k8 : (k : Int) < 8) (_hcv : 8 ≤ cv) (ck : w.cell? ⟨g, k, none⟩ = some (.int .u32 ((y).toNat : Int))) (cx : w.cell? ⟨gv, k, none⟩ = some (.int .u32 ((x).toNat : Int))) (fk : ∀ X, Ext w X → X.frozen? ⟨g, k, none⟩ = false) (hz : y + x = z)
 (h : ∀ (X : World) , Ext w X → ∀ (y189 y190 y191 y192 y193 y194 y195 y196 y197 y198 : Value), Q .normal { tmps := #[u0, .slice (some ⟨g, 0, none⟩) 8 8, u2, u3, u4, u5, u6, u7, u8, u9, u10, .slice (some ⟨gv, 0, none⟩) 8 cv, u12, u13, u14, u15, u16, .int .i64 (k : Int), u18, u19, u20, u21, u22, u23, u24, u25, u26, u27, u28, u29, u30, u31, u32, u33, u34, u35, u36, u37, u38, u39, u40, u41, u42, u43, u44, u45, u46, u47, u48, u49, u50, u51, u52, u53, u54, u55, u56, u57, u58, u59, u60, u61, u62, u63, u64, u65, u66, u67, u68, u69, u70, u71, u72, u73, u74, u75, u76, u77, u78, u79, u80, u81, u82, u83, u84, u85, u86, u87, u88, u89, u90, u91, u92, u93, u94, u95, u96, u97, u98, u99, u100, u101, u102, u103, u104, u105, u106, u107, u108, u109, u110, u111, u112, u113, u114, u115, u116, u117, u118, u119, u120, u121, u122, u123, u124, u125, u126, u127, u128, u129, u130, u131, u132, u133, u134, u135, u136, u137, u138, u139, u140, u141, u142, u143, u144, u145, u146, u147, u148, u149, u150, u151, u152, u153, u154, u155, u156, u157, u158, u159, u160, u161, u162, u163, u164, u165, u166, u167, u168, u169, u170, u171, u172, u173, u174, u175, u176, u177, u178, u179, u180, u181, u182, u183, u184, u185, u186, u187, u188, y189, y190, y191, y192, y193, y194, y195, y196, y197, y198, u199, u200], defers := [] } (X.setCell ⟨g, k, none⟩ (.int .u32 ((z).toNat : Int)))) :
 (regOf Tryd.f69 26).wp Tryd.prog Q { tmps := #[u0, .slice (some ⟨g, 0, none⟩) 8 8, u2, u3, u4, u5, u6, u7, u8, u9, u10, .slice (some ⟨gv, 0, none⟩) 8 cv, u12, u13, u14, u15, u16, .int .i64 (k : Int), u18, u19, u20, u21, u22, u23, u24, u25, u26, u27, u28, u29, u30, u31, u32, u33, u34, u35, u36, u37, u38, u39, u40, u41, u42, u43, u44, u45, u46, u47, u48, u49, u50, u51, u52, u53, u54, u55, u56, u57, u58, u59, u60, u61, u62, u63, u64, u65, u66, u67, u68, u69, u70, u71, u72, u73, u74, u75, u76, u77, u78, u79, u80, u81, u82, u83, u84, u85, u86, u87, u88, u89, u90, u91, u92, u93, u94, u95, u96, u97, u98, u99, u100, u101, u102, u103, u104, u105, u106, u107, u108, u109, u110, u111, u112, u113, u114, u115, u116, u117, u118, u119, u120, u121, u122, u123, u124, u125, u126, u127, u128, u129, u130, u131, u132, u133, u134, u135, u136, u137, u138, u139, u140, u141, u142, u143, u144, u145, u146, u147, u148, u149, u150, u151, u152, u153, u154, u155, u156, u157, u158, u159, u160, u161, u162, u163, u164, u165, u166, u167, u168, u169, u170, u171, u172, u173, u174, u175, u176, u177, u178, u179, u180, u181, u182, u183, u184, u185, u186, u187, u188, u189, u190, u191, u192, u193, u194, u195, u196, u197, u198, u199, u200], defers := [] } w := by
 refine Par.region_ext (by kernel_rfl) 10 [0, 0, 3, 7, 0, 0, 48, 112, 255, 511, 1023] [] (fun j f X => match j with
  | 0 => f 0 = .slice (some ⟨g, 0, none⟩) 8 8
  | 1 => f 1 = .int .i64 (k : Int)
  | 2 => f 2 = .pointer (some ⟨g, k, none⟩)
  | 3 => f 3 = .int .u32 ((y).toNat : Int)
  | 4 => f 4 = .slice (some ⟨gv, 0, none⟩) 8 cv
  | 5 => f 5 = .int .i64 (k : Int)
  | 6 => f 6 = .pointer (some ⟨gv, k, none⟩)
  | 7 => f 7 = .int .u32 ((x).toNat : Int)
  | 8 => f 8 = .int .u32 ((z).toNat : Int)
  | 9 => f 9 = .pointer (some ⟨g, k, none⟩)
  | _ => True) (by kernel_rfl) [(189, 0), (190, 1), (191, 2), (192, 3), (193, 4), (194, 5), (195, 6), (196, 7), (197, 8), (198, 9)] (by kernel_rfl) ?_
 refine Par.v0 1 9 ?_
 refine Par.v0 2 8 ?_
 refine Par.S 3 7 [(189, 0), (190, 1), (193, 4), (194, 5), (195, 6), (196, 7)] (fun f X hX hR K hK => ?_) ?_
 · have e0 : f 0 = _ := hR.out 0 rfl
   have e1 : f 1 = _ := hR.out 1 rfl
   simp only [yA, yB, yC, yD, yE, e0, e1]
   refine ⟨?_⟩
   go_simp
   exact Par.k hK (s := by simp only [yA, yB, yC, yD, yE, e0, e1])
 refine Par.ld1 4 6 2 ck ?_
 refine Par.v0 5 5 ?_
 refine Par.v0 6 4 ?_
 refine Par.S 7 3 [(189, 0), (190, 1), (191, 2), (192, 3), (193, 4), (194, 5)] (fun f X hX hR K hK => ?_) ?_
 · have e4 : f 4 = _ := hR.out 4 rfl
   have e5 : f 5 = _ := hR.out 5 rfl
   simp only [yA, yB, yC, yD, yE, e4, e5]
   refine ⟨?_⟩
   go_simp
   exact Par.k hK (s := by simp only [yA, yB, yC, yD, yE, e4, e5])
 refine Par.ld1 8 2 6 cx ?_
 refine Par.v2 9 1 3 7 (hR := fun _ _ h => h.trans ((v_add _ _).trans (congrArg (fun y : W => Value.int .u32 (y.toNat : Int)) hz))) ?_
 refine Par.S 10 0 [(189, 0), (190, 1), (191, 2), (192, 3), (193, 4), (194, 5), (195, 6), (196, 7), (197, 8)] (fun f X hX hR K hK => ?_) ?_
 · have e0 : f 0 = _ := hR.out 0 rfl
   have e1 : f 1 = _ := hR.out 1 rfl
   simp only [yA, yB, yC, yD, yE, e0, e1]
   refine ⟨?_⟩
   go_simp
   exact Par.k hK (s := by simp only [yA, yB, yC, yD, yE, e0, e1])
 refine Par.AllOps.fin ⟨fun f X hX hR hal hap => ?_⟩
 have e8 : f 8 = _ := hR 8 (by decide)
 have e9 : f 9 = _ := hR 9 (by decide)
 simp only [yA, yB, yD, yE, e8, e9]
 clear hR hal hap e8 e9
 replace ck := hX.cell ck
 have fk' := fk X hX
 refine Par.Chain.next (fun K hK => ⟨Par.want (by kernel_rfl) ?_⟩)
 go_simp
 refine hK.out _ _ ?_
 refine Par.Chain.done ?_
 exact h X hX _ _ _ _ _ _ _ _ _ _
end Go.Proofs.YtjphlimfldcifaaDoor

namespace Go.Proofs.YtjphlimfldcifaaDoor
open Go.RowKit
open Sha

theorem RB.upK {w X : World} {A : Option Addr} {c n : Nat} {bs : List Nat} (h : RB w (fun b => n < b ∧ b < w.heap.size) A c bs) (hE : Ext w X) : RB X (fun b => n < b ∧ b < X.heap.size) A c bs := (h.below hE (fun _ hb => hb.2)).mono fun _ hb => ⟨hb.1, Nat.lt_of_lt_of_le hb.2 hE.bsize⟩
theorem RB.justK {w X : World} {A : Option Addr} {c n g : Nat} {bs : List Nat} (h : RB w (fun b => n < b ∧ b < w.heap.size) A c bs) (hj : Just g w X) (hn : g ≤ n) : RB X (fun b => n < b ∧ b < X.heap.size) A c bs := (h.keep fun p hp => World.cell?_of_block (hj.block _ hp.2 (by have := hp.1; omega))).mono fun _ hb => ⟨hb.1, Nat.lt_of_lt_of_le hb.2 hj.size⟩
theorem VB.made64 (w : World) : VB (w.alloc (.cells (madeCells #[.int .u32 0] 64) 83)) w.heap.size (List.replicate 64 0) 83 := by
 unfold VB
 rw [heap_alloc_new]
 have : madeCells #[.int .u32 0] 64 = (vs (List.replicate 64 0)).toArray := by kernel_rfl
 rw [this]
set_option maxRecDepth 100000 in
set_option maxHeartbeats 8000000 in
theorem rsha_any {P : Nat → Prop} {A : Option Addr} {c : Nat} {bs : List Nat} (g : Nat) (s : St) (w : World) (hp : RB w P A c bs) (hP : ∀ k, P k → k < w.heap.size) (hl : bs.length ≤ 900000) (hg : VB w g s.list 83) :
 Calls Tryd.prog 69 #[.slice A bs.length c, .slice (some ⟨g, 0, none⟩) 8 8] w fun e w' => ∃ A' c', e = .returned (.slice A' 32 c') ∧ OW w' w.heap.size A' c' ((taken s (pad bs) ((pad bs).length / 64)).out) ∧ Fr g w.heap.size w w' := by
 have HG := Lib.hid hg
 have HP := Lib.hid hp
 have HPP := Lib.hid hP
 have HL := Lib.hid hl
 clear hg hp hP hl
 go_enter Tryd.func69, Tryd.ntmps69
 go_wp2_with fail
 refine (k256_any w).mono ?_
 rintro e w1 ⟨rfl, hk, hE1⟩
 have H2 := Lib.hid (pad_any w1 (HP.out.below hE1 HPP.out) (fun k hk => Nat.lt_of_lt_of_le (HPP.out k hk) hE1.bsize) (by have := HL.out; omega))
 obtain ⟨gk, hgk⟩ : ∃ g, w.heap.size = g := ⟨_, rfl⟩
 rw [hgk] at hk ⊢
 have HK := Lib.hid hk
 have HE1 := Lib.hid hE1
 have HGK := Lib.hid hgk
 clear hk hE1 hgk HP HPP
 go_wp2_with fail
 refine H2.out.mono ?_
 rintro e w2 ⟨A2, c2, rfl, ho, hE2⟩
 have hlen := pad_length bs
 have hpl : (pad bs).length ≤ 1000000 := by rw [pad, List.length_append, tail_length]; have := HL.out; omega
 obtain ⟨m, hm⟩ : ∃ m, pad bs = m := ⟨_, rfl⟩
 have HMm := Lib.hid hm
 rw [hm] at ho hlen hpl ⊢
 obtain ⟨n, hn⟩ : ∃ n, m.length / 64 = n := ⟨_, rfl⟩
 have HNn := Lib.hid hn
 have hmn : m.length = 64 * n := by omega
 have hk1 := HK.out.lt
 have HR2 := Lib.hid (show RB w2 (fun b => gk < b ∧ b < w2.heap.size) A2 c2 m from (ho.rb (by omega)).mono fun b hb => ⟨Nat.lt_of_lt_of_le hk1 hb.1, hb.2⟩)
 have HK2 := Lib.hid (HK.out.ext hE2)
 have HG2 := Lib.hid ((HG.out.ext HE1.out).ext hE2)
 have HF2 := Lib.hid (show Fr g w.heap.size w w2 from Fr.below (HE1.out.trans hE2) (Nat.le_refl _))
 have HGL := Lib.hid (show g < gk by rw [← HGK.out]; exact HG.out.lt)
 have HMN := Lib.hid hmn
 have HPL := Lib.hid hpl
 clear H2 ho hE2 hlen hm hn hmn hk1 hpl HK HE1 HG
 go_wp2_with fail
 go_loopw [6] (fun s6 wr => ∃ (i : Nat) (A : Option Addr) (c : Nat) (r : List Nat), s6 = .slice A r.length c ∧ i ≤ n ∧ Hid (r = m.drop (64 * i)) ∧ Hid (RB wr (fun b => gk < b ∧ b < wr.heap.size) A c r) ∧ Hid (VB wr gk kk 83) ∧ Hid (VB wr g (taken s m i).list 83) ∧ Hid (Fr g w.heap.size w wr)) (fun s6 _ => (match s6 with | .slice _ n _ => n | _ => 0))
 case atStart => exact ⟨0, A2, c2, m, rfl, by omega, Lib.hid rfl, HR2, HK2, HG2, HF2⟩
 case round =>
  clear HR2 HK2 HG2 HF2
  obtain ⟨i, A3, c3, r, rfl, hi, HR, HRB, HK, HG, HF⟩ := hrel
  have hrl : r.length = 64 * (n - i) := by rw [HR.out, List.length_drop, HMN.out]; omega
  obtain ⟨q, hq⟩ : ∃ q, r.length = q := ⟨_, rfl⟩
  have HRL := Lib.hid (hq ▸ hrl)
  have HQ := Lib.hid hq
  clear hrl
  by_cases hin : i = n
  · have q0 : ¬ (0 : Int) < (q : Int) := by have := HRL.out; rw [hin, Nat.sub_self] at this; omega
    have HW := Lib.hid (words_any g (taken s m i).list wr HG.out rfl)
    have HSz := Lib.hid HF.out.size
    rw [hq]
    clear hq
    go_wp2_with fail
    refine HW.out.mono ?_
    rintro e w9 ⟨A9, c9, rfl, ho, hE⟩
    have HO9 := Lib.hid (show OW w9 w.heap.size A9 c9 ((taken s (pad bs) ((pad bs).length / 64)).out) by rw [HMm.out, HNn.out, ← hin]; exact ho.mono HSz.out)
    have HF9 := Lib.hid (show Fr g w.heap.size w w9 from HF.out.trans ((Fr.below hE (Nat.le_refl _)).mono HSz.out))
    clear ho hE HW
    go_wp2_with fail
    go_ret
    exact ⟨A9, c9, rfl, HO9.out, HF9.out⟩
  · have q0 : (0 : Int) < (q : Int) := by have := HRL.out; omega
    obtain ⟨s', hs'⟩ : ∃ t, taken s m i = t := ⟨_, rfl⟩
    have hT : taken s m (i + 1) = comp s' (r.take 64) := by rw [HR.out, ← hs']; rfl
    rw [hs'] at HG
    have HT := Lib.hid hT
    obtain ⟨ad, rfl⟩ : ∃ ad, A3 = some ad := by obtain ⟨ad, e, _⟩ := HRB.out.dg (i := 0) (by have := HRL.out; have := HQ.out; omega); exact ⟨ad, e⟩
    clear hT hs'
    rw [hq]
    clear hq
    generalize wr = V1 at *
    have hmk := run_make_row' (P := Tryd.prog) 102 83 (.int .u32 0) 4 Tryd.underlying102 info32 rfl .i64 .i64 64 (by omega) (by omega)
    simp only [Int.cast_ofNat_Int] at hmk
    have hb0 := VB.made64 V1
    have hE0 : Ext V1 (V1.alloc (.cells (madeCells #[.int .u32 0] 64) 83)) := Ext.alloc _ _
    obtain ⟨L, hL⟩ : ∃ L, sch (r.take 64) 64 = L := ⟨_, rfl⟩
    have h64 : L.length = 64 := by rw [← hL]; exact sch_length _ 64
    have HLg := Lib.hid (show ∀ j, j < 64 → wd L j = if j < 16 then be (r.take 64) (4 * j) else nxt (sch (r.take 64) j) from fun j hj => by rw [← hL]; exact sch_get _ 64 j hj)
    have HLn := Lib.hid (show ∀ j, 16 ≤ j → j < 64 → wd L j = wd L (j - 16) + g0 (wd L (j - 15)) + wd L (j - 7) + g1 (wd L (j - 2)) from fun j h1 h2 => by rw [← hL]; exact sch_next _ h1 h2)
    have HT' := Lib.hid (show taken s m (i + 1) = s'.add (rnds L s' 64) by rw [HT.out, ← hL]; rfl)
    have HU0 : Hid (Upto (List.replicate 64 0) L 0) := Lib.hid (Upto.zero _ _ (by rw [h64]; rfl))
    have H64 := Lib.hid h64
    clear HT hL h64
    go_upto_region 6 with fail
    have hdq : decide (0 < q) = true := decide_eq_true (by omega)
    rw [hdq]
    clear hdq
    obtain ⟨W0, hW0⟩ : ∃ W, V1.alloc (.cells (madeCells #[.int .u32 0] 64) 83) = W := ⟨_, rfl⟩
    obtain ⟨gw, hgw⟩ : ∃ g, V1.heap.size = g := ⟨_, rfl⟩
    rw [hW0] at hb0 hE0 ⊢
    rw [hgw] at hb0 ⊢
    have HB0 := Lib.hid hb0
    have HE0 := Lib.hid hE0
    have HGW := Lib.hid hgw
    clear hb0 hE0 hgw hW0 hmk
    go_wp2_with fail
    go_loopw [8] (fun s8 wx => ∃ (k : Nat) (Lx : List W), s8 = .int .i64 (k : Int) ∧ k ≤ 64 ∧ Hid (Upto Lx L k) ∧ Hid (VB wx gw Lx 83) ∧ Hid (Ext V1 wx)) (fun s8 _ => (64 - intOf s8).toNat)
    case atStart => exact ⟨0, _, rfl, by omega, HU0, HB0, HE0⟩
    case round =>
     clear HU0 HB0 HE0
     obtain ⟨k, Lx, rfl, hk64, HU, HV, HE⟩ := hrel
     have hLx : Lx.length = 64 := HU.out.1.trans H64.out
     by_cases hlt : k < 64
     · have k64 : (k : Int) < 64 := by omega
       by_cases h16 : k < 16
       · have k16 : (k : Int) < 16 := by omega
         have hw4 : IntKind.i64.wrap (4 * (k : Int)) = ((4 * k : Nat) : Int) := by rw [IntWalk.i64_in _ (by omega)]; omega
         obtain ⟨k4, hk4⟩ : ∃ k4, 4 * k = k4 := ⟨_, rfl⟩
         rw [hk4] at hw4
         have hcap := HRB.out.cap
         have hq64 : 64 ≤ q := by have := HRL.out; omega
         have q1 : (0 : Int) ≤ (k4 : Int) := by omega
         have q2 : (k4 : Int) ≤ (q : Int) := by omega
         have q4 : (k4 : Int) ≤ (c3 : Int) := by have := hcap.1; have := HQ.out; omega
         have q5 : (q : Int) ≤ (c3 : Int) := by have := hcap.1; have := HQ.out; omega
         have q3 : ¬ (c3 : Int) = (k4 : Int) := by omega
         have hget := word_any (fun b => gk < b ∧ b < wr.heap.size) (some (ad.add k4)) (c3 - k4) (r.drop k4) wr ((HRB.out.upK HE.out).from' (by have := HQ.out; omega) (by have := hcap.1; omega) (by have := hcap.2.1; unfold maxLen; omega) (fun _ => rfl)) (by rw [List.length_drop, HQ.out]; omega)
         rw [be_drop, List.length_drop, HQ.out] at hget
         have Hget := Lib.hid hget
         have Hk4 := Lib.hid hk4
         clear hget hk4 hcap
         go_wp2_with fail
         refine Hget.out.mono ?_
         rintro e w3 ⟨rfl, hE3⟩
         have hV3 := HV.out.ext hE3
         have fr3 := hV3.free k
         have ce3 := hV3.cell (i := k) (by omega)
         have HU3 := Lib.hid (HU.out.step (x := be r k4) (by rw [H64.out]; omega) (by rw [HLg.out k hlt, if_pos h16, be_take _ (by omega), Hk4.out]))
         have HV3 := Lib.hid (hV3.set k (be r k4))
         have HE3 := Lib.hid ((HE.out.trans hE3).setCell (p := ⟨gw, k, none⟩) (by rw [HGW.out]; exact Nat.le_refl _) (.int .u32 ((be r k4).toNat : Int)))
         clear Hget hV3 hE3 HU HV HE q0 q1 q2 q3 q4 q5 hw4
         generalize be r k4 = x at *
         go_wp2_with fail
         go_roundw
         case rel => exact ⟨k + 1, _, by go_num, by omega, HU3, HV3, HE3⟩
         case measure => simp [intOf]; omega
       · have k16 : ¬ (k : Int) < 16 := by omega
         obtain ⟨z, hz⟩ : ∃ z, k - 16 = z := ⟨_, rfl⟩
         obtain ⟨z15, hz15⟩ : ∃ z, k - 15 = z := ⟨_, rfl⟩
         obtain ⟨z7, hz7⟩ : ∃ z, k - 7 = z := ⟨_, rfl⟩
         obtain ⟨z2, hz2⟩ : ∃ z, k - 2 = z := ⟨_, rfl⟩
         have l16 : (z : Int) < 64 := by omega
         have l15 : (z15 : Int) < 64 := by omega
         have l7 : (z7 : Int) < 64 := by omega
         have l2 : (z2 : Int) < 64 := by omega
         have w16 : IntKind.i64.wrap ((k : Int) - 16) = (z : Int) := by rw [IntWalk.i64_in _ (by omega)]; omega
         have w15 : IntKind.i64.wrap ((k : Int) - 15) = (z15 : Int) := by rw [IntWalk.i64_in _ (by omega)]; omega
         have w7 : IntKind.i64.wrap ((k : Int) - 7) = (z7 : Int) := by rw [IntWalk.i64_in _ (by omega)]; omega
         have w2 : IntKind.i64.wrap ((k : Int) - 2) = (z2 : Int) := by rw [IntWalk.i64_in _ (by omega)]; omega
         have d16 := HV.out.cell (i := z) (by omega)
         have d15 := HV.out.cell (i := z15) (by omega)
         have d7 := HV.out.cell (i := z7) (by omega)
         have d2 := HV.out.cell (i := z2) (by omega)
         have dk := HV.out.cell (i := k) (by omega)
         have he : wd L k = wd Lx z + g0 (wd Lx z15) + wd Lx z7 + g1 (wd Lx z2) := by
          rw [HLn.out k (by omega) hlt, hz, hz15, hz7, hz2, HU.out.2 z (by omega), HU.out.2 z15 (by omega), HU.out.2 z7 (by omega), HU.out.2 z2 (by omega)]
         have HU3 := Lib.hid (HU.out.step (x := wd L k) (by rw [H64.out]; omega) rfl)
         rw [he] at HU3
         clear he hz hz15 hz7 hz2 q0
         generalize wd Lx z = x16 at *
         generalize wd Lx z15 = x15 at *
         generalize wd Lx z7 = x7 at *
         generalize wd Lx z2 = x2 at *
         go_upto_region 13 with fail
         obtain ⟨nw, hnw⟩ : ∃ y, x16 + g0 x15 + x7 + g1 x2 = y := ⟨_, rfl⟩
         rw [hnw] at HU3
         have hV := HV.out
         refine rsha13 k64 l16 l7 w16 w7 d16 d7 dk (fun X hX => (hV.ext hX).free k) hnw ?_
         intro X hX
         intros
         have hV5 := hV.ext hX
         have HV6 := Lib.hid (hV5.set k nw)
         have HE6 := Lib.hid ((HE.out.trans hX).setCell (p := ⟨gw, k, none⟩) (by rw [HGW.out]; exact Nat.le_refl _) (.int .u32 (nw.toNat : Int)))
         clear dk hV5 hV hX d16 d15 d7 d2 HU HV HE hnw
         generalize World.setCell X ⟨gw, k, none⟩ (.int .u32 (nw.toNat : Int)) = w7 at *
         go_wp2_with fail
         go_roundw
         case rel => exact ⟨k + 1, _, by go_num, by omega, HU3, HV6, HE6⟩
         case measure => simp [intOf]; omega
     · obtain rfl : k = 64 := by omega
       rw [show ((64 : Nat) : Int) = 64 from rfl]
       have hVL : VB wr gw L 83 := by
        have hU := HU.out
        rw [← H64.out] at hU
        have e := hU.fin
        rw [← e]
        exact HV.out
       have hKV := HK.out.ext HE.out
       have hGV := HG.out.ext HE.out
       have hRV := HRB.out.upK HE.out
       clear hlt hk64 HU HV HLg HLn
       go_upto_region 15 with (at_builtin; refine appv rfl (.const (.slice none 0 0)) (.tmp 83) rfl rfl rfl hGV rfl ?_; intro gv cv V2 hvc hlv hcv hE2)
       have hgv : g < gv := by have := HGL.out; have := hKV.lt; omega
       have HVC := Lib.hid (show VC V2 gv (rnds L s' 0).list from hvc)
       have HVL := Lib.hid (hVL.ext hE2)
       have HKV := Lib.hid (hKV.ext hE2)
       have HGV := Lib.hid (hGV.ext hE2)
       have HRV := Lib.hid (hRV.upK hE2)
       have HEV := Lib.hid (HE.out.trans hE2)
       clear hVL hKV hGV hRV hvc hE2 HE
       go_wp2_with fail
       go_loopw [11, 12] (fun s11 s12 wx => ∃ (k gv cv : Nat), s11 = .slice (some ⟨gv, 0, none⟩) 8 cv ∧ s12 = .int .i64 (k : Int) ∧ k ≤ 64 ∧ 8 ≤ cv ∧ g < gv ∧ Hid (VC wx gv (rnds L s' k).list) ∧ Hid (Ext V2 wx)) (fun _ s12 _ => (64 - intOf s12).toNat)
       case atStart => exact ⟨0, gv, cv, rfl, rfl, by omega, hcv, hgv, HVC, Lib.hid (Ext.refl _)⟩
       case round =>
        clear HVC hcv hgv hlv
        obtain ⟨k, gv, cv, rfl, rfl, hk64, hcv, hgv, HV, HE⟩ := hrel
        by_cases hlt : k < 64
        · have k64 : (k : Int) < 64 := by omega
          have cx := (HVL.out.ext HE.out).cell (i := k) (by rw [H64.out]; exact hlt)
          have ck := (HKV.out.ext HE.out).cell (i := k) hlt
          obtain ⟨x, hx⟩ : ∃ x, wd L k = x := ⟨_, rfl⟩
          obtain ⟨kw, hkw⟩ : ∃ x, wd kk k = x := ⟨_, rfl⟩
          have Hr := Lib.hid (show rnds L s' (k + 1) = rnd (rnds L s' k) kw x by rw [← hx, ← hkw]; rfl)
          rw [hx] at cx
          rw [hkw] at ck
          clear hx hkw
          generalize rnds L s' k = r' at *
          obtain ⟨ra, rb, rc, rd, re, rf, rg, rh⟩ := r'
          have v0 := HV.out.2 0 (show 0 < 8 by omega)
          have v1 := HV.out.2 1 (show 1 < 8 by omega)
          have v2 := HV.out.2 2 (show 2 < 8 by omega)
          have v3 := HV.out.2 3 (show 3 < 8 by omega)
          have v4 := HV.out.2 4 (show 4 < 8 by omega)
          have v5 := HV.out.2 5 (show 5 < 8 by omega)
          have v6 := HV.out.2 6 (show 6 < 8 by omega)
          have v7 := HV.out.2 7 (show 7 < 8 by omega)
          simp only [wd, St.list, List.getD_cons_zero, List.getD_cons_succ] at v0 v1 v2 v3 v4 v5 v6 v7
          clear HV
          go_upto_region 20 with fail
          obtain ⟨t, ht⟩ : ∃ t, rh + S1 re + ch re rf rg + kw + x = t := ⟨_, rfl⟩
          obtain ⟨u, hu⟩ : ∃ u, S0 ra + mj ra rb rc = u := ⟨_, rfl⟩
          obtain ⟨na, hna⟩ : ∃ a, t + u = a := ⟨_, rfl⟩
          obtain ⟨ne, hne⟩ : ∃ a, rd + t = a := ⟨_, rfl⟩
          have Hn := Lib.hid (show rnd ⟨ra, rb, rc, rd, re, rf, rg, rh⟩ kw x = ⟨na, ra, rb, rc, ne, re, rf, rg⟩ by rw [← hna, ← hne, ← ht, ← hu]; rfl)
          refine rsha20 k64 v5 v6 v7 ck cx ht ?_
          intro X1 hX1
          intros
          have w1 := hX1.cell v1
          have w2 := hX1.cell v2
          clear ck cx
          go_upto_region 21 with fail
          refine rsha21 w1 w2 hu ?_
          intro X2 hX2
          intros
          have hX12 := hX1.trans hX2
          clear w1 w2
          go_upto_region 22 with fail
          refine rsha22 (hX12.cell v0) (hX12.cell v1) (hX12.cell v2) (hX12.cell v3) (hX12.cell v4) (hX12.cell v5) (hX12.cell v6) hna hne ?_
          intro X3 g3 hX3 hl3 hv3
          have hg3 : g < g3 := by have := HGL.out; have := (HKV.out.ext (HE.out.trans hX12)).lt; omega
          intros
          have HV3 := Lib.hid (show VC X3 g3 (rnds L s' (k + 1)).list by rw [Hr.out, Hn.out]; exact hv3)
          have HE3 := Lib.hid (HE.out.trans (hX12.trans hX3))
          clear hX1 hX2 hX3 hX12 hv3 v0 v1 v2 v3 v4 v5 v6 v7 HE Hr Hn hna hne ht hu
          go_wp2_with fail
          go_roundw
          case rel => exact ⟨k + 1, g3, 8, rfl, by go_num, by omega, by omega, hg3, HV3, HE3⟩
          case measure => simp [intOf]; omega
        · obtain rfl : k = 64 := by omega
          rw [show ((64 : Nat) : Int) = 64 from rfl]
          have HC := Lib.hid (HV.out)
          have HG3 := Lib.hid (HGV.out.ext HE.out)
          have HK3 := Lib.hid (HKV.out.ext HE.out)
          have HR3 := Lib.hid (HRV.out.upK HE.out)
          have HE3 := Lib.hid (HEV.out.trans HE.out)
          have HNG := Lib.hid (show g ≠ gv by omega)
          clear HV HE HGV HKV HRV HEV HVL hlt hk64
          obtain ⟨t, ht⟩ : ∃ t, rnds L s' 64 = t := ⟨_, rfl⟩
          rw [ht] at HC HT'
          clear ht
          generalize wr = V3 at *
          go_wp2_with fail
          go_loopw [17] (fun s17 wx => ∃ (k : Nat) (H : List W), s17 = .int .i64 (k : Int) ∧ k ≤ 8 ∧ Hid (VB wx g H 83) ∧ Hid (Upto H (s'.add t).list k) ∧ Hid (∀ j, k ≤ j → wd H j = wd s'.list j) ∧ Hid (Just g V3 wx)) (fun s17 _ => (8 - intOf s17).toNat)
          case atStart => exact ⟨0, _, rfl, by omega, HG3, Lib.hid (Upto.zero _ _ rfl), Lib.hid (fun _ _ => rfl), Lib.hid (Just.refl g V3)⟩
          case round =>
           obtain ⟨k, H, rfl, hk8, HB, HU, HRr, HJ⟩ := hrel
           by_cases hlt : k < 8
           · have k8 : (k : Int) < 8 := by omega
             have cx := (HC.out.just HJ.out (Ne.symm HNG.out)).2 k hlt
             have hB := HB.out
             have hH8 : H.length = 8 := HU.out.1
             have ck := hB.cell (i := k) (by omega)
             obtain ⟨x, hx⟩ : ∃ x, wd t.list k = x := ⟨_, rfl⟩
             obtain ⟨y, hy⟩ : ∃ y, wd H k = y := ⟨_, rfl⟩
             obtain ⟨z, hz⟩ : ∃ z, y + x = z := ⟨_, rfl⟩
             have HU3 := Lib.hid (HU.out.step (x := z) hlt (by
              have e : wd (s'.add t).list k = wd s'.list k + wd t.list k := by
               match k, hlt with
               | 0, _ | 1, _ | 2, _ | 3, _ | 4, _ | 5, _ | 6, _ | 7, _ => rfl
              rw [e, ← hz, ← hx, ← hy, HRr.out k (Nat.le_refl _)]))
             have HR4 := Lib.hid (show ∀ j, k + 1 ≤ j → wd (H.set k z) j = wd s'.list j from fun j hj => by rw [wd_set_ne _ (by omega)]; exact HRr.out j (by omega))
             rw [hx] at cx
             rw [hy] at ck
             clear hx hy HU HRr HB
             go_upto_region 26 with fail
             refine rsha26 k8 hcv ck cx (fun X hX => (hB.ext hX).free k) hz ?_
             intro X hX
             intros
             have HB4 := Lib.hid ((hB.ext hX).set k z)
             have HJ4 := Lib.hid ((HJ.out.trans (Just.of_below hX (Nat.le_refl _))).set k (.int .u32 (z.toNat : Int)))
             clear hB hX cx ck hz HJ
             generalize World.setCell X ⟨g, k, none⟩ (.int .u32 (z.toNat : Int)) = w9 at *
             go_wp2_with fail
             go_roundw
             case rel => exact ⟨k + 1, _, by go_num, by omega, HB4, HU3, HR4, HJ4⟩
             case measure => simp [intOf]; omega
           · obtain rfl : k = 8 := by omega
             rw [show ((8 : Nat) : Int) = 8 from rfl]
             have hH := HU.out.fin
             have HG4 := Lib.hid (show VB wr g (taken s m (i + 1)).list 83 by rw [HT'.out, ← hH]; exact HB.out)
             have HK4 := Lib.hid (show VB wr gk kk 83 from HJ.out.at_ (by have := HGL.out; omega) HK3.out)
             have HR4 := Lib.hid (HR3.out.justK HJ.out (by have := HGL.out; omega))
             have HF4 := Lib.hid (show Fr g w.heap.size w wr from (HF.out.trans ((Fr.below HE3.out (Nat.le_refl _)).mono HF.out.size)).trans ((Fr.just HJ.out (Nat.le_trans HF.out.size HE3.out.bsize))))
             clear hH HB HU HRr HJ HG3 HK3 HR3 HE3 HC
             have hcap := HRB.out.cap
             have hq64 : 64 ≤ q := by have := HRL.out; omega
             have hqc : q ≤ c3 := by have := HQ.out; omega
             have r1 : (64 : Int) ≤ (q : Int) := by omega
             have r2 : (q : Int) ≤ (c3 : Int) := by omega
             have r3 : (64 : Int) ≤ (c3 : Int) := by omega
             have hdr : m.drop (64 * (i + 1)) = r.drop 64 := by rw [HR.out, List.drop_drop]; rfl
             have HDR := Lib.hid (show r.drop 64 = m.drop (64 * (i + 1)) from hdr.symm)
             have HDL := Lib.hid (show (r.drop 64).length = q - 64 by rw [List.length_drop, HQ.out])
             have hin' : i < n := by omega
             by_cases hc : c3 = 64
             · subst hc
               obtain rfl : q = 64 := by omega
               clear hdr hcap hqc r2 r3 hq64
               go_wp2_with fail
               have hd0 : r.drop 64 = [] := List.eq_nil_of_length_eq_zero (by rw [HDL.out])
               go_roundw
               case rel => exact ⟨i + 1, some ad, 0, r.drop 64, by rw [hd0]; rfl, by omega, HDR, Lib.hid (by rw [hd0]; exact ⟨⟨by simp, by unfold maxLen; omega, by simp [bys], fun h => absurd h (by simp)⟩, by simp, by simp⟩), HK4, HG4, HF4⟩
               case measure => simp
             · have r4 : ¬ (c3 : Int) = 64 := by omega
               have HR5 := Lib.hid (HR4.out.from' (k := 64) (c' := c3 - 64) (by have := HQ.out; omega) (by have := HQ.out; omega) (by have := hcap.2.1; unfold maxLen; omega) (A' := some (ad.add 64)) (fun _ => rfl))
               clear hdr hcap hqc hq64 HR4
               go_wp2_with fail
               go_roundw
               case rel => exact ⟨i + 1, some (ad.add 64), c3 - 64, r.drop 64, by rw [HDL.out]; rfl, by omega, HDR, HR5, HK4, HG4, HF4⟩
               case measure => simp; omega
end Go.Proofs.YtjphlimfldcifaaDoor

namespace Go.Proofs.YtjphlimfldcifaaDoor
open Go.RowKit
open Sha

set_option maxRecDepth 100000 in
set_option maxHeartbeats 8000000 in
theorem rof3 {P : Nat → Prop} {A : Option Addr} {c : Nat} {bs : List Nat} (w : World) (hp : RB w P A c bs) (hP : ∀ k, P k → k < w.heap.size) (hl : bs.length ≤ 900000) :
 Calls Tryd.prog 57 #[.int .i64 3, .slice A bs.length c] w fun e w' => ∃ A' c', e = .returned (.slice A' 32 c') ∧ OW w' w.heap.size A' c' (sha bs) ∧ Ext w w' := by
 have hb : VB (w.alloc (.cells (vs s256.list).toArray 83)) w.heap.size s256.list 83 := heap_alloc_new _ _
 have hE : Ext w (w.alloc (.cells (vs s256.list).toArray 83)) := Ext.alloc _ _
 obtain ⟨W1, hW1⟩ : ∃ W, w.alloc (.cells (vs s256.list).toArray 83) = W := ⟨_, rfl⟩
 have HW := Lib.hid (show ∀ cs : Array Value, cs = (vs s256.list).toArray → w.alloc (.cells cs 83) = W1 from fun cs e => by rw [e]; exact hW1)
 rw [hW1] at hb hE
 have H := Lib.hid (rsha_any w.heap.size s256 W1 (hp.below hE hP) (fun k hk => Nat.lt_of_lt_of_le (hP k hk) hE.bsize) hl hb)
 have HE := Lib.hid hE
 clear hb hE hW1 hp hP hl
 go_enter Tryd.func57, Tryd.ntmps57
 go_wp2_with fail
 rw [HW.out]
 case a => rfl
 refine H.out.mono ?_
 rintro e w2 ⟨A', c', rfl, ho, hf⟩
 have HO := Lib.hid (ho.mono HE.out.bsize)
 have HF := Lib.hid (hf.ext' HE.out (Nat.le_refl _) HE.out.bsize)
 clear ho hf H HW
 go_wp2_with fail
 go_ret
 exact ⟨A', c', rfl, HO.out, HF.out⟩
set_option maxRecDepth 100000 in
set_option maxHeartbeats 8000000 in
theorem rblock3 (w : World) : Calls Tryd.prog 56 #[.int .i64 3] w fun e w' => e = .returned (.int .i64 64) ∧ w' = w := by
 go_enter Tryd.func56, Tryd.ntmps56
 go_wp2
 go_ret
 exact ⟨rfl, rfl⟩
theorem flatten_take {l : List (List Nat)} {k : Nat} (h : k < l.length) : (l.take (k + 1)).flatten = (l.take k).flatten ++ l.getD k [] := by
 rw [List.take_add_one, List.flatten_append, List.getElem?_eq_getElem h]
 simp [h]
theorem flatten_take_le (l : List (List Nat)) (k : Nat) : (l.take k).flatten.length ≤ l.flatten.length := by
 have e : l.flatten = (l.take k).flatten ++ (l.drop k).flatten := by rw [← List.flatten_append, List.take_append_drop]
 rw [e, List.length_append]; omega
set_option maxRecDepth 100000 in
set_option maxHeartbeats 8000000 in
theorem rjoin_any {P : Nat → Prop} {A : Option Addr} {c : Nat} {ps : List (List Nat)} (w : World) (hp : RP w P A c ps) (hP : ∀ k, P k → k < w.heap.size) (hl : ps.flatten.length ≤ 1000000) :
 Calls Tryd.prog 39 #[.slice A ps.length c] w fun e w' => ∃ A' c', e = .returned (.slice A' ps.flatten.length c') ∧ OW w' w.heap.size A' c' ps.flatten ∧ Ext w w' := by
 have HP := Lib.hid hp
 have HPP := Lib.hid hP
 have HL := Lib.hid hl
 have hzl : ps.length ≤ maxLen := by obtain ⟨_, h, _⟩ := hp; exact Nat.le_trans h.1 h.2.1
 unfold maxLen at hzl
 have HO0 := Lib.hid (OW.nil_ w w.heap.size)
 clear hp hP hl
 go_enter Tryd.func39, Tryd.ntmps39
 go_wp2_with fail
 go_loopw [3, 4] (fun s3 s4 wr => ∃ (k : Nat) (A : Option Addr) (c : Nat) (m : List Nat), s4 = .int .i64 (k : Int) ∧ k ≤ ps.length ∧ s3 = .slice A m.length c ∧ Hid (m = (ps.take k).flatten) ∧ Hid (OW wr w.heap.size A c m) ∧ Hid (Ext w wr)) (fun _ s4 _ => (ps.length - intOf s4).toNat)
 case atStart => exact ⟨0, none, 0, [], rfl, by omega, rfl, Lib.hid rfl, HO0, Lib.hid (Ext.refl _)⟩
 case round =>
  clear HO0
  obtain ⟨k, A1, c1, m, rfl, hk, rfl, HM, HO, HE⟩ := hrel
  by_cases hlt : k < ps.length
  · have hk1 : (k : Int) < (ps.length : Int) := by omega
    obtain ⟨ad, Ai, ci, rfl, hc, hr⟩ := (HP.out.ext HE.out HPP.out).at_ hlt
    have hM2 := flatten_take hlt
    rw [← HM.out] at hM2
    have hle := flatten_take_le ps (k + 1)
    obtain ⟨x, hx⟩ : ∃ x, ps.getD k [] = x := ⟨_, rfl⟩
    rw [hx] at hM2 hc hr
    have hlx : m.length + x.length ≤ 1000000 := by rw [← List.length_append, ← hM2]; exact Nat.le_trans hle HL.out
    have HM2 := Lib.hid hM2
    have ho := HO.out
    have hE := HE.out
    have HLX := Lib.hid hlx
    clear hM2 hle hx HO hlx
    go_wp2_with (at_builtin; refine app8 rfl (.tmp 11) (.tmp 15) rfl w.heap.size rfl ho rfl hr (by have := HLX.out; omega) hE.bsize ?_; intro A5 c5 w5 ho5 hb5)
    have HO5 := Lib.hid ho5
    have HE5 := Lib.hid (Below.trans hE hb5)
    clear ho hE ho5 hb5 HE hc hr
    go_roundw
    case rel => exact ⟨k + 1, A5, c5, _, by go_num, by omega, by rw [List.length_append], Lib.hid HM2.out.symm, HO5, HE5⟩
    case measure => simp [intOf]; omega
  · obtain rfl : k = ps.length := by omega
    have HF := Lib.hid (show ps.flatten = m by rw [HM.out, List.take_length])
    have ho := HO.out
    rw [← HF.out] at ho
    have HO2 := Lib.hid ho
    rw [← HF.out]
    clear ho HO
    go_wp2_with fail
    go_ret
    exact ⟨A1, c1, rfl, HO2.out, HE.out⟩
end Go.Proofs.YtjphlimfldcifaaDoor

namespace Go.Proofs.YtjphlimfldcifaaDoor
open Go.RowKit
open Sha

theorem OW.of_blk {w : World} {g base : Nat} {l : List Nat} (h : Blk8 w g l) (hb : base ≤ g) (hl : ∀ x ∈ l, x < 256) (hn : l.length ≤ 1000000) : OW w base (some ⟨g, 0, none⟩) l.length l :=
 ⟨⟨by simp [bys], .inr ⟨g, l.length, _, rfl, hb, h, Nat.le_refl _, by unfold maxLen; omega, by simp [bys], by rw [Nat.mul_one]; exact List.take_of_length_le (by simp [bys])⟩⟩, hl⟩
theorem mask_at {key : List Nat} {c k : Nat} (h : k < 64) : dg (mask key c) k = dg key k ^^^ c := by
 simp [dg, mask, h]
def Mk (L key : List Nat) (c k : Nat) : Prop := L.length = 64 ∧ ∀ j, j < k → dg L j = dg key j ^^^ c
theorem Mk.zero (L key : List Nat) (c : Nat) (h : L.length = 64) : Mk L key c 0 := ⟨h, fun _ h => absurd h (by omega)⟩
theorem Mk.step {L key : List Nat} {c k x : Nat} (h : Mk L key c k) (hk : k < 64) (hx : x = dg key k ^^^ c) : Mk (L.set k x) key c (k + 1) := by
 refine ⟨by simpa using h.1, fun j hj => ?_⟩
 rcases Nat.lt_or_ge j k with h1 | h1
 · rw [← h.2 j h1]; simp [dg, List.getElem?_set_ne (show k ≠ j by omega)]
 · obtain rfl : j = k := by omega
   have := h.1
   simp [dg, show j < L.length by omega, hx]
theorem Mk.fin {L key : List Nat} {c : Nat} (h : Mk L key c 64) : L = mask key c := by
 apply List.ext_getElem (h.1.trans (mask_len _ _).symm)
 intro i h1 h2
 have hi : i < 64 := by have := h.1; omega
 have e1 := h.2 i hi
 have e2 := mask_at (key := key) (c := c) hi
 rw [← e2] at e1
 simpa [dg, h1, h2] using e1
set_option maxRecDepth 100000 in
set_option maxHeartbeats 8000000 in
theorem rhmac_any {P P2 : Nat → Prop} {A A2 : Option Addr} {c c2 : Nat} {key b : List Nat} (w : World) (hp : RB w P A c key) (hP : ∀ k, P k → k < w.heap.size) (hp2 : RB w P2 A2 c2 b) (hP2 : ∀ k, P2 k → k < w.heap.size) (hl : key.length ≤ 64) (hl2 : b.length ≤ 800000) :
 Calls Tryd.prog 38 #[.int .i64 3, .slice A key.length c, .slice A2 b.length c2] w fun e w' => ∃ A' c', e = .returned (.slice A' 32 c') ∧ OW w' w.heap.size A' c' (hmac key b) ∧ Ext w w' := by
 have l64 : ¬ (64 : Int) < (key.length : Int) := by omega
 have HP := Lib.hid hp
 have HPP := Lib.hid hP
 have HQ := Lib.hid hp2
 have HQQ := Lib.hid hP2
 have HL2 := Lib.hid hl2
 clear hp hP hp2 hP2 hl2
 have hmk := run_make_row' (P := Tryd.prog) 22 5 (.int .u8 0) 1 Tryd.underlying22 info8 rfl .i64 .i64 64 (by omega) (by omega)
 simp only [Int.cast_ofNat_Int] at hmk
 go_enter Tryd.func38, Tryd.ntmps38
 go_upto_region 2 with (go_at_call 56; refine (rblock3 _).mono ?_; rintro e w1 ⟨rfl, rfl⟩)
 go_upto_region 8 with fail
 have m1 := (Ext.alloc (w1.alloc (.cells (madeCells #[.int .u8 0] 64) 5)) (.cells (madeCells #[.int .u8 0] 64) 5)).at_ (Blk8.made w1 64)
 have m2 := Blk8.made (w1.alloc (.cells (madeCells #[.int .u8 0] 64) 5)) 64
 have mE : Ext w1 ((w1.alloc (.cells (madeCells #[.int .u8 0] 64) 5)).alloc (.cells (madeCells #[.int .u8 0] 64) 5)) := (Ext.alloc _ _).trans (Ext.alloc _ _)
 rw [World.size_alloc] at m2
 rw [show decide ((64 : Int) < (key.length : Int)) = false from decide_eq_false (by omega)]
 obtain ⟨W0, hW0⟩ : ∃ W, (w1.alloc (.cells (madeCells #[.int .u8 0] 64) 5)).alloc (.cells (madeCells #[.int .u8 0] 64) 5) = W := ⟨_, rfl⟩
 obtain ⟨g, hg⟩ : ∃ g, w1.heap.size = g := ⟨_, rfl⟩
 rw [hW0] at m1 m2 mE ⊢
 rw [hg] at m1 m2 ⊢
 have HG := Lib.hid hg
 have M1 := Lib.hid m1
 have M2 := Lib.hid m2
 have ME := Lib.hid mE
 clear hW0 hg m1 m2 mE hmk
 go_wp2_with fail
 go_loopw [10] (fun s10 wr => ∃ (k : Nat) (Li Lo : List Nat), s10 = .int .i64 (k : Int) ∧ k ≤ 64 ∧ Hid (Mk Li key 54 k) ∧ Hid (Mk Lo key 92 k) ∧ Hid (Blk8 wr g Li) ∧ Hid (Blk8 wr (g + 1) Lo) ∧ Hid (Ext w1 wr)) (fun s10 _ => (64 - intOf s10).toNat)
 case atStart => exact ⟨0, _, _, rfl, by omega, Lib.hid (Mk.zero _ _ _ List.length_replicate), Lib.hid (Mk.zero _ _ _ List.length_replicate), M1, M2, ME⟩
 case round =>
  clear M1 M2 ME
  obtain ⟨k, Li, Lo, rfl, hk64, HI, HO, H1, H2, HE⟩ := hrel
  by_cases hlt : k < 64
  · have k64 : (k : Int) < 64 := by omega
    have q5 := H1.out.cell (i := k) (by have := HI.out.1; omega)
    have f5 := H1.out.free k
    have hx256 : dg key k < 256 := getD_lt (by omega) HP.out.2.1 k
    obtain ⟨x, hx⟩ : ∃ x, dg key k = x := ⟨_, rfl⟩
    rw [hx] at hx256
    have e54 := u8_xor_nat x 54 hx256 (by omega)
    have e92 := u8_xor_nat x 92 hx256 (by omega)
    obtain ⟨y5, hy5⟩ : ∃ y, x ^^^ 54 = y := ⟨_, rfl⟩
    obtain ⟨y6, hy6⟩ : ∃ y, x ^^^ 92 = y := ⟨_, rfl⟩
    rw [hy5] at e54
    rw [hy6] at e92
    simp only [Int.cast_ofNat_Int] at e54 e92
    have HI2 := Lib.hid (HI.out.step (x := y5) hlt (by rw [hx, hy5]))
    have HO2 := Lib.hid (HO.out.step (x := y6) hlt (by rw [hx, hy6]))
    have j5 := (Just.refl g wr).set k (.int .u8 (y5 : Int))
    have q6 := H2.out.cell (i := k) (by have := HO.out.1; omega)
    have q6' := (j5.cell (p := ⟨g + 1, k, none⟩) (blk_lt H2.out) (by show g + 1 ≠ g; omega)).trans q6
    have H6a : Blk8 (wr.setCell ⟨g, k, none⟩ (.int .u8 (y5 : Int))) (g + 1) Lo := j5.at_ (by omega) H2.out
    have f6 := H6a.free k
    have j6 := (Just.refl (g + 1) (wr.setCell ⟨g, k, none⟩ (.int .u8 (y5 : Int)))).set k (.int .u8 (y6 : Int))
    have H5b := Lib.hid (show Blk8 _ g (Li.set k y5) from j6.at_ (by omega) (H1.out.set k y5))
    have H6b := Lib.hid (H6a.set k y6)
    have HEb := Lib.hid (j6.ext (j5.ext HE.out (by rw [HG.out]; exact Nat.le_refl _)) (by rw [HG.out]; omega))
    have hkc := fun (h : k < key.length) => (HP.out.below HE.out HPP.out).dg h
    have HE0 := HE.out.bsize
    clear hy5 hy6 j5 j6 H6a HI HO q6
    by_cases hkk : k < key.length
    · have kk1 : (k : Int) < (key.length : Int) := by omega
      obtain ⟨ad, rfl, hc, _⟩ := hkc hkk
      rw [hx] at hc
      clear hkc hx HE HE0 H1 H2
      go_wp2_with fail
      go_roundw
      case rel => exact ⟨k + 1, _, _, by go_num, by omega, HI2, HO2, H5b, H6b, HEb⟩
      case measure => simp [intOf]; omega
    · have kk1 : ¬ (k : Int) < (key.length : Int) := by omega
      obtain rfl : x = 0 := by rw [← hx, dg, List.getD_eq_getElem?_getD, List.getElem?_eq_none (by omega)]; rfl
      simp only [Int.cast_ofNat_Int] at e54 e92
      clear hkc hx HE HE0 H1 H2
      go_wp2_with fail
      go_roundw
      case rel => exact ⟨k + 1, _, _, by go_num, by omega, HI2, HO2, H5b, H6b, HEb⟩
      case measure => simp [intOf]; omega
  · obtain rfl : k = 64 := by omega
    rw [show ((64 : Nat) : Int) = 64 from rfl]
    have h1 : Blk8 wr g (mask key 54) := HI.out.fin ▸ H1.out
    have h2 : Blk8 wr (g + 1) (mask key 92) := HO.out.fin ▸ H2.out
    have ho1 : OW wr g (some ⟨g, 0, none⟩) 64 (mask key 54) := by
     have := OW.of_blk (base := g) h1 (Nat.le_refl _) (mask_lt HP.out.2.1 (by omega)) (by rw [mask_len]; omega)
     rwa [mask_len] at this
    have hr1 := HQ.out.below HE.out HQQ.out
    obtain ⟨mb, hmb⟩ : ∃ l, mask key 54 ++ b = l := ⟨_, rfl⟩
    have hmbl : mb.length ≤ 900000 := by rw [← hmb, List.length_append, mask_len]; have := HL2.out; omega
    have hgw : g ≤ wr.heap.size := by rw [← HG.out]; exact HE.out.bsize
    have hlt2 := blk_lt h2
    have HMB := Lib.hid hmb
    have HML := Lib.hid hmbl
    clear HI HO H1 H2 h1 hmbl
    go_upto_region 17 with (first
     | (go_at_call 57; refine (rof3 w5 (ho5.rb (by have := HML.out; omega)) (fun k hk => hk.2) HML.out).mono ?_; rintro e w6 ⟨A6, c6, rfl, ho6, hE6⟩; have HO6 := Lib.hid ho6; have HE6 := Lib.hid hE6; clear ho6 hE6)
     | (at_builtin; refine app8g rfl (.tmp 52) (.tmp 53) rfl g (by rw [mask_len]; rfl) ho1 rfl hr1 (by rw [mask_len]; have := HL2.out; omega) hgw ?_; intro A5 c5 w5 ho5 hg5; rw [HMB.out] at ho5 ⊢; have hb5 : Below g wr w5 := Below.grown (Below.refl g wr) hg5 hgw (own_base ho1.1); have h25 : Blk8 w5 (g + 1) (mask key 92) := (hg5.block (g + 1) hlt2 (by simp [Value.ownBlock])).trans h2))
    have h26 := HE6.out.at_ h25
    have ho2 : OW w6 g (some ⟨g + 1, 0, none⟩) 64 (mask key 92) := by
     have := OW.of_blk (base := g) h26 (by omega) (mask_lt HP.out.2.1 (by omega)) (by rw [mask_len]; omega)
     rwa [mask_len] at this
    have hr6 := HO6.out.rb (by rw [sha_length]; omega)
    obtain ⟨sm, hsm⟩ : ∃ l, sha mb = l := ⟨_, rfl⟩
    have hsl : sm.length = 32 := by rw [← hsm]; rfl
    rw [hsm] at hr6
    obtain ⟨nb, hnb⟩ : ∃ l, mask key 92 ++ sm = l := ⟨_, rfl⟩
    have hnbl : nb.length = 96 := by rw [← hnb, List.length_append, mask_len, hsl]
    have hB6 : Below g w1 w6 := Below.trans (show Below g w1 wr by rw [← HG.out]; exact HE.out) (Below.trans hb5 (HE6.out.mono (Nat.le_trans hgw hb5.size)))
    have HSm := Lib.hid (show hmac key b = sha nb by rw [hmac, HMB.out, hsm, hnb])
    have HNB := Lib.hid hnb
    have HNL := Lib.hid hnbl
    have HB6 := Lib.hid hB6
    have hg6 : g ≤ w6.heap.size := by have := hB6.size; have := HG.out; omega
    clear hmb hsm hnb hnbl hB6 hb5 h25 ho5 hg5 HO6 HE6 h2 ho1 hr1 HE h26 hgw hlt2
    go_wp2_with (first
     | (go_at_call 57; refine (rof3 w7 (ho7.rb (by rw [HNL.out]; omega)) (fun k hk => hk.2) (by rw [HNL.out]; omega)).mono ?_; rintro e w8 ⟨A8, c8, rfl, ho8, hE8⟩; have HO8 := Lib.hid ho8; have HE8 := Lib.hid hE8; clear ho8 hE8)
     | (at_builtin; refine app8g rfl (.tmp 57) (.tmp 58) rfl g (by rw [mask_len]; rfl) ho2 (by rw [hsl]; rfl) hr6 (by rw [mask_len, hsl]; omega) hg6 ?_; intro A7 c7 w7 ho7 hg7; rw [HNB.out] at ho7 ⊢; have hb7 : Below g w6 w7 := Below.grown (Below.refl g w6) hg7 hg6 (own_base ho2.1)))
    go_ret
    have hz1 := hb7.size
    have hz2 := HB6.out.size
    refine ⟨A8, c8, rfl, ?_, ?_⟩
    · rw [HSm.out]; exact HO8.out.mono (by rw [HG.out]; omega)
    · rw [show Ext w1 w8 = Below g w1 w8 by rw [← HG.out]; rfl]
      exact Below.trans HB6.out (Below.trans hb7 (HE8.out.mono (by omega)))
end Go.Proofs.YtjphlimfldcifaaDoor

namespace Go.Proofs.YtjphlimfldcifaaDoor
open Go.RowKit
open Sha

def ER (w : World) (b : Nat) (k v : List Nat) (n : Int) : Prop :=
 ∃ Ak ck Av cv, w.heap[b]? = some (.cells #[.slice Ak 32 ck, .slice Av 32 cv, .int .i64 n] 49 (0, 0)) ∧ RB w (fun g => g < w.heap.size) Ak ck k ∧ RB w (fun g => g < w.heap.size) Av cv v ∧ k.length = 32 ∧ v.length = 32
theorem ER.lt {w : World} {b : Nat} {k v : List Nat} {n : Int} (h : ER w b k v n) : b < w.heap.size := let ⟨_, _, _, _, h, _⟩ := h; blk_lt h
theorem ER.ext {w X : World} {b : Nat} {k v : List Nat} {n : Int} (h : ER w b k v n) (hE : Ext w X) : ER X b k v n := by
 obtain ⟨Ak, ck, Av, cv, h1, h2, h3, h4, h5⟩ := h
 exact ⟨Ak, ck, Av, cv, hE.at_ h1, h2.upE hE, h3.upE hE, h4, h5⟩
theorem RB.er {w X : World} {b : Nat} {k v : List Nat} {n : Int} {P : Nat → Prop} {A : Option Addr} {c : Nat} {d : List Nat} (h : RB w P A c d) (hP : ∀ k, P k → k < w.heap.size) (hd : ER w b k v n) (hf : Fr b w.heap.size w X) : RB X P A c d :=
 h.by_ fun q u hq hc => (World.cell?_of_block (hf.block _ (hP _ hq) (fun e => by
  obtain ⟨Ak, ck, Av, cv, h1, _⟩ := hd
  unfold World.cell? at hc
  rw [e, h1] at hc
  simp only at hc
  split at hc
  · cases hc
  · have hm := List.mem_of_getElem? (l := [Value.slice Ak 32 ck, .slice Av 32 cv, .int .i64 n]) (i := q.off) (by simpa using hc)
    simp at hm))).trans hc
theorem RB.er' {w X : World} {b : Nat} {k v : List Nat} {n : Int} {A : Option Addr} {c : Nat} {d : List Nat} (h : RB w (fun g => g < w.heap.size) A c d) (hd : ER w b k v n) (hf : Fr b w.heap.size w X) : RB X (fun g => g < X.heap.size) A c d :=
 (h.er (fun _ h => h) hd hf).mono fun _ hg => Nat.lt_of_lt_of_le hg hf.size
theorem ER.fr {w X : World} {b b' : Nat} {k v k' v' : List Nat} {n n' : Int} (h : ER w b k v n) (hf : Fr b' w.heap.size w X) (hb : ER w b' k' v' n') (hn : b ≠ b') : ER X b k v n := by
 obtain ⟨Ak, ck, Av, cv, h1, h2, h3, h4, h5⟩ := h
 exact ⟨Ak, ck, Av, cv, hf.at_ (blk_lt h1) hn h1, h2.er' hb hf, h3.er' hb hf, h4, h5⟩
theorem ER.frS {w : World} {b : Nat} (i : Nat) (u : Value) : Fr b w.heap.size w (w.setCell ⟨b, i, none⟩ u) := Fr.just ((Just.refl b w).set i u) (Nat.le_refl _)
theorem ER.setK {w : World} {b c : Nat} {A : Option Addr} {k k' v : List Nat} {n : Int} (h : ER w b k v n) (ho : RB w (fun g => g < w.heap.size) A c k') (hl : k'.length = 32) : ER (w.setCell ⟨b, 0, none⟩ (.slice A 32 c)) b k' v n := by
 have hd := h
 obtain ⟨Ak, ck, Av, cv, h1, h2, h3, h4, h5⟩ := h
 exact ⟨A, c, Av, cv, blk_set h1 0 _, ho.er' hd (ER.frS _ _), h3.er' hd (ER.frS _ _), hl, h5⟩
theorem ER.setV {w : World} {b c : Nat} {A : Option Addr} {k v v' : List Nat} {n : Int} (h : ER w b k v n) (ho : RB w (fun g => g < w.heap.size) A c v') (hl : v'.length = 32) : ER (w.setCell ⟨b, 1, none⟩ (.slice A 32 c)) b k v' n := by
 have hd := h
 obtain ⟨Ak, ck, Av, cv, h1, h2, h3, h4, h5⟩ := h
 exact ⟨Ak, ck, A, c, blk_set h1 1 _, h2.er' hd (ER.frS _ _), ho.er' hd (ER.frS _ _), h4, hl⟩
theorem ER.setN {w : World} {b : Nat} {k v : List Nat} {n : Int} (h : ER w b k v n) (m : Int) : ER (w.setCell ⟨b, 2, none⟩ (.int .i64 m)) b k v m := by
 have hd := h
 obtain ⟨Ak, ck, Av, cv, h1, h2, h3, h4, h5⟩ := h
 exact ⟨Ak, ck, Av, cv, blk_set h1 2 _, h2.er' hd (ER.frS _ _), h3.er' hd (ER.frS _ _), h4, h5⟩
theorem ER.vcell {w : World} {b : Nat} {k v : List Nat} {n : Int} (h : ER w b k v n) : ∃ Av cv, w.cell? ⟨b, 1, none⟩ = some (.slice Av 32 cv) := by
 obtain ⟨Ak, ck, Av, cv, h1, _⟩ := h
 exact ⟨Av, cv, blk_cell h1 1⟩
theorem ER.free {w : World} {b : Nat} {k v : List Nat} {n : Int} (h : ER w b k v n) (i : Nat) : w.frozen? ⟨b, i, none⟩ = false := by
 obtain ⟨Ak, ck, Av, cv, h1, _⟩ := h
 exact blk_free h1 i
theorem ER.kcell {w : World} {b : Nat} {k v : List Nat} {n : Int} (h : ER w b k v n) : ∃ Av cv, w.cell? ⟨b, 0, none⟩ = some (.slice Av 32 cv) := by
 obtain ⟨Ak, ck, Av, cv, h1, _⟩ := h
 exact ⟨Ak, ck, blk_cell h1 0⟩
theorem ER.v0 {w : World} {b : Nat} {k v : List Nat} {n : Int} {y : Value} (h : ER w b k v n) (hv : w.cell? ⟨b, 1, none⟩ = some y) (u : Value) : (w.setCell ⟨b, 0, none⟩ u).cell? ⟨b, 1, none⟩ = some y := by
 obtain ⟨Ak, ck, Av, cv, h1, _⟩ := h
 have e1 := blk_cell h1 1
 rw [hv] at e1
 rw [blk_cell (blk_set h1 0 u) 1, e1]
 rfl
theorem eturnK {w w1 : World} {b : Nat} {k v k' : List Nat} {n : Int} {A : Option Addr} {c : Nat} (hd : ER w b k v n) (hE : Ext w w1) (ho : OW w1 w.heap.size A c k') (hl : k'.length = 32) :
 ER (w1.setCell ⟨b, 0, none⟩ (.slice A 32 c)) b k' v n ∧ Fr b w.heap.size w (w1.setCell ⟨b, 0, none⟩ (.slice A 32 c)) :=
 ⟨(hd.ext hE).setK (ho.rb' (by omega)) hl, (Fr.below hE (Nat.le_refl _)).trans (Fr.just ((Just.refl b w1).set 0 _) hE.bsize)⟩
theorem eturnV {w w1 : World} {b : Nat} {k v v' : List Nat} {n : Int} {A : Option Addr} {c : Nat} (hd : ER w b k v n) (hE : Ext w w1) (ho : OW w1 w.heap.size A c v') (hl : v'.length = 32) :
 ER (w1.setCell ⟨b, 1, none⟩ (.slice A 32 c)) b k v' n ∧ Fr b w.heap.size w (w1.setCell ⟨b, 1, none⟩ (.slice A 32 c)) :=
 ⟨(hd.ext hE).setV (ho.rb' (by omega)) hl, (Fr.below hE (Nat.le_refl _)).trans (Fr.just ((Just.refl b w1).set 1 _) hE.bsize)⟩
set_option maxRecDepth 100000 in
set_option maxHeartbeats 8000000 in
theorem rhm4_any {P : Nat → Prop} {A Ak : Option Addr} {c ck : Nat} {key : List Nat} {ps : List (List Nat)} (w : World) (hk : RB w (fun g => g < w.heap.size) Ak ck key) (hkl : key.length = 32) (hp : RP w P A c ps) (hP : ∀ k, P k → k < w.heap.size) (hl : ps.flatten.length ≤ 500000) :
 Calls Tryd.prog 26 #[.slice Ak 32 ck, .slice A ps.length c] w fun e w' => ∃ A' c', e = .returned (.slice A' 32 c') ∧ OW w' w.heap.size A' c' (hmac key ps.flatten) ∧ Ext w w' := by
 have hJ := rjoin_any w hp hP (by omega)
 obtain ⟨fl, hfl⟩ : ∃ l, ps.flatten = l := ⟨_, rfl⟩
 rw [hfl] at hJ hl ⊢
 have HJ := Lib.hid hJ
 clear hJ hfl
 have HK := Lib.hid hk
 have HL := Lib.hid hl
 clear hk hp hP hl
 go_enter Tryd.func26, Tryd.ntmps26
 go_wp2_with fail
 refine HJ.out.mono ?_
 rintro e w1 ⟨A1, c1, rfl, ho, hE⟩
 have H := rhmac_any w1 (HK.out.upE hE) (fun _ h => h) (ho.rb (by have := HL.out; omega)) (fun _ h => h.2) (by omega) (by have := HL.out; omega)
 rw [hkl] at H
 have HM := Lib.hid H
 have HE := Lib.hid hE
 clear ho hE H HJ
 go_wp2_with fail
 refine HM.out.mono ?_
 rintro e w2 ⟨A2, c2, rfl, ho, hE⟩
 have HO := Lib.hid (ho.mono HE.out.bsize)
 have HE2 := Lib.hid (HE.out.trans hE)
 clear ho hE HM
 go_wp2_with fail
 go_ret
 exact ⟨A2, c2, rfl, HO.out, HE2.out⟩
end Go.Proofs.YtjphlimfldcifaaDoor
