/- DrbgAll: for every tape and script the law answers true, and its arguments stay as they were, over the program's own table of constants. The card is tied. DrbgAll: both generators are asked for bytes. DrbgAll: the numbers are compared. A script of operations opened. drbg: begun. DrbgTwo: the law. What the reference's Bits, Bit and Bytes compute. What the reference's Quo computes: quotient and remainder. What baileyref2's Mod and Mul compute. The reference's Below. DrbgAll: the law. The table of hashes.k as the row lists it. -/
import Derived.Test.YtjphlimfldcifaaDoorQb696c5c03315
import Derived.Deep.Fields
import Derived.Lib.SlBytesConst
import Derived.Test.YtjphlimfldcifaaDoorRows
import Derived.ProofKit
import Derived.LaidMore
import Derived.OpenShut
import Derived.MakeChecks
import Derived.Test.YtjphlimfldcifaaDoorCards
import Derived.Test.YtjphlimfldcifaaDoorTie
import Derived.Stop.Joined
import Derived.SevenTiedAt
namespace Go.Proofs.YtjphlimfldcifaaDoor
open Go.RowKit
open Sha

theorem dbytes_no {b : Nat} (m : Int) (hm : m < 1 ∨ 65536 < m) (w : World) :
 Calls Tryd.prog 13 #[.pointer (some ⟨b, 0, none⟩), .int .i64 m] w fun e w' => e = .returned (.slice none 0 0) ∧ w' = w := by
 rcases hm with h | h
 · exact dbytes_small b m h w
 · exact dbytes_big b m h w
set_option maxRecDepth 100000 in
set_option maxHeartbeats 8000000 in
theorem da19_no {Q : Exit → Act → World → Prop} {w : World} {pd pr : Nat} {n : Int} {u0 u1 u2 u3 u4 u5 u8 u9 u11 u12 u13 u14 u15 u16 u17 u18 u19 u20 u21 u22 u23 u24 u25 u26 u27 u28 u29 u30 u31 u32 u33 u34 u35 u36 u37 u38 u39 u40 u41 u42 u43 u44 u45 u46 u47 u48 u49 u50 u51 u52 u53 u54 u55 u56 u57 u58 u59 u60 u61 u62 u63 u64 u65 u66 u67 u68 u69 u70 u71 u72 u73 u74 u75 u76 u77 u78 u79 u80 u81 u82 u83 u84 u85 u86 u87 u88 u89 u90 u91 u92 u93 u94 u95 u96 u97 u98 u99 u100 u101 u102 u103 u104 u105 u106 u107 u108 u109 u110 : Value} (hn : n < 1 ∨ 65536 < n)
 (h : ∀ (X : World), Ext w X → ∀ (y62 y63 y64 y65 y66 y67 y68 y69 : Value), Q .normal { tmps := #[u0, u1, u2, u3, u4, u5, .pointer (some ⟨pd, 0, none⟩), .pointer (some ⟨pr, 0, none⟩), u8, u9, .int .i64 n, u11, u12, u13, u14, u15, u16, u17, u18, u19, u20, u21, u22, u23, u24, u25, u26, u27, u28, u29, u30, u31, u32, u33, u34, u35, u36, u37, u38, u39, u40, u41, u42, u43, u44, u45, u46, u47, u48, u49, u50, u51, u52, u53, u54, u55, u56, u57, u58, u59, u60, u61, y62, y63, y64, y65, y66, y67, y68, y69, .bool false, u71, u72, u73, u74, u75, u76, u77, u78, u79, u80, u81, u82, u83, u84, u85, u86, u87, u88, u89, u90, u91, u92, u93, u94, u95, u96, u97, u98, u99, u100, u101, u102, u103, u104, u105, u106, u107, u108, u109, u110], defers := [] } X) :
 (regOf Tryd.f5 19).wp Tryd.prog Q { tmps := #[u0, u1, u2, u3, u4, u5, .pointer (some ⟨pd, 0, none⟩), .pointer (some ⟨pr, 0, none⟩), u8, u9, .int .i64 n, u11, u12, u13, u14, u15, u16, u17, u18, u19, u20, u21, u22, u23, u24, u25, u26, u27, u28, u29, u30, u31, u32, u33, u34, u35, u36, u37, u38, u39, u40, u41, u42, u43, u44, u45, u46, u47, u48, u49, u50, u51, u52, u53, u54, u55, u56, u57, u58, u59, u60, u61, u62, u63, u64, u65, u66, u67, u68, u69, u70, u71, u72, u73, u74, u75, u76, u77, u78, u79, u80, u81, u82, u83, u84, u85, u86, u87, u88, u89, u90, u91, u92, u93, u94, u95, u96, u97, u98, u99, u100, u101, u102, u103, u104, u105, u106, u107, u108, u109, u110], defers := [] } w := by
 refine Par.region_ext (by kernel_rfl) 9 [0, 0, 3, 7, 0, 0, 55, 119, 255] [] (fun j f X => match j with
  | 0 => f 0 = .pointer (some ⟨pd, 0, none⟩)
  | 1 => f 1 = .int .i64 n
  | 2 => f 2 = .slice none 0 0
  | 3 => f 3 = .string (strB [])
  | 4 => f 4 = .pointer (some ⟨pr, 0, none⟩)
  | 5 => f 5 = .int .i64 n
  | 6 => f 6 = .slice none 0 0
  | 7 => f 7 = .string (strB [])
  | 8 => f 8 = .bool false
  | _ => True) (by kernel_rfl) [(62, 0), (63, 1), (64, 2), (65, 3), (66, 4), (67, 5), (68, 6), (69, 7), (70, 8)] (by kernel_rfl) ?_
 refine Par.v0 1 8 ?_
 refine Par.v0 2 7 ?_
 refine Par.c0 3 6 (fun f => #[f 0, f 1]) (F' := 13) (fun f X hX hR => ?_) ?_
 · have e0 : f 0 = _ := hR.out 0 rfl
   have e1 : f 1 = _ := hR.out 1 rfl
   simp only [e0, e1]
   refine (dbytes_no n hn X).mono ?_
   rintro e w2 ⟨rfl, rfl⟩
   exact ⟨(.slice none 0 0), rfl, (Ext.refl _), fun _ _ => rfl⟩
 refine Par.S 4 5 [(62, 0), (63, 1), (64, 2), (66, 4), (67, 5), (68, 6), (69, 7)] (fun f X hX hR K hK => ?_) ?_
 · have e2 : f 2 = _ := hR.out 2 rfl
   have st := (RB.nil_ X (fun _ => True)).str (P := Tryd.prog) 22 5 9 Tryd.underlying22 Tryd.underlying5 Tryd.underlying9
   rw [show ([] : List Nat).length = 0 from rfl] at st
   simp only [yA, yB, yC, yD, yE, e2]
   refine ⟨?_⟩
   go_simp
   exact Par.k hK (s := by simp only [yA, yB, yC, yD, yE, e2])
 refine Par.v0 5 4 ?_
 refine Par.v0 6 3 ?_
 refine Par.c0 7 2 (fun f => #[f 4, f 5]) (F' := 12) (fun f X hX hR => ?_) ?_
 · have e4 : f 4 = _ := hR.out 4 rfl
   have e5 : f 5 = _ := hR.out 5 rfl
   simp only [e4, e5]
   refine (rbytes_no n hn X).mono ?_
   rintro e w2 ⟨rfl, rfl⟩
   exact ⟨(.slice none 0 0), rfl, (Ext.refl _), fun _ _ => rfl⟩
 refine Par.S 8 1 [(62, 0), (63, 1), (64, 2), (65, 3), (66, 4), (67, 5), (68, 6)] (fun f X hX hR K hK => ?_) ?_
 · have e6 : f 6 = _ := hR.out 6 rfl
   have st := (RB.nil_ X (fun _ => True)).str (P := Tryd.prog) 22 5 9 Tryd.underlying22 Tryd.underlying5 Tryd.underlying9
   rw [show ([] : List Nat).length = 0 from rfl] at st
   simp only [yA, yB, yC, yD, yE, e6]
   refine ⟨?_⟩
   go_simp
   exact Par.k hK (s := by simp only [yA, yB, yC, yD, yE, e6])
 refine Par.S 9 0 [(62, 0), (63, 1), (64, 2), (65, 3), (66, 4), (67, 5), (68, 6), (69, 7)] (fun f X hX hR K hK => ?_) ?_
 · have e3 : f 3 = _ := hR.out 3 rfl
   have e7 : f 7 = _ := hR.out 7 rfl
   simp only [yA, yB, yC, yD, yE, e3, e7]
   refine ⟨?_⟩
   go_simp
   exact Par.k hK (s := by simp only [yA, yB, yC, yD, yE, e3, e7])
 refine Par.AllOps.fin ⟨fun f X hX hR hal hap => ?_⟩
 have e8 : f 8 = _ := hR 8 (by decide)
 simp only [yA, yB, yD, yE, e8]
 clear hR hal hap e8
 refine Par.Chain.done ?_
 exact h X hX _ _ _ _ _ _ _ _
def Fr2 (p r : Nat) (x y : World) : Prop := y.os = x.os ∧ y.tape = x.tape ∧ y.output = x.output ∧ x.heap.size ≤ y.heap.size ∧ ∀ b, b < x.heap.size → b ≠ p → b ≠ r → y.heap[b]? = x.heap[b]?
theorem Fr2.ext {p r : Nat} {w x y : World} (h : Fr2 p r x y) (hE : Ext w x) (hp : w.heap.size ≤ p) (hr : w.heap.size ≤ r) : Ext w y := ⟨h.1.trans hE.os, h.2.1.trans hE.tape, h.2.2.1.trans hE.output, Nat.le_trans hE.bsize h.2.2.2.1, fun b hb => (h.2.2.2.2 b (Nat.lt_of_lt_of_le hb hE.bsize) (by omega) (by omega)).trans (hE.block b hb)⟩
def E2 (p r : Nat) (k v : List Nat) (n : Int) (x y : World) : Prop := Fr2 p r x y ∧ (DR x p k v n → DR y p k v n) ∧ (ER x r k v n → ER y r k v n) ∧ (KW x → KW y)
theorem E2.refl (p r : Nat) (k v : List Nat) (n : Int) (x : World) : E2 p r k v n x x := ⟨⟨rfl, rfl, rfl, Nat.le_refl _, fun _ _ _ _ => rfl⟩, id, id, id⟩
theorem E2.trans {p r : Nat} {k v : List Nat} {n : Int} (x y z : World) (h : E2 p r k v n x y) (g : E2 p r k v n y z) : E2 p r k v n x z :=
 ⟨⟨g.1.1.trans h.1.1, g.1.2.1.trans h.1.2.1, g.1.2.2.1.trans h.1.2.2.1, Nat.le_trans h.1.2.2.2.1 g.1.2.2.2.1, fun b hb h1 h2 => (g.1.2.2.2.2 b (Nat.lt_of_lt_of_le hb h.1.2.2.2.1) h1 h2).trans (h.1.2.2.2.2 b hb h1 h2)⟩, g.2.1 ∘ h.2.1, g.2.2.1 ∘ h.2.2.1, g.2.2.2 ∘ h.2.2.2⟩
theorem Fr.two {b p r : Nat} {x y : World} (h : Fr b x.heap.size x y) (hb : b = p ∨ b = r) : Fr2 p r x y := ⟨h.os, h.tape, h.output, h.size, fun i hi h1 h2 => h.block i hi (by omega)⟩
abbrev P2 (p r : Nat) (X : World) (g : Nat) : Prop := g < X.heap.size ∧ g ≠ p ∧ g ≠ r
theorem RB.e2 {p r : Nat} {x y : World} {A : Option Addr} {c : Nat} {d : List Nat} (h : RB x (P2 p r x) A c d) (hf : Fr2 p r x y) : RB y (P2 p r y) A c d :=
 (h.keep fun q hq => World.cell?_of_block (hf.2.2.2.2 _ hq.1 hq.2.1 hq.2.2)).mono fun g hg => ⟨Nat.lt_of_lt_of_le hg.1 hf.2.2.2.1, hg.2⟩
def G2 (p r : Nat) (k v : List Nat) (n : Int) (j : Nat) (X : World) : Prop := (j = 2 → DR X p k v n ∧ KW X) ∧ (j = 6 → ER X r k v n)
theorem DR.once {w : World} {b : Nat} {k v k' v' : List Nat} {n : Int} (h : DR w b k v n) (g : DR w b k' v' (n + 1)) : False := by
 obtain ⟨_, _, _, _, h1, _⟩ := h
 obtain ⟨_, _, _, _, h2, _⟩ := g
 rw [h1] at h2
 simp at h2
 omega
theorem ER.once {w : World} {b : Nat} {k v k' v' : List Nat} {n : Int} (h : ER w b k v n) (g : ER w b k' v' (n + 1)) : False := by
 obtain ⟨_, _, _, _, h1, _⟩ := h
 obtain ⟨_, _, _, _, h2, _⟩ := g
 rw [h1] at h2
 simp at h2
 omega
set_option maxRecDepth 100000 in
set_option maxHeartbeats 8000000 in
theorem da19_yes {Q : Exit → Act → World → Prop} {w : World} {pd pr m : Nat} {k v k1 v1 : List Nat} {num : Int} {o : List Nat} {u0 u1 u2 u3 u4 u5 u8 u9 u11 u12 u13 u14 u15 u16 u17 u18 u19 u20 u21 u22 u23 u24 u25 u26 u27 u28 u29 u30 u31 u32 u33 u34 u35 u36 u37 u38 u39 u40 u41 u42 u43 u44 u45 u46 u47 u48 u49 u50 u51 u52 u53 u54 u55 u56 u57 u58 u59 u60 u61 u62 u63 u64 u65 u66 u67 u68 u69 u70 u71 u72 u73 u74 u75 u76 u77 u78 u79 u80 u81 u82 u83 u84 u85 u86 u87 u88 u89 u90 u91 u92 u93 u94 u95 u96 u97 u98 u99 u100 u101 u102 u103 u104 u105 u106 u107 u108 u109 u110 : Value} (hk : KW w) (hd : DR w pd k v num) (he : ER w pr k v num) (hne : pr ≠ pd) (hm : 0 < m) (hm2 : m ≤ 65536) (hn0 : 0 ≤ num) (hn1 : num < 1000000000)
 (ho : (douts k v ((m + 31) / 32)).take m = o) (hol : o.length = m) (hk1 : (upd2 k (dvs k v ((m + 31) / 32)) []).1 = k1) (hv1 : (upd2 k (dvs k v ((m + 31) / 32)) []).2 = v1)
 (h : ∀ (X : World), Fr2 pd pr w X → KW X → DR X pd k1 v1 (num + 1) → ER X pr k1 v1 (num + 1) → ∀ (y62 y63 y64 y65 y66 y67 y68 y69 : Value), Q .normal { tmps := #[u0, u1, u2, u3, u4, u5, .pointer (some ⟨pd, 0, none⟩), .pointer (some ⟨pr, 0, none⟩), u8, u9, .int .i64 (m : Int), u11, u12, u13, u14, u15, u16, u17, u18, u19, u20, u21, u22, u23, u24, u25, u26, u27, u28, u29, u30, u31, u32, u33, u34, u35, u36, u37, u38, u39, u40, u41, u42, u43, u44, u45, u46, u47, u48, u49, u50, u51, u52, u53, u54, u55, u56, u57, u58, u59, u60, u61, y62, y63, y64, y65, y66, y67, y68, y69, .bool false, u71, u72, u73, u74, u75, u76, u77, u78, u79, u80, u81, u82, u83, u84, u85, u86, u87, u88, u89, u90, u91, u92, u93, u94, u95, u96, u97, u98, u99, u100, u101, u102, u103, u104, u105, u106, u107, u108, u109, u110], defers := [] } X) :
 (regOf Tryd.f5 19).wp Tryd.prog Q { tmps := #[u0, u1, u2, u3, u4, u5, .pointer (some ⟨pd, 0, none⟩), .pointer (some ⟨pr, 0, none⟩), u8, u9, .int .i64 (m : Int), u11, u12, u13, u14, u15, u16, u17, u18, u19, u20, u21, u22, u23, u24, u25, u26, u27, u28, u29, u30, u31, u32, u33, u34, u35, u36, u37, u38, u39, u40, u41, u42, u43, u44, u45, u46, u47, u48, u49, u50, u51, u52, u53, u54, u55, u56, u57, u58, u59, u60, u61, u62, u63, u64, u65, u66, u67, u68, u69, u70, u71, u72, u73, u74, u75, u76, u77, u78, u79, u80, u81, u82, u83, u84, u85, u86, u87, u88, u89, u90, u91, u92, u93, u94, u95, u96, u97, u98, u99, u100, u101, u102, u103, u104, u105, u106, u107, u108, u109, u110], defers := [] } w := by
 refine ParG.region (E := E2 pd pr k1 v1 (num + 1)) (G := G2 pd pr k v num) (E2.refl _ _ _ _ _) E2.trans (fun _ _ h => h.1.2.2.2.1) (show E2 pd pr k1 v1 (num + 1) w w.drew from ⟨⟨rfl, rfl, rfl, Nat.le_refl _, fun _ _ _ _ => rfl⟩, fun h => h.ext (Ext.drew w), fun h => h.ext (Ext.drew w), fun h => h.ext (Ext.drew w)⟩) (fun j => ⟨fun _ => ⟨hd.ext (Ext.drew w), hk.ext (Ext.drew w)⟩, fun _ => he.ext (Ext.drew w)⟩) (by kernel_rfl) 9 [0, 0, 3, 7, 0, 0, 55, 119, 255] [] (fun j f X => match j with
  | 0 => f 0 = .pointer (some ⟨pd, 0, none⟩)
  | 1 => f 1 = .int .i64 (m : Int)
  | 2 => ∃ A c, f 2 = .slice A m c ∧ RB X (P2 pd pr X) A c o ∧ DR X pd k1 v1 (num + 1)
  | 3 => f 3 = .string (strB o)
  | 4 => f 4 = .pointer (some ⟨pr, 0, none⟩)
  | 5 => f 5 = .int .i64 (m : Int)
  | 6 => ∃ A c, f 6 = .slice A m c ∧ RB X (P2 pd pr X) A c o ∧ ER X pr k1 v1 (num + 1)
  | 7 => f 7 = .string (strB o)
  | 8 => f 8 = .bool false
  | _ => True) (by kernel_rfl) [(62, 0), (63, 1), (64, 2), (65, 3), (66, 4), (67, 5), (68, 6), (69, 7), (70, 8)] (by kernel_rfl) ?_
 have hrp : ∀ X, E2 pd pr k1 v1 (num + 1) w X → pr < X.heap.size := fun X hX => Nat.lt_of_lt_of_le he.lt hX.1.2.2.2.1
 have hdp : ∀ X, E2 pd pr k1 v1 (num + 1) w X → pd < X.heap.size := fun X hX => Nat.lt_of_lt_of_le hd.lt hX.1.2.2.2.1
 refine Par.AllOps.cons 1 8 rfl rfl (ParG.StepO.intro [(63, 1), (66, 4), (67, 5)] (by kernel_rfl) (fun f X hX hG hR K hK => ?_)) ?_
 · skip
   simp only [yA, yB, yC, yD, yE]
   refine ⟨?_⟩
   go_simp
   exact hK.out _ (.pointer (some ⟨pd, 0, none⟩)) _ (by simp only [yA, yB, yC, yD, yE]) (E2.refl _ _ _ _ _ X) (fun _ _ h => h) trivial (fun _ _ => rfl)
 refine Par.AllOps.cons 2 7 rfl rfl (ParG.StepO.intro [(62, 0), (66, 4), (67, 5)] (by kernel_rfl) (fun f X hX hG hR K hK => ?_)) ?_
 · skip
   simp only [yA, yB, yC, yD, yE]
   refine ⟨?_⟩
   go_simp
   exact hK.out _ (.int .i64 (m : Int)) _ (by simp only [yA, yB, yC, yD, yE]) (E2.refl _ _ _ _ _ X) (fun _ _ h => h) trivial (fun _ _ => rfl)
 refine Par.AllOps.cons 3 6 rfl rfl (ParG.StepO.intro [(62, 0), (63, 1), (66, 4), (67, 5)] (by kernel_rfl) (fun f X hX hG hR K hK => ?_)) ?_
 · have e0 : f 0 = _ := hR.out 0 rfl
   have e1 : f 1 = _ := hR.out 1 rfl
   simp only [yA, yB, yC, yD, yE, e0, e1]
   refine ⟨?_⟩
   go_simp
   obtain ⟨hd, hk⟩ := hG.1 rfl
   refine (dbytes_any (m := m) X hk hd (by omega) (by omega) hn0 hn1).mono ?_
   rintro e w2 ⟨A, c, rfl, hr, hd2, hf⟩
   rw [ho] at hr
   rw [hk1, hv1] at hd2
   exact hK.out _ _ _ (by simp only [yA, yB, yC, yD, yE, e0, e1]) ⟨hf.two (.inl rfl), fun h => (hd.once h).elim, fun h => h.frd hf hd hne, fun h => h.dr hd hf (Nat.le_refl _)⟩ (fun j hj hGj => ⟨fun e => absurd e hj, fun e => (hGj.2 e).frd hf hd hne⟩) trivial (fun Y hY => ⟨A, c, rfl, (show RB w2 (P2 pd pr w2) A c o from hr.mono fun g hg => ⟨hg.2, by have := hd.lt; have := hg.1; omega, by have := hrp X hX; have := hg.1; omega⟩).e2 hY.1, hY.2.1 hd2⟩)
 refine Par.AllOps.cons 4 5 rfl rfl (ParG.StepO.intro [(62, 0), (63, 1), (64, 2), (66, 4), (67, 5), (68, 6), (69, 7)] (by kernel_rfl) (fun f X hX hG hR K hK => ?_)) ?_
 · obtain ⟨A2, c2, (e2 : f 2 = _), r2, d2⟩ := hR.out 2 rfl
   have st := r2.str (P := Tryd.prog) 22 5 9 Tryd.underlying22 Tryd.underlying5 Tryd.underlying9
   rw [hol] at st
   simp only [yA, yB, yC, yD, yE, e2]
   refine ⟨?_⟩
   go_simp
   exact hK.out _ (.string (strB o)) _ (by simp only [yA, yB, yC, yD, yE, e2]) (E2.refl _ _ _ _ _ X) (fun _ _ h => h) trivial (fun _ _ => rfl)
 refine Par.AllOps.cons 5 4 rfl rfl (ParG.StepO.intro [(62, 0), (63, 1), (64, 2), (65, 3), (67, 5)] (by kernel_rfl) (fun f X hX hG hR K hK => ?_)) ?_
 · skip
   simp only [yA, yB, yC, yD, yE]
   refine ⟨?_⟩
   go_simp
   exact hK.out _ (.pointer (some ⟨pr, 0, none⟩)) _ (by simp only [yA, yB, yC, yD, yE]) (E2.refl _ _ _ _ _ X) (fun _ _ h => h) trivial (fun _ _ => rfl)
 refine Par.AllOps.cons 6 3 rfl rfl (ParG.StepO.intro [(62, 0), (63, 1), (64, 2), (65, 3), (66, 4)] (by kernel_rfl) (fun f X hX hG hR K hK => ?_)) ?_
 · skip
   simp only [yA, yB, yC, yD, yE]
   refine ⟨?_⟩
   go_simp
   exact hK.out _ (.int .i64 (m : Int)) _ (by simp only [yA, yB, yC, yD, yE]) (E2.refl _ _ _ _ _ X) (fun _ _ h => h) trivial (fun _ _ => rfl)
 refine Par.AllOps.cons 7 2 rfl rfl (ParG.StepO.intro [(62, 0), (63, 1), (64, 2), (65, 3), (66, 4), (67, 5)] (by kernel_rfl) (fun f X hX hG hR K hK => ?_)) ?_
 · have e4 : f 4 = _ := hR.out 4 rfl
   have e5 : f 5 = _ := hR.out 5 rfl
   simp only [yA, yB, yC, yD, yE, e4, e5]
   refine ⟨?_⟩
   go_simp
   have he := hG.2 rfl
   refine (rbytes_any (m := m) X he (by omega) (by omega) hn0 hn1).mono ?_
   rintro e w2 ⟨A, c, rfl, hr, hd2, hf⟩
   rw [ho] at hr
   rw [hk1, hv1] at hd2
   exact hK.out _ _ _ (by simp only [yA, yB, yC, yD, yE, e4, e5]) ⟨hf.two (.inr rfl), fun h => h.fre hf he hne.symm, fun h => (he.once h).elim, fun h => h.er he hf (Nat.le_refl _)⟩ (fun j hj hGj => ⟨fun e => ⟨(hGj.1 e).1.fre hf he hne.symm, (hGj.1 e).2.er he hf (Nat.le_refl _)⟩, fun e => absurd e hj⟩) trivial (fun Y hY => ⟨A, c, rfl, (show RB w2 (P2 pd pr w2) A c o from hr.mono fun g hg => ⟨hg.2, by have := hdp X hX; have := hg.1; omega, by have := he.lt; have := hg.1; omega⟩).e2 hY.1, hY.2.2.1 hd2⟩)
 refine Par.AllOps.cons 8 1 rfl rfl (ParG.StepO.intro [(62, 0), (63, 1), (64, 2), (65, 3), (66, 4), (67, 5), (68, 6)] (by kernel_rfl) (fun f X hX hG hR K hK => ?_)) ?_
 · obtain ⟨A6, c6, (e6 : f 6 = _), r6, d6⟩ := hR.out 6 rfl
   have st := r6.str (P := Tryd.prog) 22 5 9 Tryd.underlying22 Tryd.underlying5 Tryd.underlying9
   rw [hol] at st
   simp only [yA, yB, yC, yD, yE, e6]
   refine ⟨?_⟩
   go_simp
   exact hK.out _ (.string (strB o)) _ (by simp only [yA, yB, yC, yD, yE, e6]) (E2.refl _ _ _ _ _ X) (fun _ _ h => h) trivial (fun _ _ => rfl)
 refine Par.AllOps.cons 9 0 rfl rfl (ParG.StepO.intro [(62, 0), (63, 1), (64, 2), (65, 3), (66, 4), (67, 5), (68, 6), (69, 7)] (by kernel_rfl) (fun f X hX hG hR K hK => ?_)) ?_
 · have e3 : f 3 = _ := hR.out 3 rfl
   have e7 : f 7 = _ := hR.out 7 rfl
   simp only [yA, yB, yC, yD, yE, e3, e7]
   refine ⟨?_⟩
   go_simp
   exact hK.out _ (.bool false) _ (by simp only [yA, yB, yC, yD, yE, e3, e7]) (E2.refl _ _ _ _ _ X) (fun _ _ h => h) trivial (fun _ _ => rfl)
 refine Par.AllOps.fin ⟨fun f X hX hR hal hap => ?_⟩
 obtain ⟨A2, c2, (e2 : f 2 = _), r2, d2⟩ := hR 2 (by decide)
 obtain ⟨A6, c6, (e6 : f 6 = _), r6, d6⟩ := hR 6 (by decide)
 have e8 : f 8 = _ := hR 8 (by decide)
 simp only [yA, yB, yD, yE, e8]
 refine Par.Chain.done ?_
 exact h X hX.1 (hX.2.2.2 hk) d2 d6 _ _ _ _ _ _ _ _
end Go.Proofs.YtjphlimfldcifaaDoor

namespace Go.Proofs.YtjphlimfldcifaaDoor
open Go.RowKit
open Sha

set_option maxRecDepth 100000 in
set_option maxHeartbeats 8000000 in
theorem da30 {Q : Exit → Act → World → Prop} {w : World} {pd pr : Nat} {k v : List Nat} {num : Int} {u0 u1 u2 u3 u4 u5 u8 u9 u10 u11 u12 u13 u14 u15 u16 u17 u18 u19 u20 u21 u22 u23 u24 u25 u26 u27 u28 u29 u30 u31 u32 u33 u34 u35 u36 u37 u38 u39 u40 u41 u42 u43 u44 u45 u46 u47 u48 u49 u50 u51 u52 u53 u54 u55 u56 u57 u58 u59 u60 u61 u62 u63 u64 u65 u66 u67 u68 u69 u70 u71 u72 u73 u74 u75 u76 u77 u78 u79 u80 u81 u82 u83 u84 u85 u86 u87 u88 u89 u90 u91 u92 u93 u94 u95 u96 u97 u98 u99 u100 u101 u102 u103 u104 u105 u106 u107 u108 u109 u110 : Value} (hd : DR w pd k v num) (he : ER w pr k v num)
 (h : ∀ (X : World), Ext w X → ∀ (y103 y104 y105 y106 y107 y108 : Value), Q .normal { tmps := #[u0, u1, u2, u3, u4, u5, .pointer (some ⟨pd, 0, none⟩), .pointer (some ⟨pr, 0, none⟩), u8, u9, u10, u11, u12, u13, u14, u15, u16, u17, u18, u19, u20, u21, u22, u23, u24, u25, u26, u27, u28, u29, u30, u31, u32, u33, u34, u35, u36, u37, u38, u39, u40, u41, u42, u43, u44, u45, u46, u47, u48, u49, u50, u51, u52, u53, u54, u55, u56, u57, u58, u59, u60, u61, u62, u63, u64, u65, u66, u67, u68, u69, u70, u71, u72, u73, u74, u75, u76, u77, u78, u79, u80, u81, u82, u83, u84, u85, u86, u87, u88, u89, u90, u91, u92, u93, u94, u95, u96, u97, u98, u99, u100, u101, u102, y103, y104, y105, y106, y107, y108, .bool false, u110], defers := [] } X) :
 (regOf Tryd.f5 30).wp Tryd.prog Q { tmps := #[u0, u1, u2, u3, u4, u5, .pointer (some ⟨pd, 0, none⟩), .pointer (some ⟨pr, 0, none⟩), u8, u9, u10, u11, u12, u13, u14, u15, u16, u17, u18, u19, u20, u21, u22, u23, u24, u25, u26, u27, u28, u29, u30, u31, u32, u33, u34, u35, u36, u37, u38, u39, u40, u41, u42, u43, u44, u45, u46, u47, u48, u49, u50, u51, u52, u53, u54, u55, u56, u57, u58, u59, u60, u61, u62, u63, u64, u65, u66, u67, u68, u69, u70, u71, u72, u73, u74, u75, u76, u77, u78, u79, u80, u81, u82, u83, u84, u85, u86, u87, u88, u89, u90, u91, u92, u93, u94, u95, u96, u97, u98, u99, u100, u101, u102, u103, u104, u105, u106, u107, u108, u109, u110], defers := [] } w := by
 obtain ⟨Ak, ck, Av, cv, h1, _⟩ := id he
 have nc : w.cell? ⟨pr, 2, none⟩ = some (.int .i64 num) := blk_cell h1 2
 clear h1
 refine Par.region_ext (by kernel_rfl) 7 [0, 1, 0, 4, 12, 28, 63] [] (fun j f X => match j with
  | 0 => f 0 = .pointer (some ⟨pd, 0, none⟩)
  | 1 => f 1 = .int .i64 num
  | 2 => f 2 = .pointer (some ⟨pr, 0, none⟩)
  | 3 => f 3 = .pointer (some ⟨pr, 0, none⟩)
  | 4 => f 4 = .pointer (some ⟨pr, 2, none⟩)
  | 5 => f 5 = .int .i64 num
  | 6 => f 6 = .bool false
  | _ => True) (by kernel_rfl) [(103, 0), (104, 1), (105, 2), (106, 3), (107, 4), (108, 5), (109, 6)] (by kernel_rfl) ?_
 refine Par.v0 1 6 ?_
 refine Par.c0 2 5 (fun f => #[f 0]) (F' := 21) (fun f X hX hR => ?_) ?_
 · have e0 : f 0 = _ := hR.out 0 rfl
   simp only [e0]
   refine (left_any X (hd.ext hX)).mono ?_
   rintro e w2 ⟨rfl, rfl⟩
   exact ⟨(.int .i64 num), rfl, (Ext.refl _), fun _ _ => rfl⟩
 refine Par.v0 3 4 ?_
 refine Par.v1 4 3 2 ?_
 refine Par.v1 5 2 3 ?_
 refine Par.ld1 6 1 4 nc ?_
 refine Par.S 7 0 [(103, 0), (104, 1), (105, 2), (106, 3), (107, 4), (108, 5)] (fun f X hX hR K hK => ?_) ?_
 · have e1 : f 1 = _ := hR.out 1 rfl
   have e5 : f 5 = _ := hR.out 5 rfl
   simp only [yA, yB, yC, yD, yE, e1, e5]
   refine ⟨?_⟩
   go_simp
   exact Par.k hK (s := by simp only [yA, yB, yC, yD, yE, e1, e5])
 refine Par.AllOps.fin ⟨fun f X hX hR hal hap => ?_⟩
 have e6 : f 6 = _ := hR 6 (by decide)
 simp only [yA, yB, yD, yE, e6]
 clear hR hal hap e6
 refine Par.Chain.done ?_
 exact h X hX _ _ _ _ _ _
end Go.Proofs.YtjphlimfldcifaaDoor

namespace Go.Proofs.YtjphlimfldcifaaDoor
open Go.ChangeShapes Go.WideShapes Go.ChangeAt Go.RowKit Go.Deep Go.Joins

section
variable {H : Type} {enc : TypeId × Value → H} {P : Program} {w : World} {base : Nat} {spare : Nat → Bool} {held : Bool}
theorem open_slice_fields {t e : TypeId} {fs : Array Field} {fuel : Nat} {cs : List Value} {x : DataW H × List MemPlace} (ht : P.underlying t = some (.slice e)) (he : P.underlying e = some (.struct fs))
    (hone : oneCellFields P fs = true) (hC : P.cellsOf e = fs.size) (h : DataW.trod enc P w base spare held fuel t cs = some x) :
    (cs = [.slice none 0 0] ∧ x = (.nil, [])) ∨
    ∃ (a : Addr) (len cap m : Nat) (D : Nat → DataW H) (Pl : Nat → List MemPlace), cs = [.slice (some a) len cap] ∧ base ≤ a.block ∧ len ≤ cap ∧ cap ≤ maxLen ∧ m = (if spare a.block then cap else len) ∧
      x = (.slice ((List.range len).map D) ((List.range (m - len)).map fun j => D (len + j)), MemPlace.row a (m * fs.size) ++ (List.range m).flatMap Pl) ∧
      ∀ i, i < m → ∃ (ys : List (DataW H × List MemPlace)) (n : Nat), D i = .agg (ys.map (·.1)) ∧ Pl i = ys.flatMap (·.2) ∧ ys.length = fs.size ∧
        ∀ (j : Nat) (f : Field), fs[j]? = some f → ∃ (v : Value) (y : DataW H × List MemPlace), w.cell? (a.add (i * fs.size + j)) = some v ∧ ys[j]? = some y ∧ DataW.trod enc P w base spare held n f.type [v] = some y := by
  rcases open_slice ht h with h0 | ⟨a, len, cap, m, n, D, Pl, hcs, hb, hl, hm, hmm, hx, hi⟩
  · exact .inl h0
  · refine .inr ⟨a, len, cap, m, D, Pl, hcs, hb, hl, hm, hmm, by rw [hC] at hx; exact hx, fun i him => ?_⟩
    obtain ⟨cs', hc, ht'⟩ := hi i him
    rw [hC] at hc
    obtain ⟨ys, n', hn', hy, hlen, hyl, hf⟩ := DataW.trod_struct he ht'
    obtain ⟨_, hcl, hat⟩ := World.cells?_some hc
    simp only [Prod.mk.injEq] at hy
    refine ⟨ys, n', hy.1, hy.2, hyl, fun j f hj => ?_⟩
    obtain ⟨ho, hk⟩ := hone_of hone j f hj
    have hjl : j < fs.size := (Array.getElem?_eq_some_iff.1 hj).1
    have hcell := hat j hjl
    have hv : cs'[j]? = some (cs'[j]'(by omega)) := List.getElem?_eq_getElem (by omega)
    have h1 := hf j f hj
    rw [ho, hk] at h1
    have hone' : (cs'.drop j).take 1 = [cs'[j]'(by omega)] := by
      rw [List.drop_eq_getElem_cons (by omega)]
      rfl
    rw [hone'] at h1
    have hys : ys[j]? = some (ys[j]'(by omega)) := List.getElem?_eq_getElem (by omega)
    refine ⟨_, _, ?_, hys, h1.trans hys⟩
    rw [← Go.Deep.add_add, hcell, hv]
end
section
variable {H : Type} {enc : TypeId × Value → H} {w : World}
theorem cellsOp : Tryd.prog.cellsOf 38 = 4 := by kernel_rfl
theorem honeOp : ∃ f0 f1 f2 f3, Tryd.prog.underlying 38 = some (.struct #[f0, f1, f2, f3]) ∧ oneCellFields Tryd.prog #[f0, f1, f2, f3] = true ∧ f0.type = 3 ∧ f1.type = 3 ∧ f2.type = 22 ∧ f3.type = 36 :=
 ⟨_, _, _, _, Tryd.underlying38, by kernel_rfl, rfl, rfl, rfl, rfl⟩
def RO (w : World) (A : Option Addr) (n : Nat) : Prop := ∀ i, i < n → ∃ (ad : Addr) (kd nn : Int) (B M : Option Addr) (cb cm : Nat) (bs ml : List Nat), A = some ad ∧ w.cell? (ad.add (i * 4 + 0)) = some (.int .i64 kd) ∧ w.cell? (ad.add (i * 4 + 1)) = some (.int .i64 nn) ∧
 w.cell? (ad.add (i * 4 + 2)) = some (.slice B bs.length cb) ∧ w.cell? (ad.add (i * 4 + 3)) = some (.slice M ml.length cm) ∧ RB w (fun b => b < w.heap.size) B cb bs ∧ RL w (fun b => b < w.heap.size) M cm ml
theorem open_ops {fuel : Nat} {v : Value} {x : DataW H × List MemPlace} (h : DataW.trod enc Tryd.prog w 0 (fun _ => true) true fuel 34 [v] = some x) (hw : Fits 34 x.1) :
    ∃ A c n, v = .slice A n c ∧ n ≤ c ∧ c ≤ maxLen ∧ RO w A n := by
  obtain ⟨f0, f1, f2, f3, hu, hone, ht0, ht1, ht2, ht3⟩ := honeOp
  rcases open_slice_fields Tryd.underlying34 hu hone cellsOp h with ⟨hcs, _⟩ | ⟨a, len, cap, m, D, Pl, hcs, _, hl, hm, hmm, hx, hi⟩
  · simp at hcs
    exact ⟨none, 0, 0, hcs, Nat.le_refl _, by unfold maxLen; omega, fun i hi => absurd hi (by omega)⟩
  · simp at hcs hmm
    subst hmm
    refine ⟨some a, m, len, hcs, hl, hm, fun i hil => ?_⟩
    obtain ⟨ys, n, hD, hP, hyl, hf⟩ := hi i (by omega)
    obtain ⟨v0, y0, hc0, hy0, hr0⟩ := hf 0 f0 rfl
    obtain ⟨v1, y1, hc1, hy1, hr1⟩ := hf 1 f1 rfl
    obtain ⟨v2, y2, hc2, hy2, hr2⟩ := hf 2 f2 rfl
    obtain ⟨v3, y3, hc3, hy3, hr3⟩ := hf 3 f3 rfl
    rw [ht0] at hr0
    rw [ht1] at hr1
    rw [ht2] at hr2
    rw [ht3] at hr3
    obtain ⟨k0, hk0, _, _⟩ := DataW.trod_int Tryd.underlying3 hr0
    obtain ⟨k1, hk1, _, _⟩ := DataW.trod_int Tryd.underlying3 hr1
    have e0 : v0 = .int .i64 k0 := by simpa using hk0
    have e1 : v1 = .int .i64 k1 := by simpa using hk1
    have hys : ys = [y0, y1, y2, y3] := by
      match ys, hyl with
      | [z0, z1, z2, z3], _ => simp at hy0 hy1 hy2 hy3; rw [hy0, hy1, hy2, hy3]
    have hall : ∀ q, q ∈ DataW.weights Tryd.prog 38 (D i) → q ≤ reachBytes := by
      intro q hq
      apply hw
      rw [hx]
      have hmem : D i ∈ (List.range len).map D := List.mem_map.2 ⟨i, List.mem_range.2 hil, rfl⟩
      have hall : ∀ (ds : List (DataW H)) (d : DataW H), d ∈ ds → q ∈ DataW.weights Tryd.prog 38 d → q ∈ DataW.weightsAll Tryd.prog 38 ds := by
        intro ds
        induction ds with
        | nil => intro d hd; cases hd
        | cons e r ih =>
          intro d hd hq
          simp only [DataW.weightsAll, List.mem_append]
          rcases List.mem_cons.1 hd with rfl | hd
          · exact .inl hq
          · exact .inr (ih d hd hq)
      simp only [DataW.weights, Tryd.underlying34, List.mem_cons, List.mem_append]
      exact .inr (.inl (hall _ _ hmem hq))
    have hfit2 : Fits 22 y2.1 := fun q hq => hall q (by
      rw [hD, hys]
      simp only [DataW.weights, hu, List.map_cons, List.map_nil, DataW.weightsEach, ht2, List.mem_append]
      exact .inr (.inr (.inl hq)))
    have hfit3 : Fits 36 y3.1 := fun q hq => hall q (by
      rw [hD, hys]
      simp only [DataW.weights, hu, List.map_cons, List.map_nil, DataW.weightsEach, ht3, List.mem_append]
      exact .inr (.inr (.inr (.inl hq))))
    obtain ⟨B, cb, bs, hv2, hb⟩ := open_bytes hr2 hfit2
    obtain ⟨M, cm, ml, hv3, hm3⟩ := open_nats hr3 hfit3
    exact ⟨a, k0, k1, B, M, cb, cm, bs, ml, rfl, by rw [e0] at hc0; exact hc0, by rw [e1] at hc1; exact hc1, by rw [hv2] at hc2; exact hc2, by rw [hv3] at hc3; exact hc3, hb, hm3⟩
end
end Go.Proofs.YtjphlimfldcifaaDoor

namespace Go.Proofs.YtjphlimfldcifaaDoor
open Go.RowKit
open Sha

theorem RB.litm (w : World) (bs : List Nat) (hb : ∀ x ∈ bs, x < 256) (hl : bs.length ≤ 1000000) {cs : Array Value} (hc : (bys bs).toArray = cs) (f : Nat × Nat) :
 RB (w.alloc (.cells cs 5 f)) (fun g => g = w.heap.size) (some ⟨w.heap.size, 0, none⟩) bs.length bs := by
 subst hc
 refine ⟨⟨Nat.le_refl _, by unfold maxLen; omega, by simp [bys], fun _ => ⟨_, rfl, rfl, fun j u hu => ?_⟩⟩, hb, by omega⟩
 rw [add_blk, World.cell?, heap_alloc_new]
 simpa using hu
theorem cv8 (w : World) (cs : Array Value) (n c : Nat) : (convert 22 22 (.slice (some ⟨w.heap.size, 0, none⟩) n c)).run Tryd.prog (w.alloc (.cells cs 5)) = .ok (.slice (some ⟨w.heap.size, 0, none⟩) n c) (w.alloc (.cells cs 5 (cs.size, cs.size + 1))) :=
 Lib.run_convert_bytes_const (P := Tryd.prog) w 22 5 cs n c Tryd.underlying22 Tryd.underlying5
theorem neq_nil4 (w : World) (f : Fn) (a b : Array Value) : (binOp .neq 30 (.func f a b) .nilFunc).run Tryd.prog w = .ok (.bool true) w := by kernel_rfl
set_option maxRecDepth 100000 in
set_option maxHeartbeats 8000000 in
theorem begun4_any (w : World) (hk : KW w) : Calls Tryd.prog 7 #[] w fun e w' => e = .returned (.bool true) ∧ Ext w w' := by
 have hp := RB.litm w [116, 97, 112, 101] (by decide) (by decide) (cs := #[.int .u8 116, .int .u8 97, .int .u8 112, .int .u8 101]) rfl (4, 5)
 have hE1 : Ext w (w.alloc (.cells #[.int .u8 116, .int .u8 97, .int .u8 112, .int .u8 101] 5 (4, 5))) := Ext.alloc _ _
 have hsz := World.size_alloc w (.cells #[.int .u8 116, .int .u8 97, .int .u8 112, .int .u8 101] 5 (4, 5))
 obtain ⟨W1, hW1⟩ : ∃ W, w.alloc (.cells #[.int .u8 116, .int .u8 97, .int .u8 112, .int .u8 101] 5 (4, 5)) = W := ⟨_, rfl⟩
 rw [hW1] at hp hE1 hsz
 have hN := new_any W1 (hk.ext hE1) hp (fun k hk => by omega) (by decide)
 rw [show ([116, 97, 112, 101] : List Nat).length = 4 from rfl] at hN
 have HN := Lib.hid hN
 have HE1 := Lib.hid hE1
 have HK := Lib.hid hk
 have HW1 := Lib.hid hW1
 clear hp hE1 hsz hN hk hW1
 have hcv := cv8 w #[.int .u8 116, .int .u8 97, .int .u8 112, .int .u8 101] 4 4
 simp only [List.size_toArray, List.length_cons, List.length_nil, Nat.reduceAdd] at hcv
 rw [HW1.out] at hcv
 go_enter Tryd.func7, Tryd.ntmps7
 go_wp2_with fail
 refine HN.out.mono ?_
 rintro e w2 ⟨b, rfl, hb, hd, hE2⟩
 have hEw := HE1.out.trans hE2
 have HE2 := Lib.hid hEw
 have HB := Lib.hid (Nat.le_trans HE1.out.bsize hb)
 have H5 := Lib.hid (dbytes_any (m := 5) w2 (HK.out.ext hEw) hd (by omega) (by omega) (by omega) (by omega))
 have hkd := HK.out.ext hEw
 clear hE2 hb HN
 go_wp2_with fail
 refine H5.out.mono ?_
 rintro e w3 ⟨A5, c5, rfl, hr5, hd3, hf3⟩
 have hff := hf3.ext' hEw HB.out HE2.out.bsize
 obtain ⟨k3, v3, hd3⟩ : ∃ k v, DR w3 b k v 1 := ⟨_, _, hd3⟩
 have hrn := RN.one w3 10 (by omega)
 have hE4 : Ext w3 (w3.alloc (.cells #[.int .u64 10] 51)) := Ext.alloc _ _
 have h4 := dbelow_any (q := 4) _ (HK.out.ext (hff.trans hE4)) (hd3.ext hE4) hrn (fun g hg => by rw [World.size_alloc]; exact hg.2) (fun hg => absurd hd3.lt (by have := hg.1; omega)) (by decide) (by rw [val_one]; exact nbits_eq (k := 3) (by omega) (by omega)) (by omega) (by omega) (by rw [val_one]; omega) (by omega) (by omega)
 rw [show ([10] : List Nat).length = 1 from rfl] at h4
 obtain ⟨W4, hW4⟩ : ∃ W, w3.alloc (.cells #[.int .u64 10] 51) = W := ⟨_, rfl⟩
 have hb4 : w.heap.size ≤ W4.heap.size := by rw [← hW4]; exact (hff.trans hE4).bsize
 rw [hW4] at h4 hE4
 have HFF := Lib.hid (hff.trans hE4)
 have H4 := Lib.hid h4
 have HW4 := Lib.hid hW4
 clear hf3 hr5 hd3 hrn hE4 h4 hW4 hd hkd hEw H5 hff
 go_wp2_with fail
 rw [HW4.out]
 refine H4.out.mono ?_
 rintro e w5 ⟨A2, c2, r, m, _, hr, rfl, ho5, hd5, hf5⟩
 have hl5 : (digs 18446744073709551616 r).length ≤ 1 := digs_length_of_lt (by omega) (by rw [hr, val_one]; have := Nat.mod_lt (numOf ((douts k3 v3 ((m + 31) / 32)).take m)) (show 0 < 10 by omega); omega)
 have HD5 := Lib.hid (show DR w5 b _ _ 2 from hd5)
 have HF5 := Lib.hid (hf5.ext' HFF.out HB.out HFF.out.bsize)
 generalize (digs 18446744073709551616 r).length = n5 at *
 have l5 : (n5 : Int) ≤ 1 := by omega
 clear hr ho5 hd5 hf5 H4 hl5
 go_wp2_with fail
 refine (all_any _ _).mono ?_
 rintro e w6 ⟨rfl, rfl⟩
 have hE6 : Ext w5 (w5.alloc (.cells #[.pointer (some ⟨b, 0, none⟩)] 25)) := Ext.alloc _ _
 have HL := Lib.hid (left_any _ (HD5.out.ext hE6))
 have HE6 := Lib.hid (HF5.out.trans hE6)
 clear hE6
 generalize w5.alloc (.cells #[.pointer (some ⟨b, 0, none⟩)] 25) = W6 at *
 have hnf := neq_nil4 W6 (.func 25) #[] #[.pointer (some ⟨w5.heap.size, 0, none⟩)]
 go_wp2_with fail
 refine HL.out.mono ?_
 rintro e w7 ⟨rfl, rfl⟩
 go_wp2_with fail
 go_ret
 exact ⟨rfl, HE6.out⟩
end Go.Proofs.YtjphlimfldcifaaDoor

namespace Go.Proofs.YtjphlimfldcifaaDoor
open Go.RowKit
open Sha

theorem Fr.ofNew {w x y : World} {b F : Nat} (h : Fr b F x y) (hE : Ext w x) (hb : w.heap.size ≤ b) (hF : x.heap.size ≤ F) : Ext w y := h.ext' hE hb (Nat.le_trans hE.bsize hF)
end Go.Proofs.YtjphlimfldcifaaDoor

namespace Go.Proofs.YtjphlimfldcifaaDoor
open Go.RowKit

theorem dg_last_pos32 {x : Nat} (hx : 0 < x) : 0 < dg (digs 4294967296 x) ((digs 4294967296 x).length - 1) := by
 have hne : digs 4294967296 x ≠ [] := by rw [digs_pos (by omega) hx]; simp
 have h := digs_last (B := 4294967296) (by omega) x hne
 have hpos := List.length_pos_iff.2 hne
 rw [List.getLast_eq_getElem] at h
 rw [dg, getD_eq' (by omega)]
 omega
theorem half_step (t k : Nat) : t / 2 ^ k / 2 = t / 2 ^ (k + 1) := by rw [Nat.div_div_eq_div_mul, Nat.pow_succ]

set_option maxRecDepth 100000 in
set_option maxHeartbeats 1000000 in
theorem refBits_any (P : Nat → Prop) (A : Option Addr) (c : Nat) (x : Nat) (w : World) (h : RN w P A c (digs 4294967296 x)) :
 Calls Tryd.prog 33 #[.slice A (digs 4294967296 x).length c] w fun e w' => e = .returned (.int .i64 (nbits x : Int)) ∧ w = w' := by
 rcases Nat.eq_zero_or_pos x with rfl | hx
 · rw [digs_zero]
   go_enter Tryd.func33, Tryd.ntmps33
   go_wp2
   go_ret
   exact ⟨rfl, rfl⟩
 · have htop := fun k hk h1 h2 => nbits_top (m := 32) (by omega) hx (k := k) hk h1 h2
   have hpos := dg_last_pos32 hx
   have hD := Dig.digs x
   obtain ⟨h1, h2, h3⟩ := h.cap
   have hne : 0 < (digs 4294967296 x).length := by rw [digs_pos (by omega) hx]; simp
   rw [show (2 : Nat) ^ 32 = 4294967296 by decide] at htop
   generalize digs 4294967296 x = l at *
   obtain ⟨n, hn⟩ : ∃ n, l.length = n + 1 := ⟨l.length - 1, by omega⟩
   obtain ⟨ad, rfl, _, q1⟩ := h.at_ (i := n) (by omega)
   rw [hn, Nat.add_sub_cancel] at htop hpos
   have hl := hD.dgLt n
   generalize dg l n = t at *
   rw [hn] at h1 h3 ⊢
   have Htop := Lib.hid htop
   have Hpos := Lib.hid hpos
   clear htop hpos hx hn hne h hD
   have Hl := Lib.hid hl
   clear hl
   go_enter Tryd.func33, Tryd.ntmps33
   go_wp2
   go_loop [4, 5] (fun kv tv => ∃ k z : Nat, kv = .int .i64 (k : Int) ∧ tv = .int .u64 (z : Int) ∧ Hid (z = t / 2 ^ k) ∧ Hid (z < 4294967296) ∧ k ≤ 32 ∧ (k = 0 ∨ 2 ^ (k - 1) ≤ t)) (fun kv _ => (33 - intOf kv).toNat)
   case atStart => exact ⟨0, t, rfl, rfl, Lib.hid (by simp), Hl, by omega, .inl rfl⟩
   case round =>
    obtain ⟨k, z, rfl, rfl, hz, hzl, hk, hor⟩ := hrel
    have Hor := Lib.hid hor
    clear hor
    by_cases h0 : z = 0
    · have hfin : nbits x = 32 * n + k := by
       have e := hz.out
       rw [h0] at e
       have hlt : t < 2 ^ k := by
        rcases Nat.lt_or_ge t (2 ^ k) with h | h
        · exact h
        · have := Nat.div_pos h (Nat.pow_pos (by omega)); omega
       have hk0 : 0 < k := by
        rcases Nat.eq_zero_or_pos k with rfl | h
        · have := Hpos.out; simp at hlt; omega
        · exact h
       rcases Hor.out with h | h
       · omega
       · exact Htop.out k hk0 h hlt
      have Hfin := Lib.hid hfin
      subst h0
      clear hfin
      go_wp2
      go_ret
      exact ⟨ret_int (by rw [Hfin.out]; simp), rfl⟩
    · have hk' : k < 32 := by
       rcases Nat.lt_or_ge k 32 with h | h
       · exact h
       · exfalso
         apply h0
         rw [hz.out]
         exact Nat.div_eq_of_lt (Nat.lt_of_lt_of_le Hl.out (by rw [show (4294967296 : Nat) = 2 ^ 32 by decide]; exact Nat.pow_le_pow_right (by omega) h))
      have hge : 2 ^ k ≤ t := by
       rcases Nat.lt_or_ge t (2 ^ k) with h | h
       · exfalso; apply h0; rw [hz.out]; exact Nat.div_eq_of_lt h
       · exact h
      have Hge := Lib.hid hge
      obtain ⟨z', hz', e1⟩ : ∃ z' : Nat, z / 2 = z' ∧ (z : Int) / 2 = (z' : Int) := ⟨z / 2, rfl, by omega⟩
      have hzz : Hid (z' = t / 2 ^ (k + 1)) := Lib.hid (by rw [← hz', hz.out, half_step])
      have hzl' : Hid (z' < 4294967296) := Lib.hid (by have := hzl.out; omega)
      have p1 : (0 : Int) < (z : Int) := by omega
      clear hge hz' h0
      go_wp2
      go_round
      case rel => exact ⟨k + 1, z', by go_num, by first | rfl | exact congrArg (Value.int .u64) (IntWalk.u64_in _ (by have := hzl'.out; omega)), hzz, hzl', by omega, .inr (by rw [Nat.add_sub_cancel]; exact Hge.out)⟩
      case measure => simp [intOf]; omega

def BackAt (x n : Nat) (o : List Nat) (k : Nat) : Prop := o.length = n ∧ (∀ j, j < n → n - 1 - j < k → dg o j = x / 2 ^ (8 * (n - 1 - j)) % 256) ∧ (∀ j, k ≤ n - 1 - j → dg o j = 0) ∧ ∀ b ∈ o, b < 256
theorem BackAt.zero (x n : Nat) : BackAt x n (List.replicate n 0) 0 := by
 refine ⟨by simp, fun j _ hj => by omega, fun j _ => ?_, fun b hb => by simp at hb; omega⟩
 rw [dg, List.getD_eq_getElem?_getD, List.getElem?_replicate]
 split <;> rfl
theorem BackAt.step {x n : Nat} {o : List Nat} {k b : Nat} (h : BackAt x n o k) (hk : k < n) (hb : x / 2 ^ (8 * k) % 256 = b) : BackAt x n (o.set (n - 1 - k) b) (k + 1) := by
 obtain ⟨h1, h2, h3, h4⟩ := h
 refine ⟨by simpa using h1, fun j hjn hj => ?_, fun j hj => by rw [getD_set_ne (by omega)]; exact h3 j (by omega), set_lt h4 (by omega)⟩
 rcases Nat.lt_or_ge (n - 1 - j) k with h | h
 · rw [getD_set_ne (by omega)]; exact h2 j hjn h
 · obtain rfl : j = n - 1 - k := by omega
   rw [getD_set_eq (by omega), show n - 1 - (n - 1 - k) = k by omega]; exact hb.symm
theorem BackAt.fin {x n : Nat} {o : List Nat} {k : Nat} (h : BackAt x n o k) (hk : ∀ j, k ≤ j → j < n → x / 2 ^ (8 * j) % 256 = 0) : o = bytesOf x n := by
 obtain ⟨h1, h2, h3, _⟩ := h
 apply List.ext_getElem (by rw [h1, bytesOf_length])
 intro i h4 h5
 have e : dg o i = x / 2 ^ (8 * (n - 1 - i)) % 256 := by
  rcases Nat.lt_or_ge (n - 1 - i) k with h | h
  · exact h2 i (by omega) h
  · rw [h3 i h, hk _ h (by omega)]
 rw [dg, getD_eq' h4] at e
 rw [e]
 simp [bytesOf]

end Go.Proofs.YtjphlimfldcifaaDoor

namespace Go.Proofs.YtjphlimfldcifaaDoor
open Go.RowKit

def DigitOk (B V k D G : Nat) : Prop := G < B ∧ V / (B ^ k * D) ≤ G
theorem quo_rest {B k D g V x : Nat} (hB : 0 < B) (hD : 0 < D) (hq : V / (B ^ k * D) ≤ g) (he : x + B ^ k * (g * D) = V) : x < B ^ k * D := by
 have h5 := Nat.lt_mul_div_succ V (show 0 < B ^ k * D from Nat.mul_pos (Nat.pow_pos hB) hD)
 have h6 : B ^ k * D * (V / (B ^ k * D) + 1) ≤ B ^ k * D * (g + 1) := Nat.mul_le_mul_left _ (by omega)
 have e : B ^ k * D * (g + 1) = B ^ k * (g * D) + B ^ k * D := by rw [Nat.mul_add, Nat.mul_one, Nat.mul_assoc, Nat.mul_comm D]
 omega
theorem scale_setup {y n1 : Nat} (hn : (digs 4294967296 y).length = n1 + 1) : ∃ top sc, dg (digs 4294967296 y) n1 = top ∧ 0 < top ∧ top < 4294967296 ∧ 4294967296 / (top + 1) = sc ∧ 0 < sc ∧ sc < 4294967296 ∧ (digs 4294967296 (sc * y)).length = n1 + 1 ∧ 0 < dg (digs 4294967296 (sc * y)) n1 ∧ 4294967296 ^ n1 ≤ y := by
 have hB : (2 : Nat) ≤ 4294967296 := by omega
 have hlt := digs_lt hB y
 have hy0 : 0 < y := by
  rcases Nat.eq_zero_or_pos y with h | h
  · subst h; rw [digs_zero] at hn; simp at hn
  · exact h
 have hlow := pow_digs_le hB hy0
 rw [hn, Nat.add_sub_cancel] at hlow
 obtain ⟨top, ht⟩ : ∃ top, dg (digs 4294967296 y) n1 = top := ⟨_, rfl⟩
 have htl : top < 4294967296 := by rw [← ht]; exact getD_lt (by omega) hlt _
 have ey : y = val 4294967296 ((digs 4294967296 y).take n1) + 4294967296 ^ n1 * top := by
  rw [← ht, ← val_take_getD, ← hn, List.take_length, val_digs hB]
 have hr : val 4294967296 ((digs 4294967296 y).take n1) < 4294967296 ^ n1 := by
  have := val_lt (B := 4294967296) (l := (digs 4294967296 y).take n1) fun x hx => hlt x (List.mem_of_mem_take hx)
  rwa [List.length_take, Nat.min_eq_left (by omega)] at this
 have h0 : 0 < top := by
  rcases Nat.eq_zero_or_pos top with h | h
  · subst h; omega
  · exact h
 obtain ⟨sc, hsc⟩ : ∃ sc, 4294967296 / (top + 1) = sc := ⟨_, rfl⟩
 have hs1 : sc * (top + 1) ≤ 4294967296 := by rw [← hsc]; exact Nat.div_mul_le_self _ _
 have hs0 : 0 < sc := by rw [← hsc]; exact Nat.div_pos (by omega) (by omega)
 have hsl : sc < 4294967296 := by rw [← hsc]; exact Nat.div_lt_self (by omega) (by omega)
 have hup : sc * y < 4294967296 ^ (n1 + 1) := by
  have k1 : y < 4294967296 ^ n1 * (top + 1) := by rw [Nat.mul_add, Nat.mul_one]; omega
  have k2 : sc * y < sc * (4294967296 ^ n1 * (top + 1)) := Nat.mul_lt_mul_of_pos_left k1 hs0
  have k3 : sc * (4294967296 ^ n1 * (top + 1)) = 4294967296 ^ n1 * (sc * (top + 1)) := Nat.mul_left_comm _ _ _
  have k4 : 4294967296 ^ n1 * (sc * (top + 1)) ≤ 4294967296 ^ n1 * 4294967296 := Nat.mul_le_mul_left _ hs1
  rw [Nat.pow_succ]
  omega
 have hlo2 : 4294967296 ^ n1 ≤ sc * y := Nat.le_trans hlow (Nat.le_mul_of_pos_left _ hs0)
 have hlen : (digs 4294967296 (sc * y)).length = n1 + 1 := by
  refine Nat.le_antisymm (digs_length_of_lt hB hup) ?_
  have := digs_length_mono hB (show y ≤ sc * y from Nat.le_mul_of_pos_left _ hs0)
  omega
 refine ⟨top, sc, ht, h0, htl, hsc, hs0, hsl, hlen, ?_, hlow⟩
 have ed : sc * y = val 4294967296 ((digs 4294967296 (sc * y)).take n1) + 4294967296 ^ n1 * dg (digs 4294967296 (sc * y)) n1 := by
  rw [← val_take_getD, ← hlen, List.take_length, val_digs hB]
 have hr2 : val 4294967296 ((digs 4294967296 (sc * y)).take n1) < 4294967296 ^ n1 := by
  have := val_lt (B := 4294967296) (l := (digs 4294967296 (sc * y)).take n1) fun x hx => digs_lt hB (sc * y) x (List.mem_of_mem_take hx)
  rwa [List.length_take, Nat.min_eq_left (by omega)] at this
 rcases Nat.eq_zero_or_pos (dg (digs 4294967296 (sc * y)) n1) with h | h
 · rw [h, Nat.mul_zero] at ed
   omega
 · exact h

def Tu (w : World) (b : Nat) : Prop := ∃ cur, w.heap[b]? = some (.cells cur 51 (0, 0))
theorem OB.tt {w : World} {base : Nat} {A : Option Addr} {c : Nat} {l : List Nat} (h : OB w base A c l) : RN w (fun b => b < w.heap.size ∧ Tu w b) A c l := by
 have hr := h.rn
 obtain ⟨h1, h2, h3, h4⟩ := h
 obtain ⟨⟨r1, r2, r3, r4⟩, r5⟩ := hr
 refine ⟨⟨r1, r2, r3, fun hl => ?_⟩, r5⟩
 obtain ⟨g, cur, rfl, hb, hg, hc⟩ := h4 hl
 obtain ⟨ad, e, hin, hcell⟩ := r4 hl
 cases e
 exact ⟨_, rfl, ⟨hin.2, cur, hg⟩, hcell⟩
theorem OB.rt {w : World} {base : Nat} {P : Nat → Prop} {A : Option Addr} {c : Nat} {l : List Nat} (h : OB w base A c l) : RN w (fun b => b < w.heap.size ∧ (P b ∨ Tu w b)) A c l := RN.mono h.tt fun _ hb => ⟨hb.1, .inr hb.2⟩
set_option maxRecDepth 100000 in
set_option maxHeartbeats 2000000 in
theorem refQuo_small3 (P P' : Nat → Prop) (A A' : Option Addr) (c c' : Nat) (x y : Nat) (w : World) (h : RN w P A c (digs 4294967296 x)) (h' : RN w P' A' c' (digs 4294967296 y)) (hP : ∀ b, P b → b < w.heap.size) (hl : (digs 4294967296 x).length < 100000) (h0 : 0 < y) (hs : x < y ∨ (digs 4294967296 y).length = 1) :
 Calls Tryd.prog 53 #[.slice A (digs 4294967296 x).length c, .slice A' (digs 4294967296 y).length c'] w fun e w' => ∃ A1 c1 A2 c2, e = .returned (.tuple #[.slice A1 (digs 4294967296 (x / y)).length c1, .slice A2 (digs 4294967296 (x % y)).length c2]) ∧ OB w' w.heap.size A1 c1 (digs 4294967296 (x / y)) ∧ RN w' (fun b => b < w'.heap.size ∧ (P b ∨ Tu w' b)) A2 c2 (digs 4294967296 (x % y)) ∧ Below w.heap.size w w' := by
 have tc := refCmp_any P P' A A' c c' x y w h h'
 by_cases hlt : x < y
 · rw [cmpV_lt hlt] at tc
   have Tc := Lib.hid tc
   have hd : x / y = 0 := Nat.div_eq_of_lt hlt
   have hm : x % y = x := Nat.mod_eq_of_lt hlt
   rw [hd, hm, digs_zero]
   clear tc hlt hs hd hm
   go_enter Tryd.func53, Tryd.ntmps53
   go_wp2_with fail
   refine Tc.out.mono ?_
   rintro e w1 ⟨rfl, nd, rfl⟩
   go_wp2
   go_ret2
   exact ⟨none, 0, A, c, rfl, OB.nil_ _ _, RN.drewN (h.mono fun b hb => ⟨hP b hb, .inl hb⟩) nd, below_drewN (Below.refl _ _) _⟩
 · have hn : (digs 4294967296 y).length = 1 := by omega
   have hyB : y < 4294967296 := by
    have := lt_pow_digs (B := 4294967296) (by omega) y
    rw [hn] at this
    omega
   have hd1 : digs 4294967296 y = [y] := by
    rw [digs_pos (by omega) h0, Nat.mod_eq_of_lt hyB, Nat.div_eq_of_lt hyB, digs_zero]
   have hcv : 0 ≤ cmpV x y := by rcases cmpV_cases x y with h | h | h <;> omega
   generalize cmpV x y = v at tc hcv
   have hcv' : ¬ v < 0 := by omega
   have Tc := Lib.hid tc
   obtain ⟨ad, rfl, _, q1⟩ := h'.at_ (i := 0) (by omega)
   rw [hd1] at q1 Tc
   rw [hd1]
   have q1' : w.cell? (ad.add 0) = some (.int .u64 (y : Int)) := q1
   have q2 : ad.add 0 = ad := rfl
   rw [q2] at q1'
   have tS := fun n => refSmall_any P A c _ y (w.drewN n) (h.drewN n) hP (Dig.digs x) hl h0 (by omega)
   rw [val_digs (by omega)] at tS
   have TS := Lib.hid tS
   have hrB : x % y < 4294967296 := Nat.lt_trans (Nat.mod_lt _ h0) hyB
   obtain ⟨r, hr⟩ : ∃ r, x % y = r := ⟨_, rfl⟩
   rw [hr] at TS hrB
   have Hr := Lib.hid hrB
   have Hrr := Lib.hid hr
   clear tc tS hlt hs hn hcv h' hr hrB hd1 q1 q2 hyB
   go_enter Tryd.func53, Tryd.ntmps53
   go_wp2_with fail
   refine Tc.out.mono ?_
   rintro e w1 ⟨rfl, nd, rfl⟩
   go_wp2_with fail
   refine (TS.out nd).mono ?_
   rintro e w2 ⟨A1, c1, rfl, hO, hB⟩
   have hdr : Dig [r] := by intro x hx; rw [List.mem_singleton.1 hx]; exact Hr.out
   have ht := refTrim_any _ _ _ [r] _ (RN.one w2 r (by have := Hr.out; omega)) hdr
   have hO2 := (OB.of_blk (c := 1) (w := w2.alloc (.cells #[.int .u64 (r : Int)] 51)) (g := w2.heap.size) (l := [r]) (show Blk (w2.alloc (.cells #[.int .u64 (r : Int)] 51)) w2.heap.size [r] from heap_alloc_new w2 _) (base := 0) (Nat.zero_le _) ⟨fun x hx => by have := hdr x hx; omega, by simp⟩ (by simp) (by unfold maxLen; omega)).trim32 hdr
   have hvr : val 4294967296 [r] = r := by simp
   rw [hvr] at ht hO2
   have Ht := Lib.hid ht
   clear ht hdr hvr
   go_wp2_with fail
   refine Ht.out.mono ?_
   rintro e w3 ⟨rfl, rfl⟩
   go_wp2
   go_ret2
   exact ⟨A1, c1, some ⟨w2.heap.size, 0, none⟩, (digs 4294967296 r).length, by rw [Hrr.out]; rfl, hO.below ((Below.refl w2.heap.size w2).alloc (Nat.le_refl _) _) (Nat.le_refl _), by rw [Hrr.out]; exact hO2.rt, (Below.mk hB.os hB.tape hB.output hB.size hB.block : Below w.heap.size w w2).alloc hB.size _⟩

set_option maxRecDepth 100000 in
set_option maxHeartbeats 2000000 in
theorem refQuo_big3 (P P' : Nat → Prop) (A A' : Option Addr) (c c' : Nat) (x y : Nat) (w : World) (h : RN w P A c (digs 4294967296 x)) (h' : RN w P' A' c' (digs 4294967296 y)) (hP : ∀ b, P b → b < w.heap.size) (hP' : ∀ b, P' b → b < w.heap.size) (hl : (digs 4294967296 x).length < 90000) (hge : y ≤ x) (hbig : 1 < (digs 4294967296 y).length) :
 Calls Tryd.prog 53 #[.slice A (digs 4294967296 x).length c, .slice A' (digs 4294967296 y).length c'] w fun e w' => ∃ A1 c1 A2 c2, e = .returned (.tuple #[.slice A1 (digs 4294967296 (x / y)).length c1, .slice A2 (digs 4294967296 (x % y)).length c2]) ∧ OB w' w.heap.size A1 c1 (digs 4294967296 (x / y)) ∧ RN w' (fun b => b < w'.heap.size ∧ (P b ∨ Tu w' b)) A2 c2 (digs 4294967296 (x % y)) ∧ Below w.heap.size w w' := by
 have tc := refCmp_any P P' A A' c c' x y w h h'
 have hcv : 0 ≤ cmpV x y := by rcases cmpV_cases x y with h | h | h <;> omega
 generalize cmpV x y = v at tc hcv
 have hcv' : ¬ v < 0 := by omega
 obtain ⟨n1, hn⟩ : ∃ n1, (digs 4294967296 y).length = n1 + 1 := ⟨(digs 4294967296 y).length - 1, by omega⟩
 obtain ⟨top, sc, htop, ht0, htl, hsc, hs0, hsl, hDn, hDt, hlow⟩ := scale_setup hn
 have hy0 : 0 < y := by have := Nat.pow_pos (n := n1) (show 0 < 4294967296 by omega); omega
 have hmono := digs_length_mono (B := 4294967296) (by omega) hge
 have hxl := lt_pow_digs (B := 4294967296) (by omega) x
 have hxv := val_digs (B := 4294967296) (by omega) x
 have hyv := val_digs (B := 4294967296) (by omega) y
 have dx := Dig.digs x
 have dy := Dig.digs y
 generalize digs 4294967296 x = l at *
 generalize digs 4294967296 y = m at *
 obtain ⟨n, hn'⟩ : ∃ n, n1 + 1 = n := ⟨_, rfl⟩
 rw [hn'] at hn hDn
 obtain ⟨t, htt⟩ : ∃ t, l.length + 1 - n = t := ⟨_, rfl⟩
 have hXD : sc * x < 4294967296 ^ t * (sc * y) := by
  have k1 : 4294967296 ^ l.length ≤ 4294967296 ^ t * y := by
   have : 4294967296 ^ t * 4294967296 ^ n1 ≤ 4294967296 ^ t * y := Nat.mul_le_mul_left _ hlow
   rwa [← Nat.pow_add, show t + n1 = l.length by omega] at this
  rw [Nat.mul_left_comm]
  exact Nat.mul_lt_mul_of_pos_left (Nat.lt_of_lt_of_le hxl k1) hs0
 have T1 := Lib.hid fun W (hW : RN W P A c l) (hp : ∀ b, P b → b < W.heap.size) => refTimes_any P A c l sc W hW hp dx (by omega) hsl
 have T2 := Lib.hid fun W (hW : RN W P' A' c' m) (hp : ∀ b, P' b → b < W.heap.size) => refTimes_any P' A' c' m sc W hW hp dy (by omega) hsl
 rw [hxv] at T1
 rw [hyv, hn] at T2
 rw [hn] at tc
 rw [hn]
 have hqx : (sc * x) / (sc * y) = x / y := Nat.mul_div_mul_left _ _ hs0
 have hrx : (sc * x) % (sc * y) / sc = x % y := by rw [Nat.mul_mod_mul_left, Nat.mul_div_cancel_left _ hs0]
 generalize x % y = rr at *
 have hD0 : 0 < sc * y := Nat.mul_pos hs0 hy0
 have dD := Dig.digs (sc * y)
 have hDv := val_digs (B := 4294967296) (by omega) (sc * y)
 obtain ⟨D, hD⟩ : ∃ D, sc * y = D := ⟨_, rfl⟩
 obtain ⟨X, hX⟩ : ∃ X, sc * x = X := ⟨_, rfl⟩
 rw [hD] at hqx hrx hD0 dD hDv hDn hDt hXD T2
 rw [hX] at hqx hrx hXD T1
 have hnb : n < 90000 := by omega
 have hlb : l.length < 90000 := by omega
 have i1 : (n : Int) - 1 = (n1 : Int) := by omega
 have i2 : n1 < n := by omega
 have i3 : ((n : Int) == 1) = false := eqB (by omega)
 have i4 : (l.length : Int) + 1 - (n : Int) = (t : Int) := by omega
 have i5 : (4294967296 : Int) / ((top : Int) + 1) = (sc : Int) := by rw [← hsc]; simp
 have i5' : (4294967296 : Int).tdiv ((top : Int) + 1) = (sc : Int) := by rw [Int.tdiv_eq_ediv_of_nonneg (by omega)]; exact i5
 have i6 : ((top : Int) + 1 == 0) = false := eqB (by omega)
 have i7 : IntKind.u64.wrap ((top : Int) + 1) = (top : Int) + 1 := IntWalk.u64_in _ (by omega)
 have i8 : IntKind.u64.wrap (sc : Int) = (sc : Int) := IntWalk.u64_in _ (by omega)
 have i9 : ¬ (top : Int) + 1 = 0 := by omega
 obtain ⟨ad', rfl, hPad, q1⟩ := h'.at_ (i := n1) (by omega)
 rw [htop] at q1
 have Htc := Lib.hid tc
 have Hn1 := Lib.hid hn'
 have HXD := Lib.hid hXD
 have Htt := Lib.hid htt
 have Hqx := Lib.hid hqx
 have Hrx := Lib.hid hrx
 have HDv := Lib.hid hDv
 have HDn := Lib.hid hDn
 have HDt := Lib.hid hDt
 have Hs0 := Lib.hid hs0
 have Hsl := Lib.hid (show sc < 4294967297 by omega)
 have HdD := Lib.hid dD
 clear tc hn' hXD htt hqx hrx hDv hDn hDt hX hD hlow hxl hxv hyv hsc htop ht0 hbig hge hy0 hmono dx dy hs0 hsl htl hcv dD
 go_enter Tryd.func53, Tryd.ntmps53
 go_wp2_with fail
 refine Htc.out.mono ?_
 rintro e w1 ⟨rfl, nd, rfl⟩
 obtain ⟨W, hW⟩ : ∃ W, W = w.drewN nd := ⟨_, rfl⟩
 have q2 : W.cell? (ad'.add n1) = some (.int .u64 (top : Int)) := by rw [hW]; exact q1
 have Hsz := Lib.hid (show W.heap.size = w.heap.size by rw [hW]; rfl)
 have hB0 : Below w.heap.size w W := by rw [hW]; exact below_drewN (Below.refl _ _) _
 have hRa : RN W P A c l := by rw [hW]; exact h.drewN _
 have hRb : RN W P' (some ad') c' m := by rw [hW]; exact h'.drewN _
 rw [← hW]
 have T1' := Lib.hid (T1.out W hRa (by rw [Hsz.out]; exact hP))
 clear hW q1 T1 hRa h h'
 go_wp2_with fail
 refine T1'.out.mono ?_
 rintro e w1 ⟨u0, rfl, hbu, hul, hDu, hvu, hB1⟩
 have hB1s := hB1.size
 have hgu := hbu.lt
 have T2' := Lib.hid (T2.out w1 (hRb.below hB1 (by rw [Hsz.out]; exact hP')) (by have := Hsz.out; intro b hb; have := hP' b hb; omega))
 clear T2 hRb q2
 go_wp2_with fail
 refine T2'.out.mono ?_
 rintro e w2 ⟨v0, rfl, hbv, hvl, hDv0, hvv, hB2⟩
 have hB2s := hB2.size
 have hOv : OB w2 w1.heap.size (some ⟨w1.heap.size, 0, none⟩) (n + 1) v0 := OB.of_blk hbv (Nat.le_refl _) ⟨fun x hx => by have := hDv0 x hx; omega, by omega⟩ (by omega) (by unfold maxLen; omega)
 have htv := refTrim_any _ _ _ _ _ hOv.rn hDv0
 have hRv := (hOv.trim32 hDv0).rn
 rw [hvv, HDn.out, hvl] at htv
 rw [hvv, HDn.out] at hRv
 have Htv := Lib.hid htv
 clear htv hOv hbv hvl hDv0 hvv T2' T1'
 go_wp2_with fail
 refine Htv.out.mono ?_
 rintro e w3 ⟨rfl, hw3⟩
 obtain rfl : w2 = w3 := hw3
 have hmk1 := run_make_row' (P := Tryd.prog) 42 51 (.int .u64 0) 8 Tryd.underlying42 info64 rfl .i64 .i64 t (by have := Htt.out; omega) (by have := Htt.out; omega)
 have hmk2 := run_make_row' (P := Tryd.prog) 42 51 (.int .u64 0) 8 Tryd.underlying42 info64 rfl .i64 .i64 (n + 1) (by omega) (by omega)
 simp only [Int.natCast_add, Int.cast_ofNat_Int] at hmk2
 have htb : t ≤ 90001 := by have := Htt.out; omega
 go_wp2_with fail
 have hWw := Hsz.out
 have hbu4 := ((hbu.below hB2 hgu).alloc (.cells (madeCells #[.int .u64 0] t) 51)).alloc (.cells (madeCells #[.int .u64 0] (n + 1)) 51)
 have hbq4 := (Blk.made w2 t).alloc (.cells (madeCells #[.int .u64 0] (n + 1)) 51)
 have hbw4 : Blk ((w2.alloc (.cells (madeCells #[.int .u64 0] t) 51)).alloc (.cells (madeCells #[.int .u64 0] (n + 1)) 51)) (w2.heap.size + 1) (List.replicate (n + 1) 0) := by
  have := Blk.made (w2.alloc (.cells (madeCells #[.int .u64 0] t) 51)) (n + 1)
  simpa using this
 have hRv4 := (hRv.alloc_ (fun b hb => hb.2) (.cells (madeCells #[.int .u64 0] t) 51)).alloc_ (fun b hb => by have := hb.2; simp; omega) (.cells (madeCells #[.int .u64 0] (n + 1)) 51)
 have hB4 := ((hB0.trans (hB1.mono (by omega))).trans (hB2.mono (by omega))).alloc (by omega) (.cells (madeCells #[.int .u64 0] t) 51) |>.alloc (by simp; omega) (.cells (madeCells #[.int .u64 0] (n + 1)) 51)
 have Hs := Lib.hid (Below1.start t)
 clear hbu hRv hB0 hB1 hB2 hWw
 go_loopw [14] (fun iv wr => ∃ (k : Nat) (z : Int) (L qs Wl : List Nat), iv = .int .i64 z ∧ Below1 k z ∧ k ≤ t ∧ QuoAt 4294967296 X D L qs k ∧ Hid (L.length = l.length + 1) ∧ Hid (qs.length = t) ∧ Hid (Wl.length = n + 1) ∧ Dig L ∧ Dig qs ∧ Blk wr W.heap.size L ∧ Blk wr w2.heap.size qs ∧ Blk wr (w2.heap.size + 1) Wl ∧ RN wr (In w1.heap.size w2.heap.size) (some ⟨w1.heap.size, 0, none⟩) n (digs 4294967296 D) ∧ Below w.heap.size w wr) (fun iv _ => (intOf iv + 1).toNat)
 case atStart => exact ⟨t, _, u0, List.replicate t 0, _, rfl, Hs.out, by omega, by rw [← hvu]; exact QuoAt.start (by simp) (by rw [hvu]; exact HXD.out), Lib.hid hul, Lib.hid (by simp), Lib.hid (by simp), hDu, by intro x hx; simp at hx; omega, hbu4, hbq4, hbw4, hRv4, hB4⟩
 case round =>
  obtain ⟨k, z, L, qs, Wl, rfl, hz, hk, hQ, HL, Hqs, HW, hDL, hDq, hbu, hbq, hbw, hRD, hB⟩ := hrel
  clear hbu4 hbq4 hbw4 hRv4 hB4 hvu hul hDu
  rcases hz with ⟨rfl, rfl⟩ | ⟨j, rfl, rfl⟩
  · obtain ⟨v1, v2⟩ := hQ.fin
    rw [Hqx.out] at v1
    have hws := hB.size
    have hWw := Hsz.out
    have hOu := OB.of_blk (c := l.length + 1) hbu (base := w.heap.size) (by omega) ⟨fun x hx => by have := hDL x hx; omega, by have := HL.out; omega⟩ (by have := HL.out; omega) (by unfold maxLen; omega)
    have hOq := OB.of_blk (c := t) hbq (base := w.heap.size) (by omega) ⟨fun x hx => by have := hDq x hx; omega, by have := Hqs.out; omega⟩ (by have := Hqs.out; omega) (by unfold maxLen; omega)
    have tu := refTrim_any _ _ _ _ _ hOu.rn hDL
    have hOu' := hOu.trim32 hDL
    have tq := fun w h => refTrim_any (fun b => b < w.heap.size) (some ⟨w2.heap.size, 0, none⟩) t qs w h hDq
    have hOq' := hOq.trim32 hDq
    rw [HL.out] at tu
    have hlu : (digs 4294967296 (val 4294967296 L)).length < 100000 := by have := digs_length_le (B := 4294967296) (by omega) hDL; have := HL.out; omega
    have ts := refSmall_any _ _ _ _ sc _ hOu'.rn (fun b hb => hb.2) (Dig.digs _) hlu Hs0.out Hsl.out
    rw [v1] at hOq' tq
    rw [Hqs.out] at tq
    have Hv6 := Lib.hid (show val 4294967296 (digs 4294967296 (val 4294967296 L)) / sc = rr by rw [v2, val_digs (B := 4294967296) (by omega), Hrx.out])
    have Tu := Lib.hid tu
    have Ts := Lib.hid ts
    have Tq := Lib.hid tq
    have hqu : RN _ (fun b => b < _) (some ⟨w2.heap.size, 0, none⟩) t qs := hOq.rn.mono fun b hb => hb.2
    clear hQ hDL hDq hbu hbq hbw hRD hOu hOu' tu ts tq hlu v1 v2 hOq hWw
    go_wp2_with fail
    refine Tu.out.mono ?_
    rintro e w5 ⟨rfl, rfl⟩
    go_wp2_with fail
    refine Ts.out.mono ?_
    rintro e w6 ⟨A6, c6, rfl, hO6, hB6⟩
    go_wp2_with fail
    refine (Tq.out w6 ((hqu.below hB6 fun b hb => hb).mono fun b hb => Nat.lt_of_lt_of_le hb hB6.size)).mono ?_
    rintro e w7 ⟨rfl, rfl⟩
    go_wp2
    go_ret2
    exact ⟨_, _, A6, c6, by rw [Hv6.out]; rfl, hOq'.below hB6 (Nat.le_refl _), by rw [← Hv6.out]; exact hO6.rt, hB.trans (hB6.mono hws)⟩
  · have hLl := HL.out
    have hDl := HDn.out
    have e1 := Hn1.out
    have hjt := Htt.out
    have hDd := HdD.out
    obtain ⟨hz0, hQB, hge⟩ := guess2_ge (k := j) e1 hDL hDd hDl (by omega) HDt.out (by rw [HDv.out]; exact hQ.2)
    rw [HDv.out] at hQB hge
    have d1 := hRD.cells n1 (by omega)
    obtain ⟨y0, hy0⟩ : ∃ y0, j + n = y0 := ⟨_, rfl⟩
    obtain ⟨y1, hy1⟩ : ∃ y1, j + n1 = y1 := ⟨_, rfl⟩
    rw [hy0, hy1] at hge
    have r0 := hbu.cell (i := y0) (by omega)
    have r1 := hbu.cell (i := y1) (by omega)
    rw [add_blk] at d1
    obtain ⟨a0, ha0⟩ : ∃ a0, dg L y0 = a0 := ⟨_, rfl⟩
    obtain ⟨a1, ha1⟩ : ∃ a1, dg L y1 = a1 := ⟨_, rfl⟩
    obtain ⟨vt, hvt⟩ : ∃ vt, dg (digs 4294967296 D) n1 = vt := ⟨_, rfl⟩
    have hvp := HDt.out
    have la0 := hDL.dgLt y0
    have la1 := hDL.dgLt y1
    rw [ha0] at r0 hge la0
    rw [ha1] at r1 hge la1
    rw [hvt] at d1 hge hvp
    obtain ⟨tt, htt⟩ : ∃ tt, a0 * 4294967296 + a1 = tt := ⟨_, rfl⟩
    rw [htt] at hge
    obtain ⟨G0, hG0⟩ : ∃ G0, tt / vt = G0 := ⟨_, rfl⟩
    rw [hG0] at hge
    have hG0t : G0 ≤ tt := by rw [← hG0]; exact Nat.div_le_self _ _
    have f0 : (a0 : Int) * 4294967296 + (a1 : Int) = (tt : Int) := by omega
    have f1 : (tt : Int) / (vt : Int) = (G0 : Int) := by rw [← Int.natCast_ediv, hG0]
    have f1' : (tt : Int).tdiv (vt : Int) = (G0 : Int) := by rw [Int.tdiv_eq_ediv_of_nonneg (by omega)]; exact f1
    have f2 : IntKind.u64.wrap ((a0 : Int) * 4294967296) = (a0 : Int) * 4294967296 := IntWalk.u64_in _ (by omega)
    have f3 : IntKind.u64.wrap (tt : Int) = (tt : Int) := IntWalk.u64_in _ (by omega)
    have f4 : IntKind.u64.wrap (G0 : Int) = (G0 : Int) := IntWalk.u64_in _ (by omega)
    have f5 : ((vt : Int) == 0) = false := eqB (by omega)
    have f6 : ¬ vt = 0 := by omega
    have c0 : (j : Int) + (n : Int) = (y0 : Int) := by omega
    have c1' : (y0 : Int) - 1 = (y1 : Int) := by omega
    have b0 : (y0 : Int) < (l.length : Int) + 1 := by omega
    have b1 : (y1 : Int) < (l.length : Int) + 1 := by omega
    have Hz0 := Lib.hid hz0
    have Hjk : Hid (j + n + 1 ≤ l.length + 1) := Lib.hid (by omega)
    have hQf := Lib.hid hQB
    have hgf := Lib.hid hge
    have Hy0 := Lib.hid hy0
    have hjb : j < 90001 := by omega
    have hy0b : y0 < 200000 := by omega
    clear hLl hDl e1 hjt hDd hz0 hQB hge hy1 ha0 ha1 hvt hvp la0 la1 htt hG0 hG0t hy0
    go_wp2_with fail
    go_quiet (fail)
    obtain ⟨bb, hb1, hb2, hb3⟩ : ∃ bb : Bool, decide ((4294967296 : Int) ≤ (G0 : Int)) = bb ∧ decide (4294967296 ≤ G0) = bb ∧ Hid (bb = true ↔ 4294967296 ≤ G0) := ⟨decide (4294967296 ≤ G0), by simp only [decide_eq_decide]; omega, rfl, Lib.hid (by simp)⟩
    go_upto_if 94 with fail
    go_cut [15] (fun s15 wx => ∃ G : Nat, s15 = .int .u64 (G : Int) ∧ DigitOk 4294967296 (val 4294967296 L) j D G ∧ wx = World.drewN wr nq)
    case first =>
     rcases bb with _ | _
     · have hGl : DigitOk 4294967296 (val 4294967296 L) j D G0 := ⟨(Nat.lt_or_ge G0 4294967296).elim id (fun h1 => absurd (hb3.out.2 h1) (by simp)), hgf.out⟩
       clear hb1 hb2 hb3 f0 f1 f1' f2 f3 f4 f5 f6 hgf
       go_wp2_with fail
       go_meet
       case rel => exact ⟨G0, rfl, hGl, rfl⟩
     · have hgg : DigitOk 4294967296 (val 4294967296 L) j D 4294967295 := ⟨by omega, by have := hQf.out; exact Nat.le_of_lt_succ this⟩
       clear hb1 hb2 hb3 f0 f1 f1' f2 f3 f4 f5 f6 hgf
       go_wp2_with fail
       go_meet
       case rel => exact ⟨4294967295, rfl, hgg, rfl⟩
    case rest =>
     obtain ⟨G, rfl, hGd, rfl⟩ := hcut
     clear hb1 hb2 hb3 hQf hgf f0 f1 f1' f2 f3 f4 f5 f6 r0 r1 d1 c1' b0 b1
     have hbu' := hbu.drewN nq
     have hbq' := hbq.drewN nq
     have hbw' := hbw.drewN nq
     have hRD' := hRD.drewN nq
     have hB' := below_drewN hB nq
     clear hbu hbq hbw hRD hB
     go_wp2_with fail
     go_loopw [15] (fun gv wr => ∃ (G : Nat) (Wl : List Nat), gv = .int .u64 (G : Int) ∧ DigitOk 4294967296 (val 4294967296 L) j D G ∧ Hid (Wl.length = n + 1) ∧ Blk wr W.heap.size L ∧ Blk wr w2.heap.size qs ∧ Blk wr (w2.heap.size + 1) Wl ∧ RN wr (In w1.heap.size w2.heap.size) (some ⟨w1.heap.size, 0, none⟩) n (digs 4294967296 D) ∧ Below w.heap.size w wr) (fun gv _ => (intOf gv).toNat)
     case atStart => exact ⟨G, Wl, rfl, hGd, HW, hbu', hbq', hbw', hRD', hB'⟩
     case round =>
      clear hGd HW hbu' hbq' hbw' hRD' hB'
      obtain ⟨G, Wl, rfl, hGd, HW, hbu, hbq, hbw, hRD, hB⟩ := hrel
      have hwW := Hsz.out
      have hless := less_any W.heap.size (w2.heap.size + 1) j n (l.length + 1) G _ _ _ L _ Wl wr hbu hbw hRD (by omega) (fun b hb => by have := hb.2; omega) hDL (Dig.digs D) HL.out HDn.out HW.out Hjk.out (by omega) hGd.1 Hz0.out
      rw [HDv.out] at hless
      have Hless := Lib.hid hless
      clear hwW hless
      go_wp2_with fail
      refine Hless.out.mono ?_
      rintro e w5 ⟨L5, W5, hbu5, hDL5, hl5, hbw5, hw5, htwo, ⟨rfl, hv5⟩ | ⟨rfl, rfl, hv5⟩⟩
      · have hlt5 := quo_rest (by omega) hD0 hGd.2 hv5
        have hjq : j < qs.length := by have := Hqs.out; have := Hjk.out; omega
        have hQ' := hQ.step hjq hv5 hlt5
        have hneq : w2.heap.size ≠ W.heap.size := by omega
        have hwW := Hsz.out
        have hbq5 : Blk w5 w2.heap.size qs := (htwo.block _ hneq (by omega)).trans hbq
        have hRD5 := hRD.two htwo (fun b hb => by have := hb.1; have := hb.2; omega)
        have hB5 := hB.trans (htwo.below (B := w.heap.size) (by omega) (by omega))
        have q3 := hbq5.cell hjq
        have q4 := hbq5.free j
        have hbq' := hbq5.set j G
        have hDq' := hDq.set j G hGd.1
        have hB' := hB5.setCell (p := ⟨w2.heap.size, j, none⟩) (by show w.heap.size ≤ w2.heap.size; omega) (.int .u64 (G : Int))
        have hRD' : RN (World.setCell w5 ⟨w2.heap.size, j, none⟩ (.int .u64 (G : Int))) (In w1.heap.size w2.heap.size) (some ⟨w1.heap.size, 0, none⟩) n (digs 4294967296 D) := hRD5.keep fun q hq => World.cell?_of_block (w := w5) (Below.heap_setCell _ _ _ q.block (by have := hq.2; show q.block ≠ w2.heap.size; omega))
        have hbu' := hbu5.other (p := ⟨w2.heap.size, j, none⟩) (by show W.heap.size ≠ w2.heap.size; omega) (.int .u64 (G : Int))
        have hbw' := hbw5.other (p := ⟨w2.heap.size, j, none⟩) (by show w2.heap.size + 1 ≠ w2.heap.size; omega) (.int .u64 (G : Int))
        have Hqs' : Hid ((qs.set j G).length = t) := Lib.hid (by simpa using Hqs.out)
        have k1 : j < t := by omega
        have Hs' := Lib.hid (Below1.start j)
        have HL5 := Lib.hid hl5
        have HW5 := Lib.hid hw5
        clear hQ hDq hB hRD hbu hbq hbw hbu5 hbq5 hbw5 hRD5 hB5 htwo hv5 hlt5 hl5 hw5 hneq hwW hjq Hless hGd
        go_wp2
        go_roundw
        case rel => exact ⟨j, _, L5, qs.set j G, W5, rfl, Hs'.out, by omega, hQ', HL5, Hqs', HW5, hDL5, hDq', hbu', hbq', hbw', hRD', hB'⟩
        case measure => simp [intOf]
      · have hpos := Nat.lt_of_le_of_lt (Nat.zero_le _) hv5
        obtain ⟨G, rfl⟩ : ∃ k, G = k + 1 := ⟨G - 1, by omega⟩
        have hGd' : DigitOk 4294967296 (val 4294967296 L5) j D G := ⟨by have := hGd.1; omega, Nat.le_of_lt_succ hv5⟩
        have hGi : IntKind.u64.wrap (G : Int) = (G : Int) := IntWalk.u64_in _ (by have := hGd'.1; omega)
        have hwW := Hsz.out
        have hbq5 : Blk w5 w2.heap.size qs := (htwo.block _ (by omega) (by omega)).trans hbq
        have hRD5 := hRD.two htwo (fun b hb => by have := hb.1; have := hb.2; omega)
        have hB5 := hB.trans (htwo.below (B := w.heap.size) (by omega) (by omega))
        have HW5 := Lib.hid hw5
        clear hQ hB hRD hbu hbq hbw htwo hv5 hl5 hw5 hwW Hless hGd hpos
        go_wp2
        go_roundw
        case rel => exact ⟨G, W5, by go_num, hGd', HW5, hbu5, hbq5, hbw5, hRD5, hB5⟩
        case measure => simp [intOf]
theorem refQuo_t (P P' : Nat → Prop) (A A' : Option Addr) (c c' : Nat) (x y : Nat) (w : World) (h : RN w P A c (digs 4294967296 x)) (h' : RN w P' A' c' (digs 4294967296 y)) (hP : ∀ b, P b → b < w.heap.size) (hP' : ∀ b, P' b → b < w.heap.size) (hl : (digs 4294967296 x).length < 90000) (h0 : 0 < y) :
 Calls Tryd.prog 53 #[.slice A (digs 4294967296 x).length c, .slice A' (digs 4294967296 y).length c'] w fun e w' => ∃ A1 c1 A2 c2, e = .returned (.tuple #[.slice A1 (digs 4294967296 (x / y)).length c1, .slice A2 (digs 4294967296 (x % y)).length c2]) ∧ OB w' w.heap.size A1 c1 (digs 4294967296 (x / y)) ∧ RN w' (fun b => b < w'.heap.size ∧ (P b ∨ Tu w' b)) A2 c2 (digs 4294967296 (x % y)) ∧ Below w.heap.size w w' := by
 have hpos : 0 < (digs 4294967296 y).length := by
  rw [digs_pos (by omega) h0]; simp
 by_cases hs : x < y ∨ (digs 4294967296 y).length = 1
 · exact refQuo_small3 P P' A A' c c' x y w h h' hP (by omega) h0 hs
 · exact refQuo_big3 P P' A A' c c' x y w h h' hP hP' hl (by omega) (by omega)
theorem refQuo_any (P P' : Nat → Prop) (A A' : Option Addr) (c c' : Nat) (x y : Nat) (w : World) (h : RN w P A c (digs 4294967296 x)) (h' : RN w P' A' c' (digs 4294967296 y)) (hP : ∀ b, P b → b < w.heap.size) (hP' : ∀ b, P' b → b < w.heap.size) (hl : (digs 4294967296 x).length < 90000) (h0 : 0 < y) :
 Calls Tryd.prog 53 #[.slice A (digs 4294967296 x).length c, .slice A' (digs 4294967296 y).length c'] w fun e w' => ∃ A1 c1 A2 c2, e = .returned (.tuple #[.slice A1 (digs 4294967296 (x / y)).length c1, .slice A2 (digs 4294967296 (x % y)).length c2]) ∧ OB w' w.heap.size A1 c1 (digs 4294967296 (x / y)) ∧ RN w' (fun b => b < w'.heap.size) A2 c2 (digs 4294967296 (x % y)) ∧ Below w.heap.size w w' :=
 (refQuo_t P P' A A' c c' x y w h h' hP hP' hl h0).mono fun _ _ ⟨A1, c1, A2, c2, he, hO, hR, hB⟩ => ⟨A1, c1, A2, c2, he, hO, RN.mono hR fun _ hb => hb.1, hB⟩
end Go.Proofs.YtjphlimfldcifaaDoor

namespace Go.Proofs.YtjphlimfldcifaaDoor
open Go.RowKit

set_option maxRecDepth 100000 in
set_option maxHeartbeats 1000000 in
theorem refMod_any (A A' : Option Addr) (c c' x y : Nat) (w : World) (h : RU w A c (digs 4294967296 x)) (h' : RU w A' c' (digs 4294967296 y)) (hl : (digs 4294967296 x).length < 90000) (h0 : 0 < y) :
 Calls Tryd.prog 34 #[.slice A (digs 4294967296 x).length c, .slice A' (digs 4294967296 y).length c'] w fun e w' => ∃ A1 c1, e = .returned (.slice A1 (digs 4294967296 (x % y)).length c1) ∧ RU w' A1 c1 (digs 4294967296 (x % y)) ∧ Below w.heap.size w w' := by
 have hq := Lib.hid (refQuo_any _ _ A A' c c' x y w h h' (fun _ hb => hb) (fun _ hb => hb) hl h0)
 go_enter Tryd.func34, Tryd.ntmps34
 go_wp2_with fail
 refine hq.out.mono ?_
 rintro e w1 ⟨A1, c1, A2, c2, rfl, hO, hR, hB⟩
 go_wp2
 go_ret
 exact ⟨A2, c2, rfl, hR, hB⟩

end Go.Proofs.YtjphlimfldcifaaDoor

namespace Go.Proofs.YtjphlimfldcifaaDoor
open Go.RowKit
open Sha

set_option maxRecDepth 100000 in
set_option maxHeartbeats 8000000 in
theorem rbelow_any {b q y : Nat} {P : Nat → Prop} {A : Option Addr} {c : Nat} {k v : List Nat} {num : Int} (w : World) (hd : ER w b k v num) (h : RN w P A c (digs 4294967296 y)) (hP : ∀ b, P b → b < w.heap.size) (hPb : ¬ P b) (hq : nbits y = q) (hq0 : 0 < q) (hq1 : q ≤ 4096) (hv0 : 0 < y) (hn : 0 ≤ num) (hn2 : num < 1000000000) :
 Calls Tryd.prog 18 #[.pointer (some ⟨b, 0, none⟩), .slice A (digs 4294967296 y).length c] w fun e w' => ∃ A2 c2 r m, m = (q + 71) / 8 ∧ r = numOf ((douts k v ((m + 31) / 32)).take m) % y ∧ e = .returned (.slice A2 (digs 4294967296 r).length c2) ∧
  RU w' A2 c2 (digs 4294967296 r) ∧ ER w' b (upd2 k (dvs k v ((m + 31) / 32)) []).1 (upd2 k (dvs k v ((m + 31) / 32)) []).2 (num + 1) ∧ Fr b w.heap.size w w' := by
 have H := Lib.hid (refBits_any P A c y w h)
 rw [hq] at H
 obtain ⟨m, hm⟩ : ∃ m, (q + 71) / 8 = m := ⟨_, rfl⟩
 have hmi : ((q : Int) + 71) / 8 = (m : Int) := by omega
 have HB := Lib.hid (rbytes_any (m := m) w hd (by omega) (by omega) hn hn2)
 have HM := Lib.hid hm
 have HR := Lib.hid h
 have HD := Lib.hid hd
 have HPP := Lib.hid hP
 obtain ⟨ly, hly⟩ : ∃ l, digs 4294967296 y = l := ⟨_, rfl⟩
 rw [hly] at H HR ⊢
 have HY := Lib.hid hly
 clear hd h hP hm hn hn2 hly
 go_enter Tryd.func18, Tryd.ntmps18
 go_wp2_with fail
 refine H.out.mono ?_
 rintro e w1 ⟨rfl, rfl⟩
 clear H
 go_wp2_with fail
 refine HB.out.mono ?_
 rintro e w2 ⟨A1, c1, rfl, hr, hd2, hf2⟩
 have hlm : ((douts k v ((m + 31) / 32)).take m).length = m := by rw [List.length_take, douts_len]; omega
 obtain ⟨bs, hbs⟩ : ∃ bs, (douts k v ((m + 31) / 32)).take m = bs := ⟨_, rfl⟩
 rw [hbs] at hr hlm
 have H3 := Lib.hid (refFromBytes_any _ A1 c1 bs w2 hr (fun g hg => hg.2) (by omega))
 rw [hlm] at H3
 have HD2 := Lib.hid hd2
 have HF2 := Lib.hid hf2
 have HBS := Lib.hid hbs
 have hbl := hr.2.1
 clear hr hd2 hf2 hbs HB
 go_wp2_with fail
 refine H3.out.mono ?_
 rintro e w3 ⟨A2, c2, rfl, ho3, hb3⟩
 have hl2 : (digs 4294967296 (numOf bs)).length ≤ m := digs_length_of_lt (by omega) (Nat.lt_of_lt_of_le (numOf_lt hbl) (by rw [hlm]; exact Nat.pow_le_pow_left (by omega) m))
 have hr2 : RN w2 P A c ly := HR.out.keep fun p hp => World.cell?_of_block (HF2.out.block _ (HPP.out _ hp) (fun e => hPb (e ▸ hp)))
 have hP2 : ∀ g, P g → g < w2.heap.size := fun g hg => Nat.lt_of_lt_of_le (HPP.out g hg) HF2.out.size
 have hr3 : RU w3 A c ly := (hr2.below hb3 hP2).mono fun g hg => Nat.lt_of_lt_of_le (hP2 g hg) hb3.size
 rw [← HY.out] at hr3
 have H4 := refMod_any A2 A c2 c (numOf bs) y w3 (ho3.rn.mono fun g hg => hg.2) hr3 (by have := HM.out; omega) hv0
 rw [HY.out] at H4
 have HH4 := Lib.hid H4
 have HB3 := Lib.hid hb3
 clear ho3 hb3 hr2 hP2 H3 hr3 H4
 go_wp2_with fail
 refine HH4.out.mono ?_
 rintro e w4 ⟨A4, c4, rfl, ho4, hb4⟩
 have HO4 := Lib.hid ho4
 have HD4 := Lib.hid ((HD2.out.ext HB3.out).ext hb4)
 have hs1 := HF2.out.size
 have hs2 := HB3.out.size
 have HF4 := Lib.hid ((HF2.out.trans (Fr.below (b := b) HB3.out hs1)).trans (Fr.below (b := b) hb4 (Nat.le_trans hs1 hs2)))
 clear ho4 hb4 HH4
 go_wp2_with fail
 go_ret
 exact ⟨A4, c4, _, m, HM.out.symm, by rw [HBS.out], rfl, HO4.out, HD4.out, HF4.out⟩
end Go.Proofs.YtjphlimfldcifaaDoor

namespace Go.Proofs.YtjphlimfldcifaaDoor
open Go.RowKit
open Sha

theorem add_at (ad : Addr) (m j : Nat) (hj : 0 < j) : ad.add (m + j) = ⟨(ad.add m).block, (ad.add m).off + j, none⟩ := by
 unfold Addr.add
 rw [if_neg (by omega)]
 split
 · rename_i h; subst h; simp
 · simp [Nat.add_assoc]
set_option maxRecDepth 100000 in
set_option maxHeartbeats 8000000 in
theorem all_law (A : Option Addr) (c : Nat) (bs : List Nat) (B : Option Addr) (cb n : Nat) (w : World) (hk : KW w) (hp : RB w (fun b => b < w.heap.size) A c bs) (ho : RO w B n) (hnc : n ≤ cb) (hcm : cb ≤ maxLen) :
 Calls Tryd.prog 5 #[.slice A bs.length c, .slice B n cb] w fun e w' => e = .returned (.bool true) ∧ Ext w w' := by
 have H0 := Lib.hid (begun4_any w hk)
 have HK := Lib.hid hk
 have HP := Lib.hid hp
 have HO := Lib.hid ho
 unfold maxLen at hcm
 clear hk hp ho
 go_enter Tryd.func5, Tryd.ntmps5
 go_wp2_with fail
 refine H0.out.mono ?_
 rintro e w1 ⟨rfl, hE1⟩
 have H1 := Lib.hid (short_any _ A c bs 100 w1 (HP.out.below hE1 (fun _ h => h)) (by omega))
 have HE1 := Lib.hid hE1
 clear H0 hE1
 go_wp2_with fail
 refine H1.out.mono ?_
 rintro e w2 ⟨⟨c2, rfl, hr2⟩, rfl⟩
 obtain ⟨s, hs⟩ : ∃ s, bs.take 100 = s := ⟨_, rfl⟩
 have hsl : s.length ≤ 100 := by rw [← hs, List.length_take]; omega
 rw [hs] at hr2 ⊢
 have HR := Lib.hid hr2
 have H2 := Lib.hid (new_any w1 (HK.out.ext HE1.out) hr2 (fun k hk => Nat.lt_of_lt_of_le hk HE1.out.bsize) (by omega))
 clear hs hr2 H1 HP
 go_wp2_with fail
 refine H2.out.mono ?_
 rintro e w2 ⟨pd, rfl, l1, hd1, hE2⟩
 have H3 := Lib.hid (rnew_any w2 (HR.out.below hE2 (fun k hk => Nat.lt_of_lt_of_le hk HE1.out.bsize)) (fun k hk => Nat.lt_of_lt_of_le hk (HE1.out.trans hE2).bsize) (by omega))
 have HL1 := Lib.hid (Nat.le_trans HE1.out.bsize l1)
 have HD1 := Lib.hid hd1
 have HE2 := Lib.hid (HE1.out.trans hE2)
 clear hd1 hE2 H2 HR
 go_wp2_with fail
 refine H3.out.mono ?_
 rintro e w3 ⟨pr, rfl, l2, hd2, hE3⟩
 have HN12 := Lib.hid (show pr ≠ pd by have := HD1.out.lt; omega)
 have HL2 := Lib.hid (Nat.le_trans HE2.out.bsize l2)
 obtain ⟨k0, v0, hn0⟩ : ∃ k v, news s = (k, v) := ⟨_, _, rfl⟩
 have hd1' := HD1.out.ext hE3
 rw [hn0] at hd1' hd2
 have HDs := Lib.hid (show DR w3 pd k0 v0 ((0 : Nat) : Int) from hd1')
 have HRs := Lib.hid (show ER w3 pr k0 v0 ((0 : Nat) : Int) from hd2)
 have HKs := Lib.hid (HK.out.ext (HE2.out.trans hE3))
 have HEs := Lib.hid (HE2.out.trans hE3)
 clear l1 l2 hd1' hd2 hE3 H3 HD1 HE2 HE1 hn0
 go_wp2_with fail
 go_loopw [8] (fun s8 wr => ∃ (i q : Nat) (k v : List Nat), s8 = .int .i64 (i : Int) ∧ i ≤ 10 ∧ q ≤ i ∧ Hid (DR wr pd k v (q : Int)) ∧ Hid (ER wr pr k v (q : Int)) ∧ Hid (KW wr) ∧ Hid (Ext w wr)) (fun s8 _ => (10 - intOf s8).toNat)
 case atStart => exact ⟨0, 0, k0, v0, rfl, by omega, by omega, HDs, HRs, HKs, HEs⟩
 case round =>
  clear HDs HRs HKs HEs HK
  obtain ⟨i, q, k, v, rfl, hi10, hqi, HD, HR, HK, HE⟩ := hrel
  by_cases hin : i < n ∧ i < 10
  · obtain ⟨i1, i2⟩ := hin
    have j1 : (i : Int) < (n : Int) := by omega
    have j2 : (i : Int) < 10 := by omega
    obtain ⟨ad, kd, nn, Bb, Mm, cbb, cm, bl, ml, rfl, c0, c1, c2', c3, hrb, hrl⟩ := HO.out i i1
    have hbb := Lib.hid (hrb.below HE.out (fun _ h => h))
    have hll := Lib.hid (hrl.below HE.out (fun _ h => h))
    replace c0 := HE.out.cell c0
    replace c1 := HE.out.cell c1
    replace c2' := HE.out.cell c2'
    replace c3 := HE.out.cell c3
    rw [Nat.add_zero] at c0
    rw [add_at _ _ _ (by omega)] at c1 c2' c3
    clear hrb hrl
    go_upto_region 11 with fail
    have hb9 := heap_alloc_new wr (.cells #[.int .i64 kd, .int .i64 nn, .slice Bb bl.length cbb, .slice Mm ml.length cm] 38)
    have hE9 : Ext wr (wr.alloc (.cells #[.int .i64 kd, .int .i64 nn, .slice Bb bl.length cbb, .slice Mm ml.length cm] 38)) := Ext.alloc _ _
    obtain ⟨V, hV⟩ : ∃ V, wr.alloc (.cells #[.int .i64 kd, .int .i64 nn, .slice Bb bl.length cbb, .slice Mm ml.length cm] 38) = V := ⟨_, rfl⟩
    obtain ⟨b9, hb⟩ : ∃ b, wr.heap.size = b := ⟨_, rfl⟩
    rw [hV] at hb9 hE9 ⊢
    rw [hb] at hb9 ⊢
    have HEw := HE
    replace HD := Lib.hid (HD.out.ext hE9)
    replace HR := Lib.hid (HR.out.ext hE9)
    replace HK := Lib.hid (HK.out.ext hE9)
    replace HE := Lib.hid (HE.out.trans hE9)
    have hzw : w.heap.size ≤ wr.heap.size := HEw.out.bsize
    clear hV hb c0 c1 c2' c3
    have HBB := Lib.hid (hbb.out.below hE9 (fun g hg => Nat.lt_of_lt_of_le hg hzw))
    have HLL := Lib.hid (hll.out.below hE9 (fun g hg => Nat.lt_of_lt_of_le hg hzw))
    have d0 := blk_cell hb9 0
    have d1 := blk_cell hb9 1
    have d2 := blk_cell hb9 2
    have d3 := blk_cell hb9 3
    simp only [List.getElem?_toArray, List.getElem?_cons_zero, List.getElem?_cons_succ] at d0 d1 d2 d3
    have hzV := HE.out.bsize
    clear hbb hll hE9 HEw hb9 hzw
    by_cases h0 : kd = 0
    · subst h0
      clear d2 d3
      by_cases hbig : 200 < nn ∧ nn ≤ 65536
      · obtain ⟨g1, g2⟩ := hbig
        obtain ⟨m, hm⟩ : ∃ m : Nat, nn % 201 = (m : Int) := ⟨(nn % 201).toNat, by omega⟩
        have hm2 : m < 201 := by omega
        have hwm : IntKind.i64.wrap (nn % 201) = (m : Int) := by rw [IntWalk.i64_in _ (by omega)]; exact hm
        by_cases hm0 : m = 0
        · have hno : (m : Int) < 1 ∨ 65536 < (m : Int) := by omega
          go_upto_region 19 with fail
          rw [hm]
          refine da19_no hno ?_
          intro X hX
          intros
          have HD2 := Lib.hid (HD.out.ext hX)
          have HR2 := Lib.hid (HR.out.ext hX)
          have HK2 := Lib.hid (HK.out.ext hX)
          have HE2 := Lib.hid (HE.out.trans hX)
          clear hX HD HR HK HE
          go_upto_region 30 with fail
          refine da30 HD2.out HR2.out ?_
          intro X9 hX9
          intros
          have HD9 := Lib.hid (HD2.out.ext hX9)
          have HR9 := Lib.hid (HR2.out.ext hX9)
          have HK9 := Lib.hid (HK2.out.ext hX9)
          have HE9 := Lib.hid (HE2.out.trans hX9)
          clear hX9 HD2 HR2 HK2 HE2
          go_wp2_with fail
          go_roundw
          case rel => exact ⟨i + 1, q, _, _, by go_num, by omega, by omega, HD9, HR9, HK9, HE9⟩
          case measure => simp [intOf]; omega
        · skip
          go_upto_region 19 with fail
          rw [hm]
          have hol : ((douts k v ((m + 31) / 32)).take m).length = m := by rw [List.length_take, douts_len]; omega
          refine da19_yes HK.out HD.out HR.out HN12.out (by omega) (by omega) (by omega) (by omega) rfl hol rfl rfl ?_
          intro X hX hk hd hr
          intros
          have HD2 := Lib.hid (show DR X pd _ _ ((q + 1 : Nat) : Int) from hd)
          have HR2 := Lib.hid (show ER X pr _ _ ((q + 1 : Nat) : Int) from hr)
          have HK2 := Lib.hid hk
          have HE2 := Lib.hid (hX.ext HE.out HL1.out HL2.out)
          clear hX hk hd hr hol HD HR HK HE
          go_upto_region 30 with fail
          refine da30 HD2.out HR2.out ?_
          intro X9 hX9
          intros
          have HD9 := Lib.hid (HD2.out.ext hX9)
          have HR9 := Lib.hid (HR2.out.ext hX9)
          have HK9 := Lib.hid (HK2.out.ext hX9)
          have HE9 := Lib.hid (HE2.out.trans hX9)
          clear hX9 HD2 HR2 HK2 HE2
          go_wp2_with fail
          go_roundw
          case rel => exact ⟨i + 1, q + 1, _, _, by go_num, by omega, by omega, HD9, HR9, HK9, HE9⟩
          case measure => simp [intOf]; omega
      · by_cases hyes : 1 ≤ nn ∧ nn ≤ 200
        · obtain ⟨m, rfl⟩ : ∃ m : Nat, nn = (m : Int) := ⟨nn.toNat, by omega⟩
          have g1 : ¬ (200 : Int) < (m : Int) := by omega
          have g1' : decide ((200 : Int) < (m : Int)) = false := decide_eq_false g1
          go_upto_region 19 with fail
          have hol : ((douts k v ((m + 31) / 32)).take m).length = m := by rw [List.length_take, douts_len]; omega
          refine da19_yes HK.out HD.out HR.out HN12.out (by omega) (by omega) (by omega) (by omega) rfl hol rfl rfl ?_
          intro X hX hk hd hr
          intros
          have HD2 := Lib.hid (show DR X pd _ _ ((q + 1 : Nat) : Int) from hd)
          have HR2 := Lib.hid (show ER X pr _ _ ((q + 1 : Nat) : Int) from hr)
          have HK2 := Lib.hid hk
          have HE2 := Lib.hid (hX.ext HE.out HL1.out HL2.out)
          clear hX hk hd hr hol HD HR HK HE
          go_upto_region 30 with fail
          refine da30 HD2.out HR2.out ?_
          intro X9 hX9
          intros
          have HD9 := Lib.hid (HD2.out.ext hX9)
          have HR9 := Lib.hid (HR2.out.ext hX9)
          have HK9 := Lib.hid (HK2.out.ext hX9)
          have HE9 := Lib.hid (HE2.out.trans hX9)
          clear hX9 HD2 HR2 HK2 HE2
          go_wp2_with fail
          go_roundw
          case rel => exact ⟨i + 1, q + 1, _, _, by go_num, by omega, by omega, HD9, HR9, HK9, HE9⟩
          case measure => simp [intOf]; omega
        · have hno : nn < 1 ∨ 65536 < nn := by omega
          by_cases g1 : 200 < nn
          · have g2 : ¬ nn ≤ 65536 := by omega
            go_upto_region 19 with fail
            refine da19_no hno ?_
            intro X hX
            intros
            have HD2 := Lib.hid (HD.out.ext hX)
            have HR2 := Lib.hid (HR.out.ext hX)
            have HK2 := Lib.hid (HK.out.ext hX)
            have HE2 := Lib.hid (HE.out.trans hX)
            clear hX HD HR HK HE
            go_upto_region 30 with fail
            refine da30 HD2.out HR2.out ?_
            intro X9 hX9
            intros
            have HD9 := Lib.hid (HD2.out.ext hX9)
            have HR9 := Lib.hid (HR2.out.ext hX9)
            have HK9 := Lib.hid (HK2.out.ext hX9)
            have HE9 := Lib.hid (HE2.out.trans hX9)
            clear hX9 HD2 HR2 HK2 HE2
            go_wp2_with fail
            go_roundw
            case rel => exact ⟨i + 1, q, _, _, by go_num, by omega, by omega, HD9, HR9, HK9, HE9⟩
            case measure => simp [intOf]; omega
          · have g1' : decide ((200 : Int) < nn) = false := decide_eq_false g1
            go_upto_region 19 with fail
            refine da19_no hno ?_
            intro X hX
            intros
            have HD2 := Lib.hid (HD.out.ext hX)
            have HR2 := Lib.hid (HR.out.ext hX)
            have HK2 := Lib.hid (HK.out.ext hX)
            have HE2 := Lib.hid (HE.out.trans hX)
            clear hX HD HR HK HE
            go_upto_region 30 with fail
            refine da30 HD2.out HR2.out ?_
            intro X9 hX9
            intros
            have HD9 := Lib.hid (HD2.out.ext hX9)
            have HR9 := Lib.hid (HR2.out.ext hX9)
            have HK9 := Lib.hid (HK2.out.ext hX9)
            have HE9 := Lib.hid (HE2.out.trans hX9)
            clear hX9 HD2 HR2 HK2 HE2
            go_wp2_with fail
            go_roundw
            case rel => exact ⟨i + 1, q, _, _, by go_num, by omega, by omega, HD9, HR9, HK9, HE9⟩
            case measure => simp [intOf]; omega
    · by_cases h1 : kd = 1
      · subst h1
        clear d1 d2
        have H5 := Lib.hid (cut_any (fun g => g < w.heap.size) Mm cm ml 6 V HLL.out (by omega))
        clear HLL
        go_wp2_with fail
        refine H5.out.mono ?_
        rintro e X1 ⟨A1, e1, rfl, ho1, hb1⟩
        obtain ⟨l, hl⟩ : ∃ l, ml.take 6 = l := ⟨_, rfl⟩
        have hl6 : l.length ≤ 6 := by rw [← hl, List.length_take]; omega
        rw [hl] at ho1 ⊢
        have hE1 : Ext V X1 := hb1
        have hrn := ho1.rn
        have hb6 : nbits (val 18446744073709551616 l) ≤ 384 := by
         have h1 : nbits (val 18446744073709551616 l) ≤ 64 * l.length := by
          apply nbits_le
          have := val_lt hrn.2.1
          rwa [show (18446744073709551616 : Nat) = 2 ^ 64 by decide, ← Nat.pow_mul] at this
         omega
        have HD1 := Lib.hid (HD.out.ext hE1)
        have HR1 := Lib.hid (HR.out.ext hE1)
        have HK1 := Lib.hid (HK.out.ext hE1)
        have HE1 := Lib.hid (HE.out.trans hE1)
        have hpd := HD.out.lt
        have hpr := HR.out.lt
        obtain ⟨z, hz⟩ : ∃ z, val 18446744073709551616 l = z := ⟨_, rfl⟩
        have HZ := Lib.hid hz
        by_cases hz0 : z = 0
        · have H6 := Lib.hid (dbelow_no (b := pd) X1 hrn (.inl (by rw [hz, hz0]; rfl)))
          have H7 := from_any _ A1 e1 l X1 hrn (fun g hg => hg.2) (by omega)
          rw [hz, hz0, digs_zero] at H7
          rw [show ([] : List Nat).length = 0 from rfl] at H7
          have HH7 := Lib.hid H7
          clear H7 ho1 hb1 hE1 hrn hb6 HD HR HK HE H5 hl hz
          go_wp2_with fail
          refine H6.out.mono ?_
          rintro e X2 ⟨rfl, he⟩
          obtain rfl := he.symm
          clear he
          go_wp2_with fail
          refine HH7.out.mono ?_
          rintro e X2 ⟨A2, e2, rfl, _, hb2⟩
          have hE2 : Ext X1 X2 := hb2
          have HD2 := Lib.hid (HD1.out.ext hE2)
          have HR2 := Lib.hid (HR1.out.ext hE2)
          have HK2 := Lib.hid (HK1.out.ext hE2)
          have HE2 := Lib.hid (HE1.out.trans hE2)
          clear hb2 hE2 HD1 HR1 HK1 HE1 H6 HH7
          go_upto_region 30 with fail
          refine da30 HD2.out HR2.out ?_
          intro X9 hX9
          intros
          have HD9 := Lib.hid (HD2.out.ext hX9)
          have HR9 := Lib.hid (HR2.out.ext hX9)
          have HK9 := Lib.hid (HK2.out.ext hX9)
          have HE9 := Lib.hid (HE2.out.trans hX9)
          clear hX9 HD2 HR2 HK2 HE2
          go_wp2_with fail
          go_roundw
          case rel => exact ⟨i + 1, q, _, _, by go_num, by omega, by omega, HD9, HR9, HK9, HE9⟩
          case measure => simp [intOf]; omega
        · obtain ⟨qb, hqb⟩ : ∃ x, nbits z = x := ⟨_, rfl⟩
          have hqb0 : 0 < qb := by
           rw [← hqb, nbits, if_neg hz0]; omega
          rw [hz, hqb] at hb6
          have H6 := dbelow_any (q := qb) X1 HK1.out HD1.out hrn (fun g hg => hg.2) (fun hg => absurd hg.1 (by omega)) (by omega) (by rw [hz]; exact hqb) hqb0 (by omega) (by rw [hz]; omega) (by omega) (by omega)
          rw [hz] at H6
          have HH6 := Lib.hid H6
          have HRN := Lib.hid hrn
          have HQB := Lib.hid hqb
          have hz1 := hb1.size
          clear H6 ho1 hb1 hE1 hrn HD HR HK HE H5 hl hz hqb
          go_wp2_with fail
          refine HH6.out.mono ?_
          rintro e X2 ⟨A2, e2, r, m, hm, hr, rfl, ho2, hd2, hf2⟩
          have hrn2 : RN X2 (In V.heap.size X1.heap.size) A1 e1 l := HRN.out.keep fun p hp => World.cell?_of_block (hf2.block _ hp.2 (by have := hp.1; omega))
          have hz2 := hf2.size
          have H7 := from_any _ A1 e1 l X2 hrn2 (fun g hg => Nat.lt_of_lt_of_le hg.2 hz2) (by omega)
          rw [HZ.out] at H7
          obtain ⟨ly, hly⟩ : ∃ x, digs 4294967296 z = x := ⟨_, rfl⟩
          rw [hly] at H7
          have hlyn : ly.length ≠ 0 := by
           intro e
           have e0 : ly = [] := List.eq_nil_of_length_eq_zero e
           have e9 := val_digs (B := 4294967296) (n := z) (by omega)
           rw [hly, e0] at e9
           simp at e9
           exact hz0 e9.symm
          have HH7 := Lib.hid H7
          have HLY := Lib.hid hly
          have HX2 := Lib.hid ho2
          have HRR := Lib.hid hr
          have HMM := Lib.hid hm
          have HR2 := Lib.hid (HR1.out.frd hf2 HD1.out HN12.out)
          have HK2 := Lib.hid (HK1.out.dr HD1.out hf2 (Nat.le_refl _))
          have HE2 := Lib.hid (hf2.ofNew HE1.out HL1.out (Nat.le_refl _))
          have HD2 := Lib.hid (show DR X2 pd _ _ ((q + 1 : Nat) : Int) from hd2)
          obtain ⟨lx, hlx⟩ : ∃ x, digs 18446744073709551616 r = x := ⟨_, rfl⟩
          rw [hlx] at HX2 ⊢
          have HLX := Lib.hid hlx
          clear H7 hly ho2 hr hm hf2 hd2 hrn2 HH6 HD1 HR1 HK1 HE1 HRN hlx
          go_wp2_with fail
          refine HH7.out.mono ?_
          rintro e X3 ⟨A3, e3, rfl, ho3, hb3⟩
          have hE3 : Ext X2 X3 := hb3
          have hry := ho3.rn
          rw [← HLY.out] at hry
          have H8 := rbelow_any (q := qb) X3 (HR2.out.ext hE3) hry (fun g hg => hg.2) (fun hg => absurd hg.1 (by have := HR2.out.lt; omega)) HQB.out hqb0 (by omega) (by omega) (by omega) (by omega)
          rw [HLY.out] at H8
          have HH8 := Lib.hid H8
          have HD3 := Lib.hid (HD2.out.ext hE3)
          have HK3 := Lib.hid (HK2.out.ext hE3)
          have HE3 := Lib.hid (HE2.out.trans hE3)
          have HR3 := Lib.hid (HR2.out.ext hE3)
          have HX3 := Lib.hid (RN.below HX2.out.rn hE3 (fun g hg => hg.2))
          have ly0 : ((ly.length : Int) == 0) = false := by rw [beq_eq_false_iff_ne]; omega
          have ly1 : ¬ (ly.length : Int) = 0 := by omega
          have hz3 := hE3.bsize
          clear H8 ho3 hb3 hE3 hry HD2 HR2 HK2 HE2 HX2 HH7
          go_wp2_with fail
          refine HH8.out.mono ?_
          rintro e X4 ⟨A4, e4, r', m', hm', hr', rfl, ho4, hd4, hf4⟩
          have hmm : m' = m := by rw [hm', HMM.out]
          subst hmm
          have hrr : r' = r := by rw [hr', HRR.out]
          subst hrr
          have hx4 : RN X4 (In X1.heap.size X2.heap.size) A2 e2 lx := HX3.out.keep fun p hp => World.cell?_of_block (hf4.block _ (Nat.lt_of_lt_of_le hp.2 hz3) (by have := hp.1; omega))
          have hz4 := hf4.size
          have H9 := is_bool _ _ A2 A4 e2 e4 lx r' X4 hx4 ho4 (fun g hg => by have := hg.2; omega) (fun g hg => hg)
          rw [decide_eq_true HLX.out.symm] at H9
          have HH9 := Lib.hid H9
          have HD4 := Lib.hid (HD3.out.fre hf4 HR3.out HN12.out.symm)
          have HK4 := Lib.hid (HK3.out.er HR3.out hf4 (Nat.le_refl _))
          have HE4 := Lib.hid (hf4.ofNew HE3.out HL2.out (Nat.le_refl _))
          have HR4 := Lib.hid (show ER X4 pr _ _ ((q + 1 : Nat) : Int) from hd4)
          clear H9 hx4 ho4 hd4 hf4 HD3 HR3 HK3 HE3 HX3 HH8 hm' hr'
          obtain ⟨lz, hlz⟩ : ∃ x, digs 4294967296 r' = x := ⟨_, rfl⟩
          rw [hlz] at HH9 ⊢
          go_wp2_with fail
          refine HH9.out.mono ?_
          rintro e X5 ⟨rfl, hb5⟩
          have hE5 : Ext X4 X5 := hb5
          have HD2 := Lib.hid (HD4.out.ext hE5)
          have HR2 := Lib.hid (HR4.out.ext hE5)
          have HK2 := Lib.hid (HK4.out.ext hE5)
          have HE2 := Lib.hid (HE4.out.trans hE5)
          clear hb5 hE5 HD4 HR4 HK4 HE4 HH9
          go_upto_region 30 with fail
          refine da30 HD2.out HR2.out ?_
          intro X9 hX9
          intros
          have HD9 := Lib.hid (HD2.out.ext hX9)
          have HR9 := Lib.hid (HR2.out.ext hX9)
          have HK9 := Lib.hid (HK2.out.ext hX9)
          have HE9 := Lib.hid (HE2.out.trans hX9)
          clear hX9 HD2 HR2 HK2 HE2
          go_wp2_with fail
          go_roundw
          case rel => exact ⟨i + 1, q + 1, _, _, by go_num, by omega, by omega, HD9, HR9, HK9, HE9⟩
          case measure => simp [intOf]; omega
      · have H5 := Lib.hid (short_any _ Bb cbb bl 100 V HBB.out (by omega))
        have k0 : (kd == 0) = false := by rw [beq_eq_false_iff_ne]; exact h0
        have k1 : (kd == 1) = false := by rw [beq_eq_false_iff_ne]; exact h1
        clear HBB HLL d1 d3
        go_wp2_with fail
        refine H5.out.mono ?_
        rintro e X1 ⟨⟨e1, rfl, hr1⟩, he⟩
        obtain rfl := he
        obtain ⟨t, ht⟩ : ∃ t, bl.take 100 = t := ⟨_, rfl⟩
        have htl : t.length ≤ 100 := by rw [← ht, List.length_take]; omega
        rw [ht] at hr1 ⊢
        have hlt : ∀ g, g < w.heap.size → g < V.heap.size := fun g hg => Nat.lt_of_lt_of_le hg hzV
        have H6 := Lib.hid (reseed_any V HK.out HD.out hr1 hlt (by omega))
        have HT := Lib.hid hr1
        have Hlt := Lib.hid hlt
        clear ht hr1 H5 hlt
        go_wp2_with fail
        refine H6.out.mono ?_
        rintro e X2 ⟨rfl, hd2, hf2⟩
        have hR2 := HR.out.frd hf2 HD.out HN12.out
        have hK2 := HK.out.dr HD.out hf2 (Nat.le_refl _)
        have hE2 := hf2.ofNew HE.out HL1.out (Nat.le_refl _)
        have hT2 := HT.out.dr Hlt.out HD.out hf2
        have hz2 := hf2.size
        have H7 := Lib.hid (rreseed_any X2 hR2 hT2 (fun g hg => Nat.lt_of_lt_of_le (Hlt.out g hg) hz2) (by omega))
        have HR1 := Lib.hid hR2
        have HD1 := Lib.hid hd2
        have HK1 := Lib.hid hK2
        have HE1 := Lib.hid hE2
        clear hR2 hK2 hE2 hT2 hd2 hf2 H6 HD HR HK HE
        go_wp2_with fail
        refine H7.out.mono ?_
        rintro e X3 ⟨rfl, hd3, hf3⟩
        have HD2 := Lib.hid (show DR X3 pd _ _ ((0 : Nat) : Int) from HD1.out.fre hf3 HR1.out HN12.out.symm)
        have HR2 := Lib.hid (show ER X3 pr _ _ ((0 : Nat) : Int) from hd3)
        have HK2 := Lib.hid (HK1.out.er HR1.out hf3 (Nat.le_refl _))
        have HE2 := Lib.hid (hf3.ofNew HE1.out HL2.out (Nat.le_refl _))
        clear hd3 hf3 HD1 HR1 HK1 HE1 H7
        go_upto_region 30 with fail
        refine da30 HD2.out HR2.out ?_
        intro X9 hX9
        intros
        have HD9 := Lib.hid (HD2.out.ext hX9)
        have HR9 := Lib.hid (HR2.out.ext hX9)
        have HK9 := Lib.hid (HK2.out.ext hX9)
        have HE9 := Lib.hid (HE2.out.trans hX9)
        clear hX9 HD2 HR2 HK2 HE2
        go_wp2_with fail
        go_roundw
        case rel => exact ⟨i + 1, 0, _, _, by go_num, by omega, by omega, HD9, HR9, HK9, HE9⟩
        case measure => simp [intOf]; omega
  · have hg : ((i : Int) < (n : Int)) ∧ ¬ ((i : Int) < 10) ∨ ¬ ((i : Int) < (n : Int)) := by omega
    rcases hg with ⟨h1, h2⟩ | h1
    all_goals
     go_wp2_with fail
     go_ret
     exact ⟨rfl, HE.out⟩
end Go.Proofs.YtjphlimfldcifaaDoor

namespace Go.Proofs.YtjphlimfldcifaaDoor
open Go.ChangeShapes Go.WideShapes Go.ChangeAt Go.RowKit
open Sha

theorem gK : Tryd.prog.globalNamed "bailey/hashes.k" = some 3 := by kernel_rfl
theorem tK : (Tryd.prog.globals[3]?).map (·.type) = some 132 := by kernel_rfl
def kOk (n : Nat) (i : Nat) : Bool := decide (n < 18446744073709551616 ∧ n / 4294967296 = (wd kk i).toNat)
theorem k_all : (List.range 64).all (fun i => match (Rows.laid_bailey_hashes_k (H := Unit)) with | .agg l => (match l[i]? with | some (.lit (.int .u64 n)) => decide (0 ≤ n) && kOk n.toNat i | _ => false) | _ => false) = true := by decide +kernel
theorem of_laid {W : World} (h : laidMetH Tryd.prog [("bailey/hashes.k", Rows.laid_bailey_hashes_k)] W) : KW W := by
 rw [MakeChecks.laidMetH_plain _ _ _ (by kernel_rfl)] at h
 obtain ⟨ps, ⟨g0, t0, cs0, f0, p0, q0, hg0, ht0, hv0, hd0, _⟩, _, _⟩ := h
 obtain rfl := Option.some.inj (gK.symm.trans hg0)
 obtain rfl := Option.some.inj (tK.symm.trans ht0)
 obtain ⟨xs, m, rfl, hx, hlen, hn, hel⟩ := DataW.trod_array Tryd.underlying132 hd0
 have c1 : Tryd.prog.cellsOf 51 = 1 := by kernel_rfl
 intro i hi
 have hi80 : i < xs.length := by omega
 have h0 := hel i (by omega)
 rw [List.getElem?_eq_getElem hi80] at h0
 obtain ⟨k, e1, e2, _⟩ := DataW.trod_int Tryd.underlying51 h0
 rw [c1, Nat.mul_one] at e1
 have hall := List.all_eq_true.1 k_all i (List.mem_range.2 hi)
 have hx1 := congrArg (fun z : DataW Unit × List MemPlace => z.1) hx
 simp only at hx1
 rw [hx1] at hall
 simp only [List.getElem?_map, List.getElem?_eq_getElem hi80, Option.map_some, e2, Bool.and_eq_true, kOk, decide_eq_true_eq] at hall
 obtain ⟨k0, k1, k2⟩ := hall
 have hc : cs0[i]? = some (.int .u64 k) := by
  have : (cs0.toList.drop i)[0]? = some (Value.int .u64 k) := by
   have h2 := congrArg (fun l : List Value => l[0]?) e1
   simpa using h2
  simpa using this
 refine ⟨k.toNat, ?_, k1, k2⟩
 rw [World.var?_cell hg0 hv0 i, hc, Int.toNat_of_nonneg k0]
theorem door_met (os : Os) (args : Array Value) : laidMetH Tryd.prog [("bailey/hashes.k", Rows.laid_bailey_hashes_k)] ((World.doorLaid Tryd.prog 14 os).forCall (fun _ _ => 0) ⟨#[], args, []⟩).memory :=
 laidMetH_of_parts3 (fuel := 8) (laidMet_of_run' 8 (by kernel_rfl) (by kernel_rfl)) (by kernel_rfl) (by kernel_rfl)
end Go.Proofs.YtjphlimfldcifaaDoor

namespace Go.Proofs.YtjphlimfldcifaaDoor.drbgAll
open Go.ChangeShapes Go.WideShapes Go.ChangeAt Go.RowKit

theorem own : ownKnob Tryd.prog.godebug = none := by kernel_rfl
theorem laidOut : laidOutB Tryd.prog = true := by kernel_rfl

set_option maxRecDepth 100000 in
theorem lifted (os : Os) (started : os.Started) (H : Type) (enc : TypeId × Value → H) :
 ReturnsInHanded {} Tryd.checked os 5 .any (fun w args => (Rows.drbgAllSpec.pre enc Tryd.prog Tryd.f5 Rows.drbgAllRow.domain false w args ∧ laidMetH Tryd.prog [("bailey/hashes.k", Rows.laid_bailey_hashes_k)] w) ∧ sizedMet enc Tryd.prog Tryd.f5 (OpenSpec.ofChange Rows.drbgAllSpec) false w args) (Rows.drbgAllSpec.post enc Tryd.prog Tryd.f5 false true false false) := by
 refine returnsInHanded_of_change_and (C := Tryd.checked) (X := fun w _ => laidMetH Tryd.prog [("bailey/hashes.k", Rows.laid_bailey_hashes_k)] w) (fun _ _ _ hh h => h.of_heap hh) own started (by kernel_rfl) Tryd.func5
  (ChangeSpec.witness_shaped (enc := enc) (C := Tryd.checked) (os := os) (X := fun w _ => laidMetH Tryd.prog [("bailey/hashes.k", Rows.laid_bailey_hashes_k)] w) false (World.doorLaid Tryd.prog 14 os) #[.slice none 0 0, .slice none 0 0] 8 rfl (World.shaped_of_RefB (by kernel_rfl) (by kernel_rfl)) (by kernel_rfl) (by kernel_rfl) (by kernel_rfl) (door_met os _)) ?_
 intro W base args ds gs before hval0 hW hcnd hsz0 hL _
 have hk : KW W := of_laid hL
 have hval : ∀ (j : Nat) t v, Tryd.f5.params[j]? = some t → args[j]? = some v → Value.okWide Tryd.prog W .any base t v := hval0
 have hsz : (DataW.weightsEach Tryd.prog (Tryd.f5.params.toList ++ Rows.drbgAllSpec.plain.varTypes Tryd.prog) (ds ++ gs)).all (· ≤ reachBytes) = true := hsz0
 have hW' := hW
 obtain ⟨p, q, hA0, hV, rfl, hfz, hnd⟩ := hW
 have hA : DataW.TrodAll enc Tryd.prog W 0 (fun _ => true) true Tryd.f5.params.toList args.toList ds p := hA0
 rw [Tryd.params5] at hA hval hsz
 obtain ⟨v0, vs0, d0, ds0, p0, q0, hargs, rfl, rfl, h0, r0⟩ := trodAll_cons hA
 obtain ⟨v1, vs1, d1, ds1, p1, q1, rfl, rfl, rfl, h1, r1⟩ := trodAll_cons r0
 obtain ⟨rfl, rfl, rfl⟩ := trodAll_nil r1
 obtain rfl : args = #[v0, v1] := by cases args; simp_all
 obtain ⟨rfl, rfl⟩ := trodVars_none hV
 have k0 := h0
 have lt0 : ∀ x ∈ p0, x.block < W.heap.size := by obtain ⟨m, hm⟩ := k0; exact DataW.trod_lt m _ _ _ hm
 have k1 := h1
 have lt1 : ∀ x ∈ p1, x.block < W.heap.size := by obtain ⟨m, hm⟩ := k1; exact DataW.trod_lt m _ _ _ hm
 have fit : ∀ (j : Nat) (t : TypeId) (d : DataW H), [22, 34][j]? = some t → [d0, d1][j]? = some d → Fits t d := fun j t d ht hd k hk => by
  have := List.all_eq_true.1 hsz k (DataW.weights_mem_each (ts := [22, 34]) (ds := [d0, d1]) ht hd k hk)
  simpa using this
 obtain ⟨a0, len0, cap0, e0⟩ := okWide_slice Tryd.underlying22 (hval 0 22 v0 rfl rfl)
 obtain ⟨A0, c0, l0, hv0, hR0⟩ : ∃ A c l, v0 = .slice A (List.length l) c ∧ RB W (fun b => b < W.heap.size) A c l := by
  obtain ⟨fuel, hf⟩ := h0
  rw [e0] at hf ⊢
  exact open_bytes hf (fit 0 _ _ rfl rfl)
 obtain ⟨a1, len1, cap1, e1⟩ := okWide_slice Tryd.underlying34 (hval 1 34 v1 rfl rfl)
 obtain ⟨A1, c1, n1, hv1, hn1, hc1, hR1⟩ : ∃ A c n, v1 = .slice A n c ∧ n ≤ c ∧ c ≤ maxLen ∧ RO W A n := by
  obtain ⟨fuel, hf⟩ := h1
  rw [e1] at hf ⊢
  exact open_ops hf (fit 1 _ _ rfl rfl)
 clear hA0 hval0
 subst hv0 hv1
 refine (all_law A0 c0 l0 A1 c1 n1 W hk hR0 hR1 hn1 hc1).mono fun e W' ⟨he, bel⟩ => ?_
 subst he
 exact ⟨_, rfl, _, _, _, [], _, [], hW', trodAll_mk1 (shut_bool Tryd.underlying4 _), (trodAll_cons_mk (Below.trod laidOut (by kernel_rfl) (of_decide_eq_true (by kernel_rfl)) k0 bel lt0) (trodAll_cons_mk (Below.trod laidOut (by kernel_rfl) (of_decide_eq_true (by kernel_rfl)) k1 bel lt1) trodAll_mk0)), rfl, bel.frame _, fun h => by cases h⟩

theorem over : Rows.drbgAllRow.holds Tryd.pinned (OpenSpec.ofChange Rows.drbgAllSpec) :=
 OpenClaim.holds_of_wide 5 Tryd.f5 rfl rfl rfl rfl rfl rfl rfl ⟨rfl, rfl, rfl, rfl, rfl⟩ rfl rfl rfl rfl rfl (by kernel_rfl) Tryd.func5 (by kernel_rfl)
  (of_decide_eq_true (by kernel_rfl)) (by unfold Func.isWrapper; first | (rw [if_pos (by decide +kernel)]; kernel_rfl) | (rw [if_neg (by decide +kernel)]; exact ⟨rfl, rfl⟩))
  (fun os started H enc _ => lifted os started H enc)

theorem proved : Rows.DrbgAllCardSaid :=
 Claim7.holds_tied_plain_at .later [] [.data] true (true, "3a377e8ca52d66c03c4166ec134ee19690ca3a488116915b06703020fb15e33e") false over (fun _ h => by cases h) (by kernel_rfl) (fun _ h => by cases h) drbgAll_row_tie rfl ⟨rfl, rfl⟩ (by kernel_rfl) rfl
  (fun f fn hf hfn => by
   obtain rfl : f = 5 := Option.some.inj ((show Tryd.prog.funcNamed "bailey/baileylaw4.DrbgAll" = some 5 by kernel_rfl).symm.trans hf) |>.symm
   obtain rfl : fn = Tryd.f5 := (Option.some.inj (Tryd.func5.symm.trans hfn)).symm
   exact ⟨by kernel_rfl, fun j t ht => by
    rw [Tryd.params5] at ht
    have hm : t ∈ [22, 34] := by simpa using Array.mem_of_getElem? ht
    have hall : ([22, 34].all fun u => !Tryd.prog.wantsStandIn u) = true := by kernel_rfl
    exact (show Tryd.prog.wantsStandIn t = false by simpa using List.all_eq_true.1 hall t hm)⟩)
  (by kernel_rfl)
#print axioms proved
end Go.Proofs.YtjphlimfldcifaaDoor.drbgAll
