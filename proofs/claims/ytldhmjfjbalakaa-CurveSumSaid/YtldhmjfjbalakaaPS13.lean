/- CurveSum: for every curve and numbers the law answers true and leaves its arguments as they were. No condition. begun: one point is told. CurveNumbers: the curves' numbers are the document's. The reference's points: To. The law's point: Point, of a curve. CurveSum: the law answers true. CurveSum: the law answers true, of a curve and of none. -/
import Derived.Test.YtldhmjfjbalakaaPS12
namespace Go.Proofs.Ytldhmjfjbalakaa
open Go.RowKit

theorem isC1 : IsC 1 c256 := Or.inl ⟨rfl, rfl⟩
theorem isC2 : IsC 2 c384 := Or.inr ⟨rfl, rfl⟩
/-- The block is a point. -/
def PB (X : World) (b : Nat) (bi : Bool) (x y : Nat) : Prop := ∃ p1 p2, X.heap[b]? = some (.cells #[.bool bi, p1, p2] 27 (0, 0)) ∧ APt X (.agg #[.bool bi, p1, p2]) bi x y
theorem PB.ext {X Y : World} {b : Nat} {bi : Bool} {x y : Nat} (h : PB X b bi x y) (hE : Ext X Y) : PB Y b bi x y := let ⟨p1, p2, h1, h2⟩ := h; ⟨p1, p2, hE.at_ h1, h2.ext hE⟩
theorem neq_nilP (w : World) (f : Fn) (a b : Array Value) : (binOp .neq 59 (.func f a b) .nilFunc).run Try.prog w = .ok (.bool true) w := by kernel_rfl
set_option maxRecDepth 100000 in
set_option maxHeartbeats 8000000 in
theorem begun9_any (w : World) : Calls Try.prog 10 #[] w fun e w' => e = .returned (.bool true) ∧ Ext w w' := by
  go_enter Try.func10, Try.ntmps10
  go_upto_region 2 with (go_at_call 20; refine (base_c isC1 _).mono ?_; rintro e w1 ⟨A, cc, A', cc', rfl, hA, hA', hE1⟩)
  have hp1 : APt w1 (.agg #[.bool false, .slice A c256.xl.length cc, .slice A' c256.yl.length cc']) false bx by_ := ⟨A, A', cc, cc', _, _, rfl, hA, hA', c256_x, c256_y⟩
  generalize Value.slice A c256.xl.length cc = s1 at *
  generalize Value.slice A' c256.yl.length cc' = s2 at *
  have hb1 := heap_alloc_new w1 (.cells #[.bool false, s1, s2] 27)
  have hA1 := Ext.alloc w1 (.cells #[.bool false, s1, s2] 27)
  replace hp1 := hp1.ext hA1
  have HE1 := Lib.hid (hE1.trans hA1)
  generalize hV1 : w1.alloc (.cells #[.bool false, s1, s2] 27) = V1 at *
  obtain ⟨b1, hq1⟩ : ∃ b, w1.heap.size = b := ⟨_, rfl⟩
  rw [hq1] at hb1 ⊢
  have Hp1 := Lib.hid hp1
  have hA2 := Ext.alloc V1 (.cells #[.int .u64 2] 72)
  have htwo : RU (V1.alloc (.cells #[.int .u64 2] 72)) (some ⟨V1.heap.size, 0, none⟩) 1 [2] := (RN.one V1 2 (by omega)).mono (fun b hb => by rw [World.size_alloc]; exact hb.2)
  have hmul := mul_c isC1 (n := [2]) (E := 2) (V1.alloc (.cells #[.int .u64 2] 72)) (hp1.ext hA2) htwo rfl
  rw [mul_two, show [2].length = 1 from rfl] at hmul
  have Hmul := Lib.hid hmul
  replace hb1 := hA2.at_ hb1
  have HE2 := Lib.hid (HE1.out.trans hA2)
  replace Hp1 := Lib.hid (Hp1.out.ext hA2)
  obtain ⟨z10, z11, z12, q10, q11, q12⟩ := pt_facts hb1
  clear hA hA' hE1 hA1 hV1 hq1 hp1 htwo hmul hA2 HE1
  go_upto_region 3 with (go_at_call 15; refine Hmul.out.mono ?_; rintro e w2 ⟨o2, rfl, ⟨A2, k2, A2', k2', rfl, hx2, hy2⟩, hE2⟩)
  replace hb1 := hE2.at_ hb1
  replace Hp1 := Lib.hid (Hp1.out.ext hE2)
  have hp2 : APt w2 (.agg #[.bool false, .slice A2 (digs 18446744073709551616 x2).length k2, .slice A2' (digs 18446744073709551616 y2).length k2']) false x2 y2 := ⟨A2, A2', k2, k2', _, _, rfl, hx2.ru, hy2.ru, val_digs (by omega) _, val_digs (by omega) _⟩
  generalize Value.slice A2 (digs 18446744073709551616 x2).length k2 = s3 at *
  generalize Value.slice A2' (digs 18446744073709551616 y2).length k2' = s4 at *
  have hb2 := heap_alloc_new w2 (.cells #[.bool false, s3, s4] 27)
  have hA2 := Ext.alloc w2 (.cells #[.bool false, s3, s4] 27)
  generalize hV2 : w2.alloc (.cells #[.bool false, s3, s4] 27) = V2 at *
  obtain ⟨b2, hq2⟩ : ∃ b, w2.heap.size = b := ⟨_, rfl⟩
  rw [hq2] at hb2 ⊢
  have Hp2 := Lib.hid (hp2.ext hA2)
  have HE3 := Lib.hid ((HE2.out.trans hE2).trans hA2)
  replace hb1 := hA2.at_ hb1
  replace Hp1 := Lib.hid (Hp1.out.ext hA2)
  obtain ⟨z10, z11, z12, q10, q11, q12⟩ := pt_facts hb1
  have hadd := add_c isC1 V2 Hp1.out Hp1.out
  rw [add_two] at hadd
  have Hadd := Lib.hid hadd
  clear hx2 hy2 hE2 hp2 hA2 hV2 hq2 Hmul HE2 hadd
  go_upto_region 4 with (go_at_call 21; refine Hadd.out.mono ?_; rintro e w3 ⟨o3, rfl, ⟨A3, k3, A3', k3', rfl, hx3, hy3⟩, hE3⟩)
  replace hb1 := hE3.at_ hb1
  replace hb2 := hE3.at_ hb2
  have hp3 : APt w3 (.agg #[.bool false, .slice A3 (digs 18446744073709551616 x2).length k3, .slice A3' (digs 18446744073709551616 y2).length k3']) false x2 y2 := ⟨A3, A3', k3, k3', _, _, rfl, hx3.ru, hy3.ru, val_digs (by omega) _, val_digs (by omega) _⟩
  generalize Value.slice A3 (digs 18446744073709551616 x2).length k3 = s5 at *
  generalize Value.slice A3' (digs 18446744073709551616 y2).length k3' = s6 at *
  have hb3 := heap_alloc_new w3 (.cells #[.bool false, s5, s6] 27)
  have hA3 := Ext.alloc w3 (.cells #[.bool false, s5, s6] 27)
  generalize hV3 : w3.alloc (.cells #[.bool false, s5, s6] 27) = V3 at *
  obtain ⟨b3, hq3⟩ : ∃ b, w3.heap.size = b := ⟨_, rfl⟩
  rw [hq3] at hb3 ⊢
  replace hb1 := hA3.at_ hb1
  replace hb2 := hA3.at_ hb2
  replace Hp2 := Lib.hid (Hp2.out.ext (hE3.trans hA3))
  have Hp3 := Lib.hid (hp3.ext hA3)
  have HE4 := Lib.hid (HE3.out.trans (hE3.trans hA3))
  obtain ⟨y10, y11, y12, r10, r11, r12⟩ := pt_facts hb2
  have henc := encode_c isC1 V3 Hp2.out
  rw [enc_two, Option.getD_some, eb_len] at henc
  have Henc := Lib.hid henc
  clear hx3 hy3 hE3 hp3 hA3 hV3 hq3 Hadd HE3 henc Hp1 z10 z11 z12 q10 q11 q12
  go_upto_region 5 with (go_at_call 26; refine Henc.out.mono ?_; rintro e w4 ⟨A4, k4, rfl, hr4, hE4⟩)
  replace hb1 := hE4.at_ hb1
  replace hb3 := hE4.at_ hb3
  have HE5 := Lib.hid (HE4.out.trans hE4)
  replace Hp3 := Lib.hid (Hp3.out.ext hE4)
  have hdec := decode_c isC1 _ A4 k4 _ w4 hr4 (fun b hb => hb.2)
  rw [eb_len, dec_two] at hdec
  have Hdec := Lib.hid hdec
  clear hr4 hE4 Henc HE4 hdec hb2 y10 y11 y12 r10 r11 r12 Hp2
  go_upto_region 6 with (go_at_call 27; refine Hdec.out.mono ?_; rintro e w5 ⟨o5, rfl, ⟨A5, k5, A5', k5', rfl, hx5, hy5⟩, hE5⟩)
  replace hb1 := hE5.at_ hb1
  replace hb3 := hE5.at_ hb3
  rw [digs_x2]
  rw [show [11964737083406719352, 13873736548487404341, 9967090510939364035, 9003393950442278782].length = 4 from rfl]
  generalize Value.slice A5' (digs 18446744073709551616 y2).length k5' = s8 at *
  have hb8 := heap_alloc_new w5 (.cells #[.bool false, .slice A5 4 k5, s8] 27)
  have hA8 := Ext.alloc w5 (.cells #[.bool false, .slice A5 4 k5, s8] 27)
  generalize hV8 : w5.alloc (.cells #[.bool false, .slice A5 4 k5, s8] 27) = V8 at *
  obtain ⟨b8, hq8⟩ : ∃ b, w5.heap.size = b := ⟨_, rfl⟩
  rw [hq8] at hb8 ⊢
  have HE6 := Lib.hid (HE5.out.trans (hE5.trans hA8))
  replace Hp3 := Lib.hid (Hp3.out.ext (hE5.trans hA8))
  replace hb1 := hA8.at_ hb1
  replace hb3 := hA8.at_ hb3
  obtain ⟨z10, z11, z12, q10, q11, q12⟩ := pt_facts hb1
  clear hx5 hy5 hE5 hA8 hV8 hq8 Hdec HE5
  go_upto_region 7 with (go_at_call 30; refine (multiples_any 1 V8).mono ?_; rintro e w6 ⟨rfl, hw6⟩; have hE6 : Ext V8 w6 := (by rw [hw6]; exact (Ext.alloc _ _).trans (Ext.alloc _ _)); clear hw6)
  replace hb3 := hE6.at_ hb3
  replace hb8 := hE6.at_ hb8
  obtain ⟨y30, y31, y32, r30, r31, r32⟩ := pt_facts hb3
  obtain ⟨y80, y81, y82, r80, r81, r82⟩ := pt_facts hb8
  have hon := onx_c isC1 w6 (Hp3.out.ext hE6)
  rw [on_two] at hon
  have Hon := Lib.hid hon
  have HE7 := Lib.hid (HE6.out.trans hE6)
  have hnn := fun W => neq_nilP W (.func 65) #[] #[.pointer (some ⟨V8.heap.size, 0, none⟩), .pointer (some ⟨V8.heap.size + 1, 0, none⟩)]
  clear hb1 z10 z11 z12 q10 q11 q12 hE6 hon HE6
  go_wp2_with (first
    | (go_at_call 37; refine Hon.out.mono ?_; rintro e w7 ⟨rfl, hE7⟩; have x81 := hE7.cell y81)
    | (go_at_call 35; refine (size_c isC2 _).mono ?_; rintro e w8 ⟨rfl, hE8⟩; rw [show ((c384.size : Nat) : Int) = 48 from rfl])
    | (go_at_call 24; refine (order_c isC1 _).mono ?_; rintro e w9 ⟨A9, k9, rfl, hr9, hE9⟩; rw [nl_len]))
  go_ret
  exact ⟨rfl, ((HE7.out.trans hE7).trans hE8).trans hE9⟩
end Go.Proofs.Ytldhmjfjbalakaa

namespace Go.Proofs.Ytldhmjfjbalakaa
open Go.RowKit

/-- A curve or none. -/
def IsU (c : Int) (C : Crv) : Prop := IsC c C ∨ (c ≠ 1 ∧ c ≠ 2 ∧ C = c0)
theorem isU (c : Int) : ∃ C, IsU c C := by
 by_cases h1 : c = 1
 · exact ⟨c256, Or.inl (Or.inl ⟨h1, rfl⟩)⟩
 · by_cases h2 : c = 2
   · exact ⟨c384, Or.inl (Or.inr ⟨h2, rfl⟩)⟩
   · exact ⟨c0, Or.inr ⟨h1, h2, rfl⟩⟩
/-- The numbers stand in normal form. -/
structure Crv.Norm (C : Crv) : Prop where
 p : digs 18446744073709551616 C.M = C.pl
 n : digs 18446744073709551616 (val 18446744073709551616 C.nl) = C.nl
 x : digs 18446744073709551616 (val 18446744073709551616 C.xl) = C.xl
 y : digs 18446744073709551616 (val 18446744073709551616 C.yl) = C.yl
def Crv.inf (C : Crv) : Bool := C.size == 0
theorem IsC.inf {c : Int} {C : Crv} (h : IsC c C) : C.inf = false := by
 rcases h with ⟨_, rfl⟩ | ⟨_, rfl⟩ <;> rfl
theorem six_facts {W : World} {g : Nat} {ty : TypeId} {x0 x1 x2 x3 x4 x5 : Value} (h : W.heap[g]? = some (.cells #[x0, x1, x2, x3, x4, x5] ty (0, 0))) :
 W.cell? ⟨g, 0, none⟩ = some x0 ∧ W.cell? ⟨g, 1, none⟩ = some x1 ∧ W.cell? ⟨g, 2, none⟩ = some x2 ∧ W.cell? ⟨g, 3, none⟩ = some x3 ∧ W.cell? ⟨g, 4, none⟩ = some x4 ∧ W.cell? ⟨g, 5, none⟩ = some x5 :=
 ⟨blk_cell h 0, blk_cell h 1, blk_cell h 2, blk_cell h 3, blk_cell h 4, blk_cell h 5⟩
end Go.Proofs.Ytldhmjfjbalakaa

namespace Go.Proofs.Ytldhmjfjbalakaa
open Go.RowKit

/-- The two slices lie in blocks of their own. -/
def Apart (A B : Option Addr) (m n : Nat) : Prop := ∀ a b, A = some a → B = some b → 0 < m → 0 < n → a.block < b.block
theorem OB.apart {X Y : World} {base : Nat} {A B : Option Addr} {c d : Nat} {l m : List Nat} (h : OB X base A c l) (k : OB Y X.heap.size B d m) : Apart A B l.length m.length := by
 intro a b e1 e2 h1 h2
 obtain ⟨g, cur, e, _, hg, _⟩ := h.2.2.2 h1
 obtain ⟨g', cur', e', hg', _, _⟩ := k.2.2.2 h2
 rw [e1] at e; rw [e2] at e'
 injection e with e; injection e' with e'
 subst e e'
 exact Nat.lt_of_lt_of_le (blk_lt hg) hg'
theorem OB.ext {X Y : World} {base : Nat} {A : Option Addr} {c : Nat} {l : List Nat} (h : OB X base A c l) (hE : Ext X Y) : OB Y base A c l := h.below hE (Nat.le_refl _)
end Go.Proofs.Ytldhmjfjbalakaa

namespace Go.Proofs.Ytldhmjfjbalakaa
open Go.RowKit

theorem IsC.ptlt {c : Int} {C : Crv} (h : IsC c C) : val 18446744073709551616 C.xl < C.M ∧ val 18446744073709551616 C.yl < C.M ∧ 8 < C.M := by
 rcases h with ⟨_, rfl⟩ | ⟨_, rfl⟩ <;> exact ⟨by decide +kernel, by decide +kernel, by decide +kernel⟩
theorem rmulP_lt {M : Nat} (hM : 0 < M) {bi : Bool} {qx qy E : Nat} {p : Nat × Nat} (h : rmulP M bi qx qy E = some p) : p.1 < M ∧ p.2 < M := by
 unfold rmulP rdown at h
 split at h
 · cases h
 · split at h
   · cases h
   · injection h with h
     subst h
     exact ⟨Nat.mod_lt _ hM, Nat.mod_lt _ hM⟩
/-- A point's parts. -/
def PtO (R : Option (Nat × Nat)) (bi : Bool) (x y : Nat) : Prop := bi = R.isNone ∧ x = R.elim 0 (·.1) ∧ y = R.elim 0 (·.2)
theorem RPU.split {w : World} {v : Value} {o : Option (Nat × Nat)} {M : Nat} (h : RPU w v o) (hM : 0 < M) (ho : ∀ p, o = some p → p.1 < M ∧ p.2 < M) : ∃ bi x y, RPv w v bi x y ∧ x < M ∧ y < M ∧ PtO o bi x y := by
 cases o with
 | none => exact ⟨_, _, _, h.pv, hM, hM, rfl, rfl, rfl⟩
 | some p => exact ⟨_, _, _, h.pv, (ho p rfl).1, (ho p rfl).2, rfl, rfl, rfl⟩
theorem IsC.dlen {c : Int} {C : Crv} (h : IsC c C) {x : Nat} (hx : x < C.M) : (digs 18446744073709551616 x).length < 100000 := by
 have h1 : x < 18446744073709551616 ^ 6 := by
  rcases h with ⟨_, rfl⟩ | ⟨_, rfl⟩ <;> exact Nat.lt_trans hx (by decide +kernel)
 have := digs_length_of_lt (B := 18446744073709551616) (by omega) h1
 omega
end Go.Proofs.Ytldhmjfjbalakaa

namespace Go.Proofs.Ytldhmjfjbalakaa
open Go.RowKit

set_option maxRecDepth 100000 in
set_option maxHeartbeats 8000000 in
theorem sum_law {c : Int} {C : Crv} (hU0 : IsU c C) {P : Nat → Prop} {A A' : Option Addr} {cap cap' : Nat} {l l' : List Nat} (w : World) (hk : RL w P A cap l) (ha : RL w P A' cap' l') (hP : ∀ b, P b → b < w.heap.size) :
 Calls Try.prog 4 #[.int .i64 c, .slice A l.length cap, .slice A' l'.length cap'] w fun e w' => e = .returned (.bool true) ∧ Ext w w' := by
 obtain ⟨j4, hj4⟩ : ∃ x, l.take 4 = x := ⟨_, rfl⟩
 obtain ⟨k4, hk4⟩ : ∃ x, l'.take 4 = x := ⟨_, rfl⟩
 have Hj4 := Lib.hid hj4
 have Hk4 := Lib.hid hk4
 have HK := Lib.hid hk
 have HA := Lib.hid ha
 have HP := Lib.hid hP
 have Hj8 := Lib.hid (show j4.length ≤ 4 by rw [← hj4, List.length_take]; omega)
 have Hk8 := Lib.hid (show k4.length ≤ 4 by rw [← hk4, List.length_take]; omega)
 clear hj4 hk4 hk ha hP
 go_enter Try.func4, Try.ntmps4
 go_upto_region 2 with (go_at_call 10; refine (begun9_any _).mono ?_; rintro e w1 ⟨rfl, hE1⟩)
 have HE1 := Lib.hid hE1
 clear hE1
 go_upto_region 3 with (first
  | (go_at_call_has 11 A; refine (cut_any P A cap l 4 w1 (HK.out.below HE1.out HP.out) (by omega)).mono ?_; rw [Hj4.out]; rintro e w2 ⟨A2, c2, rfl, h2, hE2⟩)
  | (go_at_call_has 11 A'; refine (cut_any P A' cap' l' 4 w2 (HA.out.below (HE1.out.trans hE2) HP.out) (by omega)).mono ?_; rw [Hk4.out]; rintro e w3 ⟨A3, c3, rfl, h3, hE3⟩))
 have H2 := Lib.hid (RN.up h2.ru hE3)
 have H3 := Lib.hid h3.ru
 have HE := Lib.hid ((HE1.out.trans hE2).trans hE3)
 clear h2 h3 HE1 hE2 hE3
 rcases hU0 with hC | ⟨g1, g2, rfl⟩
 · have HC := Lib.hid hC
   have hs : C.size ≠ 0 := by have := hC.fine.pos; omega
   have hs' : ((C.size : Int) == 0) = false := by rw [beq_eq_false_iff_ne]; omega
   clear hC
   go_upto_region 4 with (go_at_call 13; refine (refOf_c HC.out _).mono ?_; rintro e w4 ⟨v, rfl, ⟨Ap, An, Ab, Ax, Ay, cp, cn, cb, cx, cy, rfl, hp, hn, hb, hx, hy⟩, hE4⟩)
   clear hp hn hb hx hy
   replace HE := Lib.hid (HE.out.trans hE4)
   replace H2 := Lib.hid (RN.up H2.out hE4)
   replace H3 := Lib.hid (RN.up H3.out hE4)
   clear hE4
   have hc4 := heap_alloc_new w4 (.cells #[.slice Ap (digs 4294967296 C.M).length cp, .slice An (digs 4294967296 (val 18446744073709551616 C.nl)).length cn, .slice Ab (digs 4294967296 C.bb).length cb, .slice Ax (digs 4294967296 (val 18446744073709551616 C.xl)).length cx, .slice Ay (digs 4294967296 (val 18446744073709551616 C.yl)).length cy, .int .i64 (C.size : Int)] 31)
   have hA := Ext.alloc w4 (.cells #[.slice Ap (digs 4294967296 C.M).length cp, .slice An (digs 4294967296 (val 18446744073709551616 C.nl)).length cn, .slice Ab (digs 4294967296 C.bb).length cb, .slice Ax (digs 4294967296 (val 18446744073709551616 C.xl)).length cx, .slice Ay (digs 4294967296 (val 18446744073709551616 C.yl)).length cy, .int .i64 (C.size : Int)] 31)
   replace HE := Lib.hid (HE.out.trans hA)
   replace H2 := Lib.hid (RN.up H2.out hA)
   replace H3 := Lib.hid (RN.up H3.out hA)
   generalize hV : w4.alloc (.cells #[.slice Ap (digs 4294967296 C.M).length cp, .slice An (digs 4294967296 (val 18446744073709551616 C.nl)).length cn, .slice Ab (digs 4294967296 C.bb).length cb, .slice Ax (digs 4294967296 (val 18446744073709551616 C.xl)).length cx, .slice Ay (digs 4294967296 (val 18446744073709551616 C.yl)).length cy, .int .i64 (C.size : Int)] 31) = V4 at *
   obtain ⟨b4, hq⟩ : ∃ b, w4.heap.size = b := ⟨_, rfl⟩
   rw [hq] at hc4 ⊢
   clear hV hq hA
   obtain ⟨z0, z1, z2, z3, z4, z5⟩ := six_facts hc4
   go_upto_region 6 with fail
   clear z0 z1 z2 z3 z4 z5 hs hs' hc4
   go_upto_region 7 with (go_at_call 20; refine (base_c HC.out _).mono ?_; rintro e w5 ⟨A5, k5, A5', k5', rfl, hA5, hB5, hE5⟩)
   have Hp := Lib.hid (show APt w5 (.agg #[.bool false, .slice A5 C.xl.length k5, .slice A5' C.yl.length k5']) false (val 18446744073709551616 C.xl) (val 18446744073709551616 C.yl) from ⟨A5, A5', k5, k5', _, _, rfl, hA5, hB5, rfl, rfl⟩)
   clear hA5 hB5
   generalize Value.slice A5 C.xl.length k5 = s1 at *
   generalize Value.slice A5' C.yl.length k5' = s2 at *
   replace HE := Lib.hid (HE.out.trans hE5)
   replace H2 := Lib.hid (RN.up H2.out hE5)
   replace H3 := Lib.hid (RN.up H3.out hE5)
   clear hE5
   have hp5 := heap_alloc_new w5 (.cells #[.bool false, s1, s2] 27)
   have hA := Ext.alloc w5 (.cells #[.bool false, s1, s2] 27)
   replace HE := Lib.hid (HE.out.trans hA)
   replace H2 := Lib.hid (RN.up H2.out hA)
   replace H3 := Lib.hid (RN.up H3.out hA)
   replace Hp := Lib.hid (Hp.out.ext hA)
   generalize hV : w5.alloc (.cells #[.bool false, s1, s2] 27) = V5 at *
   obtain ⟨b5, hq⟩ : ∃ b, w5.heap.size = b := ⟨_, rfl⟩
   rw [hq] at hp5 ⊢
   clear hV hq hA
   obtain ⟨J, hJ⟩ : ∃ J, val 18446744073709551616 j4 = J := ⟨_, rfl⟩
   obtain ⟨K0, hK0⟩ : ∃ K0, val 18446744073709551616 k4 = K0 := ⟨_, rfl⟩
   have HJ := Lib.hid hJ
   have HK0 := Lib.hid hK0
   have HJb := Lib.hid (show J < 18446744073709551616 ^ 4 by rw [← hJ]; exact Nat.lt_of_lt_of_le (val_lt H2.out.2.1) (Nat.pow_le_pow_right (by omega) Hj8.out))
   have HKb := Lib.hid (show K0 < 18446744073709551616 ^ 4 by rw [← hK0]; exact Nat.lt_of_lt_of_le (val_lt H3.out.2.1) (Nat.pow_le_pow_right (by omega) Hk8.out))
   have Hn1 := Lib.hid (show nbits J ≤ 4096 from Nat.le_trans (nbits_lim HJb.out) (by omega))
   have Hn2 := Lib.hid (show nbits K0 ≤ 4096 from Nat.le_trans (nbits_lim HKb.out) (by omega))
   have Hn3 := Lib.hid (show nbits (J + K0) ≤ 4096 from Nat.le_trans (nbits_lim (n := 5) (Nat.lt_of_lt_of_le (Nat.add_lt_add HJb.out HKb.out) (by decide))) (by omega))
   obtain ⟨Sm, hSm⟩ : ∃ Sm, J + K0 = Sm := ⟨_, rfl⟩
   have HSm := Lib.hid hSm
   rw [hSm] at Hn3
   obtain ⟨S, hS⟩ : ∃ S, rmulP C.M false (val 18446744073709551616 C.xl) (val 18446744073709551616 C.yl) J = S := ⟨_, rfl⟩
   obtain ⟨T, hT⟩ : ∃ T, rmulP C.M false (val 18446744073709551616 C.xl) (val 18446744073709551616 C.yl) K0 = T := ⟨_, rfl⟩
   obtain ⟨U, hU⟩ : ∃ U, rmulP C.M false (val 18446744073709551616 C.xl) (val 18446744073709551616 C.yl) Sm = U := ⟨_, rfl⟩
   have ho := HC.out.base_on
   have Ha1 := Lib.hid ((mul_agree HC.out ho Hn1.out).trans (congrArg some hS))
   have Ha2 := Lib.hid ((mul_agree HC.out ho Hn2.out).trans (congrArg some hT))
   have Ha3 := Lib.hid ((mul_agree HC.out ho Hn3.out).trans (congrArg some hU))
   have Ha4 := Lib.hid (sum_agree (U := U) HC.out ho hS hT (by rw [hSm]; exact hU))
   have Ha5 := Lib.hid ((mul_agree HC.out ho HC.out.ord_bits).trans (congrArg some HC.out.ord))
   have HUl := Lib.hid (show ∀ p, U = some p → p.1 < C.M ∧ p.2 < C.M from fun p hp => rmulP_lt (by have := HC.out.ptlt.2.2; omega) (hU.trans hp))
   have HUm := Lib.hid (show (digs 18446744073709551616 (U.elim 0 (·.1))).length < 100000 ∧ (digs 18446744073709551616 (U.elim 0 (·.2))).length < 100000 from by
    cases hu : U with
    | none => exact ⟨by rw [show (Option.elim (none : Option (Nat × Nat)) 0 (·.1)) = 0 from rfl, digs_zero]; decide, by rw [show (Option.elim (none : Option (Nat × Nat)) 0 (·.2)) = 0 from rfl, digs_zero]; decide⟩
    | some p => exact ⟨HC.out.dlen (HUl.out p hu).1, HC.out.dlen (HUl.out p hu).2⟩)
   have HUv := Lib.hid (show (if U.isNone = true then 0 else val 18446744073709551616 (digs 18446744073709551616 (U.elim 0 (·.1)))) = (U.elim 0 (·.1)) ∧ (if U.isNone = true then 0 else val 18446744073709551616 (digs 18446744073709551616 (U.elim 0 (·.2)))) = (U.elim 0 (·.2)) from by
    rw [val_digs (by omega), val_digs (by omega)]
    cases U <;> exact ⟨rfl, rfl⟩)
   clear hJ hK0 hSm hS hT hU ho
   obtain ⟨y0, y1, y2, f0, f1, f2⟩ := pt_facts hp5
   go_upto_region 8 with (go_at_call 15; refine (mul_c HC.out _ Hp.out H2.out HJ.out).mono ?_; rw [Ha1.out]; rintro e w6 ⟨o, rfl, hv6, hE6⟩; obtain ⟨A6, B6, c6, d6, rfl, hx6, hy6⟩ := hv6.pn; rw [show (some S).join = S from rfl] at hx6 hy6)
   clear y0 y1 y2 f0 f1 f2 hv6
   have Hs := Lib.hid (show APn w6 (.agg #[.bool S.isNone, .slice A6 (digs 18446744073709551616 (S.elim 0 (·.1))).length c6, .slice B6 (digs 18446744073709551616 (S.elim 0 (·.2))).length d6]) S.isNone (digs 18446744073709551616 (S.elim 0 (·.1))) (digs 18446744073709551616 (S.elim 0 (·.2))) from ⟨A6, B6, c6, d6, rfl, hx6, hy6⟩)
   clear hx6 hy6
   replace hp5 := hE6.at_ hp5
   replace HE := Lib.hid (HE.out.trans hE6)
   replace H2 := Lib.hid (RN.up H2.out hE6)
   replace H3 := Lib.hid (RN.up H3.out hE6)
   replace Hp := Lib.hid (Hp.out.ext hE6)
   clear hE6
   generalize Value.slice A6 (digs 18446744073709551616 (S.elim 0 (·.1))).length c6 = s61 at *
   generalize Value.slice B6 (digs 18446744073709551616 (S.elim 0 (·.2))).length d6 = s62 at *
   have hp6 := heap_alloc_new w6 (.cells #[.bool S.isNone, s61, s62] 27)
   have hA := Ext.alloc w6 (.cells #[.bool S.isNone, s61, s62] 27)
   replace hp5 := hA.at_ hp5
   replace HE := Lib.hid (HE.out.trans hA)
   replace H2 := Lib.hid (RN.up H2.out hA)
   replace H3 := Lib.hid (RN.up H3.out hA)
   replace Hp := Lib.hid (Hp.out.ext hA)
   replace Hs := Lib.hid (Hs.out.ext hA)
   generalize hV : w6.alloc (.cells #[.bool S.isNone, s61, s62] 27) = V6 at *
   obtain ⟨b6, hq⟩ : ∃ b, w6.heap.size = b := ⟨_, rfl⟩
   rw [hq] at hp6 ⊢
   clear hV hq hA
   obtain ⟨y0, y1, y2, f0, f1, f2⟩ := pt_facts hp5
   go_upto_region 9 with (go_at_call 15; refine (mul_c HC.out _ Hp.out H3.out HK0.out).mono ?_; rw [Ha2.out]; rintro e w7 ⟨o, rfl, hv6, hE6⟩; obtain ⟨A7, B7, c7, d7, rfl, hx6, hy6⟩ := hv6.pn; rw [show (some T).join = T from rfl] at hx6 hy6)
   clear y0 y1 y2 f0 f1 f2 hv6
   have Ht := Lib.hid (show APn w7 (.agg #[.bool T.isNone, .slice A7 (digs 18446744073709551616 (T.elim 0 (·.1))).length c7, .slice B7 (digs 18446744073709551616 (T.elim 0 (·.2))).length d7]) T.isNone (digs 18446744073709551616 (T.elim 0 (·.1))) (digs 18446744073709551616 (T.elim 0 (·.2))) from ⟨A7, B7, c7, d7, rfl, hx6, hy6⟩)
   clear hx6 hy6
   replace hp5 := hE6.at_ hp5
   replace hp6 := hE6.at_ hp6
   replace HE := Lib.hid (HE.out.trans hE6)
   replace H2 := Lib.hid (RN.up H2.out hE6)
   replace H3 := Lib.hid (RN.up H3.out hE6)
   replace Hp := Lib.hid (Hp.out.ext hE6)
   replace Hs := Lib.hid (Hs.out.ext hE6)
   clear hE6
   generalize Value.slice A7 (digs 18446744073709551616 (T.elim 0 (·.1))).length c7 = s71 at *
   generalize Value.slice B7 (digs 18446744073709551616 (T.elim 0 (·.2))).length d7 = s72 at *
   have hp7 := heap_alloc_new w7 (.cells #[.bool T.isNone, s71, s72] 27)
   have hA := Ext.alloc w7 (.cells #[.bool T.isNone, s71, s72] 27)
   replace hp5 := hA.at_ hp5
   replace hp6 := hA.at_ hp6
   replace HE := Lib.hid (HE.out.trans hA)
   replace H2 := Lib.hid (RN.up H2.out hA)
   replace H3 := Lib.hid (RN.up H3.out hA)
   replace Hp := Lib.hid (Hp.out.ext hA)
   replace Hs := Lib.hid (Hs.out.ext hA)
   replace Ht := Lib.hid (Ht.out.ext hA)
   generalize hV : w7.alloc (.cells #[.bool T.isNone, s71, s72] 27) = V7 at *
   obtain ⟨b7, hq⟩ : ∃ b, w7.heap.size = b := ⟨_, rfl⟩
   rw [hq] at hp7 ⊢
   clear hV hq hA
   obtain ⟨y0, y1, y2, f0, f1, f2⟩ := pt_facts hp6
   obtain ⟨y0', y1', y2', f0', f1', f2'⟩ := pt_facts hp7
   have vd := fun n => val_digs (B := 18446744073709551616) (by omega) n
   have Hs' := Lib.hid Hs.out.pt
   have Ht' := Lib.hid Ht.out.pt
   rw [vd, vd] at Hs' Ht'
   clear vd
   have hadd := add_c HC.out V7 Hs'.out Ht'.out
   rw [Ha4.out, show (some U).join = U from rfl] at hadd
   have Hadd := Lib.hid hadd
   clear hadd
   go_upto_region 10 with (go_at_call 21; refine Hadd.out.mono ?_; rintro e w8 ⟨o, rfl, hv6, hE6⟩; obtain ⟨A8, B8, c8, d8, rfl, hx6, hy6⟩ := hv6.pn)
   clear y0' y1' y2' f0' f1' f2' Hs' Ht'
   clear y0 y1 y2 f0 f1 f2 hv6
   have Hu := Lib.hid (show APn w8 (.agg #[.bool U.isNone, .slice A8 (digs 18446744073709551616 (U.elim 0 (·.1))).length c8, .slice B8 (digs 18446744073709551616 (U.elim 0 (·.2))).length d8]) U.isNone (digs 18446744073709551616 (U.elim 0 (·.1))) (digs 18446744073709551616 (U.elim 0 (·.2))) from ⟨A8, B8, c8, d8, rfl, hx6, hy6⟩)
   clear hx6 hy6
   replace hp5 := hE6.at_ hp5
   replace hp6 := hE6.at_ hp6
   replace hp7 := hE6.at_ hp7
   replace HE := Lib.hid (HE.out.trans hE6)
   replace H2 := Lib.hid (RN.up H2.out hE6)
   replace H3 := Lib.hid (RN.up H3.out hE6)
   replace Hp := Lib.hid (Hp.out.ext hE6)
   replace Hs := Lib.hid (Hs.out.ext hE6)
   replace Ht := Lib.hid (Ht.out.ext hE6)
   clear hE6
   generalize Value.slice A8 (digs 18446744073709551616 (U.elim 0 (·.1))).length c8 = s81 at *
   generalize Value.slice B8 (digs 18446744073709551616 (U.elim 0 (·.2))).length d8 = s82 at *
   have hp8 := heap_alloc_new w8 (.cells #[.bool U.isNone, s81, s82] 27)
   have hA := Ext.alloc w8 (.cells #[.bool U.isNone, s81, s82] 27)
   replace hp5 := hA.at_ hp5
   replace hp6 := hA.at_ hp6
   replace hp7 := hA.at_ hp7
   replace HE := Lib.hid (HE.out.trans hA)
   replace H2 := Lib.hid (RN.up H2.out hA)
   replace H3 := Lib.hid (RN.up H3.out hA)
   replace Hp := Lib.hid (Hp.out.ext hA)
   replace Hs := Lib.hid (Hs.out.ext hA)
   replace Ht := Lib.hid (Ht.out.ext hA)
   replace Hu := Lib.hid (Hu.out.ext hA)
   generalize hV : w8.alloc (.cells #[.bool U.isNone, s81, s82] 27) = V8 at *
   obtain ⟨b8, hq⟩ : ∃ b, w8.heap.size = b := ⟨_, rfl⟩
   rw [hq] at hp8 ⊢
   clear hV hq hA
   refine Par.region_sto (by kernel_rfl) 13 11 (.bool true) [0, 0, 2, 0, 14, 30, 62, 0, 255, 511, 1023, 1023, 0, 6143, 16383] [12] (fun j f X => match j with
    | 0 => f 0 = .int .i64 c
    | 1 => f 1 = .slice A2 j4.length c2
    | 2 => ∃ A c, f 2 = .slice A (digs 4294967296 J).length c ∧ RU X A c (digs 4294967296 J)
    | 3 => f 3 = .slice A3 k4.length c3
    | 4 => ∃ A c, f 4 = .slice A (digs 4294967296 K0).length c ∧ RU X A c (digs 4294967296 K0)
    | 5 => ∃ A c, f 5 = .slice A (digs 4294967296 Sm).length c ∧ RU X A c (digs 4294967296 Sm)
    | 6 => ∃ A c, f 6 = .slice A (digs 18446744073709551616 Sm).length c ∧ RU X A c (digs 18446744073709551616 Sm)
    | 7 => f 7 = .agg #[.bool false, s1, s2]
    | 8 => ∃ o, f 8 = .tuple #[o, .bool true] ∧ APn X o U.isNone (digs 18446744073709551616 (U.elim 0 (·.1))) (digs 18446744073709551616 (U.elim 0 (·.2)))
    | 9 => ∃ o, f 9 = .tuple #[o, .bool true] ∧ APn X o U.isNone (digs 18446744073709551616 (U.elim 0 (·.1))) (digs 18446744073709551616 (U.elim 0 (·.2)))
    | 10 => ∃ o, f 10 = o ∧ APn X o U.isNone (digs 18446744073709551616 (U.elim 0 (·.1))) (digs 18446744073709551616 (U.elim 0 (·.2)))
    | 11 => f 11 = .bool true
    | 12 => ∃ b, f 12 = .pointer (some ⟨b, 0, none⟩) ∧ V8.heap.size ≤ b ∧ X.heap[b]? = some (.cells #[.bool false, .slice none 0 0, .slice none 0 0] 27 (0, 0))
    | _ => True) (fun f Y => ∃ (b : Nat) (x1 x2 : Value), f 12 = .pointer (some ⟨b, 0, none⟩) ∧ Ext V8 Y ∧ Y.heap[b]? = some (.cells #[.bool U.isNone, x1, x2] 27 (0, 0)) ∧ APn Y (.agg #[.bool U.isNone, x1, x2]) U.isNone (digs 18446744073709551616 (U.elim 0 (·.1))) (digs 18446744073709551616 (U.elim 0 (·.2)))) (by kernel_rfl) (by kernel_rfl) (fun _ _ => Iff.rfl) [(55, 0), (56, 1), (57, 2), (58, 3), (59, 4), (60, 5), (61, 6), (62, 7), (63, 8), (54, 9), (64, 10), (65, 11), (16, 12)] (by kernel_rfl) (by kernel_rfl) ?_
   refine Par.AllOps.cons 1 12 rfl rfl (Par.StepX.step rfl (Par.StepO.intro [(56, 1), (57, 2), (58, 3), (59, 4), (60, 5), (61, 6), (62, 7), (16, 12)] (by kernel_rfl) (fun f X hX hR K hK => ?_))) ?_
   · simp only [yA, yB, yC, yD, yE]
     refine ⟨?_⟩
     go_simp
     exact Par.k hK (s := by simp only [yA, yB, yC, yD, yE])
   refine Par.AllOps.cons 2 11 rfl rfl (Par.StepX.step rfl (Par.StepO.intro [(55, 0), (58, 3), (62, 7), (16, 12)] (by kernel_rfl) (fun f X hX hR K hK => ?_))) ?_
   · simp only [yA, yB, yC, yD, yE]
     refine ⟨?_⟩
     go_simp
     exact Par.k hK (s := by simp only [yA, yB, yC, yD, yE])
   refine Par.AllOps.cons 3 10 rfl rfl (Par.StepX.step rfl (Par.StepO.intro [(55, 0), (56, 1), (58, 3), (62, 7), (16, 12)] (by kernel_rfl) (fun f X hX hR K hK => ?_))) ?_
   · have e1 : f 1 = _ := hR.out 1 rfl
     simp only [yA, yB, yC, yD, yE, e1]
     refine ⟨?_⟩
     go_simp
     refine (from_any _ A2 c2 j4 X (RN.up H2.out hX) (fun _ h => h) (by have := Hj8.out; omega)).mono ?_
     rw [HJ.out]
     rintro e w2 ⟨A, c, rfl, h, hB⟩
     exact hK.out _ (.slice A (digs 4294967296 J).length c) _ (by simp only [yA, yB, yC, yD, yE, e1]) hB trivial (fun Y hY => ⟨A, c, rfl, RN.up h.ru hY⟩)
   refine Par.AllOps.cons 4 9 rfl rfl (Par.StepX.step rfl (Par.StepO.intro [(55, 0), (56, 1), (57, 2), (62, 7), (16, 12)] (by kernel_rfl) (fun f X hX hR K hK => ?_))) ?_
   · simp only [yA, yB, yC, yD, yE]
     refine ⟨?_⟩
     go_simp
     exact Par.k hK (s := by simp only [yA, yB, yC, yD, yE])
   refine Par.AllOps.cons 5 8 rfl rfl (Par.StepX.step rfl (Par.StepO.intro [(55, 0), (56, 1), (57, 2), (58, 3), (62, 7), (16, 12)] (by kernel_rfl) (fun f X hX hR K hK => ?_))) ?_
   · have e3 : f 3 = _ := hR.out 3 rfl
     simp only [yA, yB, yC, yD, yE, e3]
     refine ⟨?_⟩
     go_simp
     refine (from_any _ A3 c3 k4 X (RN.up H3.out hX) (fun _ h => h) (by have := Hk8.out; omega)).mono ?_
     rw [HK0.out]
     rintro e w2 ⟨A, c, rfl, h, hB⟩
     exact hK.out _ (.slice A (digs 4294967296 K0).length c) _ (by simp only [yA, yB, yC, yD, yE, e3]) hB trivial (fun Y hY => ⟨A, c, rfl, RN.up h.ru hY⟩)
   refine Par.AllOps.cons 6 7 rfl rfl (Par.StepX.step rfl (Par.StepO.intro [(55, 0), (56, 1), (57, 2), (58, 3), (59, 4), (62, 7), (16, 12)] (by kernel_rfl) (fun f X hX hR K hK => ?_))) ?_
   · obtain ⟨A2n, c2n, (e2 : f 2 = _), h2⟩ := hR.out 2 rfl
     obtain ⟨A4n, c4n, (e4 : f 4 = _), h4⟩ := hR.out 4 rfl
     simp only [yA, yB, yC, yD, yE, e2, e4]
     refine ⟨?_⟩
     go_simp
     refine (refAdd_any _ _ A2n A4n c2n c4n J K0 X h2 h4 (fun _ h => h) (fun _ h => h) (Nat.lt_of_le_of_lt (digs_length_of_lt (n := 8) (by omega) HJb.out) (by omega)) (Nat.lt_of_le_of_lt (digs_length_of_lt (n := 8) (by omega) HKb.out) (by omega))).mono ?_
     rw [HSm.out]
     rintro e w2 ⟨A, c, rfl, h, hB⟩
     exact hK.out _ (.slice A (digs 4294967296 Sm).length c) _ (by simp only [yA, yB, yC, yD, yE, e2, e4]) hB trivial (fun Y hY => ⟨A, c, rfl, RN.up h.ru hY⟩)
   refine Par.AllOps.cons 7 6 rfl rfl (Par.StepX.step rfl (Par.StepO.intro [(55, 0), (56, 1), (57, 2), (58, 3), (59, 4), (60, 5), (62, 7), (16, 12)] (by kernel_rfl) (fun f X hX hR K hK => ?_))) ?_
   · obtain ⟨A5n, c5n, (e5 : f 5 = _), h5⟩ := hR.out 5 rfl
     simp only [yA, yB, yC, yD, yE, e5]
     refine ⟨?_⟩
     go_simp
     refine (to_any _ A5n c5n Sm X h5 (fun _ h => h)).mono ?_
     rintro e w2 ⟨A, c, rfl, h, hB⟩
     exact hK.out _ (.slice A (digs 18446744073709551616 Sm).length c) _ (by simp only [yA, yB, yC, yD, yE, e5]) hB trivial (fun Y hY => ⟨A, c, rfl, RN.up h.ru hY⟩)
   refine Par.AllOps.cons 8 5 rfl rfl (Par.StepX.step rfl (Par.StepO.intro [(55, 0), (56, 1), (57, 2), (58, 3), (59, 4), (60, 5), (61, 6), (16, 12)] (by kernel_rfl) (fun f X hX hR K hK => ?_))) ?_
   · simp only [yA, yB, yC, yD, yE]
     refine ⟨Par.want (by kernel_rfl) (wp_loadV (v := .agg #[.bool false, s1, s2]) (t := 27) 27 (.tmp 9) rfl rfl (hX.at_ hp5) Try.underlying27 rfl infoP rfl ?_)⟩
     exact Par.k hK (s := by simp only [yA, yB, yC, yD, yE])
   refine Par.AllOps.cons 9 4 rfl rfl (Par.StepX.step rfl (Par.StepO.intro [(55, 0), (56, 1), (57, 2), (58, 3), (59, 4), (60, 5), (61, 6), (62, 7), (16, 12)] (by kernel_rfl) (fun f X hX hR K hK => ?_))) ?_
   · have e0 : f 0 = _ := hR.out 0 rfl
     obtain ⟨A6n, c6n, (e6 : f 6 = _), h6⟩ := hR.out 6 rfl
     have e7 : f 7 = _ := hR.out 7 rfl
     simp only [yA, yB, yC, yD, yE, e0, e6, e7]
     refine ⟨?_⟩
     go_simp
     refine (mul_c HC.out X (Hp.out.ext hX) h6 (val_digs (by omega) _)).mono ?_
     rw [Ha3.out, show (some U).isSome = true from rfl, show (some U).join = U from rfl]
     rintro e w2 ⟨o, rfl, hv, hB⟩
     exact hK.out _ (.tuple #[o, .bool true]) _ (by simp only [yA, yB, yC, yD, yE, e0, e6, e7]) hB trivial (fun Y hY => ⟨o, rfl, hv.pn.ext hY⟩)
   refine Par.AllOps.cons 10 3 rfl rfl (Par.StepX.step rfl (Par.StepO.intro [(55, 0), (56, 1), (57, 2), (58, 3), (59, 4), (60, 5), (61, 6), (62, 7), (63, 8), (16, 12)] (by kernel_rfl) (fun f X hX hR K hK => ?_))) ?_
   · obtain ⟨o8, (e8 : f 8 = _), h8⟩ := hR.out 8 rfl
     simp only [yA, yB, yC, yD, yE, e8]
     refine ⟨?_⟩
     go_simp
     exact hK.out _ (.tuple #[o8, .bool true]) _ (by simp only [yA, yB, yC, yD, yE, e8]) (Ext.refl _) trivial (fun Y hY => ⟨o8, rfl, h8.ext hY⟩)
   refine Par.AllOps.cons 11 2 rfl rfl (Par.StepX.step rfl (Par.StepO.intro [(55, 0), (56, 1), (57, 2), (58, 3), (59, 4), (60, 5), (61, 6), (62, 7), (63, 8), (54, 9), (65, 11), (16, 12)] (by kernel_rfl) (fun f X hX hR K hK => ?_))) ?_
   · obtain ⟨o9, (e9 : f 9 = _), h9⟩ := hR.out 9 rfl
     simp only [yA, yB, yC, yD, yE, e9]
     refine ⟨?_⟩
     go_simp
     exact hK.out _ o9 _ (by simp only [yA, yB, yC, yD, yE, e9]) (Ext.refl _) trivial (fun Y hY => ⟨o9, rfl, h9.ext hY⟩)
   refine Par.AllOps.cons 12 1 rfl rfl (Par.StepX.pure (Par.PuO.intro [(55, 0), (56, 1), (57, 2), (58, 3), (59, 4), (60, 5), (61, 6), (62, 7), (63, 8), (54, 9), (64, 10), (16, 12)] (by kernel_rfl) (fun f X X1 hX hR K hK => ?_))) ?_
   · obtain ⟨o9, (e9 : f 9 = _), h9⟩ := hR.out 9 rfl
     simp only [yA, yB, yC, yD, yE, e9]
     refine ⟨?_⟩
     go_simp
     exact Par.pu_end hK (by simp only [yA, yB, yC, yD, yE, e9])
   refine Par.AllOps.cons 13 0 rfl rfl (Par.StepX.step rfl (Par.StepO.intro [(55, 0), (56, 1), (57, 2), (58, 3), (59, 4), (60, 5), (61, 6), (62, 7), (63, 8), (54, 9), (64, 10), (65, 11)] (by kernel_rfl) (fun f X hX hR K hK => ?_))) ?_
   · simp only [yA, yB, yC, yD, yE]
     refine ⟨?_⟩
     go_simp
     exact hK.out _ _ _ (by simp only [yA, yB, yC, yD, yE]) (Ext.alloc _ _) ⟨rfl, by simp⟩ (fun Y hY => ⟨_, rfl, hX.bsize, hY.at_ (heap_alloc_new _ _)⟩)
   refine Par.AllOps.fin (Par.FinS.intro (fun f X hX hR hal K hK => ?_) (fun f Yx hfu hS => ?_))
   · obtain ⟨o10, (e10 : f 10 = _), h10⟩ := hR.out 10 rfl
     obtain ⟨bx12, (e12 : f 12 = _), lx12, hx12⟩ := hR.out 12 rfl
     simp only [yA, yB, yD, yE, e10, e12]
     obtain ⟨A, B, k, kk, rfl, hu, hv⟩ := h10
     refine ⟨Par.want (by kernel_rfl) (wp_storeV (cs' := #[.bool U.isNone, .slice A (digs 18446744073709551616 (U.elim 0 (·.1))).length k, .slice B (digs 18446744073709551616 (U.elim 0 (·.2))).length kk]) (t := 27) 27 (.tmp 16) (.tmp 64) rfl rfl rfl rfl hx12 infoP rfl (pt_one _ _ _ _ _ _ _) (fun Y h1 h2 h3 => ?_))⟩
     refine Par.sto_end hK (by simp only [yA, yB, yD, yE, e10, e12]) ⟨_, _, _, e12, h2.ext hX lx12, h1, ⟨A, B, k, kk, rfl, hu.offJ h2 hx12 (by kernel_rfl), hv.offJ h2 hx12 (by kernel_rfl)⟩⟩
   obtain ⟨b12, sx1, sx2, e12, hEx, hbx, hqx⟩ : ∃ (b : Nat) (x1 x2 : Value), f 12 = .pointer (some ⟨b, 0, none⟩) ∧ Ext V8 Yx ∧ Yx.heap[b]? = some (.cells #[.bool U.isNone, x1, x2] 27 (0, 0)) ∧ APn Yx (.agg #[.bool U.isNone, x1, x2]) U.isNone (digs 18446744073709551616 (U.elim 0 (·.1))) (digs 18446744073709551616 (U.elim 0 (·.2))) := hS
   simp only [yA, yB, yD, yE, hfu, e12]
   clear hfu e12
   refine Par.Chain.next (fun K hK => ⟨Par.want (by kernel_rfl) ?_⟩)
   go_simp
   refine hK.out _ _ ?_
   refine Par.Chain.done ?_
   replace hp5 := hEx.at_ hp5
   replace hp6 := hEx.at_ hp6
   replace hp7 := hEx.at_ hp7
   replace hp8 := hEx.at_ hp8
   replace HE := Lib.hid (HE.out.trans hEx)
   replace H2 := Lib.hid (RN.up H2.out hEx)
   replace H3 := Lib.hid (RN.up H3.out hEx)
   replace Hp := Lib.hid (Hp.out.ext hEx)
   replace Hs := Lib.hid (Hs.out.ext hEx)
   replace Ht := Lib.hid (Ht.out.ext hEx)
   replace Hu := Lib.hid (Hu.out.ext hEx)
   have Hqx := Lib.hid hqx
   clear hEx hqx
   go_upto_region 11 with fail
   refine Par.region_sto (by kernel_rfl) 9 7 (.bool true) [0, 0, 2, 0, 15, 31, 63, 63, 0, 383, 1023] [8] (fun j f X => match j with
    | 0 => f 0 = .int .i64 c
    | 1 => f 1 = .int .i64 c
    | 2 => ∃ A c, f 2 = .slice A C.nl.length c ∧ RU X A c C.nl
    | 3 => f 3 = .agg #[.bool false, s1, s2]
    | 4 => f 4 = .tuple #[infV, .bool true]
    | 5 => f 5 = .tuple #[infV, .bool true]
    | 6 => f 6 = infV
    | 7 => f 7 = .bool true
    | 8 => ∃ b, f 8 = .pointer (some ⟨b, 0, none⟩) ∧ Yx.heap.size ≤ b ∧ X.heap[b]? = some (.cells #[.bool false, .slice none 0 0, .slice none 0 0] 27 (0, 0))
    | _ => True) (fun f Y => ∃ b : Nat, f 8 = .pointer (some ⟨b, 0, none⟩) ∧ Ext Yx Y ∧ Y.heap[b]? = some (.cells #[.bool true, .slice none 0 0, .slice none 0 0] 27 (0, 0))) (by kernel_rfl) (by kernel_rfl) (fun _ _ => Iff.rfl) [(67, 0), (68, 1), (69, 2), (70, 3), (71, 4), (66, 5), (72, 6), (73, 7), (18, 8)] (by kernel_rfl) (by kernel_rfl) ?_
   refine Par.AllOps.cons 1 8 rfl rfl (Par.StepX.step rfl (Par.StepO.intro [(68, 1), (69, 2), (70, 3), (18, 8)] (by kernel_rfl) (fun f X hX hR K hK => ?_))) ?_
   · simp only [yA, yB, yC, yD, yE]
     refine ⟨?_⟩
     go_simp
     exact Par.k hK (s := by simp only [yA, yB, yC, yD, yE])
   refine Par.AllOps.cons 2 7 rfl rfl (Par.StepX.step rfl (Par.StepO.intro [(67, 0), (70, 3), (18, 8)] (by kernel_rfl) (fun f X hX hR K hK => ?_))) ?_
   · simp only [yA, yB, yC, yD, yE]
     refine ⟨?_⟩
     go_simp
     exact Par.k hK (s := by simp only [yA, yB, yC, yD, yE])
   refine Par.AllOps.cons 3 6 rfl rfl (Par.StepX.step rfl (Par.StepO.intro [(67, 0), (68, 1), (70, 3), (18, 8)] (by kernel_rfl) (fun f X hX hR K hK => ?_))) ?_
   · have e1 : f 1 = _ := hR.out 1 rfl
     simp only [yA, yB, yC, yD, yE, e1]
     refine ⟨?_⟩
     go_simp
     refine (order_c HC.out X).mono ?_
     rintro e w2 ⟨A, c, rfl, h, hB⟩
     exact hK.out _ (.slice A C.nl.length c) _ (by simp only [yA, yB, yC, yD, yE, e1]) hB trivial (fun Y hY => ⟨A, c, rfl, RN.up h hY⟩)
   refine Par.AllOps.cons 4 5 rfl rfl (Par.StepX.step rfl (Par.StepO.intro [(67, 0), (68, 1), (69, 2), (18, 8)] (by kernel_rfl) (fun f X hX hR K hK => ?_))) ?_
   · simp only [yA, yB, yC, yD, yE]
     refine ⟨Par.want (by kernel_rfl) (wp_loadV (v := .agg #[.bool false, s1, s2]) (t := 27) 27 (.tmp 9) rfl rfl (hX.at_ hp5) Try.underlying27 rfl infoP rfl ?_)⟩
     exact Par.k hK (s := by simp only [yA, yB, yC, yD, yE])
   refine Par.AllOps.cons 5 4 rfl rfl (Par.StepX.step rfl (Par.StepO.intro [(67, 0), (68, 1), (69, 2), (70, 3), (18, 8)] (by kernel_rfl) (fun f X hX hR K hK => ?_))) ?_
   · have e0 : f 0 = _ := hR.out 0 rfl
     obtain ⟨A2n, c2n, (e2 : f 2 = _), h2⟩ := hR.out 2 rfl
     have e3 : f 3 = _ := hR.out 3 rfl
     simp only [yA, yB, yC, yD, yE, e0, e2, e3]
     refine ⟨?_⟩
     go_simp
     refine (mul_c HC.out X (Hp.out.ext hX) h2 rfl).mono ?_
     rw [Ha5.out, show (some (none : Option (Nat × Nat))).isSome = true from rfl, show (some (none : Option (Nat × Nat))).join = none from rfl]
     rintro e w2 ⟨o, rfl, hv, hB⟩
     obtain rfl : o = infV := hv
     exact hK.out _ (.tuple #[infV, .bool true]) _ (by simp only [yA, yB, yC, yD, yE, e0, e2, e3]) hB trivial (fun _ _ => rfl)
   refine Par.AllOps.cons 6 3 rfl rfl (Par.StepX.step rfl (Par.StepO.intro [(67, 0), (68, 1), (69, 2), (70, 3), (71, 4), (18, 8)] (by kernel_rfl) (fun f X hX hR K hK => ?_))) ?_
   · have e4 : f 4 = _ := hR.out 4 rfl
     simp only [yA, yB, yC, yD, yE, e4]
     refine ⟨?_⟩
     go_simp
     exact Par.k hK (s := by simp only [yA, yB, yC, yD, yE, e4])
   refine Par.AllOps.cons 7 2 rfl rfl (Par.StepX.step rfl (Par.StepO.intro [(67, 0), (68, 1), (69, 2), (70, 3), (71, 4), (66, 5), (73, 7), (18, 8)] (by kernel_rfl) (fun f X hX hR K hK => ?_))) ?_
   · have e5 : f 5 = _ := hR.out 5 rfl
     simp only [yA, yB, yC, yD, yE, e5]
     refine ⟨?_⟩
     go_simp
     exact hK.out _ (infV) _ (by simp only [yA, yB, yC, yD, yE, e5]) (Ext.refl _) trivial (fun _ _ => rfl)
   refine Par.AllOps.cons 8 1 rfl rfl (Par.StepX.pure (Par.PuO.intro [(67, 0), (68, 1), (69, 2), (70, 3), (71, 4), (66, 5), (72, 6), (18, 8)] (by kernel_rfl) (fun f X X1 hX hR K hK => ?_))) ?_
   · have e5 : f 5 = _ := hR.out 5 rfl
     simp only [yA, yB, yC, yD, yE, e5]
     refine ⟨?_⟩
     go_simp
     exact Par.pu_end hK (by simp only [yA, yB, yC, yD, yE, e5])
   refine Par.AllOps.cons 9 0 rfl rfl (Par.StepX.step rfl (Par.StepO.intro [(67, 0), (68, 1), (69, 2), (70, 3), (71, 4), (66, 5), (72, 6), (73, 7)] (by kernel_rfl) (fun f X hX hR K hK => ?_))) ?_
   · simp only [yA, yB, yC, yD, yE]
     refine ⟨?_⟩
     go_simp
     exact hK.out _ _ _ (by simp only [yA, yB, yC, yD, yE]) (Ext.alloc _ _) ⟨rfl, by simp⟩ (fun Y hY => ⟨_, rfl, hX.bsize, hY.at_ (heap_alloc_new _ _)⟩)
   refine Par.AllOps.fin (Par.FinS.intro (fun f X hX hR hal K hK => ?_) (fun f Yn hfu hS => ?_))
   · have e6 : f 6 = _ := hR.out 6 rfl
     obtain ⟨bn8, (e8 : f 8 = _), ln8, hn8⟩ := hR.out 8 rfl
     simp only [yA, yB, yD, yE, e6, e8]
     refine ⟨Par.want (by kernel_rfl) (wp_storeV (cs' := #[.bool true, .slice none 0 0, .slice none 0 0]) (t := 27) 27 (.tmp 18) (.tmp 72) rfl rfl rfl rfl hn8 infoP rfl (pt_one _ _ _ _ _ _ _) (fun Y h1 h2 h3 => ?_))⟩
     refine Par.sto_end hK (by simp only [yA, yB, yD, yE, e6, e8]) ⟨_, e8, h2.ext hX ln8, h1⟩
   obtain ⟨bn, e8, hEn, hbn⟩ : ∃ b : Nat, f 8 = .pointer (some ⟨b, 0, none⟩) ∧ Ext Yx Yn ∧ Yn.heap[b]? = some (.cells #[.bool true, .slice none 0 0, .slice none 0 0] 27 (0, 0)) := hS
   simp only [yA, yB, yD, yE, hfu, e8]
   clear hfu e8
   refine Par.Chain.next (fun K hK => ⟨Par.want (by kernel_rfl) ?_⟩)
   go_simp
   refine hK.out _ _ ?_
   refine Par.Chain.done ?_
   replace hbx := hEn.at_ hbx
   replace hp8 := hEn.at_ hp8
   replace HE := Lib.hid (HE.out.trans hEn)
   replace Hu := Lib.hid (Hu.out.ext hEn)
   replace Hqx := Lib.hid (Hqx.out.ext hEn)
   clear hEn
   go_upto_region 12 with fail
   obtain ⟨y0, y1, y2, f0, f1, f2⟩ := pt_facts hbn
   refine Par.region_ext (by kernel_rfl) 27 [0, 1, 3, 7, 15, 31, 63, 127, 255, 511, 1023, 2047, 4095, 8191, 16383, 32767, 65535, 131071, 131071, 393215, 1048575, 2097151, 4194303, 8388607, 16777215, 33554431, 67108863] [] (fun j f X => match j with
    | 0 => f 0 = .bool true
    | 1 => f 1 = .bool true
    | 2 => f 2 = .bool true
    | 3 => f 3 = .bool true
    | 4 => f 4 = .bool true
    | 5 => f 5 = .bool true
    | 6 => f 6 = .bool true
    | 7 => f 7 = .bool true
    | 8 => f 8 = .bool true
    | 9 => f 9 = .bool true
    | 10 => f 10 = .bool true
    | 11 => f 11 = .bool true
    | 12 => f 12 = .bool true
    | 13 => f 13 = .bool true
    | 14 => f 14 = .bool true
    | 15 => f 15 = .bool true
    | 16 => f 16 = .bool true
    | 17 => f 17 = .agg #[.bool U.isNone, s81, s82]
    | 18 => f 18 = .agg #[.bool U.isNone, sx1, sx2]
    | 19 => ∃ o, f 19 = o ∧ RPv X o U.isNone (U.elim 0 (·.1)) (U.elim 0 (·.2))
    | 20 => f 20 = .bool true
    | 21 => f 21 = .bool true
    | 22 => f 22 = .bool true
    | 23 => f 23 = .pointer (some ⟨bn, 0, none⟩)
    | 24 => f 24 = .bool true
    | 25 => f 25 = .bool true
    | 26 => f 26 = .bool true
    | _ => True) (by kernel_rfl) [(74, 0), (75, 1), (76, 2), (77, 3), (78, 4), (79, 5), (80, 6), (81, 7), (82, 8), (83, 9), (84, 10), (85, 11), (86, 12), (87, 13), (88, 14), (89, 15), (90, 16), (91, 17), (92, 18), (93, 19), (94, 20), (95, 21), (96, 22), (97, 23), (98, 24), (99, 25), (6, 26)] (by kernel_rfl) ?_
   refine Par.v0 1 26 ?_
   refine Par.v1 2 25 0 ?_
   refine Par.v1 3 24 1 ?_
   refine Par.v2 4 23 1 2 ?_
   refine Par.v1 5 22 3 ?_
   refine Par.v1 6 21 4 ?_
   refine Par.v2 7 20 4 5 ?_
   refine Par.v1 8 19 6 ?_
   refine Par.v1 9 18 7 ?_
   refine Par.v2 10 17 7 8 ?_
   refine Par.v1 11 16 9 ?_
   refine Par.v1 12 15 10 ?_
   refine Par.v2 13 14 10 11 ?_
   refine Par.v1 14 13 12 ?_
   refine Par.v1 15 12 13 ?_
   refine Par.v2 16 11 13 14 ?_
   refine Par.v1 17 10 15 ?_
   refine lV1 18 9 16 hp8 infoP ?_
   refine lV1 19 8 16 hbx infoP ?_
   refine Par.S 20 7 [(74, 0), (75, 1), (76, 2), (77, 3), (78, 4), (79, 5), (80, 6), (81, 7), (82, 8), (83, 9), (84, 10), (85, 11), (86, 12), (87, 13), (88, 14), (89, 15), (90, 16), (91, 17), (92, 18)] (fun f X hX hR K hK => ?_) ?_
   · have e16 : f 16 = _ := hR.out 16 rfl
     have e18 : f 18 = _ := hR.out 18 rfl
     simp only [yA, yB, yC, yD, yE, e16, e18]
     refine ⟨Par.want (by kernel_rfl) ?_⟩
     go_simp
     refine (rfrom_n X (Hqx.out.ext hX) HUm.out.1 HUm.out.2).mono ?_
     rw [HUv.out.1, HUv.out.2]
     rintro e w2 ⟨o, rfl, h, hB⟩
     exact hK.out _ o _ (by simp only [yA, yB, yC, yD, yE, e16, e18]) hB trivial (fun Y hY => ⟨o, rfl, h.ext hY⟩)
   refine Par.S 21 6 [(74, 0), (75, 1), (76, 2), (77, 3), (78, 4), (79, 5), (80, 6), (81, 7), (82, 8), (83, 9), (84, 10), (85, 11), (86, 12), (87, 13), (88, 14), (89, 15), (90, 16), (91, 17), (92, 18), (93, 19)] (fun f X hX hR K hK => ?_) ?_
   · have e16 : f 16 = _ := hR.out 16 rfl
     have e17 : f 17 = _ := hR.out 17 rfl
     obtain ⟨o19, (e19 : f 19 = _), h19⟩ := hR.out 19 rfl
     simp only [yA, yB, yC, yD, yE, e16, e17, e19]
     refine ⟨Par.want (by kernel_rfl) ?_⟩
     go_simp
     refine (ris_n X (Hu.out.ext hX) h19).mono ?_
     rintro e w2 ⟨he, hB⟩
     simp only [beq_self_eq_true, decide_true, Bool.and_self] at he
     subst he
     exact hK.out _ _ _ (by simp only [yA, yB, yC, yD, yE, e16, e17, e19]) hB trivial (fun _ _ => rfl)
   refine Par.v2 22 5 16 20 ?_
   refine Par.v1 23 4 21 ?_
   refine Par.v1 24 3 22 ?_
   refine Par.S 25 2 [(74, 0), (75, 1), (76, 2), (77, 3), (78, 4), (79, 5), (80, 6), (81, 7), (82, 8), (83, 9), (84, 10), (85, 11), (86, 12), (87, 13), (88, 14), (89, 15), (90, 16), (91, 17), (92, 18), (93, 19), (94, 20), (95, 21), (96, 22), (97, 23)] (fun f X hX hR K hK => ?_) ?_
   · have e22 : f 22 = _ := hR.out 22 rfl
     have e23 : f 23 = _ := hR.out 23 rfl
     have x0 := hX.cell y0
     simp only [yA, yB, yC, yD, yE, e22, e23]
     refine ⟨Par.want (by kernel_rfl) ?_⟩
     go_simp
     exact Par.k hK (s := by simp only [yA, yB, yC, yD, yE, e22, e23])
   refine Par.v2 26 1 22 24 ?_
   refine Par.v1 27 0 25 ?_
   refine Par.AllOps.fin ⟨fun f X hX hR hal hap => ?_⟩
   obtain ⟨o19, (e19 : f 19 = _), h19⟩ := hR 19 (by decide)
   have e26 : f 26 = _ := hR 26 (by decide)
   simp only [yA, yB, yD, yE, e19, e26]
   clear hR hal hap e19 e26
   refine Par.Chain.done ?_
   go_wp2
   go_ret
   exact ⟨rfl, HE.out.trans hX⟩
 · go_upto_region 4 with (go_at_call 13; refine (refOf_none g1 g2 _).mono ?_; rintro e w4 ⟨v, rfl, ⟨Ap, An, Ab, Ax, Ay, cp, cn, cb, cx, cy, rfl, hp, hn, hb, hx, hy⟩, hE4⟩)
   clear hp hn hb hx hy
   replace HE := Lib.hid (HE.out.trans hE4)
   clear hE4
   have hc4 := heap_alloc_new w4 (.cells #[.slice Ap (digs 4294967296 c0.M).length cp, .slice An (digs 4294967296 (val 18446744073709551616 c0.nl)).length cn, .slice Ab (digs 4294967296 c0.bb).length cb, .slice Ax (digs 4294967296 (val 18446744073709551616 c0.xl)).length cx, .slice Ay (digs 4294967296 (val 18446744073709551616 c0.yl)).length cy, .int .i64 (c0.size : Int)] 31)
   have hA := Ext.alloc w4 (.cells #[.slice Ap (digs 4294967296 c0.M).length cp, .slice An (digs 4294967296 (val 18446744073709551616 c0.nl)).length cn, .slice Ab (digs 4294967296 c0.bb).length cb, .slice Ax (digs 4294967296 (val 18446744073709551616 c0.xl)).length cx, .slice Ay (digs 4294967296 (val 18446744073709551616 c0.yl)).length cy, .int .i64 (c0.size : Int)] 31)
   replace HE := Lib.hid (HE.out.trans hA)
   generalize hV : w4.alloc (.cells #[.slice Ap (digs 4294967296 c0.M).length cp, .slice An (digs 4294967296 (val 18446744073709551616 c0.nl)).length cn, .slice Ab (digs 4294967296 c0.bb).length cb, .slice Ax (digs 4294967296 (val 18446744073709551616 c0.xl)).length cx, .slice Ay (digs 4294967296 (val 18446744073709551616 c0.yl)).length cy, .int .i64 (c0.size : Int)] 31) = V4 at *
   obtain ⟨b4, hq⟩ : ∃ b, w4.heap.size = b := ⟨_, rfl⟩
   rw [hq] at hc4 ⊢
   clear hV hq hA
   rw [show c0.size = 0 by rfl] at hc4
   obtain ⟨z0, z1, z2, z3, z4, z5⟩ := six_facts hc4
   go_wp2
   go_ret
   exact ⟨rfl, HE.out⟩
end Go.Proofs.Ytldhmjfjbalakaa

namespace Go.Proofs.Ytldhmjfjbalakaa
theorem sum_any {c : Int} {P : Nat → Prop} {A A' : Option Addr} {cap cap' : Nat} {l l' : List Nat} (w : World) (hk : RL w P A cap l) (ha : RL w P A' cap' l') (hP : ∀ b, P b → b < w.heap.size) :
    Calls Try.prog 4 #[.int .i64 c, .slice A l.length cap, .slice A' l'.length cap'] w fun e w' => e = .returned (.bool true) ∧ Ext w w' := by
  obtain ⟨C, h⟩ := isU c
  exact sum_law h w hk ha hP
end Go.Proofs.Ytldhmjfjbalakaa

namespace Go.Proofs.Ytldhmjfjbalakaa.curveSum
open Go.ChangeShapes Go.WideShapes Go.ChangeAt Go.RowKit

theorem own : ownKnob Try.prog.godebug = none := by kernel_rfl
theorem laidOut : laidOutB Try.prog = true := by kernel_rfl

set_option maxRecDepth 100000 in
theorem lifted (os : Os) (started : os.Started) (H : Type) (enc : TypeId × Value → H) :
    ReturnsInHanded {} Try.checked os 4 .any (Rows.curveSumSpec.pre6 enc Try.prog Try.f4 Rows.curveSumRow.domain false) (Rows.curveSumSpec.post enc Try.prog Try.f4 false true false false) := by
  refine returnsInHanded_of_change_sized (C := Try.checked) own started (by kernel_rfl) Try.func4
    (ChangeSpec.witness6 (enc := enc) (C := Try.checked) false ⟨#[], #[.int .i64 0, .slice none 0 0, .slice none 0 0], []⟩ 8 (by kernel_rfl) (by kernel_rfl) (by kernel_rfl) (by kernel_rfl)) ?_
  intro W base args ds gs before hval0 hW hcnd hsz0 _
  have hval : ∀ (j : Nat) t v, Try.f4.params[j]? = some t → args[j]? = some v → Value.okWide Try.prog W .any base t v := hval0
  have hsz : (DataW.weightsEach Try.prog (Try.f4.params.toList ++ Rows.curveSumSpec.plain.varTypes Try.prog) (ds ++ gs)).all (· ≤ reachBytes) = true := hsz0
  have hW' := hW
  obtain ⟨p, q, hA0, hV, rfl, hfz, hnd⟩ := hW
  have hA : DataW.TrodAll enc Try.prog W 0 (fun _ => true) true Try.f4.params.toList args.toList ds p := hA0
  rw [Try.params4] at hA hval hsz
  obtain ⟨v0, vs0, d0, ds0, p0, q0, hargs, rfl, rfl, h0, r0⟩ := trodAll_cons hA
  obtain ⟨v1, vs1, d1, ds1, p1, q1, rfl, rfl, rfl, h1, r1⟩ := trodAll_cons r0
  obtain ⟨v2, vs2, d2, ds2, p2, q2, rfl, rfl, rfl, h2, r2⟩ := trodAll_cons r1
  obtain ⟨rfl, rfl, rfl⟩ := trodAll_nil r2
  obtain rfl : args = #[v0, v1, v2] := by cases args; simp_all
  obtain ⟨rfl, rfl⟩ := trodVars_none hV
  have k0 := h0
  have lt0 : ∀ x ∈ p0, x.block < W.heap.size := by obtain ⟨m, hm⟩ := k0; exact DataW.trod_lt m _ _ _ hm
  have k1 := h1
  have lt1 : ∀ x ∈ p1, x.block < W.heap.size := by obtain ⟨m, hm⟩ := k1; exact DataW.trod_lt m _ _ _ hm
  have k2 := h2
  have lt2 : ∀ x ∈ p2, x.block < W.heap.size := by obtain ⟨m, hm⟩ := k2; exact DataW.trod_lt m _ _ _ hm
  have fit : ∀ (j : Nat) (t : TypeId) (d : DataW H), [3, 23, 23][j]? = some t → [d0, d1, d2][j]? = some d → Fits t d := fun j t d ht hd k hk => by
    have := List.all_eq_true.1 hsz k (DataW.weights_mem_each (ts := [3, 23, 23]) (ds := [d0, d1, d2]) ht hd k hk)
    simpa using this
  obtain ⟨n0, hv0, _, _, wf0⟩ := open_int Try.underlying3 (hval 0 3 v0 rfl rfl) h0
  obtain ⟨a1, len1, cap1, e1⟩ := okWide_slice Try.underlying23 (hval 1 23 v1 rfl rfl)
  obtain ⟨A1, c1, l1, hv1, hR1⟩ : ∃ A c l, v1 = .slice A (List.length l) c ∧ RL W (fun b => b < W.heap.size) A c l := by
    obtain ⟨fuel, hf⟩ := h1
    rw [e1] at hf ⊢
    exact open_nats hf (fit 1 _ _ rfl rfl)
  obtain ⟨a2, len2, cap2, e2⟩ := okWide_slice Try.underlying23 (hval 2 23 v2 rfl rfl)
  obtain ⟨A2, c2, l2, hv2, hR2⟩ : ∃ A c l, v2 = .slice A (List.length l) c ∧ RL W (fun b => b < W.heap.size) A c l := by
    obtain ⟨fuel, hf⟩ := h2
    rw [e2] at hf ⊢
    exact open_nats hf (fit 2 _ _ rfl rfl)
  clear hA0 hval0
  subst hv0 hv1 hv2
  refine (sum_any W hR1 hR2 (fun b hb => hb)).mono fun e W' ⟨he, bel⟩ => ?_
  subst he
  exact ⟨_, rfl, _, _, _, [], _, [], hW', trodAll_mk1 (shut_bool Try.underlying4 _), (trodAll_cons_mk (Below.trod laidOut (by kernel_rfl) (of_decide_eq_true (by kernel_rfl)) k0 bel lt0) (trodAll_cons_mk (Below.trod laidOut (by kernel_rfl) (of_decide_eq_true (by kernel_rfl)) k1 bel lt1) (trodAll_cons_mk (Below.trod laidOut (by kernel_rfl) (of_decide_eq_true (by kernel_rfl)) k2 bel lt2) trodAll_mk0))), rfl, bel.frame _, fun h => by cases h⟩

theorem over : Rows.curveSumRow.holds Try.pinned (OpenSpec.ofChange Rows.curveSumSpec) :=
  OpenClaim.holds_of_wide 4 Try.f4 rfl rfl rfl rfl rfl rfl rfl ⟨rfl, rfl, rfl, rfl, rfl⟩ rfl rfl rfl rfl rfl (by kernel_rfl) Try.func4 (by kernel_rfl)
    (of_decide_eq_true (by kernel_rfl)) (by unfold Func.isWrapper; first | (rw [if_pos (by decide +kernel)]; kernel_rfl) | (rw [if_neg (by decide +kernel)]; exact ⟨rfl, rfl⟩))
    (fun os started H enc _ => lifted os started H enc)

theorem proved : Rows.CurveSumSaid := over
#print axioms proved
end Go.Proofs.Ytldhmjfjbalakaa.curveSum
