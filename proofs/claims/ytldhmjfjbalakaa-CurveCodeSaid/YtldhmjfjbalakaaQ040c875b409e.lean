/- CurveCode: for every curve, number and bytes the law answers true and leaves its arguments as they were. No condition. curve: On, and Multiples' making. curve: twice the base of P-256, reckoned. begun: one point is told. CurveNumbers: the curves' numbers are the document's. curve: what Point, Mul and the reference's On answer of no curve. The reference: Encode. curve: Decode of no curve; Encode and Decode undo each other. curve: Encode, of no curve. baileylaw3.Short: the first of the bytes. CurveCode: the law answers true. -/
import Derived.Test.YtldhmjfjbalakaaQdccc4bb54692
namespace Go.Proofs.Ytldhmjfjbalakaa
open Go.RowKit

set_option maxRecDepth 100000 in
set_option maxHeartbeats 4000000 in
theorem onx_c {c : Int} {C : Crv} (hC : IsC c C) {p : Value} {bi : Bool} {x y : Nat} (w : World) (hp : APt w p bi x y) :
 Calls Try.prog 37 #[.int .i64 c, p] w fun e w' => e = .returned (.bool (onQ C bi x y)) ∧ Ext w w' := by
 obtain ⟨p1, p2, rfl⟩ := apt_agg hp
 obtain ⟨W0, hW0⟩ : ∃ W0, W0 = w.alloc (.cells #[.bool bi, p1, p2] 27) := ⟨_, rfl⟩
 obtain ⟨q, hq⟩ : ∃ q, w.heap.size = q := ⟨_, rfl⟩
 have hE0 : Ext w W0 := by rw [hW0]; exact Ext.alloc _ _
 have h1 := heap_alloc_new w (.cells #[.bool bi, p1, p2] 27)
 rw [← hW0, hq] at h1
 have hp0 := Lib.hid (hp.ext hE0)
 have HE0 := Lib.hid hE0
 have HC := Lib.hid hC
 obtain ⟨res, hres⟩ : ∃ o, onQ C bi x y = o := ⟨_, rfl⟩
 rw [hres]
 have Hres := Lib.hid hres
 clear hp hE0 hC hres
 go_enter Try.func37, Try.ntmps37
 go_upto_region 1 with fail
 rw [← hW0]
 clear hW0 hq
 refine Par.region_ext (by kernel_rfl) 5 [0, 1, 0, 7, 15] [] (fun j f X => match j with
  | 0 => f 0 = .int .i64 c
  | 1 => ∃ k, f 1 = .pointer (some ⟨k, 0, none⟩) ∧ OfC C X k
  | 2 => f 2 = .agg #[.bool bi, p1, p2]
  | 3 => f 3 = .bool res
  | 4 => f 4 = .bool res
  | _ => True) (by kernel_rfl) [(5, 0), (6, 1), (7, 2), (8, 3), (4, 4)] (by kernel_rfl) ?_
 refine Par.v0 1 4 ?_
 refine Par.c0 2 3 (fun f => #[f 0]) (F' := 42) (fun f X hX hR => ?_) ?_
 · have e0 : f 0 = .int .i64 c := hR.out 0 rfl
   simp only [e0]
   refine (of_c HC.out X).mono ?_
   rintro e w2 ⟨k, rfl, hk, hB⟩
   exact ⟨_, rfl, hB, fun Y hY => ⟨k, rfl, hk.ext hY⟩⟩
 refine lV0 3 2 h1 infoP ?_
 refine Par.c0 4 1 (fun f => #[f 1, f 2]) (F' := 43) (fun f X hX hR => ?_) ?_
 · obtain ⟨k1, e1, hk1⟩ : ∃ k, f 1 = .pointer (some ⟨k, 0, none⟩) ∧ OfC C X k := hR.out 1 rfl
   have e2 : f 2 = .agg #[.bool bi, p1, p2] := hR.out 2 rfl
   simp only [e1, e2]
   refine (on_j hk1 HC.out.fine (hp0.out.ext hX)).mono ?_
   rw [Hres.out]
   rintro e w2 ⟨rfl, hB⟩
   exact ⟨_, rfl, hB, fun _ _ => rfl⟩
 refine Par.v1 5 0 3 ?_
 refine Par.AllOps.fin ⟨fun f X hX hR hal hap => ?_⟩
 obtain ⟨k1, e1, hk1⟩ : ∃ k, f 1 = .pointer (some ⟨k, 0, none⟩) ∧ OfC C X k := hR 1 (by decide)
 have e4 : f 4 = .bool res := hR 4 (by decide)
 simp only [Par.putL, Act.put, List.setIfInBounds_toArray, List.set_cons_succ, List.set_cons_zero, e1, e4]
 clear hR hal hap e1 e4
 refine Par.Chain.done ?_
 go_wp2
 go_ret
 exact ⟨rfl, HE0.out.trans hX⟩
theorem multiples_any (c : Int) {bi : Bool} {p1 p2 : Value} (w : World) :
 Calls Try.prog 30 #[.int .i64 c, .agg #[.bool bi, p1, p2]] w fun e w' => e = .returned (.func (.func 65) #[] #[.pointer (some ⟨w.heap.size, 0, none⟩), .pointer (some ⟨w.heap.size + 1, 0, none⟩)]) ∧
  w' = (w.alloc (.cells #[.int .i64 c] 3)).alloc (.cells #[.bool bi, p1, p2] 27) := by
 go_enter Try.func30, Try.ntmps30
 go_wp2
 go_ret
 exact ⟨rfl, rfl⟩
end Go.Proofs.Ytldhmjfjbalakaa

namespace Go.Proofs.Ytldhmjfjbalakaa
open Go.RowKit

def downE (M k x y z : Nat) : Option (Nat × Nat) := if z % M = 0 then none else some (mm M x (mm M (Pm.pw M z k (M - 2)) (Pm.pw M z k (M - 2))) % M, mm M y (mm M (mm M (Pm.pw M z k (M - 2)) (Pm.pw M z k (M - 2))) (Pm.pw M z k (M - 2))) % M)
theorem down_eval {M k x y z : Nat} (hk : M - 2 < 2 ^ k) : downP M x y z = downE M k x y z := by
 unfold downP downE
 split
 · rfl
 · rw [Pm.pw_eq k _ hk]
   have h1 : mm M (z ^ (M - 2)) (z ^ (M - 2)) = mm M (z ^ (M - 2) % M) (z ^ (M - 2) % M) := by simp only [mm]; rw [← Nat.mul_mod]
   have h2 : ∀ a, mm M a (z ^ (M - 2)) = mm M a (z ^ (M - 2) % M) := fun a => by simp only [mm]; rw [Nat.mul_mod, Nat.mul_mod a (z ^ (M - 2) % M), Nat.mod_mod]
   simp only [h1, h2]
def bx : Nat := 48439561293906451759052585252797914202762949526041747995844080717082404635286
def by_ : Nat := 36134250956749795798585127919587881956611106672985015071877198253568414405109
def x2 : Nat := 56515219790691171413109057904011688695424810155802929973526481321309856242040
def y2 : Nat := 3377031843712258259223711451491452598088675519751548567112458094635497583569
def p256 : Nat := 115792089210356248762697446949407573530086143415290314195533631308867097853951
theorem c256_M : c256.M = p256 := by kernel_rfl
theorem c256_x : val 18446744073709551616 c256.xl = bx := by kernel_rfl
theorem c256_y : val 18446744073709551616 c256.yl = by_ := by kernel_rfl
theorem on_base : onQ c256 false bx by_ = true := by kernel_rfl
theorem on_two : onQ c256 false x2 y2 = true := by kernel_rfl
theorem mul_two : mulC c256 false bx by_ 2 = some (some (x2, y2)) := by
 rw [mulC, if_pos on_base, if_pos (by decide +kernel)]
 rw [downT, down_eval (k := 256) (by rw [c256_M]; decide +kernel)]
 kernel_rfl
theorem add_two : addC c256 false bx by_ false bx by_ = some (some (x2, y2)) := by
 rw [addC, if_pos on_base, if_pos on_base]
 rw [downT, down_eval (k := 256) (by rw [c256_M]; decide +kernel)]
 kernel_rfl
def eb : List Nat := 4 :: (bytesOf x2 32 ++ bytesOf y2 32)
theorem eb_len : eb.length = 65 := by kernel_rfl
theorem enc_two : encC c256 false x2 y2 = some eb := by
 rw [encC, if_pos on_two]
 rfl
theorem dec_two : decC c256 eb = some (some (x2, y2)) := by kernel_rfl
theorem digs_x2 : digs 18446744073709551616 x2 = [11964737083406719352, 13873736548487404341, 9967090510939364035, 9003393950442278782] := by
 rw [show x2 = val 18446744073709551616 [11964737083406719352, 13873736548487404341, 9967090510939364035, 9003393950442278782] by kernel_rfl]
 exact digs_val (by omega) (by decide) (by decide)
theorem nl_len : c256.nl.length = 4 := rfl
end Go.Proofs.Ytldhmjfjbalakaa

namespace Go.Proofs.Ytldhmjfjbalakaa
open Go.RowKit

theorem isC1 : IsC 1 c256 := Or.inl ⟨rfl, rfl⟩
theorem isC2 : IsC 2 c384 := Or.inr ⟨rfl, rfl⟩
def PB (X : World) (b : Nat) (bi : Bool) (x y : Nat) : Prop := ∃ p1 p2, X.heap[b]? = some (.cells #[.bool bi, p1, p2] 27 (0, 0)) ∧ APt X (.agg #[.bool bi, p1, p2]) bi x y
theorem PB.ext {X Y : World} {b : Nat} {bi : Bool} {x y : Nat} (h : PB X b bi x y) (hE : Ext X Y) : PB Y b bi x y := let ⟨p1, p2, h1, h2⟩ := h; ⟨p1, p2, hE.at_ h1, h2.ext hE⟩
theorem neq_nilP (w : World) (f : Fn) (a b : Array Value) : (binOp .neq 59 (.func f a b) .nilFunc).run Try.prog w = .ok (.bool true) w := by kernel_rfl
set_option maxRecDepth 100000 in
set_option maxHeartbeats 8000000 in
theorem begun9_any (w : World) : Calls Try.prog 10 #[] w fun e w' => e = .returned (.bool true) ∧ Ext w w' := by
 go_enter Try.func10, Try.ntmps10
 go_upto_region 2 with (go_at_call 20; refine (base_c isC1 _).mono ?_; rintro e w1 ⟨A, cc, A', cc', rfl, hA, hA', hE1⟩)
 have hp1 : APt w1 (.agg #[.bool false, .slice A c256.xl.length cc, .slice A' c256.yl.length cc']) false bx by_ := ⟨A, A', cc, cc', _, _, rfl, hA, hA', c256_x, c256_y⟩
 generalize Value.slice A c256.xl.length cc = s1 at *
 generalize Value.slice A' c256.yl.length cc' = s2 at *
 have hb1 := heap_alloc_new w1 (.cells #[.bool false, s1, s2] 27)
 have hA1 := Ext.alloc w1 (.cells #[.bool false, s1, s2] 27)
 replace hp1 := hp1.ext hA1
 have HE1 := Lib.hid (hE1.trans hA1)
 generalize hV1 : w1.alloc (.cells #[.bool false, s1, s2] 27) = V1 at *
 obtain ⟨b1, hq1⟩ : ∃ b, w1.heap.size = b := ⟨_, rfl⟩
 rw [hq1] at hb1 ⊢
 have Hp1 := Lib.hid hp1
 have hA2 := Ext.alloc V1 (.cells #[.int .u64 2] 72)
 have htwo : RU (V1.alloc (.cells #[.int .u64 2] 72)) (some ⟨V1.heap.size, 0, none⟩) 1 [2] := (RN.one V1 2 (by omega)).mono (fun b hb => by rw [World.size_alloc]; exact hb.2)
 have hmul := mul_c isC1 (n := [2]) (E := 2) (V1.alloc (.cells #[.int .u64 2] 72)) (hp1.ext hA2) htwo rfl
 rw [mul_two, show [2].length = 1 from rfl] at hmul
 have Hmul := Lib.hid hmul
 replace hb1 := hA2.at_ hb1
 have HE2 := Lib.hid (HE1.out.trans hA2)
 replace Hp1 := Lib.hid (Hp1.out.ext hA2)
 obtain ⟨z10, z11, z12, q10, q11, q12⟩ := pt_facts hb1
 clear hA hA' hE1 hA1 hV1 hq1 hp1 htwo hmul hA2 HE1
 go_upto_region 3 with (go_at_call 15; refine Hmul.out.mono ?_; rintro e w2 ⟨o2, rfl, ⟨A2, k2, A2', k2', rfl, hx2, hy2⟩, hE2⟩)
 replace hb1 := hE2.at_ hb1
 replace Hp1 := Lib.hid (Hp1.out.ext hE2)
 have hp2 : APt w2 (.agg #[.bool false, .slice A2 (digs 18446744073709551616 x2).length k2, .slice A2' (digs 18446744073709551616 y2).length k2']) false x2 y2 := ⟨A2, A2', k2, k2', _, _, rfl, hx2.ru, hy2.ru, val_digs (by omega) _, val_digs (by omega) _⟩
 generalize Value.slice A2 (digs 18446744073709551616 x2).length k2 = s3 at *
 generalize Value.slice A2' (digs 18446744073709551616 y2).length k2' = s4 at *
 have hb2 := heap_alloc_new w2 (.cells #[.bool false, s3, s4] 27)
 have hA2 := Ext.alloc w2 (.cells #[.bool false, s3, s4] 27)
 generalize hV2 : w2.alloc (.cells #[.bool false, s3, s4] 27) = V2 at *
 obtain ⟨b2, hq2⟩ : ∃ b, w2.heap.size = b := ⟨_, rfl⟩
 rw [hq2] at hb2 ⊢
 have Hp2 := Lib.hid (hp2.ext hA2)
 have HE3 := Lib.hid ((HE2.out.trans hE2).trans hA2)
 replace hb1 := hA2.at_ hb1
 replace Hp1 := Lib.hid (Hp1.out.ext hA2)
 obtain ⟨z10, z11, z12, q10, q11, q12⟩ := pt_facts hb1
 have hadd := add_c isC1 V2 Hp1.out Hp1.out
 rw [add_two] at hadd
 have Hadd := Lib.hid hadd
 clear hx2 hy2 hE2 hp2 hA2 hV2 hq2 Hmul HE2 hadd
 go_upto_region 4 with (go_at_call 21; refine Hadd.out.mono ?_; rintro e w3 ⟨o3, rfl, ⟨A3, k3, A3', k3', rfl, hx3, hy3⟩, hE3⟩)
 replace hb1 := hE3.at_ hb1
 replace hb2 := hE3.at_ hb2
 have hp3 : APt w3 (.agg #[.bool false, .slice A3 (digs 18446744073709551616 x2).length k3, .slice A3' (digs 18446744073709551616 y2).length k3']) false x2 y2 := ⟨A3, A3', k3, k3', _, _, rfl, hx3.ru, hy3.ru, val_digs (by omega) _, val_digs (by omega) _⟩
 generalize Value.slice A3 (digs 18446744073709551616 x2).length k3 = s5 at *
 generalize Value.slice A3' (digs 18446744073709551616 y2).length k3' = s6 at *
 have hb3 := heap_alloc_new w3 (.cells #[.bool false, s5, s6] 27)
 have hA3 := Ext.alloc w3 (.cells #[.bool false, s5, s6] 27)
 generalize hV3 : w3.alloc (.cells #[.bool false, s5, s6] 27) = V3 at *
 obtain ⟨b3, hq3⟩ : ∃ b, w3.heap.size = b := ⟨_, rfl⟩
 rw [hq3] at hb3 ⊢
 replace hb1 := hA3.at_ hb1
 replace hb2 := hA3.at_ hb2
 replace Hp2 := Lib.hid (Hp2.out.ext (hE3.trans hA3))
 have Hp3 := Lib.hid (hp3.ext hA3)
 have HE4 := Lib.hid (HE3.out.trans (hE3.trans hA3))
 obtain ⟨y10, y11, y12, r10, r11, r12⟩ := pt_facts hb2
 have henc := encode_c isC1 V3 Hp2.out
 rw [enc_two, Option.getD_some, eb_len] at henc
 have Henc := Lib.hid henc
 clear hx3 hy3 hE3 hp3 hA3 hV3 hq3 Hadd HE3 henc Hp1 z10 z11 z12 q10 q11 q12
 go_upto_region 5 with (go_at_call 26; refine Henc.out.mono ?_; rintro e w4 ⟨A4, k4, rfl, hr4, hE4⟩)
 replace hb1 := hE4.at_ hb1
 replace hb3 := hE4.at_ hb3
 have HE5 := Lib.hid (HE4.out.trans hE4)
 replace Hp3 := Lib.hid (Hp3.out.ext hE4)
 have hdec := decode_c isC1 _ A4 k4 _ w4 hr4 (fun b hb => hb.2)
 rw [eb_len, dec_two] at hdec
 have Hdec := Lib.hid hdec
 clear hr4 hE4 Henc HE4 hdec hb2 y10 y11 y12 r10 r11 r12 Hp2
 go_upto_region 6 with (go_at_call 27; refine Hdec.out.mono ?_; rintro e w5 ⟨o5, rfl, ⟨A5, k5, A5', k5', rfl, hx5, hy5⟩, hE5⟩)
 replace hb1 := hE5.at_ hb1
 replace hb3 := hE5.at_ hb3
 rw [digs_x2]
 rw [show [11964737083406719352, 13873736548487404341, 9967090510939364035, 9003393950442278782].length = 4 from rfl]
 generalize Value.slice A5' (digs 18446744073709551616 y2).length k5' = s8 at *
 have hb8 := heap_alloc_new w5 (.cells #[.bool false, .slice A5 4 k5, s8] 27)
 have hA8 := Ext.alloc w5 (.cells #[.bool false, .slice A5 4 k5, s8] 27)
 generalize hV8 : w5.alloc (.cells #[.bool false, .slice A5 4 k5, s8] 27) = V8 at *
 obtain ⟨b8, hq8⟩ : ∃ b, w5.heap.size = b := ⟨_, rfl⟩
 rw [hq8] at hb8 ⊢
 have HE6 := Lib.hid (HE5.out.trans (hE5.trans hA8))
 replace Hp3 := Lib.hid (Hp3.out.ext (hE5.trans hA8))
 replace hb1 := hA8.at_ hb1
 replace hb3 := hA8.at_ hb3
 obtain ⟨z10, z11, z12, q10, q11, q12⟩ := pt_facts hb1
 clear hx5 hy5 hE5 hA8 hV8 hq8 Hdec HE5
 go_upto_region 7 with (go_at_call 30; refine (multiples_any 1 V8).mono ?_; rintro e w6 ⟨rfl, hw6⟩; have hE6 : Ext V8 w6 := (by rw [hw6]; exact (Ext.alloc _ _).trans (Ext.alloc _ _)); clear hw6)
 replace hb3 := hE6.at_ hb3
 replace hb8 := hE6.at_ hb8
 obtain ⟨y30, y31, y32, r30, r31, r32⟩ := pt_facts hb3
 obtain ⟨y80, y81, y82, r80, r81, r82⟩ := pt_facts hb8
 have hon := onx_c isC1 w6 (Hp3.out.ext hE6)
 rw [on_two] at hon
 have Hon := Lib.hid hon
 have HE7 := Lib.hid (HE6.out.trans hE6)
 have hnn := fun W => neq_nilP W (.func 65) #[] #[.pointer (some ⟨V8.heap.size, 0, none⟩), .pointer (some ⟨V8.heap.size + 1, 0, none⟩)]
 clear hb1 z10 z11 z12 q10 q11 q12 hE6 hon HE6
 go_wp2_with (first
  | (go_at_call 37; refine Hon.out.mono ?_; rintro e w7 ⟨rfl, hE7⟩; have x81 := hE7.cell y81)
  | (go_at_call 35; refine (size_c isC2 _).mono ?_; rintro e w8 ⟨rfl, hE8⟩; rw [show ((c384.size : Nat) : Int) = 48 from rfl])
  | (go_at_call 24; refine (order_c isC1 _).mono ?_; rintro e w9 ⟨A9, k9, rfl, hr9, hE9⟩; rw [nl_len]))
 go_ret
 exact ⟨rfl, ((HE7.out.trans hE7).trans hE8).trans hE9⟩
end Go.Proofs.Ytldhmjfjbalakaa

namespace Go.Proofs.Ytldhmjfjbalakaa
open Go.RowKit

def IsU (c : Int) (C : Crv) : Prop := IsC c C ∨ (c ≠ 1 ∧ c ≠ 2 ∧ C = c0)
theorem isU (c : Int) : ∃ C, IsU c C := by
 by_cases h1 : c = 1
 · exact ⟨c256, Or.inl (Or.inl ⟨h1, rfl⟩)⟩
 · by_cases h2 : c = 2
   · exact ⟨c384, Or.inl (Or.inr ⟨h2, rfl⟩)⟩
   · exact ⟨c0, Or.inr ⟨h1, h2, rfl⟩⟩
structure Crv.Norm (C : Crv) : Prop where
 p : digs 18446744073709551616 C.M = C.pl
 n : digs 18446744073709551616 (val 18446744073709551616 C.nl) = C.nl
 x : digs 18446744073709551616 (val 18446744073709551616 C.xl) = C.xl
 y : digs 18446744073709551616 (val 18446744073709551616 C.yl) = C.yl
def Crv.inf (C : Crv) : Bool := C.size == 0
theorem IsC.inf {c : Int} {C : Crv} (h : IsC c C) : C.inf = false := by
 rcases h with ⟨_, rfl⟩ | ⟨_, rfl⟩ <;> rfl
theorem six_facts {W : World} {g : Nat} {ty : TypeId} {x0 x1 x2 x3 x4 x5 : Value} (h : W.heap[g]? = some (.cells #[x0, x1, x2, x3, x4, x5] ty (0, 0))) :
 W.cell? ⟨g, 0, none⟩ = some x0 ∧ W.cell? ⟨g, 1, none⟩ = some x1 ∧ W.cell? ⟨g, 2, none⟩ = some x2 ∧ W.cell? ⟨g, 3, none⟩ = some x3 ∧ W.cell? ⟨g, 4, none⟩ = some x4 ∧ W.cell? ⟨g, 5, none⟩ = some x5 :=
 ⟨blk_cell h 0, blk_cell h 1, blk_cell h 2, blk_cell h 3, blk_cell h 4, blk_cell h 5⟩
end Go.Proofs.Ytldhmjfjbalakaa

namespace Go.Proofs.Ytldhmjfjbalakaa
open Go.RowKit

theorem ron_none {v : Value} (bi : Bool) (u1 u2 : Value) (w : World) (hc : RC w c0 v) : Calls Try.prog 16 #[v, .agg #[.bool bi, u1, u2]] w fun e w' => e = .returned (.bool false) ∧ Ext w w' := by
 obtain ⟨Ap, An, Ab, Ax, Ay, cp, cn, cb, cx, cy, rfl, h1, h2, h3, h4, h5⟩ := hc
 rw [show c0.size = 0 by rfl]
 go_enter Try.func16, Try.ntmps16
 go_wp2
 go_ret
 exact ⟨rfl, (Ext.alloc _ _).trans (Ext.alloc _ _)⟩
set_option maxRecDepth 100000 in
set_option maxHeartbeats 4000000 in
theorem point_none {c : Int} (g1 : c ≠ 1) (g2 : c ≠ 2) (A : Option Addr) (n cap : Nat) (sp : Bool) (w : World) :
 Calls Try.prog 12 #[.int .i64 c, .slice A n cap, .bool sp] w fun e w' => e = .returned (.agg #[.bool false, .slice A n cap, .slice A n cap]) ∧ Ext w w' := by
 have hr := heap_alloc_new w (.cells #[.bool false, .slice none 0 0, .slice none 0 0] 27)
 have hA0 := Ext.alloc w (.cells #[.bool false, .slice none 0 0, .slice none 0 0] 27)
 obtain ⟨W0, hW0⟩ : ∃ W0, W0 = w.alloc (.cells #[.bool false, .slice none 0 0, .slice none 0 0] 27) := ⟨_, rfl⟩
 obtain ⟨b0, hb0⟩ : ∃ b, w.heap.size = b := ⟨_, rfl⟩
 rw [← hW0, hb0] at hr
 rw [← hW0] at hA0
 have HA0 := Lib.hid hA0
 clear hA0
 go_enter Try.func12, Try.ntmps12
 go_upto_region 1 with fail
 rw [← hW0]
 have Hb0 := Lib.hid hb0
 clear hW0 hb0
 go_upto_region 2 with (go_at_call 13; refine (refOf_none g1 g2 _).mono ?_; rintro e w2 ⟨v, rfl, ⟨Ap, An, Ab, Ax, Ay, cp, cn, cb, cx, cy, rfl, hp, hn, hb, hx, hy⟩, hE2⟩)
 have hc0 := heap_alloc_new w2 (.cells #[.slice Ap (digs 4294967296 c0.M).length cp, .slice An (digs 4294967296 (val 18446744073709551616 c0.nl)).length cn, .slice Ab (digs 4294967296 c0.bb).length cb, .slice Ax (digs 4294967296 (val 18446744073709551616 c0.xl)).length cx, .slice Ay (digs 4294967296 (val 18446744073709551616 c0.yl)).length cy, .int .i64 (c0.size : Int)] 31)
 have hA := Ext.alloc w2 (.cells #[.slice Ap (digs 4294967296 c0.M).length cp, .slice An (digs 4294967296 (val 18446744073709551616 c0.nl)).length cn, .slice Ab (digs 4294967296 c0.bb).length cb, .slice Ax (digs 4294967296 (val 18446744073709551616 c0.xl)).length cx, .slice Ay (digs 4294967296 (val 18446744073709551616 c0.yl)).length cy, .int .i64 (c0.size : Int)] 31)
 replace hr := hA.at_ (hE2.at_ hr)
 have HE := Lib.hid (HA0.out.trans (hE2.trans hA))
 generalize hV1 : w2.alloc (.cells #[.slice Ap (digs 4294967296 c0.M).length cp, .slice An (digs 4294967296 (val 18446744073709551616 c0.nl)).length cn, .slice Ab (digs 4294967296 c0.bb).length cb, .slice Ax (digs 4294967296 (val 18446744073709551616 c0.xl)).length cx, .slice Ay (digs 4294967296 (val 18446744073709551616 c0.yl)).length cy, .int .i64 (c0.size : Int)] 31) = V1 at *
 obtain ⟨b1, hq1⟩ : ∃ b, w2.heap.size = b := ⟨_, rfl⟩
 rw [hq1] at hc0 ⊢
 clear hV1 hq1 hp hn hb hx hy hE2 hA HA0
 have z5 := blk_cell hc0 5
 rw [show c0.size = 0 by rfl] at z5
 obtain ⟨y0, y1, y2, f0, f1, f2⟩ := pt_facts hr
 go_wp2
 exact end_p rfl rfl rfl (pt_set hr _ _ _) ⟨rfl, pt_ext HE.out (by have := Hb0.out; omega) _ _ _⟩
end Go.Proofs.Ytldhmjfjbalakaa

namespace Go.Proofs.Ytldhmjfjbalakaa
open Go.RowKit

def encR (C : Crv) (bi : Bool) (x y : Nat) : List Nat := if bi then [0] else 4 :: (bytesOf x C.size ++ bytesOf y C.size)
set_option maxRecDepth 100000 in
set_option maxHeartbeats 8000000 in
theorem refEncode_n {C : Crv} {v p : Value} {bi : Bool} {x y : Nat} (hF : C.Fine) (w : World) (hc : RC w C v) (hp : RPv w p bi x y) (hxy : bi = false → x < C.M ∧ y < C.M) :
 Calls Try.prog 29 #[v, p] w fun e w' => ∃ A1 c1, e = .returned (.slice A1 (encR C bi x y).length c1) ∧ RB w' (In w.heap.size w'.heap.size) A1 c1 (encR C bi x y) ∧ Ext w w' := by
 obtain ⟨Ap, An, Ab, Ax, Ay, cp, cn, cb, cx, cy, rfl, hP, hN, hB, hX1, hY1⟩ := hc
 obtain ⟨A, A', ca, cb', rfl, ha, hb⟩ := hp
 obtain ⟨W0, hW0⟩ : ∃ W0, W0 = (w.alloc (.cells #[.slice Ap (digs 4294967296 C.M).length cp, .slice An (digs 4294967296 (val 18446744073709551616 C.nl)).length cn, .slice Ab (digs 4294967296 C.bb).length cb, .slice Ax (digs 4294967296 (val 18446744073709551616 C.xl)).length cx, .slice Ay (digs 4294967296 (val 18446744073709551616 C.yl)).length cy, .int .i64 (C.size : Int)] 31)).alloc (.cells #[.bool bi, .slice A (digs 4294967296 x).length ca, .slice A' (digs 4294967296 y).length cb'] 34) := ⟨_, rfl⟩
 obtain ⟨q, hq⟩ : ∃ q, w.heap.size = q := ⟨_, rfl⟩
 have hE0 : Ext w W0 := by rw [hW0]; exact (Ext.alloc _ _).trans (Ext.alloc _ _)
 obtain ⟨h1, h2, hz0⟩ := two_at2 w (.cells #[.slice Ap (digs 4294967296 C.M).length cp, .slice An (digs 4294967296 (val 18446744073709551616 C.nl)).length cn, .slice Ab (digs 4294967296 C.bb).length cb, .slice Ax (digs 4294967296 (val 18446744073709551616 C.xl)).length cx, .slice Ay (digs 4294967296 (val 18446744073709551616 C.yl)).length cy, .int .i64 (C.size : Int)] 31) (.cells #[.bool bi, .slice A (digs 4294967296 x).length ca, .slice A' (digs 4294967296 y).length cb'] 34)
 rw [← hW0, hq] at h1 h2 hz0
 have k5 := blk_cell h1 5
 have c0 := blk_cell h2 0
 have c1 := blk_cell h2 1
 have c2 := blk_cell h2 2
 simp only [List.getElem?_toArray, List.getElem?_cons_zero, List.getElem?_cons_succ] at k5 c0 c1 c2
 have Ha := Lib.hid (RN.up ha hE0)
 have Hb := Lib.hid (RN.up hb hE0)
 have HE0 := Lib.hid hE0
 have HM := Lib.hid hF
 have Hxy := Lib.hid hxy
 clear hP hN hB hX1 hY1 ha hb hE0 hz0 h1 h2 hF hxy
 cases bi
 case true =>
  go_enter Try.func29, Try.ntmps29
  go_upto_region 1 with fail
  rw [← hW0]
  have Hq := Lib.hid hq
  clear hW0 hq
  have hw := OW.lit W0 0 (by omega)
  go_wp2
  go_ret
  have := HE0.out.bsize
  have := Hq.out
  exact ⟨_, _, rfl, (hw.rb (by simp)).mono (fun b hb => ⟨by have := hb.1; omega, hb.2⟩), HE0.out.trans (Ext.alloc _ _)⟩
 case false =>
  obtain ⟨hxM, hyM⟩ := Hxy.out rfl
  go_enter Try.func29, Try.ntmps29
  go_upto_region 1 with fail
  rw [← hW0]
  have Hq := Lib.hid hq
  clear hW0 hq
  go_upto_region 4 with (go_at_call 64; refine (refBytes_yes _ A ca x C.size _ Ha.out (fun b hb => hb) (by have := HM.out.small; omega) (HM.out.bits hxM)).mono ?_; rintro e X3 ⟨Bx, rfl, hx, hX⟩)
  replace c2 := Ext.cell hX c2
  replace k5 := Ext.cell hX k5
  have HXY := Lib.hid (show Ext W0 X3 from hX)
  have hOx := RB.mono hx (fun b hb => hb.2)
  have HOx := Lib.hid hOx
  clear hX c0 c1 hx hOx
  go_upto_region 5 with (go_at_call 64; refine (refBytes_yes _ A' cb' y C.size _ (RN.up Hb.out HXY.out) (fun b hb => hb) (by have := HM.out.small; omega) (HM.out.bits hyM)).mono ?_; rintro e X4 ⟨By, rfl, hy, hX⟩)
  have HXZ := Lib.hid (show Ext X3 X4 from hX)
  have hx8 := Lib.hid (RB.upE HOx.out hX)
  have hy8 := Lib.hid (RB.mono hy (fun b hb => hb.2))
  clear hX hy c2 k5 HOx
  obtain ⟨B0, hB0⟩ : ∃ B, X4.heap.size = B := ⟨_, rfl⟩
  have hl : OW (X4.alloc (.cells #[.int .u8 4] 5)) X4.heap.size (some ⟨X4.heap.size, 0, none⟩) 1 [4] := OW.lit X4 4 (by omega)
  have hA := Ext.alloc X4 (.cells #[.int .u8 4] 5)
  have hx9 := Lib.hid ((hx8.out).below hA (fun b hb => hb))
  have hy9 := Lib.hid ((hy8.out).below hA (fun b hb => hb))
  have hz9 : (X4.alloc (.cells #[.int .u8 4] 5)).heap.size = B0 + 1 := by rw [World.size_alloc, hB0]
  have HA := Lib.hid hA
  rw [hB0] at hl
  have Hl := Lib.hid hl
  have HB0 := Lib.hid hB0
  have lx := bytesOf_len x C.size
  have ly := bytesOf_len y C.size
  have HS := Lib.hid lx
  have HT := Lib.hid ly
  have Hsm := Lib.hid HM.out.small
  have Hz9 := Lib.hid hz9
  clear hl hA hz9 lx ly
  go_wp2_with (at_builtin; first
   | (refine app8 rfl (.tmp 28) (.tmp 29) rfl B0 rfl Hl.out (by rw [HS.out]; rfl) hx9.out (by rw [HS.out]; have := Hsm.out; simp; omega) (by have := Hz9.out; omega) ?_; intro A1 c1 w1 hw1 hb1; have Hw1 := Lib.hid hw1; have Hb1 := Lib.hid hb1; clear hw1 hb1)
   | (refine app8 rfl (.tmp 30) (.tmp 31) rfl B0 rfl Hw1.out (by rw [HT.out]; rfl) (hy9.out.below Hb1.out (fun b hb => by have := HB0.out; omega)) (by rw [List.length_append, HS.out, HT.out]; have := Hsm.out; simp; omega) (by have := Hz9.out; have := Hb1.out.size; omega) ?_; intro A2 c2 w2 hw2 hb2; have Hw2 := Lib.hid hw2; have Hb2 := Lib.hid hb2; clear hw2 hb2))
  go_ret
  have hEx := (HE0.out.trans HXY.out).trans HXZ.out
  have hq : q ≤ B0 := by have := hEx.bsize; have := Hq.out; have := HB0.out; omega
  have hrb := Hw2.out.rb (by rw [List.length_append, List.length_append, HS.out, HT.out]; have := Hsm.out; simp; omega)
  have hq9 := Hq.out
  refine ⟨A2, c2, ?_, hrb.mono (fun b hb => ⟨by have := hb.1; omega, hb.2⟩), Below.trans (hEx.trans HA.out) (Below.mono (Hb1.out.trans Hb2.out) (by have := hEx.bsize; omega))⟩
  show _ = Ending.returned (.slice A2 (4 :: (bytesOf x C.size ++ bytesOf y C.size)).length c2)
  rw [List.length_cons, List.length_append]
  rfl
end Go.Proofs.Ytldhmjfjbalakaa

namespace Go.Proofs.Ytldhmjfjbalakaa
open Go.RowKit

set_option maxHeartbeats 2000000 in
theorem decode_nil {c : Int} (h1 : c ≠ 1) (h2 : c ≠ 2) (A : Option Addr) (n cap : Nat) (w : World) : Calls Try.prog 27 #[.int .i64 c, .slice A n cap] w fun e w' => e = .returned (.tuple #[infV, .bool false]) ∧ Ext w w' := by
 have hr := heap_alloc_new w (.cells #[.bool false, .slice none 0 0, .slice none 0 0] 27)
 go_enter Try.func27, Try.ntmps27
 go_wp2_with (first
  | (go_at_call 42; refine (of_nil h1 h2 _).mono ?_; rintro e wa ⟨rfl, hE1⟩; have hra := hE1.at_ hr)
  | (go_at_call 45; refine (none_any _).mono ?_; rintro e wb ⟨rfl, hE2⟩; have hrb2 := hE2.at_ hra; obtain ⟨z0, z1, z2, f0, f1, f2⟩ := pt_facts hrb2))
 exact end_pt rfl rfl rfl rfl (pt_set hrb2 _ _ _) ⟨rfl, pt_ext (((Ext.alloc w _).trans hE1).trans hE2) (Nat.le_refl _) _ _ _⟩
theorem encC_encR {C : Crv} {bi : Bool} {x y x' y' : Nat} (ho : onQ C bi x y = true) (hx : (if bi then 0 else x) = x') (hy : (if bi then 0 else y) = y') : encC C bi x y = some (encR C bi x' y') := by
 subst hx hy
 unfold encC encR
 rw [if_pos ho]
 cases bi <;> rfl
theorem encC_off {C : Crv} {bi : Bool} {x y : Nat} (ho : onQ C bi x y = false) : encC C bi x y = none := by
 unfold encC
 rw [if_neg (by rw [ho]; decide)]
theorem dec_enc {C : Crv} (hF : C.Fine) {bi : Bool} {x y : Nat} (ho : bi = false → onB C.M C.bb x y = true) : decC C (encR C bi x y) = some (if bi then none else some (x, y)) := by
 cases bi
 · have ho := ho rfl
   obtain ⟨hx, hy⟩ := onB_lt ho
   have hb : ∀ z, z < C.M → numOf (bytesOf z C.size) = z := fun z hz => numOf_bytesOf (Nat.lt_of_lt_of_le (Nat.lt_trans hz hF.room) (by rw [pow256]; exact Nat.le_refl _))
   rw [show encR C false x y = 4 :: (bytesOf x C.size ++ bytesOf y C.size) from rfl]
   unfold decC
   rw [if_neg (by
    intro h
    have h2 := congrArg List.length h
    have := hF.pos
    simp only [List.length_cons, List.length_append, bytesOf_len, List.length_nil] at h2
    omega)]
   rw [if_pos (⟨by simp only [List.length_cons, List.length_append, bytesOf_len]; omega, rfl⟩ : (4 :: (bytesOf x C.size ++ bytesOf y C.size)).length = 1 + 2 * C.size ∧ dg (4 :: (bytesOf x C.size ++ bytesOf y C.size)) 0 = 4)]
   have e1 : ((4 :: (bytesOf x C.size ++ bytesOf y C.size)).drop 1).take C.size = bytesOf x C.size := by
    show (bytesOf x C.size ++ bytesOf y C.size).take C.size = _
    exact List.take_left' (bytesOf_len _ _)
   have e2 : (4 :: (bytesOf x C.size ++ bytesOf y C.size)).drop (1 + C.size) = bytesOf y C.size := by
    rw [Nat.add_comm]
    show (bytesOf x C.size ++ bytesOf y C.size).drop C.size = _
    exact List.drop_left' (bytesOf_len _ _)
   rw [e1, e2, hb x hx, hb y hy, if_pos ho]
   rfl
 · rfl
theorem RPt.pv {w : World} {base : Nat} {v : Value} {o : Option (Nat × Nat)} (h : RPt w base v o) : RPv w v o.isNone (o.elim 0 (·.1)) (o.elim 0 (·.2)) := by
 cases o with
 | none => obtain rfl : v = infV := h; exact RPv.inf_ w
 | some p => obtain ⟨A, c, A', c', rfl, h1, h2⟩ := h; exact ⟨A, A', c, c', rfl, h1.ru, h2.ru⟩
end Go.Proofs.Ytldhmjfjbalakaa

namespace Go.Proofs.Ytldhmjfjbalakaa
open Go.RowKit

set_option maxHeartbeats 2000000 in
theorem encode_nil {c : Int} (h1 : c ≠ 1) (h2 : c ≠ 2) (bi : Bool) (p1 p2 : Value) (w : World) : Calls Try.prog 26 #[.int .i64 c, .agg #[.bool bi, p1, p2]] w fun e w' => e = .returned (.tuple #[.slice none 0 0, .bool false]) ∧ Ext w w' := by
 have hA := Ext.alloc w (.cells #[.bool bi, p1, p2] 27)
 have hb := heap_alloc_new w (.cells #[.bool bi, p1, p2] 27)
 obtain ⟨W0, hW0⟩ : ∃ W0, W0 = w.alloc (.cells #[.bool bi, p1, p2] 27) := ⟨_, rfl⟩
 obtain ⟨q, hq⟩ : ∃ q, w.heap.size = q := ⟨_, rfl⟩
 rw [← hW0, hq] at hb
 rw [← hW0] at hA
 have HA := Lib.hid hA
 clear hA
 go_enter Try.func26, Try.ntmps26
 go_upto_region 1 with fail
 rw [← hW0]
 clear hW0 hq
 go_upto_region 2 with (go_at_call 42; refine (of_nil h1 h2 _).mono ?_; rintro e wa ⟨rfl, hE1⟩)
 replace hb := hE1.at_ hb
 obtain ⟨z0, z1, z2, f0, f1, f2⟩ := pt_facts hb
 have HE := Lib.hid (HA.out.trans hE1)
 clear hE1
 go_wp2_with (go_at_call 43; refine (on_nil _ _ _ _).mono ?_; rintro e wb ⟨rfl, hE2⟩)
 go_ret2
 exact ⟨rfl, HE.out.trans hE2⟩
end Go.Proofs.Ytldhmjfjbalakaa

namespace Go.Proofs.Ytldhmjfjbalakaa
open Go.RowKit

theorem RB.takeS {w : World} {P : Nat → Prop} {A : Option Addr} {c : Nat} {bs : List Nat} (h : RB w P A c bs) (n : Nat) : RB w P A c (bs.take n) := by
 obtain ⟨⟨h1, h2, h3, h4⟩, h5, h6⟩ := h
 refine ⟨⟨by rw [List.length_take]; omega, h2, by simp [bys], fun hn => ?_⟩, fun x hx => h5 x (List.mem_of_mem_take hx), by rw [List.length_take]; omega⟩
 obtain ⟨ad, e, hP, hc⟩ := h4 (by rw [List.length_take] at hn; omega)
 refine ⟨ad, e, hP, fun j u hu => hc j u ?_⟩
 rw [bys, List.map_take, List.getElem?_take] at hu
 split at hu
 · exact hu
 · cases hu
set_option maxHeartbeats 1000000 in
theorem short_any (P : Nat → Prop) (A : Option Addr) (c : Nat) (bs : List Nat) (n : Nat) (w : World) (h : RB w P A c bs) (hn : n ≤ 100000) :
 Calls Try.prog 25 #[.slice A bs.length c, .int .i64 (n : Int)] w fun e w' => (∃ c', e = .returned (.slice A (bs.take n).length c') ∧ RB w P A c' (bs.take n)) ∧ w = w' := by
 obtain ⟨⟨h1, h2, _⟩, h4, h5⟩ := id h
 unfold maxLen at h2
 by_cases hl : n < bs.length
 · have hR := h.takeS n
   have hlen : (bs.take n).length = n := by rw [List.length_take]; omega
   have hlB : decide (n < bs.length) = true := by simpa using hl
   have k1 : (n : Int) ≤ (c : Int) := by omega
   have HR := Lib.hid hR
   have Hlen := Lib.hid hlen
   clear h4 hR hlen h
   go_enter Try.func25, Try.ntmps25
   go_wp2
   go_ret
   refine ⟨⟨c, ?_, HR.out⟩, rfl⟩
   rw [Hlen.out]
   rfl
 · have ht : bs.take n = bs := List.take_of_length_le (by omega)
   have hlB : decide (n < bs.length) = false := by simpa using hl
   rw [ht]
   have HR := Lib.hid h
   clear ht h4 h
   go_enter Try.func25, Try.ntmps25
   go_wp2
   go_ret
   exact ⟨⟨c, rfl, HR.out⟩, rfl⟩
end Go.Proofs.Ytldhmjfjbalakaa

namespace Go.Proofs.Ytldhmjfjbalakaa
open Go.RowKit

theorem APt.pn0 {w : World} (_ : APt w infV true 0 0) : APn w infV true [] [] := ⟨none, none, 0, 0, rfl, RN.nil_ _ _, RN.nil_ _ _⟩
set_option maxRecDepth 100000 in
set_option maxHeartbeats 8000000 in
theorem code_law_c {c : Int} {C : Crv} (hC : IsC c C) {P : Nat → Prop} {A B : Option Addr} {cap cb : Nat} {l bs : List Nat} (sp : Bool) (w : World) (ha : RL w P A cap l) (hbb : RB w P B cb bs) (hP : ∀ b, P b → b < w.heap.size) :
 Calls Try.prog 5 #[.int .i64 c, .slice A l.length cap, .bool sp, .slice B bs.length cb] w fun e w' => e = .returned (.bool true) ∧ Ext w w' := by
 obtain ⟨bt, hbt⟩ : ∃ x, bs.take 120 = x := ⟨_, rfl⟩
 obtain ⟨l1, hl1⟩ : ∃ x, l.take 1 = x := ⟨_, rfl⟩
 obtain ⟨R, hR⟩ : ∃ R, rmulP C.M false (val 18446744073709551616 C.xl) (val 18446744073709551616 C.yl) (val 18446744073709551616 l1) = R := ⟨_, rfl⟩
 have Hbt := Lib.hid hbt
 have Hl1 := Lib.hid hl1
 have HR := Lib.hid hR
 have HC := Lib.hid hC
 have HA := Lib.hid ha
 have HB := Lib.hid hbb
 have HP := Lib.hid hP
 clear hbt hl1 hR hC ha hbb hP
 go_enter Try.func5, Try.ntmps5
 go_upto_region 2 with (go_at_call 10; refine (begun9_any _).mono ?_; rintro e w1 ⟨rfl, hE1⟩)
 go_upto_region 3 with (go_at_call 25; refine (short_any P B cb bs 120 w1 (HB.out.below hE1 HP.out) (by omega)).mono ?_; rw [Hbt.out]; rintro e w2 ⟨⟨c2, rfl, h2⟩, hw2⟩; obtain rfl : w1 = w2 := hw2)
 have HE := Lib.hid hE1
 have Hb := Lib.hid (h2.mono fun b hb => Nat.lt_of_lt_of_le (HP.out b hb) HE.out.bsize)
 clear h2 hE1
 go_upto_region 4 with (go_at_call 12; refine (point_c HC.out sp Hl1.out HR.out _ (HA.out.below HE.out HP.out) (fun b hb => Nat.lt_of_lt_of_le (HP.out b hb) HE.out.bsize)).mono ?_; rintro e w3 ⟨v, bi, a, b, rfl, ⟨A3, B3, c3, d3, rfl, hx3, hy3⟩, la, lb, hG, hE3⟩)
 have Hp := Lib.hid (show APn w3 (.agg #[.bool bi, .slice A3 a.length c3, .slice B3 b.length d3]) bi a b from ⟨A3, B3, c3, d3, rfl, hx3, hy3⟩)
 have Hla := Lib.hid la
 have Hlb := Lib.hid lb
 clear hx3 hy3 la lb hG
 generalize Value.slice A3 a.length c3 = s1 at *
 generalize Value.slice B3 b.length d3 = s2 at *
 replace HE := Lib.hid (HE.out.trans hE3)
 replace Hb := Lib.hid (Hb.out.upE hE3)
 clear hE3
 have hp3 := heap_alloc_new w3 (.cells #[.bool bi, s1, s2] 27)
 have hA := Ext.alloc w3 (.cells #[.bool bi, s1, s2] 27)
 replace HE := Lib.hid (HE.out.trans hA)
 replace Hb := Lib.hid (Hb.out.upE hA)
 replace Hp := Lib.hid (Hp.out.ext hA)
 generalize hV : w3.alloc (.cells #[.bool bi, s1, s2] 27) = V3 at *
 obtain ⟨b3, hq⟩ : ∃ b, w3.heap.size = b := ⟨_, rfl⟩
 rw [hq] at hp3 ⊢
 clear hV hq hA
 go_upto_region 5 with (go_at_call 13; refine (refOf_c HC.out _).mono ?_; rintro e w4 ⟨v, rfl, ⟨Ap, An, Ab, Ax, Ay, cp, cn, cb', cx, cy, rfl, hp, hn, hb, hx, hy⟩, hE4⟩)
 have Hrc := Lib.hid (show RC w4 C (.agg #[.slice Ap (digs 4294967296 C.M).length cp, .slice An (digs 4294967296 (val 18446744073709551616 C.nl)).length cn, .slice Ab (digs 4294967296 C.bb).length cb', .slice Ax (digs 4294967296 (val 18446744073709551616 C.xl)).length cx, .slice Ay (digs 4294967296 (val 18446744073709551616 C.yl)).length cy, .int .i64 (C.size : Int)]) from ⟨Ap, An, Ab, Ax, Ay, cp, cn, cb', cx, cy, rfl, hp, hn, hb, hx, hy⟩)
 clear hp hn hb hx hy
 replace hp3 := hE4.at_ hp3
 replace HE := Lib.hid (HE.out.trans hE4)
 replace Hb := Lib.hid (Hb.out.upE hE4)
 replace Hp := Lib.hid (Hp.out.ext hE4)
 clear hE4
 have hc4 := heap_alloc_new w4 (.cells #[.slice Ap (digs 4294967296 C.M).length cp, .slice An (digs 4294967296 (val 18446744073709551616 C.nl)).length cn, .slice Ab (digs 4294967296 C.bb).length cb', .slice Ax (digs 4294967296 (val 18446744073709551616 C.xl)).length cx, .slice Ay (digs 4294967296 (val 18446744073709551616 C.yl)).length cy, .int .i64 (C.size : Int)] 31)
 have hA := Ext.alloc w4 (.cells #[.slice Ap (digs 4294967296 C.M).length cp, .slice An (digs 4294967296 (val 18446744073709551616 C.nl)).length cn, .slice Ab (digs 4294967296 C.bb).length cb', .slice Ax (digs 4294967296 (val 18446744073709551616 C.xl)).length cx, .slice Ay (digs 4294967296 (val 18446744073709551616 C.yl)).length cy, .int .i64 (C.size : Int)] 31)
 replace hp3 := hA.at_ hp3
 replace HE := Lib.hid (HE.out.trans hA)
 replace Hb := Lib.hid (Hb.out.upE hA)
 replace Hp := Lib.hid (Hp.out.ext hA)
 replace Hrc := Lib.hid (Hrc.out.ext hA)
 generalize hV : w4.alloc (.cells #[.slice Ap (digs 4294967296 C.M).length cp, .slice An (digs 4294967296 (val 18446744073709551616 C.nl)).length cn, .slice Ab (digs 4294967296 C.bb).length cb', .slice Ax (digs 4294967296 (val 18446744073709551616 C.xl)).length cx, .slice Ay (digs 4294967296 (val 18446744073709551616 C.yl)).length cy, .int .i64 (C.size : Int)] 31) = V4 at *
 obtain ⟨b4, hq⟩ : ∃ b, w4.heap.size = b := ⟨_, rfl⟩
 rw [hq] at hc4 ⊢
 clear hV hq hA
 obtain ⟨y0, y1, y2, f0, f1, f2⟩ := pt_facts hp3
 obtain ⟨x, hx⟩ : ∃ x, (if bi then 0 else val 18446744073709551616 a) = x := ⟨_, rfl⟩
 obtain ⟨y, hy⟩ : ∃ y, (if bi then 0 else val 18446744073709551616 b) = y := ⟨_, rfl⟩
 have Hx := Lib.hid hx
 have Hy := Lib.hid hy
 clear hx hy
 go_upto_region 6 with (go_at_call 14; refine (rfrom_n _ Hp.out Hla.out Hlb.out).mono ?_; rw [Hx.out, Hy.out]; rintro e w5 ⟨o, rfl, ⟨A5, B5, c5, d5, rfl, hx5, hy5⟩, hE5⟩)
 clear y0 y1 y2 f0 f1 f2
 replace hp3 := hE5.at_ hp3
 replace hc4 := hE5.at_ hc4
 replace HE := Lib.hid (HE.out.trans hE5)
 replace Hb := Lib.hid (Hb.out.upE hE5)
 replace Hp := Lib.hid (Hp.out.ext hE5)
 replace Hrc := Lib.hid (Hrc.out.ext hE5)
 clear hE5
 have Hx5 := Lib.hid hx5
 have Hy5 := Lib.hid hy5
 clear hx5 hy5
 have hu5 := heap_alloc_new w5 (.cells #[.bool bi, .slice A5 (digs 4294967296 x).length c5, .slice B5 (digs 4294967296 y).length d5] 34)
 have hA := Ext.alloc w5 (.cells #[.bool bi, .slice A5 (digs 4294967296 x).length c5, .slice B5 (digs 4294967296 y).length d5] 34)
 replace hp3 := hA.at_ hp3
 replace hc4 := hA.at_ hc4
 replace HE := Lib.hid (HE.out.trans hA)
 replace Hb := Lib.hid (Hb.out.upE hA)
 replace Hp := Lib.hid (Hp.out.ext hA)
 replace Hrc := Lib.hid (Hrc.out.ext hA)
 replace Hx5 := Lib.hid (RN.up Hx5.out hA)
 replace Hy5 := Lib.hid (RN.up Hy5.out hA)
 generalize hV : w5.alloc (.cells #[.bool bi, .slice A5 (digs 4294967296 x).length c5, .slice B5 (digs 4294967296 y).length d5] 34) = V5 at *
 obtain ⟨b5, hq⟩ : ∃ b, w5.heap.size = b := ⟨_, rfl⟩
 rw [hq] at hu5 ⊢
 clear hV hq hA
 have hq0 := onQ_bi C bi (val 18446744073709551616 a) (val 18446744073709551616 b)
 rw [Hx.out, Hy.out] at hq0
 obtain ⟨q, hq⟩ : ∃ q, onQ C bi (val 18446744073709551616 a) (val 18446744073709551616 b) = q := ⟨_, rfl⟩
 rw [hq] at hq0
 have Hq := Lib.hid hq0
 obtain ⟨e0, he0⟩ : ∃ e0, encR C bi x y = e0 := ⟨_, rfl⟩
 have Hen := Lib.hid (show encC C bi (val 18446744073709551616 a) (val 18446744073709551616 b) = if q then some e0 else none from by
  cases q
  · exact encC_off hq
  · rw [← he0]; exact encC_encR hq Hx.out Hy.out)
 have Hon := Lib.hid (show q = true → bi = false → onB C.M C.bb x y = true from fun h1 h2 => by rw [h1, h2] at hq0; exact hq0)
 have Hd := Lib.hid (show q = true → decC C e0 = some (if bi then none else some (x, y)) from fun h => by rw [← he0]; exact dec_enc HC.out.fine (Hon.out h))
 have He0 := Lib.hid he0
 obtain ⟨D, hD⟩ : ∃ D, decC C bt = D := ⟨_, rfl⟩
 have HD := Lib.hid hD
 obtain ⟨S, hS⟩ : ∃ S, D.getD none = S := ⟨_, rfl⟩
 have HS' := Lib.hid hS
 obtain ⟨dB, hdB⟩ : ∃ dB, D.isSome = dB := ⟨_, rfl⟩
 have HdB := Lib.hid hdB
 have hne : (dB != dB) = false := by cases dB <;> rfl
 clear hq hq0 he0 hD hS hdB
 obtain ⟨y0, y1, y2, f0, f1, f2⟩ := pt_facts hp3
 cases q
 · have hen := Hen.out
   rw [if_neg (by decide)] at hen
   have Hen' := Lib.hid hen
   clear hen Hen
   go_upto_region 7 with (go_at_call 26; refine (encode_c HC.out _ Hp.out.pt).mono ?_; rw [Hen'.out]; rintro e w6 ⟨A6, c6, rfl, hr6, hE6⟩)
   clear y0 y1 y2 f0 f1 f2 Hen'
   have He := Lib.hid (show RB w6 (fun b => b < w6.heap.size) A6 c6 ([] : List Nat) from hr6.mono fun b hb => hb.2)
   clear hr6
   replace hp3 := hE6.at_ hp3
   replace hc4 := hE6.at_ hc4
   replace hu5 := hE6.at_ hu5
   replace HE := Lib.hid (HE.out.trans hE6)
   replace Hb := Lib.hid (Hb.out.upE hE6)
   replace Hp := Lib.hid (Hp.out.ext hE6)
   replace Hrc := Lib.hid (Hrc.out.ext hE6)
   replace Hx5 := Lib.hid (RN.up Hx5.out hE6)
   replace Hy5 := Lib.hid (RN.up Hy5.out hE6)
   clear hE6
   go_upto_region 8 with (go_at_call 27; refine (decode_c HC.out _ B c2 bt _ Hb.out (fun b hb => hb)).mono ?_; rw [HD.out, HS'.out, HdB.out]; rintro e w7 ⟨o, rfl, hv7, hE7⟩; obtain ⟨A7, B7, c7, d7, rfl, hx7, hy7⟩ := hv7.pn)
   clear hv7
   have Hx7 := Lib.hid hx7
   have Hy7 := Lib.hid hy7
   clear hx7 hy7
   replace hp3 := hE7.at_ hp3
   replace hc4 := hE7.at_ hc4
   replace hu5 := hE7.at_ hu5
   replace HE := Lib.hid (HE.out.trans hE7)
   replace Hb := Lib.hid (Hb.out.upE hE7)
   replace Hp := Lib.hid (Hp.out.ext hE7)
   replace Hrc := Lib.hid (Hrc.out.ext hE7)
   replace Hx5 := Lib.hid (RN.up Hx5.out hE7)
   replace Hy5 := Lib.hid (RN.up Hy5.out hE7)
   replace He := Lib.hid (He.out.upE hE7)
   clear hE7
   have hd7 := heap_alloc_new w7 (.cells #[.bool S.isNone, .slice A7 (digs 18446744073709551616 (S.elim 0 (·.1))).length c7, .slice B7 (digs 18446744073709551616 (S.elim 0 (·.2))).length d7] 27)
   have hA := Ext.alloc w7 (.cells #[.bool S.isNone, .slice A7 (digs 18446744073709551616 (S.elim 0 (·.1))).length c7, .slice B7 (digs 18446744073709551616 (S.elim 0 (·.2))).length d7] 27)
   replace hp3 := hA.at_ hp3
   replace hc4 := hA.at_ hc4
   replace hu5 := hA.at_ hu5
   replace HE := Lib.hid (HE.out.trans hA)
   replace Hb := Lib.hid (Hb.out.upE hA)
   replace Hp := Lib.hid (Hp.out.ext hA)
   replace Hrc := Lib.hid (Hrc.out.ext hA)
   replace Hx5 := Lib.hid (RN.up Hx5.out hA)
   replace Hy5 := Lib.hid (RN.up Hy5.out hA)
   replace He := Lib.hid (He.out.upE hA)
   replace Hx7 := Lib.hid (RN.up Hx7.out hA)
   replace Hy7 := Lib.hid (RN.up Hy7.out hA)
   generalize hV : w7.alloc (.cells #[.bool S.isNone, .slice A7 (digs 18446744073709551616 (S.elim 0 (·.1))).length c7, .slice B7 (digs 18446744073709551616 (S.elim 0 (·.2))).length d7] 27) = V7 at *
   obtain ⟨b7, hq⟩ : ∃ b, w7.heap.size = b := ⟨_, rfl⟩
   rw [hq] at hd7 ⊢
   clear hV hq hA
   obtain ⟨z0, z1, z2, z3, z4, z5⟩ := six_facts hc4
   go_upto_region 9 with (go_at_call 28; refine (refDecode_any HC.out.fine _ B c2 bt _ Hrc.out Hb.out (fun b hb => hb)).mono ?_; rw [HD.out, HS'.out, HdB.out]; rintro e w8 ⟨o, rfl, hv8, hE8⟩; obtain ⟨A8, B8, c8, d8, rfl, hx8, hy8⟩ := hv8.pv)
   clear hv8 z0 z1 z2 z3 z4 z5
   have Hx8 := Lib.hid hx8
   have Hy8 := Lib.hid hy8
   clear hx8 hy8
   replace hp3 := hE8.at_ hp3
   replace hc4 := hE8.at_ hc4
   replace hu5 := hE8.at_ hu5
   replace hd7 := hE8.at_ hd7
   replace HE := Lib.hid (HE.out.trans hE8)
   replace Hb := Lib.hid (Hb.out.upE hE8)
   replace Hp := Lib.hid (Hp.out.ext hE8)
   replace Hrc := Lib.hid (Hrc.out.ext hE8)
   replace Hx5 := Lib.hid (RN.up Hx5.out hE8)
   replace Hy5 := Lib.hid (RN.up Hy5.out hE8)
   replace He := Lib.hid (He.out.upE hE8)
   replace Hx7 := Lib.hid (RN.up Hx7.out hE8)
   replace Hy7 := Lib.hid (RN.up Hy7.out hE8)
   clear hE8
   have hr8 := heap_alloc_new w8 (.cells #[.bool S.isNone, .slice A8 (digs 4294967296 (S.elim 0 (·.1))).length c8, .slice B8 (digs 4294967296 (S.elim 0 (·.2))).length d8] 34)
   have hA := Ext.alloc w8 (.cells #[.bool S.isNone, .slice A8 (digs 4294967296 (S.elim 0 (·.1))).length c8, .slice B8 (digs 4294967296 (S.elim 0 (·.2))).length d8] 34)
   replace hp3 := hA.at_ hp3
   replace hc4 := hA.at_ hc4
   replace hu5 := hA.at_ hu5
   replace hd7 := hA.at_ hd7
   replace HE := Lib.hid (HE.out.trans hA)
   replace Hb := Lib.hid (Hb.out.upE hA)
   replace Hp := Lib.hid (Hp.out.ext hA)
   replace Hrc := Lib.hid (Hrc.out.ext hA)
   replace Hx5 := Lib.hid (RN.up Hx5.out hA)
   replace Hy5 := Lib.hid (RN.up Hy5.out hA)
   replace He := Lib.hid (He.out.upE hA)
   replace Hx7 := Lib.hid (RN.up Hx7.out hA)
   replace Hy7 := Lib.hid (RN.up Hy7.out hA)
   replace Hx8 := Lib.hid (RN.up Hx8.out hA)
   replace Hy8 := Lib.hid (RN.up Hy8.out hA)
   generalize hV : w8.alloc (.cells #[.bool S.isNone, .slice A8 (digs 4294967296 (S.elim 0 (·.1))).length c8, .slice B8 (digs 4294967296 (S.elim 0 (·.2))).length d8] 34) = V8 at *
   obtain ⟨b8, hq⟩ : ∃ b, w8.heap.size = b := ⟨_, rfl⟩
   rw [hq] at hr8 ⊢
   clear hV hq hA
   obtain ⟨y0, y1, y2, f0, f1, f2⟩ := pt_facts hd7
   obtain ⟨y0', y1', y2', f0', f1', f2'⟩ := pt_facts hr8
   have hyes := ris_n (bi := S.isNone) (bj := S.isNone) V8 ⟨A7, B7, c7, d7, rfl, Hx7.out, Hy7.out⟩ ⟨A8, B8, c8, d8, rfl, Hx8.out, Hy8.out⟩
   simp only [beq_self_eq_true, decide_true, Bool.and_self] at hyes
   have Hyes := Lib.hid hyes
   clear hyes
   go_upto_region 11 with (go_at_call 17; refine Hyes.out.mono ?_; rintro e w9 ⟨rfl, hE9⟩)
   clear y0 y1 y2 f0 f1 f2 y0' y1' y2' f0' f1' f2' Hyes
   replace hp3 := hE9.at_ hp3
   replace hc4 := hE9.at_ hc4
   replace hu5 := hE9.at_ hu5
   replace HE := Lib.hid (HE.out.trans hE9)
   replace Hb := Lib.hid (Hb.out.upE hE9)
   replace Hp := Lib.hid (Hp.out.ext hE9)
   replace Hrc := Lib.hid (Hrc.out.ext hE9)
   replace Hx5 := Lib.hid (RN.up Hx5.out hE9)
   replace Hy5 := Lib.hid (RN.up Hy5.out hE9)
   replace He := Lib.hid (He.out.upE hE9)
   replace Hx7 := Lib.hid (RN.up Hx7.out hE9)
   replace Hy7 := Lib.hid (RN.up Hy7.out hE9)
   replace Hx8 := Lib.hid (RN.up Hx8.out hE9)
   replace Hy8 := Lib.hid (RN.up Hy8.out hE9)
   clear hE9 hd7 hr8
   obtain ⟨z0, z1, z2, z3, z4, z5⟩ := six_facts hc4
   obtain ⟨y0, y1, y2, f0, f1, f2⟩ := pt_facts hu5
   go_upto_region 12 with (go_at_call 16; refine (refOn_any HC.out.fine _ _ _ _ _ _ _ _ Hrc.out Hx5.out Hy5.out).mono ?_; rw [Hq.out]; rintro e w10 ⟨rfl, hE10⟩)
   clear z0 z1 z2 z3 z4 z5 y0 y1 y2 f0 f1 f2
   replace HE := Lib.hid (HE.out.trans hE10)
   go_wp2
   go_ret
   exact ⟨rfl, HE.out⟩
 · have hen := Hen.out
   rw [if_pos rfl] at hen
   have Hen' := Lib.hid hen
   clear hen Hen
   go_upto_region 7 with (go_at_call 26; refine (encode_c HC.out _ Hp.out.pt).mono ?_; rw [Hen'.out]; rintro e w6 ⟨A6, c6, rfl, hr6, hE6⟩)
   clear y0 y1 y2 f0 f1 f2 Hen'
   have He := Lib.hid (show RB w6 (fun b => b < w6.heap.size) A6 c6 e0 from hr6.mono fun b hb => hb.2)
   clear hr6
   replace hp3 := hE6.at_ hp3
   replace hc4 := hE6.at_ hc4
   replace hu5 := hE6.at_ hu5
   replace HE := Lib.hid (HE.out.trans hE6)
   replace Hb := Lib.hid (Hb.out.upE hE6)
   replace Hp := Lib.hid (Hp.out.ext hE6)
   replace Hrc := Lib.hid (Hrc.out.ext hE6)
   replace Hx5 := Lib.hid (RN.up Hx5.out hE6)
   replace Hy5 := Lib.hid (RN.up Hy5.out hE6)
   clear hE6
   go_upto_region 8 with (go_at_call 27; refine (decode_c HC.out _ B c2 bt _ Hb.out (fun b hb => hb)).mono ?_; rw [HD.out, HS'.out, HdB.out]; rintro e w7 ⟨o, rfl, hv7, hE7⟩; obtain ⟨A7, B7, c7, d7, rfl, hx7, hy7⟩ := hv7.pn)
   clear hv7
   have Hx7 := Lib.hid hx7
   have Hy7 := Lib.hid hy7
   clear hx7 hy7
   replace hp3 := hE7.at_ hp3
   replace hc4 := hE7.at_ hc4
   replace hu5 := hE7.at_ hu5
   replace HE := Lib.hid (HE.out.trans hE7)
   replace Hb := Lib.hid (Hb.out.upE hE7)
   replace Hp := Lib.hid (Hp.out.ext hE7)
   replace Hrc := Lib.hid (Hrc.out.ext hE7)
   replace Hx5 := Lib.hid (RN.up Hx5.out hE7)
   replace Hy5 := Lib.hid (RN.up Hy5.out hE7)
   replace He := Lib.hid (He.out.upE hE7)
   clear hE7
   have hd7 := heap_alloc_new w7 (.cells #[.bool S.isNone, .slice A7 (digs 18446744073709551616 (S.elim 0 (·.1))).length c7, .slice B7 (digs 18446744073709551616 (S.elim 0 (·.2))).length d7] 27)
   have hA := Ext.alloc w7 (.cells #[.bool S.isNone, .slice A7 (digs 18446744073709551616 (S.elim 0 (·.1))).length c7, .slice B7 (digs 18446744073709551616 (S.elim 0 (·.2))).length d7] 27)
   replace hp3 := hA.at_ hp3
   replace hc4 := hA.at_ hc4
   replace hu5 := hA.at_ hu5
   replace HE := Lib.hid (HE.out.trans hA)
   replace Hb := Lib.hid (Hb.out.upE hA)
   replace Hp := Lib.hid (Hp.out.ext hA)
   replace Hrc := Lib.hid (Hrc.out.ext hA)
   replace Hx5 := Lib.hid (RN.up Hx5.out hA)
   replace Hy5 := Lib.hid (RN.up Hy5.out hA)
   replace He := Lib.hid (He.out.upE hA)
   replace Hx7 := Lib.hid (RN.up Hx7.out hA)
   replace Hy7 := Lib.hid (RN.up Hy7.out hA)
   generalize hV : w7.alloc (.cells #[.bool S.isNone, .slice A7 (digs 18446744073709551616 (S.elim 0 (·.1))).length c7, .slice B7 (digs 18446744073709551616 (S.elim 0 (·.2))).length d7] 27) = V7 at *
   obtain ⟨b7, hq⟩ : ∃ b, w7.heap.size = b := ⟨_, rfl⟩
   rw [hq] at hd7 ⊢
   clear hV hq hA
   obtain ⟨z0, z1, z2, z3, z4, z5⟩ := six_facts hc4
   go_upto_region 9 with (go_at_call 28; refine (refDecode_any HC.out.fine _ B c2 bt _ Hrc.out Hb.out (fun b hb => hb)).mono ?_; rw [HD.out, HS'.out, HdB.out]; rintro e w8 ⟨o, rfl, hv8, hE8⟩; obtain ⟨A8, B8, c8, d8, rfl, hx8, hy8⟩ := hv8.pv)
   clear hv8 z0 z1 z2 z3 z4 z5
   have Hx8 := Lib.hid hx8
   have Hy8 := Lib.hid hy8
   clear hx8 hy8
   replace hp3 := hE8.at_ hp3
   replace hc4 := hE8.at_ hc4
   replace hu5 := hE8.at_ hu5
   replace hd7 := hE8.at_ hd7
   replace HE := Lib.hid (HE.out.trans hE8)
   replace Hb := Lib.hid (Hb.out.upE hE8)
   replace Hp := Lib.hid (Hp.out.ext hE8)
   replace Hrc := Lib.hid (Hrc.out.ext hE8)
   replace Hx5 := Lib.hid (RN.up Hx5.out hE8)
   replace Hy5 := Lib.hid (RN.up Hy5.out hE8)
   replace He := Lib.hid (He.out.upE hE8)
   replace Hx7 := Lib.hid (RN.up Hx7.out hE8)
   replace Hy7 := Lib.hid (RN.up Hy7.out hE8)
   clear hE8
   have hr8 := heap_alloc_new w8 (.cells #[.bool S.isNone, .slice A8 (digs 4294967296 (S.elim 0 (·.1))).length c8, .slice B8 (digs 4294967296 (S.elim 0 (·.2))).length d8] 34)
   have hA := Ext.alloc w8 (.cells #[.bool S.isNone, .slice A8 (digs 4294967296 (S.elim 0 (·.1))).length c8, .slice B8 (digs 4294967296 (S.elim 0 (·.2))).length d8] 34)
   replace hp3 := hA.at_ hp3
   replace hc4 := hA.at_ hc4
   replace hu5 := hA.at_ hu5
   replace hd7 := hA.at_ hd7
   replace HE := Lib.hid (HE.out.trans hA)
   replace Hb := Lib.hid (Hb.out.upE hA)
   replace Hp := Lib.hid (Hp.out.ext hA)
   replace Hrc := Lib.hid (Hrc.out.ext hA)
   replace Hx5 := Lib.hid (RN.up Hx5.out hA)
   replace Hy5 := Lib.hid (RN.up Hy5.out hA)
   replace He := Lib.hid (He.out.upE hA)
   replace Hx7 := Lib.hid (RN.up Hx7.out hA)
   replace Hy7 := Lib.hid (RN.up Hy7.out hA)
   replace Hx8 := Lib.hid (RN.up Hx8.out hA)
   replace Hy8 := Lib.hid (RN.up Hy8.out hA)
   generalize hV : w8.alloc (.cells #[.bool S.isNone, .slice A8 (digs 4294967296 (S.elim 0 (·.1))).length c8, .slice B8 (digs 4294967296 (S.elim 0 (·.2))).length d8] 34) = V8 at *
   obtain ⟨b8, hq⟩ : ∃ b, w8.heap.size = b := ⟨_, rfl⟩
   rw [hq] at hr8 ⊢
   clear hV hq hA
   obtain ⟨y0, y1, y2, f0, f1, f2⟩ := pt_facts hd7
   obtain ⟨y0', y1', y2', f0', f1', f2'⟩ := pt_facts hr8
   have hyes := ris_n (bi := S.isNone) (bj := S.isNone) V8 ⟨A7, B7, c7, d7, rfl, Hx7.out, Hy7.out⟩ ⟨A8, B8, c8, d8, rfl, Hx8.out, Hy8.out⟩
   simp only [beq_self_eq_true, decide_true, Bool.and_self] at hyes
   have Hyes := Lib.hid hyes
   clear hyes
   go_upto_region 11 with (go_at_call 17; refine Hyes.out.mono ?_; rintro e w9 ⟨rfl, hE9⟩)
   clear y0 y1 y2 f0 f1 f2 y0' y1' y2' f0' f1' f2' Hyes
   replace hp3 := hE9.at_ hp3
   replace hc4 := hE9.at_ hc4
   replace hu5 := hE9.at_ hu5
   replace HE := Lib.hid (HE.out.trans hE9)
   replace Hb := Lib.hid (Hb.out.upE hE9)
   replace Hp := Lib.hid (Hp.out.ext hE9)
   replace Hrc := Lib.hid (Hrc.out.ext hE9)
   replace Hx5 := Lib.hid (RN.up Hx5.out hE9)
   replace Hy5 := Lib.hid (RN.up Hy5.out hE9)
   replace He := Lib.hid (He.out.upE hE9)
   replace Hx7 := Lib.hid (RN.up Hx7.out hE9)
   replace Hy7 := Lib.hid (RN.up Hy7.out hE9)
   replace Hx8 := Lib.hid (RN.up Hx8.out hE9)
   replace Hy8 := Lib.hid (RN.up Hy8.out hE9)
   clear hE9 hd7 hr8
   obtain ⟨z0, z1, z2, z3, z4, z5⟩ := six_facts hc4
   obtain ⟨y0, y1, y2, f0, f1, f2⟩ := pt_facts hu5
   go_upto_region 13 with (go_at_call 16; refine (refOn_any HC.out.fine _ _ _ _ _ _ _ _ Hrc.out Hx5.out Hy5.out).mono ?_; rw [Hq.out]; rintro e w10 ⟨rfl, hE10⟩)
   clear z0 z1 z2 z3 z4 z5 y0 y1 y2 f0 f1 f2
   replace hc4 := hE10.at_ hc4
   replace hu5 := hE10.at_ hu5
   replace HE := Lib.hid (HE.out.trans hE10)
   replace Hb := Lib.hid (Hb.out.upE hE10)
   replace Hp := Lib.hid (Hp.out.ext hE10)
   replace Hrc := Lib.hid (Hrc.out.ext hE10)
   replace Hx5 := Lib.hid (RN.up Hx5.out hE10)
   replace Hy5 := Lib.hid (RN.up Hy5.out hE10)
   replace He := Lib.hid (He.out.upE hE10)
   clear hE10
   obtain ⟨U, hU⟩ : ∃ U, (if bi then none else some (x, y) : Option (Nat × Nat)) = U := ⟨_, rfl⟩
   have HU := Lib.hid (show U.isNone = bi ∧ U.elim 0 (·.1) = x ∧ U.elim 0 (·.2) = y from by
    rw [← hU, ← Hx.out, ← Hy.out]
    cases bi <;> exact ⟨rfl, rfl, rfl⟩)
   have Hd' := Lib.hid ((Hd.out trivial).trans (congrArg some hU))
   clear hU
   go_upto_region 14 with (go_at_call 27; refine (decode_c HC.out _ A6 c6 e0 _ He.out (fun b hb => hb)).mono ?_; rw [Hd'.out, show (some U).isSome = true from rfl, show (some U).getD none = U from rfl]; rintro e w11 ⟨o, rfl, hv7, hE11⟩; have hpn := hv7.pn; rw [HU.out.1, HU.out.2.1, HU.out.2.2] at hpn; obtain ⟨A9, B9, c9, d9, rfl, hx9, hy9⟩ := hpn)
   clear hv7
   have Hx9 := Lib.hid hx9
   have Hy9 := Lib.hid hy9
   clear hx9 hy9
   replace hc4 := hE11.at_ hc4
   replace hu5 := hE11.at_ hu5
   replace HE := Lib.hid (HE.out.trans hE11)
   replace Hb := Lib.hid (Hb.out.upE hE11)
   replace Hp := Lib.hid (Hp.out.ext hE11)
   replace Hrc := Lib.hid (Hrc.out.ext hE11)
   replace Hx5 := Lib.hid (RN.up Hx5.out hE11)
   replace Hy5 := Lib.hid (RN.up Hy5.out hE11)
   replace He := Lib.hid (He.out.upE hE11)
   clear hE11
   have hd9 := heap_alloc_new w11 (.cells #[.bool bi, .slice A9 (digs 18446744073709551616 x).length c9, .slice B9 (digs 18446744073709551616 y).length d9] 27)
   have hA := Ext.alloc w11 (.cells #[.bool bi, .slice A9 (digs 18446744073709551616 x).length c9, .slice B9 (digs 18446744073709551616 y).length d9] 27)
   replace hc4 := hA.at_ hc4
   replace hu5 := hA.at_ hu5
   replace HE := Lib.hid (HE.out.trans hA)
   replace Hb := Lib.hid (Hb.out.upE hA)
   replace Hp := Lib.hid (Hp.out.ext hA)
   replace Hrc := Lib.hid (Hrc.out.ext hA)
   replace Hx5 := Lib.hid (RN.up Hx5.out hA)
   replace Hy5 := Lib.hid (RN.up Hy5.out hA)
   replace He := Lib.hid (He.out.upE hA)
   replace Hx9 := Lib.hid (RN.up Hx9.out hA)
   replace Hy9 := Lib.hid (RN.up Hy9.out hA)
   generalize hV : w11.alloc (.cells #[.bool bi, .slice A9 (digs 18446744073709551616 x).length c9, .slice B9 (digs 18446744073709551616 y).length d9] 27) = V9 at *
   obtain ⟨b9, hq⟩ : ∃ b, w11.heap.size = b := ⟨_, rfl⟩
   rw [hq] at hd9 ⊢
   clear hV hq hA
   refine Par.region_ext (by kernel_rfl) 22 [0, 1, 3, 7, 15, 31, 63, 31, 31, 415, 927, 2047, 4095, 8191, 16383, 32767, 65535, 131071, 131071, 524287, 1048575, 2097151] [] (fun j f X => match j with
    | 0 => f 0 = .bool true
    | 1 => f 1 = .bool true
    | 2 => f 2 = .bool true
    | 3 => f 3 = .bool true
    | 4 => f 4 = .bool true
    | 5 => f 5 = .slice A6 e0.length c6
    | 6 => f 6 = .string (strB e0)
    | 7 => f 7 = .agg #[.slice Ap (digs 4294967296 C.M).length cp, .slice An (digs 4294967296 (val 18446744073709551616 C.nl)).length cn, .slice Ab (digs 4294967296 C.bb).length cb', .slice Ax (digs 4294967296 (val 18446744073709551616 C.xl)).length cx, .slice Ay (digs 4294967296 (val 18446744073709551616 C.yl)).length cy, .int .i64 (C.size : Int)]
    | 8 => f 8 = .agg #[.bool bi, .slice A5 (digs 4294967296 x).length c5, .slice B5 (digs 4294967296 y).length d5]
    | 9 => ∃ A c, f 9 = .slice A e0.length c ∧ RB X (fun b => b < X.heap.size) A c e0
    | 10 => f 10 = .string (strB e0)
    | 11 => f 11 = .bool true
    | 12 => f 12 = .bool true
    | 13 => f 13 = .bool true
    | 14 => f 14 = .bool true
    | 15 => f 15 = .bool true
    | 16 => f 16 = .bool true
    | 17 => f 17 = .agg #[.bool bi, .slice A9 (digs 18446744073709551616 x).length c9, .slice B9 (digs 18446744073709551616 y).length d9]
    | 18 => f 18 = .agg #[.bool bi, .slice A5 (digs 4294967296 x).length c5, .slice B5 (digs 4294967296 y).length d5]
    | 19 => f 19 = .bool true
    | 20 => f 20 = .bool true
    | 21 => f 21 = .bool true
    | _ => True) (by kernel_rfl) [(79, 0), (80, 1), (81, 2), (82, 3), (83, 4), (84, 5), (85, 6), (86, 7), (87, 8), (88, 9), (89, 10), (90, 11), (91, 12), (92, 13), (93, 14), (94, 15), (95, 16), (96, 17), (97, 18), (98, 19), (99, 20), (8, 21)] (by kernel_rfl) ?_
   refine Par.v0 1 21 ?_
   refine Par.v1 2 20 0 ?_
   refine Par.v1 3 19 1 ?_
   refine Par.v2 4 18 1 2 ?_
   refine Par.v1 5 17 3 ?_
   refine Par.v1 6 16 4 ?_
   refine Par.S 7 15 [(79, 0), (80, 1), (81, 2), (82, 3), (83, 4), (84, 5), (86, 7), (87, 8), (88, 9), (89, 10)] (fun f X hX hR K hK => ?_) ?_
   · have e4 : f 4 = _ := hR.out 4 rfl
     have e5 : f 5 = _ := hR.out 5 rfl
     have st := (He.out.upE hX).str (P := Try.prog) 49 5 9 Try.underlying49 Try.underlying5 Try.underlying9
     simp only [yA, yB, yC, yD, yE, e4, e5]
     refine ⟨Par.want (by kernel_rfl) ?_⟩
     go_simp
     exact Par.k hK (s := by simp only [yA, yB, yC, yD, yE, e4, e5])
   refine lV1 8 14 4 hc4 infoRC ?_
   refine lV1 9 13 4 hu5 infoRP ?_
   refine Par.c1 10 12 4 (fun f => #[f 7, f 8]) (F' := 29) (fun f X hX hR => ?_) ?_
   · have e7 : f 7 = _ := hR.out 7 rfl
     have e8 : f 8 = _ := hR.out 8 rfl
     simp only [e7, e8]
     refine (refEncode_n HC.out.fine X (Hrc.out.ext hX) ⟨A5, B5, c5, d5, rfl, RN.up Hx5.out hX, RN.up Hy5.out hX⟩ (fun h => onB_lt (Hon.out trivial h))).mono ?_
     rw [He0.out]
     rintro e w2 ⟨A, c, rfl, h, hB⟩
     have h := h.mono (P' := fun b => b < w2.heap.size) fun b hb => hb.2
     exact ⟨(.slice A e0.length c), rfl, hB, fun Y hY => ⟨A, c, rfl, h.upE hY⟩⟩
   refine Par.S 11 11 [(79, 0), (80, 1), (81, 2), (82, 3), (83, 4), (84, 5), (85, 6), (86, 7), (87, 8), (88, 9)] (fun f X hX hR K hK => ?_) ?_
   · have e4 : f 4 = _ := hR.out 4 rfl
     obtain ⟨A9', c9', (e9 : f 9 = _), h9⟩ := hR.out 9 rfl
     have st := h9.str (P := Try.prog) 49 5 9 Try.underlying49 Try.underlying5 Try.underlying9
     simp only [yA, yB, yC, yD, yE, e4, e9]
     refine ⟨Par.want (by kernel_rfl) ?_⟩
     go_simp
     exact Par.k hK (s := by simp only [yA, yB, yC, yD, yE, e4, e9])
   refine Par.S 12 10 [(79, 0), (80, 1), (81, 2), (82, 3), (83, 4), (84, 5), (85, 6), (86, 7), (87, 8), (88, 9), (89, 10)] (fun f X hX hR K hK => ?_) ?_
   · have e4 : f 4 = _ := hR.out 4 rfl
     have e6 : f 6 = _ := hR.out 6 rfl
     have e10 : f 10 = _ := hR.out 10 rfl
     simp only [yA, yB, yC, yD, yE, e4, e6, e10]
     refine ⟨Par.want (by kernel_rfl) ?_⟩
     go_simp
     exact Par.k hK (s := by simp only [yA, yB, yC, yD, yE, e4, e6, e10])
   refine Par.v2 13 9 4 11 ?_
   refine Par.v1 14 8 12 ?_
   refine Par.v1 15 7 13 ?_
   refine Par.v2 16 6 13 14 ?_
   refine Par.v1 17 5 15 ?_
   refine lV1 18 4 16 hd9 infoP ?_
   refine lV1 19 3 16 hu5 infoRP ?_
   refine Par.c1 20 2 16 (fun f => #[f 17, f 18]) (F' := 17) (fun f X hX hR => ?_) ?_
   · have e17 : f 17 = _ := hR.out 17 rfl
     have e18 : f 18 = _ := hR.out 18 rfl
     simp only [e17, e18]
     refine (ris_n X ⟨A9, B9, c9, d9, rfl, RN.up Hx9.out hX, RN.up Hy9.out hX⟩ ⟨A5, B5, c5, d5, rfl, RN.up Hx5.out hX, RN.up Hy5.out hX⟩).mono ?_
     rintro e w2 ⟨he, hB⟩
     simp only [beq_self_eq_true, decide_true, Bool.and_self] at he
     subst he
     exact ⟨_, rfl, hB, fun _ _ => rfl⟩
   refine Par.v2 21 1 16 19 ?_
   refine Par.v1 22 0 20 ?_
   refine Par.AllOps.fin ⟨fun f X hX hR hal hap => ?_⟩
   obtain ⟨A9', c9', (e9 : f 9 = _), h9⟩ := hR 9 (by decide)
   have e21 : f 21 = _ := hR 21 (by decide)
   simp only [yA, yB, yD, yE, e9, e21]
   clear hR hal hap e9 e21
   refine Par.Chain.done ?_
   go_wp2
   go_ret
   exact ⟨rfl, HE.out.trans hX⟩
set_option maxRecDepth 100000 in
set_option maxHeartbeats 8000000 in
theorem code_law_n {c : Int} (g1 : c ≠ 1) (g2 : c ≠ 2) {P : Nat → Prop} {A B : Option Addr} {cap cb : Nat} {l bs : List Nat} (sp : Bool) (w : World) (ha : RL w P A cap l) (hbb : RB w P B cb bs) (hP : ∀ b, P b → b < w.heap.size) :
 Calls Try.prog 5 #[.int .i64 c, .slice A l.length cap, .bool sp, .slice B bs.length cb] w fun e w' => e = .returned (.bool true) ∧ Ext w w' := by
 obtain ⟨bt, hbt⟩ : ∃ x, bs.take 120 = x := ⟨_, rfl⟩
 have Hbt := Lib.hid hbt
 have HA := Lib.hid ha
 have HB := Lib.hid hbb
 have HP := Lib.hid hP
 clear hbt ha hbb hP
 go_enter Try.func5, Try.ntmps5
 go_upto_region 2 with (go_at_call 10; refine (begun9_any _).mono ?_; rintro e w1 ⟨rfl, hE1⟩)
 go_upto_region 3 with (go_at_call 25; refine (short_any P B cb bs 120 w1 (HB.out.below hE1 HP.out) (by omega)).mono ?_; rw [Hbt.out]; rintro e w2 ⟨⟨c2, rfl, h2⟩, hw2⟩; obtain rfl : w1 = w2 := hw2)
 have HE := Lib.hid hE1
 clear h2 hE1
 go_upto_region 4 with (go_at_call 12; refine (point_none g1 g2 A l.length cap sp _).mono ?_; rintro e w3 ⟨rfl, hE3⟩)
 replace HE := Lib.hid (HE.out.trans hE3)
 clear hE3
 have hp3 := heap_alloc_new w3 (.cells #[.bool false, .slice A l.length cap, .slice A l.length cap] 27)
 have hA := Ext.alloc w3 (.cells #[.bool false, .slice A l.length cap, .slice A l.length cap] 27)
 replace HE := Lib.hid (HE.out.trans hA)
 generalize hV : w3.alloc (.cells #[.bool false, .slice A l.length cap, .slice A l.length cap] 27) = V3 at *
 obtain ⟨b3, hq⟩ : ∃ b, w3.heap.size = b := ⟨_, rfl⟩
 rw [hq] at hp3 ⊢
 clear hV hq hA
 go_upto_region 5 with (go_at_call 13; refine (refOf_none g1 g2 _).mono ?_; rintro e w4 ⟨v, rfl, ⟨Ap, An, Ab, Ax, Ay, cp, cn, cb', cx, cy, rfl, hp, hn, hb, hx, hy⟩, hE4⟩)
 have Hrc := Lib.hid (show RC w4 c0 (.agg #[.slice Ap (digs 4294967296 c0.M).length cp, .slice An (digs 4294967296 (val 18446744073709551616 c0.nl)).length cn, .slice Ab (digs 4294967296 c0.bb).length cb', .slice Ax (digs 4294967296 (val 18446744073709551616 c0.xl)).length cx, .slice Ay (digs 4294967296 (val 18446744073709551616 c0.yl)).length cy, .int .i64 (c0.size : Int)]) from ⟨Ap, An, Ab, Ax, Ay, cp, cn, cb', cx, cy, rfl, hp, hn, hb, hx, hy⟩)
 clear hp hn hb hx hy
 replace hp3 := hE4.at_ hp3
 replace HE := Lib.hid (HE.out.trans hE4)
 clear hE4
 have hc4 := heap_alloc_new w4 (.cells #[.slice Ap (digs 4294967296 c0.M).length cp, .slice An (digs 4294967296 (val 18446744073709551616 c0.nl)).length cn, .slice Ab (digs 4294967296 c0.bb).length cb', .slice Ax (digs 4294967296 (val 18446744073709551616 c0.xl)).length cx, .slice Ay (digs 4294967296 (val 18446744073709551616 c0.yl)).length cy, .int .i64 (c0.size : Int)] 31)
 have hA := Ext.alloc w4 (.cells #[.slice Ap (digs 4294967296 c0.M).length cp, .slice An (digs 4294967296 (val 18446744073709551616 c0.nl)).length cn, .slice Ab (digs 4294967296 c0.bb).length cb', .slice Ax (digs 4294967296 (val 18446744073709551616 c0.xl)).length cx, .slice Ay (digs 4294967296 (val 18446744073709551616 c0.yl)).length cy, .int .i64 (c0.size : Int)] 31)
 replace hp3 := hA.at_ hp3
 replace HE := Lib.hid (HE.out.trans hA)
 replace Hrc := Lib.hid (Hrc.out.ext hA)
 generalize hV : w4.alloc (.cells #[.slice Ap (digs 4294967296 c0.M).length cp, .slice An (digs 4294967296 (val 18446744073709551616 c0.nl)).length cn, .slice Ab (digs 4294967296 c0.bb).length cb', .slice Ax (digs 4294967296 (val 18446744073709551616 c0.xl)).length cx, .slice Ay (digs 4294967296 (val 18446744073709551616 c0.yl)).length cy, .int .i64 (c0.size : Int)] 31) = V4 at *
 obtain ⟨b4, hq⟩ : ∃ b, w4.heap.size = b := ⟨_, rfl⟩
 rw [hq] at hc4 ⊢
 clear hV hq hA
 obtain ⟨y0, y1, y2, f0, f1, f2⟩ := pt_facts hp3
 go_upto_region 6 with (go_at_call 14; refine (rfrom_w _ (HA.out.below HE.out HP.out) (HA.out.below HE.out HP.out) (fun b hb => Nat.lt_of_lt_of_le (HP.out b hb) HE.out.bsize)).mono ?_; rintro e w5 ⟨⟨B5, n5, k5, D5, m5, j5, rfl⟩, hE5⟩)
 clear y0 y1 y2 f0 f1 f2
 replace hp3 := hE5.at_ hp3
 replace hc4 := hE5.at_ hc4
 replace HE := Lib.hid (HE.out.trans hE5)
 replace Hrc := Lib.hid (Hrc.out.ext hE5)
 clear hE5
 have hu5 := heap_alloc_new w5 (.cells #[.bool false, .slice B5 n5 k5, .slice D5 m5 j5] 34)
 have hA := Ext.alloc w5 (.cells #[.bool false, .slice B5 n5 k5, .slice D5 m5 j5] 34)
 replace hp3 := hA.at_ hp3
 replace hc4 := hA.at_ hc4
 replace HE := Lib.hid (HE.out.trans hA)
 replace Hrc := Lib.hid (Hrc.out.ext hA)
 generalize hV : w5.alloc (.cells #[.bool false, .slice B5 n5 k5, .slice D5 m5 j5] 34) = V5 at *
 obtain ⟨b5, hq⟩ : ∃ b, w5.heap.size = b := ⟨_, rfl⟩
 rw [hq] at hu5 ⊢
 clear hV hq hA
 obtain ⟨y0, y1, y2, f0, f1, f2⟩ := pt_facts hp3
 go_upto_region 7 with (go_at_call 26; refine (encode_nil g1 g2 _ _ _ _).mono ?_; rintro e w6 ⟨rfl, hE6⟩)
 clear y0 y1 y2 f0 f1 f2
 replace hc4 := hE6.at_ hc4
 replace hu5 := hE6.at_ hu5
 replace HE := Lib.hid (HE.out.trans hE6)
 replace Hrc := Lib.hid (Hrc.out.ext hE6)
 clear hE6
 go_upto_region 8 with (go_at_call 27; refine (decode_nil g1 g2 _ _ _ _).mono ?_; rintro e w7 ⟨rfl, hE7⟩; simp only [infV])
 replace hc4 := hE7.at_ hc4
 replace hu5 := hE7.at_ hu5
 replace HE := Lib.hid (HE.out.trans hE7)
 replace Hrc := Lib.hid (Hrc.out.ext hE7)
 clear hE7
 have hd7 := heap_alloc_new w7 (.cells #[.bool true, .slice none 0 0, .slice none 0 0] 27)
 have hA := Ext.alloc w7 (.cells #[.bool true, .slice none 0 0, .slice none 0 0] 27)
 replace hc4 := hA.at_ hc4
 replace hu5 := hA.at_ hu5
 replace HE := Lib.hid (HE.out.trans hA)
 replace Hrc := Lib.hid (Hrc.out.ext hA)
 generalize hV : w7.alloc (.cells #[.bool true, .slice none 0 0, .slice none 0 0] 27) = V7 at *
 obtain ⟨b7, hq⟩ : ∃ b, w7.heap.size = b := ⟨_, rfl⟩
 rw [hq] at hd7 ⊢
 clear hV hq hA
 obtain ⟨z0, z1, z2, z3, z4, z5⟩ := six_facts hc4
 go_upto_region 9 with (go_at_call 28; refine (refDecode_zero _ _ Hrc.out).mono ?_; rintro e w8 ⟨rfl, hE8⟩; simp only [infV])
 clear z0 z1 z2 z3 z4 z5
 replace hc4 := hE8.at_ hc4
 replace hu5 := hE8.at_ hu5
 replace hd7 := hE8.at_ hd7
 replace HE := Lib.hid (HE.out.trans hE8)
 replace Hrc := Lib.hid (Hrc.out.ext hE8)
 clear hE8
 have hr8 := heap_alloc_new w8 (.cells #[.bool true, .slice none 0 0, .slice none 0 0] 34)
 have hA := Ext.alloc w8 (.cells #[.bool true, .slice none 0 0, .slice none 0 0] 34)
 replace hc4 := hA.at_ hc4
 replace hu5 := hA.at_ hu5
 replace hd7 := hA.at_ hd7
 replace HE := Lib.hid (HE.out.trans hA)
 replace Hrc := Lib.hid (Hrc.out.ext hA)
 generalize hV : w8.alloc (.cells #[.bool true, .slice none 0 0, .slice none 0 0] 34) = V8 at *
 obtain ⟨b8, hq⟩ : ∃ b, w8.heap.size = b := ⟨_, rfl⟩
 rw [hq] at hr8 ⊢
 clear hV hq hA
 obtain ⟨y0, y1, y2, f0, f1, f2⟩ := pt_facts hd7
 obtain ⟨y0', y1', y2', f0', f1', f2'⟩ := pt_facts hr8
 have hyes := ris_n V8 (APt.inf_ V8).pn0 (RPv.inf_ V8)
 simp only [beq_self_eq_true, digs_zero, decide_true, Bool.and_self] at hyes
 have Hyes := Lib.hid hyes
 clear hyes
 go_upto_region 11 with (go_at_call 17; refine Hyes.out.mono ?_; rintro e w9 ⟨rfl, hE9⟩)
 clear y0 y1 y2 f0 f1 f2 y0' y1' y2' f0' f1' f2' Hyes
 replace hc4 := hE9.at_ hc4
 replace hu5 := hE9.at_ hu5
 replace HE := Lib.hid (HE.out.trans hE9)
 replace Hrc := Lib.hid (Hrc.out.ext hE9)
 clear hE9 hd7 hr8
 obtain ⟨z0, z1, z2, z3, z4, z5⟩ := six_facts hc4
 obtain ⟨y0, y1, y2, f0, f1, f2⟩ := pt_facts hu5
 go_upto_region 12 with (go_at_call 16; refine (ron_none _ _ _ _ Hrc.out).mono ?_; rintro e w10 ⟨rfl, hE10⟩)
 clear z0 z1 z2 z3 z4 z5 y0 y1 y2 f0 f1 f2
 replace HE := Lib.hid (HE.out.trans hE10)
 go_wp2
 go_ret
 exact ⟨rfl, HE.out⟩
theorem code_law {c : Int} {P : Nat → Prop} {A B : Option Addr} {cap cb : Nat} {l bs : List Nat} (sp : Bool) (w : World) (ha : RL w P A cap l) (hbb : RB w P B cb bs) (hP : ∀ b, P b → b < w.heap.size) :
 Calls Try.prog 5 #[.int .i64 c, .slice A l.length cap, .bool sp, .slice B bs.length cb] w fun e w' => e = .returned (.bool true) ∧ Ext w w' := by
 obtain ⟨C, h | ⟨h1, h2, _⟩⟩ := isU c
 · exact code_law_c h sp w ha hbb hP
 · exact code_law_n h1 h2 sp w ha hbb hP
end Go.Proofs.Ytldhmjfjbalakaa

namespace Go.Proofs.Ytldhmjfjbalakaa.curveCode
open Go.ChangeShapes Go.WideShapes Go.ChangeAt Go.RowKit

theorem own : ownKnob Try.prog.godebug = none := by kernel_rfl
theorem laidOut : laidOutB Try.prog = true := by kernel_rfl

set_option maxRecDepth 100000 in
theorem lifted (os : Os) (started : os.Started) (H : Type) (enc : TypeId × Value → H) :
 ReturnsInHanded {} Try.checked os 5 .any (Rows.curveCodeSpec.pre6 enc Try.prog Try.f5 Rows.curveCodeRow.domain false) (Rows.curveCodeSpec.post enc Try.prog Try.f5 false true false false) := by
 refine returnsInHanded_of_change_sized (C := Try.checked) own started (by kernel_rfl) Try.func5
  (ChangeSpec.witness6 (enc := enc) (C := Try.checked) false ⟨#[], #[.int .i64 0, .slice none 0 0, .bool false, .slice none 0 0], []⟩ 8 (by kernel_rfl) (by kernel_rfl) (by kernel_rfl) (by kernel_rfl)) ?_
 intro W base args ds gs before hval0 hW hcnd hsz0 _
 have hval : ∀ (j : Nat) t v, Try.f5.params[j]? = some t → args[j]? = some v → Value.okWide Try.prog W .any base t v := hval0
 have hsz : (DataW.weightsEach Try.prog (Try.f5.params.toList ++ Rows.curveCodeSpec.plain.varTypes Try.prog) (ds ++ gs)).all (· ≤ reachBytes) = true := hsz0
 have hW' := hW
 obtain ⟨p, q, hA0, hV, rfl, hfz, hnd⟩ := hW
 have hA : DataW.TrodAll enc Try.prog W 0 (fun _ => true) true Try.f5.params.toList args.toList ds p := hA0
 rw [Try.params5] at hA hval hsz
 obtain ⟨v0, vs0, d0, ds0, p0, q0, hargs, rfl, rfl, h0, r0⟩ := trodAll_cons hA
 obtain ⟨v1, vs1, d1, ds1, p1, q1, rfl, rfl, rfl, h1, r1⟩ := trodAll_cons r0
 obtain ⟨v2, vs2, d2, ds2, p2, q2, rfl, rfl, rfl, h2, r2⟩ := trodAll_cons r1
 obtain ⟨v3, vs3, d3, ds3, p3, q3, rfl, rfl, rfl, h3, r3⟩ := trodAll_cons r2
 obtain ⟨rfl, rfl, rfl⟩ := trodAll_nil r3
 obtain rfl : args = #[v0, v1, v2, v3] := by cases args; simp_all
 obtain ⟨rfl, rfl⟩ := trodVars_none hV
 have k0 := h0
 have lt0 : ∀ x ∈ p0, x.block < W.heap.size := by obtain ⟨m, hm⟩ := k0; exact DataW.trod_lt m _ _ _ hm
 have k1 := h1
 have lt1 : ∀ x ∈ p1, x.block < W.heap.size := by obtain ⟨m, hm⟩ := k1; exact DataW.trod_lt m _ _ _ hm
 have k2 := h2
 have lt2 : ∀ x ∈ p2, x.block < W.heap.size := by obtain ⟨m, hm⟩ := k2; exact DataW.trod_lt m _ _ _ hm
 have k3 := h3
 have lt3 : ∀ x ∈ p3, x.block < W.heap.size := by obtain ⟨m, hm⟩ := k3; exact DataW.trod_lt m _ _ _ hm
 have fit : ∀ (j : Nat) (t : TypeId) (d : DataW H), [3, 23, 4, 49][j]? = some t → [d0, d1, d2, d3][j]? = some d → Fits t d := fun j t d ht hd k hk => by
  have := List.all_eq_true.1 hsz k (DataW.weights_mem_each (ts := [3, 23, 4, 49]) (ds := [d0, d1, d2, d3]) ht hd k hk)
  simpa using this
 obtain ⟨n0, hv0, _, _, wf0⟩ := open_int Try.underlying3 (hval 0 3 v0 rfl rfl) h0
 obtain ⟨a1, len1, cap1, e1⟩ := okWide_slice Try.underlying23 (hval 1 23 v1 rfl rfl)
 obtain ⟨A1, c1, l1, hv1, hR1⟩ : ∃ A c l, v1 = .slice A (List.length l) c ∧ RL W (fun b => b < W.heap.size) A c l := by
  obtain ⟨fuel, hf⟩ := h1
  rw [e1] at hf ⊢
  exact open_nats hf (fit 1 _ _ rfl rfl)
 obtain ⟨b2, hv2, _⟩ := open_bool Try.underlying4 (hval 2 4 v2 rfl rfl) h2
 obtain ⟨a3, len3, cap3, e3⟩ := okWide_slice Try.underlying49 (hval 3 49 v3 rfl rfl)
 obtain ⟨A3, c3, l3, hv3, hR3⟩ : ∃ A c l, v3 = .slice A (List.length l) c ∧ RB W (fun b => b < W.heap.size) A c l := by
  obtain ⟨fuel, hf⟩ := h3
  rw [e3] at hf ⊢
  exact open_bytes hf (fit 3 _ _ rfl rfl)
 clear hA0 hval0
 subst hv0 hv1 hv2 hv3
 refine (code_law b2 W hR1 hR3 (fun b hb => hb)).mono fun e W' ⟨he, bel⟩ => ?_
 subst he
 exact ⟨_, rfl, _, _, _, [], _, [], hW', trodAll_mk1 (shut_bool Try.underlying4 _), (trodAll_cons_mk (Below.trod laidOut (by kernel_rfl) (of_decide_eq_true (by kernel_rfl)) k0 bel lt0) (trodAll_cons_mk (Below.trod laidOut (by kernel_rfl) (of_decide_eq_true (by kernel_rfl)) k1 bel lt1) (trodAll_cons_mk (Below.trod laidOut (by kernel_rfl) (of_decide_eq_true (by kernel_rfl)) k2 bel lt2) (trodAll_cons_mk (Below.trod laidOut (by kernel_rfl) (of_decide_eq_true (by kernel_rfl)) k3 bel lt3) trodAll_mk0)))), rfl, bel.frame _, fun h => by cases h⟩

theorem over : Rows.curveCodeRow.holds Try.pinned (OpenSpec.ofChange Rows.curveCodeSpec) :=
 OpenClaim.holds_of_wide 5 Try.f5 rfl rfl rfl rfl rfl rfl rfl ⟨rfl, rfl, rfl, rfl, rfl⟩ rfl rfl rfl rfl rfl (by kernel_rfl) Try.func5 (by kernel_rfl)
  (of_decide_eq_true (by kernel_rfl)) (by unfold Func.isWrapper; first | (rw [if_pos (by decide +kernel)]; kernel_rfl) | (rw [if_neg (by decide +kernel)]; exact ⟨rfl, rfl⟩))
  (fun os started H enc _ => lifted os started H enc)

theorem proved : Rows.CurveCodeSaid := over
#print axioms proved
end Go.Proofs.Ytldhmjfjbalakaa.curveCode
