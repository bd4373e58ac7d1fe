/- begun: one point is told. -/
import Derived.Test.YtldhmjfjbalakaaKBb
import Derived.Test.YtldhmjfjbalakaaKBd
namespace Go.Proofs.Ytldhmjfjbalakaa
open Go.RowKit

theorem isC1 : IsC 1 c256 := Or.inl ⟨rfl, rfl⟩
theorem isC2 : IsC 2 c384 := Or.inr ⟨rfl, rfl⟩
/-- The block is a point. -/
def PB (X : World) (b : Nat) (bi : Bool) (x y : Nat) : Prop := ∃ p1 p2, X.heap[b]? = some (.cells #[.bool bi, p1, p2] 27 (0, 0)) ∧ APt X (.agg #[.bool bi, p1, p2]) bi x y
theorem PB.ext {X Y : World} {b : Nat} {bi : Bool} {x y : Nat} (h : PB X b bi x y) (hE : Ext X Y) : PB Y b bi x y := let ⟨p1, p2, h1, h2⟩ := h; ⟨p1, p2, hE.at_ h1, h2.ext hE⟩
theorem PB.new {X : World} {bi : Bool} {x y : Nat} {p1 p2 : Value} (h : APt X (.agg #[.bool bi, p1, p2]) bi x y) : PB (X.alloc (.cells #[.bool bi, p1, p2] 27)) X.heap.size bi x y := ⟨p1, p2, heap_alloc_new _ _, h.ext (Ext.alloc _ _)⟩
theorem neq_nilP (w : World) (f : Fn) (a b : Array Value) : (binOp .neq 59 (.func f a b) .nilFunc).run Try.prog w = .ok (.bool true) w := by kernel_rfl
set_option maxRecDepth 100000 in
set_option maxHeartbeats 8000000 in
theorem begun9_any (w : World) : Calls Try.prog 10 #[] w fun e w' => e = .returned (.bool true) ∧ Ext w w' := by
  go_enter Try.func10, Try.ntmps10
  go_upto_region 2 with (go_at_call 20; refine (base_c isC1 _).mono ?_; rintro e w1 ⟨A, cc, A', cc', rfl, hA, hA', hE1⟩)
  have hp1 : APt w1 (.agg #[.bool false, .slice A c256.xl.length cc, .slice A' c256.yl.length cc']) false bx by_ := ⟨A, A', cc, cc', _, _, rfl, hA, hA', c256_x, c256_y⟩
  generalize Value.slice A c256.xl.length cc = s1 at *
  generalize Value.slice A' c256.yl.length cc' = s2 at *
  have hb1 := heap_alloc_new w1 (.cells #[.bool false, s1, s2] 27)
  have hA1 := Ext.alloc w1 (.cells #[.bool false, s1, s2] 27)
  replace hp1 := hp1.ext hA1
  have HE1 := Lib.hid (hE1.trans hA1)
  generalize hV1 : w1.alloc (.cells #[.bool false, s1, s2] 27) = V1 at *
  obtain ⟨b1, hq1⟩ : ∃ b, w1.heap.size = b := ⟨_, rfl⟩
  rw [hq1] at hb1 ⊢
  have Hp1 := Lib.hid hp1
  have hA2 := Ext.alloc V1 (.cells #[.int .u64 2] 72)
  have htwo : RU (V1.alloc (.cells #[.int .u64 2] 72)) (some ⟨V1.heap.size, 0, none⟩) 1 [2] := (RN.one V1 2 (by omega)).mono (fun b hb => by rw [World.size_alloc]; exact hb.2)
  have hmul := mul_c isC1 (n := [2]) (E := 2) (V1.alloc (.cells #[.int .u64 2] 72)) (hp1.ext hA2) htwo rfl
  rw [mul_two, show [2].length = 1 from rfl] at hmul
  have Hmul := Lib.hid hmul
  replace hb1 := hA2.at_ hb1
  have HE2 := Lib.hid (HE1.out.trans hA2)
  replace Hp1 := Lib.hid (Hp1.out.ext hA2)
  obtain ⟨z10, z11, z12, q10, q11, q12⟩ := pt_facts hb1
  clear hA hA' hE1 hA1 hV1 hq1 hp1 htwo hmul hA2 HE1
  go_upto_region 3 with (go_at_call 15; refine Hmul.out.mono ?_; rintro e w2 ⟨o2, rfl, ⟨A2, k2, A2', k2', rfl, hx2, hy2⟩, hE2⟩)
  replace hb1 := hE2.at_ hb1
  replace Hp1 := Lib.hid (Hp1.out.ext hE2)
  have hp2 : APt w2 (.agg #[.bool false, .slice A2 (digs 18446744073709551616 x2).length k2, .slice A2' (digs 18446744073709551616 y2).length k2']) false x2 y2 := ⟨A2, A2', k2, k2', _, _, rfl, hx2.ru, hy2.ru, val_digs (by omega) _, val_digs (by omega) _⟩
  generalize Value.slice A2 (digs 18446744073709551616 x2).length k2 = s3 at *
  generalize Value.slice A2' (digs 18446744073709551616 y2).length k2' = s4 at *
  have hb2 := heap_alloc_new w2 (.cells #[.bool false, s3, s4] 27)
  have hA2 := Ext.alloc w2 (.cells #[.bool false, s3, s4] 27)
  generalize hV2 : w2.alloc (.cells #[.bool false, s3, s4] 27) = V2 at *
  obtain ⟨b2, hq2⟩ : ∃ b, w2.heap.size = b := ⟨_, rfl⟩
  rw [hq2] at hb2 ⊢
  have Hp2 := Lib.hid (hp2.ext hA2)
  have HE3 := Lib.hid ((HE2.out.trans hE2).trans hA2)
  replace hb1 := hA2.at_ hb1
  replace Hp1 := Lib.hid (Hp1.out.ext hA2)
  obtain ⟨z10, z11, z12, q10, q11, q12⟩ := pt_facts hb1
  have hadd := add_c isC1 V2 Hp1.out Hp1.out
  rw [add_two] at hadd
  have Hadd := Lib.hid hadd
  clear hx2 hy2 hE2 hp2 hA2 hV2 hq2 Hmul HE2 hadd
  go_upto_region 4 with (go_at_call 21; refine Hadd.out.mono ?_; rintro e w3 ⟨o3, rfl, ⟨A3, k3, A3', k3', rfl, hx3, hy3⟩, hE3⟩)
  replace hb1 := hE3.at_ hb1
  replace hb2 := hE3.at_ hb2
  have hp3 : APt w3 (.agg #[.bool false, .slice A3 (digs 18446744073709551616 x2).length k3, .slice A3' (digs 18446744073709551616 y2).length k3']) false x2 y2 := ⟨A3, A3', k3, k3', _, _, rfl, hx3.ru, hy3.ru, val_digs (by omega) _, val_digs (by omega) _⟩
  generalize Value.slice A3 (digs 18446744073709551616 x2).length k3 = s5 at *
  generalize Value.slice A3' (digs 18446744073709551616 y2).length k3' = s6 at *
  have hb3 := heap_alloc_new w3 (.cells #[.bool false, s5, s6] 27)
  have hA3 := Ext.alloc w3 (.cells #[.bool false, s5, s6] 27)
  generalize hV3 : w3.alloc (.cells #[.bool false, s5, s6] 27) = V3 at *
  obtain ⟨b3, hq3⟩ : ∃ b, w3.heap.size = b := ⟨_, rfl⟩
  rw [hq3] at hb3 ⊢
  replace hb1 := hA3.at_ hb1
  replace hb2 := hA3.at_ hb2
  replace Hp2 := Lib.hid (Hp2.out.ext (hE3.trans hA3))
  have Hp3 := Lib.hid (hp3.ext hA3)
  have HE4 := Lib.hid (HE3.out.trans (hE3.trans hA3))
  obtain ⟨y10, y11, y12, r10, r11, r12⟩ := pt_facts hb2
  have henc := encode_c isC1 V3 Hp2.out
  rw [enc_two, Option.getD_some, eb_len] at henc
  have Henc := Lib.hid henc
  clear hx3 hy3 hE3 hp3 hA3 hV3 hq3 Hadd HE3 henc Hp1 z10 z11 z12 q10 q11 q12
  go_upto_region 5 with (go_at_call 26; refine Henc.out.mono ?_; rintro e w4 ⟨A4, k4, rfl, hr4, hE4⟩)
  replace hb1 := hE4.at_ hb1
  replace hb3 := hE4.at_ hb3
  have HE5 := Lib.hid (HE4.out.trans hE4)
  replace Hp3 := Lib.hid (Hp3.out.ext hE4)
  have hdec := decode_c isC1 _ A4 k4 _ w4 hr4 (fun b hb => hb.2)
  rw [eb_len, dec_two] at hdec
  have Hdec := Lib.hid hdec
  clear hr4 hE4 Henc HE4 hdec hb2 y10 y11 y12 r10 r11 r12 Hp2
  go_upto_region 6 with (go_at_call 27; refine Hdec.out.mono ?_; rintro e w5 ⟨o5, rfl, ⟨A5, k5, A5', k5', rfl, hx5, hy5⟩, hE5⟩)
  replace hb1 := hE5.at_ hb1
  replace hb3 := hE5.at_ hb3
  rw [digs_x2]
  rw [show [11964737083406719352, 13873736548487404341, 9967090510939364035, 9003393950442278782].length = 4 from rfl]
  generalize Value.slice A5' (digs 18446744073709551616 y2).length k5' = s8 at *
  have hb8 := heap_alloc_new w5 (.cells #[.bool false, .slice A5 4 k5, s8] 27)
  have hA8 := Ext.alloc w5 (.cells #[.bool false, .slice A5 4 k5, s8] 27)
  generalize hV8 : w5.alloc (.cells #[.bool false, .slice A5 4 k5, s8] 27) = V8 at *
  obtain ⟨b8, hq8⟩ : ∃ b, w5.heap.size = b := ⟨_, rfl⟩
  rw [hq8] at hb8 ⊢
  have HE6 := Lib.hid (HE5.out.trans (hE5.trans hA8))
  replace Hp3 := Lib.hid (Hp3.out.ext (hE5.trans hA8))
  replace hb1 := hA8.at_ hb1
  replace hb3 := hA8.at_ hb3
  obtain ⟨z10, z11, z12, q10, q11, q12⟩ := pt_facts hb1
  clear hx5 hy5 hE5 hA8 hV8 hq8 Hdec HE5
  go_upto_region 7 with (go_at_call 30; refine (multiples_any 1 V8).mono ?_; rintro e w6 ⟨rfl, hw6⟩; have hE6 : Ext V8 w6 := (by rw [hw6]; exact (Ext.alloc _ _).trans (Ext.alloc _ _)); clear hw6)
  replace hb3 := hE6.at_ hb3
  replace hb8 := hE6.at_ hb8
  obtain ⟨y30, y31, y32, r30, r31, r32⟩ := pt_facts hb3
  obtain ⟨y80, y81, y82, r80, r81, r82⟩ := pt_facts hb8
  have hon := onx_c isC1 w6 (Hp3.out.ext hE6)
  rw [on_two] at hon
  have Hon := Lib.hid hon
  have HE7 := Lib.hid (HE6.out.trans hE6)
  have hnn := fun W => neq_nilP W (.func 65) #[] #[.pointer (some ⟨V8.heap.size, 0, none⟩), .pointer (some ⟨V8.heap.size + 1, 0, none⟩)]
  clear hb1 z10 z11 z12 q10 q11 q12 hE6 hon HE6
  go_wp2_with (first
    | (go_at_call 37; refine Hon.out.mono ?_; rintro e w7 ⟨rfl, hE7⟩; have x81 := hE7.cell y81)
    | (go_at_call 35; refine (size_c isC2 _).mono ?_; rintro e w8 ⟨rfl, hE8⟩; rw [show ((c384.size : Nat) : Int) = 48 from rfl])
    | (go_at_call 24; refine (order_c isC1 _).mono ?_; rintro e w9 ⟨A9, k9, rfl, hr9, hE9⟩; rw [nl_len]))
  go_ret
  exact ⟨rfl, ((HE7.out.trans hE7).trans hE8).trans hE9⟩
end Go.Proofs.Ytldhmjfjbalakaa
