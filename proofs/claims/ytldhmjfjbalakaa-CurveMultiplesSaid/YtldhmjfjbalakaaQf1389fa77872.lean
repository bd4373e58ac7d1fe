/- The reference's points: From. -/
import Derived.Test.YtldhmjfjbalakaaQ9a949b5e8869
set_option maxRecDepth 100000
set_option maxHeartbeats 16000000
namespace Go.Proofs.Ytldhmjfjbalakaa
open Go.RowKit
theorem rfrom_n {p : Value} {bi : Bool} {a b : List Nat} (w : World) (hp : APn w p bi a b) (hla : a.length < 100000) (hlb : b.length < 100000) : Calls Try.prog 14 #[p] w fun e w' => ∃ o, e = .returned o ∧
 RPv w' o bi (if bi then 0 else val 18446744073709551616 a) (if bi then 0 else val 18446744073709551616 b) ∧ Ext w w' := by
 obtain ⟨A, A', ca, cb, rfl, hx, hy⟩ := hp
 obtain ⟨W0, hW0⟩ : ∃ W0, W0 = (w.alloc (.cells #[.bool bi, .slice A a.length ca, .slice A' b.length cb] 27)).alloc (.cells #[.bool false, .slice none 0 0, .slice none 0 0] 34) := ⟨_, rfl⟩
 obtain ⟨q, hq⟩ : ∃ q, w.heap.size = q := ⟨_, rfl⟩
 have hE0 : Ext w W0 := by rw [hW0]; exact (Ext.alloc _ _).trans (Ext.alloc _ _)
 obtain ⟨h1, h2, hz0⟩ := two_at2 w (.cells #[.bool bi, .slice A a.length ca, .slice A' b.length cb] 27) (.cells #[.bool false, .slice none 0 0, .slice none 0 0] 34)
 rw [← hW0, hq] at h1 h2 hz0
 have p0 := blk_cell h1 0
 have p1 := blk_cell h1 1
 have p2 := blk_cell h1 2
 simp only [List.getElem?_toArray, List.getElem?_cons_zero, List.getElem?_cons_succ] at p0 p1 p2
 have Hx := Lib.hid (RN.up hx hE0)
 have Hy := Lib.hid (RN.up hy hE0)
 have HE0 := Lib.hid hE0
 clear hx hy hE0 hz0 h1
 cases bi
 case true =>
  go_enter Try.func14, Try.ntmps14
  go_upto_region 1 with fail
  rw [← hW0]
  have Hq := Lib.hid hq
  clear hW0 hq
  go_upto_region 2 with fail
  refine Par.region_txt 1 [0, 1] [] (fun j f X => match j with
   | 0 => f 0 = .agg #[.bool true, .slice none 0 0, .slice none 0 0]
   | _ => True) (by kernel_rfl) [(5, 0)] (by kernel_rfl) ?_
  refine Par.v0 1 0 ?_
  refine Par.AllOps.fin ⟨fun f X hX hR hal hap => ?_⟩
  have e0 : f 0 = _ := hR 0 (by decide)
  simp only [yA, yB, yD, yE, e0]
  clear hR hal hap e0
  refine Par.Chain.next (fun K hK => ⟨Par.want (by kernel_rfl) (wp_storeV (cs' := #[.bool true, .slice none 0 0, .slice none 0 0]) (t := 34) 34 (.tmp 2) (.tmp 5) rfl rfl rfl rfl (hX.at_ h2) infoRP rfl (pt_one _ _ _ _ _ _ _) (fun Y hY1 hY2 hY3 => hK.out _ _ ?_))⟩)
  refine Par.Chain.done ?_
  go_wp2
  exact end_rpt rfl rfl rfl hY1 ⟨_, rfl, RPv.inf_ _, hY2.ext (HE0.out.trans hX) (by have := Hq.out; omega)⟩
 case false =>
  go_enter Try.func14, Try.ntmps14
  go_upto_region 1 with fail
  rw [← hW0]
  have Hq := Lib.hid hq
  clear hW0 hq
  go_upto_region 3 with fail
  refine Par.region_ext (by kernel_rfl) 7 [0, 1, 3, 0, 8, 31, 63, 127] [] (fun j f X => match j with
   | 0 => f 0 = .pointer (some ⟨q, 1, none⟩)
   | 1 => f 1 = .slice A a.length ca
   | 2 => ∃ B c, f 2 = .slice B (digs 4294967296 (val 18446744073709551616 a)).length c ∧ RU X B c (digs 4294967296 (val 18446744073709551616 a))
   | 3 => f 3 = .pointer (some ⟨q, 2, none⟩)
   | 4 => f 4 = .slice A' b.length cb
   | 5 => ∃ B c, f 5 = .slice B (digs 4294967296 (val 18446744073709551616 b)).length c ∧ RU X B c (digs 4294967296 (val 18446744073709551616 b))
   | 6 => f 6 = .agg #[.bool false, f 2, f 5]
   | _ => True) (by kernel_rfl) [(6, 0), (7, 1), (8, 2), (9, 3), (10, 4), (11, 5), (12, 6)] (by kernel_rfl) ?_
  refine Par.v0 1 6 ?_
  refine Par.ld1 2 5 0 p1 ?_
  refine Par.c0 3 4 (fun f => #[f 1]) (F' := 19) (fun f X hX hR => ?_) ?_
  · have e1 : f 1 = _ := hR.out 1 rfl
    simp only [e1]
    refine (from_any _ A ca a X (RN.up Hx.out hX) (fun _ h => h) hla).mono ?_
    rintro e w2 ⟨B, c, rfl, h, hB⟩
    exact ⟨(.slice B (digs 4294967296 (val 18446744073709551616 a)).length c), rfl, hB, fun Y hY => ⟨B, c, rfl, RN.up h.ru hY⟩⟩
  refine Par.v0 4 3 ?_
  refine Par.ld1 5 2 3 p2 ?_
  refine Par.c0 6 1 (fun f => #[f 4]) (F' := 19) (fun f X hX hR => ?_) ?_
  · have e4 : f 4 = _ := hR.out 4 rfl
    simp only [e4]
    refine (from_any _ A' cb b X (RN.up Hy.out hX) (fun _ h => h) hlb).mono ?_
    rintro e w2 ⟨B, c, rfl, h, hB⟩
    exact ⟨(.slice B (digs 4294967296 (val 18446744073709551616 b)).length c), rfl, hB, fun Y hY => ⟨B, c, rfl, RN.up h.ru hY⟩⟩
  refine Par.S 7 0 [(6, 0), (7, 1), (8, 2), (9, 3), (10, 4), (11, 5)] (fun f X hX hR K hK => ?_) ?_
  · obtain ⟨B2, c2, (e2 : f 2 = _), h_2⟩ := hR.out 2 rfl
    obtain ⟨B5, c5, (e5 : f 5 = _), h_5⟩ := hR.out 5 rfl
    simp only [yA, yB, yC, yD, yE, e2, e5]
    refine ⟨?_⟩
    go_simp
    exact hK.out _ (.agg #[.bool false, f 2, f 5]) _ (by simp only [yA, yB, yC, yD, yE, e2, e5]) (Ext.refl _) trivial (fun _ _ => rfl)
  refine Par.AllOps.fin ⟨fun f X hX hR hal hap => ?_⟩
  obtain ⟨B2, c2, (e2 : f 2 = _), h_2⟩ := hR 2 (by decide)
  obtain ⟨B5, c5, (e5 : f 5 = _), h_5⟩ := hR 5 (by decide)
  have e6 : f 6 = .agg #[.bool false, f 2, f 5] := hR 6 (by decide)
  simp only [yA, yB, yD, yE, e2, e5, e6]
  clear hR hal hap e2 e5 e6
  refine Par.Chain.next (fun K hK => ⟨Par.want (by kernel_rfl) (wp_storeV (cs' := #[.bool false, .slice B2 (digs 4294967296 (val 18446744073709551616 a)).length c2, .slice B5 (digs 4294967296 (val 18446744073709551616 b)).length c5]) (t := 34) 34 (.tmp 2) (.tmp 12) rfl rfl rfl rfl (hX.at_ h2) infoRP rfl (pt_one _ _ _ _ _ _ _) (fun Y hY1 hY2 hY3 => hK.out _ _ ?_))⟩)
  refine Par.Chain.done ?_
  go_wp2
  exact end_rpt rfl rfl rfl hY1 ⟨_, rfl, ⟨_, _, _, _, rfl, h_2.offJ hY2 (hX.at_ h2) (by kernel_rfl), h_5.offJ hY2 (hX.at_ h2) (by kernel_rfl)⟩, hY2.ext (HE0.out.trans hX) (by have := Hq.out; omega)⟩
theorem rfrom_w {P : Nat → Prop} {A A' : Option Addr} {ca cb : Nat} {a b : List Nat} (w : World) (hx : RL w P A ca a) (hy : RL w P A' cb b) (hP : ∀ b, P b → b < w.heap.size) : Calls Try.prog 14 #[.agg #[.bool false, .slice A a.length ca, .slice A' b.length cb]] w fun e w' => (∃ B n k B' n' k', e = .returned (.agg #[.bool false, .slice B n k, .slice B' n' k'])) ∧ Ext w w' := by
 obtain ⟨W0, hW0⟩ : ∃ W0, W0 = (w.alloc (.cells #[.bool false, .slice A a.length ca, .slice A' b.length cb] 27)).alloc (.cells #[.bool false, .slice none 0 0, .slice none 0 0] 34) := ⟨_, rfl⟩
 obtain ⟨q, hq⟩ : ∃ q, w.heap.size = q := ⟨_, rfl⟩
 have hE0 : Ext w W0 := by rw [hW0]; exact (Ext.alloc _ _).trans (Ext.alloc _ _)
 obtain ⟨h1, h2, hz0⟩ := two_at2 w (.cells #[.bool false, .slice A a.length ca, .slice A' b.length cb] 27) (.cells #[.bool false, .slice none 0 0, .slice none 0 0] 34)
 rw [← hW0, hq] at h1 h2 hz0
 have p0 := blk_cell h1 0
 have p1 := blk_cell h1 1
 have p2 := blk_cell h1 2
 simp only [List.getElem?_toArray, List.getElem?_cons_zero, List.getElem?_cons_succ] at p0 p1 p2
 have Hx := Lib.hid (hx.below hE0 hP)
 have Hy := Lib.hid (hy.below hE0 hP)
 have HP := Lib.hid (show ∀ b, P b → b < W0.heap.size from fun b hb => Nat.lt_of_lt_of_le (hP b hb) hE0.bsize)
 have HE0 := Lib.hid hE0
 clear hx hy hE0 hz0 h1 hP
 go_enter Try.func14, Try.ntmps14
 go_upto_region 1 with fail
 rw [← hW0]
 have Hq := Lib.hid hq
 clear hW0 hq
 go_upto_region 3 with fail
 refine Par.region_ext (by kernel_rfl) 7 [0, 1, 3, 0, 8, 31, 63, 127] [] (fun j f X => match j with
  | 0 => f 0 = .pointer (some ⟨q, 1, none⟩)
  | 1 => f 1 = .slice A a.length ca
  | 2 => ∃ B n c, f 2 = .slice B n c
  | 3 => f 3 = .pointer (some ⟨q, 2, none⟩)
  | 4 => f 4 = .slice A' b.length cb
  | 5 => ∃ B n c, f 5 = .slice B n c
  | 6 => f 6 = .agg #[.bool false, f 2, f 5]
  | _ => True) (by kernel_rfl) [(6, 0), (7, 1), (8, 2), (9, 3), (10, 4), (11, 5), (12, 6)] (by kernel_rfl) ?_
 refine Par.v0 1 6 ?_
 refine Par.ld1 2 5 0 p1 ?_
 refine Par.c0 3 4 (fun f => #[f 1]) (F' := 19) (fun f X hX hR => ?_) ?_
 · have e1 : f 1 = _ := hR.out 1 rfl
   simp only [e1]
   refine (from_w P A ca a X (Hx.out.below hX HP.out) (fun b hb => Nat.lt_of_lt_of_le (HP.out b hb) hX.bsize)).mono ?_
   rintro e w2 ⟨⟨B, n, c, rfl⟩, hB⟩
   exact ⟨(.slice B n c), rfl, hB, fun Y hY => ⟨B, n, c, rfl⟩⟩
 refine Par.v0 4 3 ?_
 refine Par.ld1 5 2 3 p2 ?_
 refine Par.c0 6 1 (fun f => #[f 4]) (F' := 19) (fun f X hX hR => ?_) ?_
 · have e4 : f 4 = _ := hR.out 4 rfl
   simp only [e4]
   refine (from_w P A' cb b X (Hy.out.below hX HP.out) (fun b hb => Nat.lt_of_lt_of_le (HP.out b hb) hX.bsize)).mono ?_
   rintro e w2 ⟨⟨B, n, c, rfl⟩, hB⟩
   exact ⟨(.slice B n c), rfl, hB, fun Y hY => ⟨B, n, c, rfl⟩⟩
 refine Par.S 7 0 [(6, 0), (7, 1), (8, 2), (9, 3), (10, 4), (11, 5)] (fun f X hX hR K hK => ?_) ?_
 · obtain ⟨B2, n2, c2, (e2 : f 2 = _)⟩ := hR.out 2 rfl
   obtain ⟨B5, n5, c5, (e5 : f 5 = _)⟩ := hR.out 5 rfl
   simp only [yA, yB, yC, yD, yE, e2, e5]
   refine ⟨?_⟩
   go_simp
   exact hK.out _ (.agg #[.bool false, f 2, f 5]) _ (by simp only [yA, yB, yC, yD, yE, e2, e5]) (Ext.refl _) trivial (fun _ _ => rfl)
 refine Par.AllOps.fin ⟨fun f X hX hR hal hap => ?_⟩
 obtain ⟨B2, n2, c2, (e2 : f 2 = _)⟩ := hR 2 (by decide)
 obtain ⟨B5, n5, c5, (e5 : f 5 = _)⟩ := hR 5 (by decide)
 have e6 : f 6 = .agg #[.bool false, f 2, f 5] := hR 6 (by decide)
 simp only [yA, yB, yD, yE, e2, e5, e6]
 clear hR hal hap e2 e5 e6
 refine Par.Chain.next (fun K hK => ⟨Par.want (by kernel_rfl) (wp_storeV (cs' := #[.bool false, .slice B2 n2 c2, .slice B5 n5 c5]) (t := 34) 34 (.tmp 2) (.tmp 12) rfl rfl rfl rfl (hX.at_ h2) infoRP rfl (pt_one _ _ _ _ _ _ _) (fun Y hY1 hY2 hY3 => hK.out _ _ ?_))⟩)
 refine Par.Chain.done ?_
 go_wp2
 exact end_rpt rfl rfl rfl hY1 ⟨⟨_, _, _, _, _, _, rfl⟩, hY2.ext (HE0.out.trans hX) (by have := Hq.out; omega)⟩
def OW (w : World) (base : Nat) (A : Option Addr) (c : Nat) (bs : List Nat) : Prop := w.ownsRow base 5 1 (.slice A bs.length c) bs.length (bys bs) ∧ ∀ b ∈ bs, b < 256
theorem own_base {w : World} {base n size : Nat} {e : TypeId} {v : Value} {cs : List Value} (h : w.ownsRow base e size v n cs) (k : Nat) (hk : v.ownBlock = some k) : base ≤ k := by
 rcases h.2 with ⟨rfl, rfl⟩ | ⟨g, cap, cur, rfl, hg, _⟩
 · cases hk
 · simp [Value.ownBlock] at hk
   omega
theorem OW.rb {w : World} {base : Nat} {A : Option Addr} {c : Nat} {bs : List Nat} (h : OW w base A c bs) (hl : bs.length ≤ 100000000) : RB w (In base w.heap.size) A c bs := ⟨RS.of_own h.1, h.2, by omega⟩
theorem OW.lit (w : World) (b : Nat) (hb : b < 256) : OW (w.alloc (.cells #[.int .u8 (b : Int)] 5)) w.heap.size (some ⟨w.heap.size, 0, none⟩) 1 [b] :=
 ⟨World.ownsRow_lit w #[.int .u8 (b : Int)] 1 (Nat.le_refl _) (by unfold maxLen; omega) rfl, by simp; exact hb⟩
theorem OW.ext {w X : World} {base : Nat} {A : Option Addr} {c : Nat} {bs : List Nat} (h : OW w base A c bs) (hE : w.grownBy X none) : OW X base A c bs := ⟨own_kept h.1 hE, h.2⟩
theorem RB.upE {w X : World} {A : Option Addr} {c : Nat} {bs : List Nat} (h : RB w (fun b => b < w.heap.size) A c bs) (hE : Ext w X) : RB X (fun b => b < X.heap.size) A c bs := (h.below hE (fun _ hb => hb)).mono fun _ hb => Nat.lt_of_lt_of_le hb hE.bsize
section
variable {w : World} {ops : Array Oper} {rest : List Oper} {o : Oper} {a : Act} {Q : Exit → Act → World → Prop}
theorem app8 (hgd : o.guard = none) (s x : Operand) (ho : o.op = .call { callee := .builtin .append, args := #[s, x], argTypes := #[49, 49] }) (base : Nat) {A Au : Option Addr} {c cu : Nat} {bs cs : List Nat} {B : Nat → Prop}
 (hs : a.eval s = .slice A bs.length c) (hown : OW w base A c bs) (hx : a.eval x = .slice Au cs.length cu) (hr : RB w B Au cu cs) (hl : bs.length + cs.length ≤ 100000000) (hbase : base ≤ w.heap.size)
 (h : ∀ A' c' w', OW w' base A' c' (bs ++ cs) → Below base w w' → wpList Try.prog ops Q rest (a.put o.dst (.slice A' (bs ++ cs).length c')) w') : wpList Try.prog ops Q (o :: rest) a w := by
 obtain ⟨i0, hi, hz0, hz1, hz2⟩ := info_parts info8
 refine wpList_append_rs w hgd s x 49 ho base 5 i0 (.int .u8 0) 1 1 Try.underlying49 hi hz0 hz1 hz2 rfl (by decide) _ bs.length (bys bs) hs hown.1 B Au cs.length cu (bys cs) hx hr.1 (by intro u hu; obtain ⟨b, _, rfl⟩ := List.mem_map.1 hu; rfl) (bs.length + cs.length) rfl (by unfold maxLen; omega) (by omega) hbase ?_
 intro A' c' w' h1 h2 h3
 have hlen : (bs ++ cs).length = bs.length + cs.length := List.length_append
 refine (hlen ▸ h A' c' w' ⟨?_, ?_⟩ ?_ : _)
 · rw [hlen, show bys (bs ++ cs) = bys bs ++ bys cs by simp [bys]]
   exact h1
 · intro b hb
   rcases List.mem_append.1 hb with hb | hb
   · exact hown.2 b hb
   · exact hr.2.1 b hb
 · exact Below.grown (Below.refl base w) h2 hbase (own_base hown.1)
end
def encC (C : Crv) (bi : Bool) (x y : Nat) : Option (List Nat) := if onQ C bi x y = true then some (if bi then [0] else 4 :: (bytesOf x C.size ++ bytesOf y C.size)) else none
theorem Crv.Fine.bits {C : Crv} (h : C.Fine) {x : Nat} (hx : x < C.M) : nbits x ≤ 8 * C.size := nbits_le (Nat.lt_of_lt_of_le (Nat.lt_trans hx h.room) (by rw [pow256]; exact Nat.le_refl _))
theorem bytesOf_len (x n : Nat) : (bytesOf x n).length = n := by simp [bytesOf]
theorem encode_c {c : Int} {C : Crv} (hC : IsC c C) {p : Value} {bi : Bool} {x y : Nat} (w : World) (hp : APt w p bi x y) :
 Calls Try.prog 26 #[.int .i64 c, p] w fun e w' => ∃ A1 c1, e = .returned (.tuple #[.slice A1 ((encC C bi x y).getD []).length c1, .bool (encC C bi x y).isSome]) ∧ RB w' (In w.heap.size w'.heap.size) A1 c1 ((encC C bi x y).getD []) ∧ Ext w w' := by
 obtain ⟨A, A', ca, cb, a, b, rfl, ha, hb, hx, hy⟩ := hp
 have hp : APt w (.agg #[.bool bi, .slice A a.length ca, .slice A' b.length cb]) bi x y := ⟨A, A', ca, cb, a, b, rfl, ha, hb, hx, hy⟩
 obtain ⟨W0, hW0⟩ : ∃ W0, W0 = w.alloc (.cells #[.bool bi, .slice A a.length ca, .slice A' b.length cb] 27) := ⟨_, rfl⟩
 obtain ⟨q, hq⟩ : ∃ q, w.heap.size = q := ⟨_, rfl⟩
 have hE0 : Ext w W0 := by rw [hW0]; exact Ext.alloc _ _
 have h1 := heap_alloc_new w (.cells #[.bool bi, .slice A a.length ca, .slice A' b.length cb] 27)
 rw [← hW0, hq] at h1
 have hp0 := Lib.hid (hp.ext hE0)
 have HE0 := Lib.hid hE0
 have HC := Lib.hid hC
 have Ha := Lib.hid (RN.up ha hE0)
 have Hb := Lib.hid (RN.up hb hE0)
 have Hx := Lib.hid hx
 have Hy := Lib.hid hy
 rw [hq]
 obtain ⟨res, hres⟩ : ∃ o, encC C bi x y = o := ⟨_, rfl⟩
 rw [hres]
 have Hres := Lib.hid hres
 clear hp hE0 hC hres ha hb hx hy
 go_enter Try.func26, Try.ntmps26
 go_upto_region 1 with fail
 rw [← hW0]
 have Hq := Lib.hid hq
 clear hW0 hq
 obtain ⟨o1, ho1⟩ : ∃ o, onQ C bi x y = o := ⟨_, rfl⟩
 have Ho1 := Lib.hid ho1
 clear ho1
 go_upto_region 2 with (go_at_call 42; refine (of_c HC.out _).mono ?_; rintro e wa ⟨k, rfl, hk, hE1⟩)
 have HE1 := Lib.hid hE1
 replace h1 := hE1.at_ h1
 clear hE1
 cases o1
 case false =>
  obtain rfl : res = none := by rw [← Hres.out, encC, if_neg (by rw [Ho1.out]; decide)]
  refine Par.region_txt 4 [0, 0, 3, 7] [] (fun j f X => match j with
   | 0 => f 0 = .pointer (some ⟨k, 0, none⟩)
   | 1 => f 1 = .agg #[.bool bi, .slice A a.length ca, .slice A' b.length cb]
   | 2 => f 2 = .bool false
   | 3 => f 3 = .bool true
   | _ => True) (by kernel_rfl) [(13, 0), (14, 1), (15, 2), (16, 3)] (by kernel_rfl) ?_
  refine Par.v0 1 3 ?_
  refine lV0 2 2 h1 infoP ?_
  refine Par.c0 3 1 (fun f => #[f 0, f 1]) (F' := 43) (fun f X hX hR => ?_) ?_
  · have e0 : f 0 = _ := hR.out 0 rfl
    have e1 : f 1 = _ := hR.out 1 rfl
    simp only [e0, e1]
    refine (on_j (hk.ext hX) HC.out.fine (hp0.out.ext (HE1.out.trans hX))).mono ?_
    rw [Ho1.out]
    rintro e w2 ⟨rfl, hB⟩
    exact ⟨_, rfl, hB, fun _ _ => rfl⟩
  refine Par.v1 4 0 2 ?_
  refine Par.AllOps.fin ⟨fun f X hX hR hal hap => ?_⟩
  have e3 : f 3 = _ := hR 3 (by decide)
  simp only [yA, yB, yD, yE, e3]
  clear hR hal hap e3
  refine Par.Chain.done ?_
  go_wp2
  go_ret2
  exact ⟨none, 0, rfl, RB.nil_ _ _, (HE0.out.trans HE1.out).trans hX⟩
 case true =>
  cases bi
  case true =>
   obtain rfl : res = some [0] := by rw [← Hres.out, encC, if_pos Ho1.out]; rfl
   refine Par.region_txt 4 [0, 0, 3, 7] [] (fun j f X => match j with
    | 0 => f 0 = .pointer (some ⟨k, 0, none⟩)
    | 1 => f 1 = .agg #[.bool true, .slice A a.length ca, .slice A' b.length cb]
    | 2 => f 2 = .bool true
    | 3 => f 3 = .bool false
    | _ => True) (by kernel_rfl) [(13, 0), (14, 1), (15, 2), (16, 3)] (by kernel_rfl) ?_
   refine Par.v0 1 3 ?_
   refine lV0 2 2 h1 infoP ?_
   refine Par.c0 3 1 (fun f => #[f 0, f 1]) (F' := 43) (fun f X hX hR => ?_) ?_
   · have e0 : f 0 = _ := hR.out 0 rfl
     have e1 : f 1 = _ := hR.out 1 rfl
     simp only [e0, e1]
     refine (on_j (hk.ext hX) HC.out.fine (hp0.out.ext (HE1.out.trans hX))).mono ?_
     rw [Ho1.out]
     rintro e w2 ⟨rfl, hB⟩
     exact ⟨_, rfl, hB, fun _ _ => rfl⟩
   refine Par.v1 4 0 2 ?_
   refine Par.AllOps.fin ⟨fun f X hX hR hal hap => ?_⟩
   have e3 : f 3 = _ := hR 3 (by decide)
   simp only [yA, yB, yD, yE, e3]
   clear hR hal hap e3
   refine Par.Chain.done ?_
   have c0 := blk_cell (hX.at_ h1) 0
   simp only [List.getElem?_toArray, List.getElem?_cons_zero] at c0
   have HX := Lib.hid ((HE0.out.trans HE1.out).trans hX)
   clear hX h1
   rename World => X2
   have hw := OW.lit X2 0 (by omega)
   go_wp2
   go_ret2
   have := HX.out.bsize
   have := Hq.out
   exact ⟨_, _, rfl, (hw.rb (by simp)).mono (fun b hb => ⟨by have := hb.1; omega, hb.2⟩), HX.out.trans (Ext.alloc _ _)⟩
  case false =>
   obtain ⟨hxM, hyM⟩ := onQ_lt Ho1.out rfl
   obtain rfl : res = some (4 :: (bytesOf x C.size ++ bytesOf y C.size)) := by rw [← Hres.out, encC, if_pos Ho1.out]; rfl
   refine Par.region_txt 4 [0, 0, 3, 7] [] (fun j f X => match j with
    | 0 => f 0 = .pointer (some ⟨k, 0, none⟩)
    | 1 => f 1 = .agg #[.bool false, .slice A a.length ca, .slice A' b.length cb]
    | 2 => f 2 = .bool true
    | 3 => f 3 = .bool false
    | _ => True) (by kernel_rfl) [(13, 0), (14, 1), (15, 2), (16, 3)] (by kernel_rfl) ?_
   refine Par.v0 1 3 ?_
   refine lV0 2 2 h1 infoP ?_
   refine Par.c0 3 1 (fun f => #[f 0, f 1]) (F' := 43) (fun f X hX hR => ?_) ?_
   · have e0 : f 0 = _ := hR.out 0 rfl
     have e1 : f 1 = _ := hR.out 1 rfl
     simp only [e0, e1]
     refine (on_j (hk.ext hX) HC.out.fine (hp0.out.ext (HE1.out.trans hX))).mono ?_
     rw [Ho1.out]
     rintro e w2 ⟨rfl, hB⟩
     exact ⟨_, rfl, hB, fun _ _ => rfl⟩
   refine Par.v1 4 0 2 ?_
   refine Par.AllOps.fin ⟨fun f X hX hR hal hap => ?_⟩
   have e3 : f 3 = _ := hR 3 (by decide)
   simp only [yA, yB, yD, yE, e3]
   clear hR hal hap e3
   refine Par.Chain.done ?_
   have hk2 := hk.ext hX
   have ks := hk2.size
   have HX := Lib.hid hX
   have HEX := Lib.hid ((HE0.out.trans HE1.out).trans hX)
   replace h1 := hX.at_ h1
   have c0 := blk_cell h1 0
   have c1 := blk_cell h1 1
   have c2 := blk_cell h1 2
   simp only [List.getElem?_toArray, List.getElem?_cons_zero, List.getElem?_cons_succ] at c0 c1 c2
   have HM := Lib.hid HC.out.fine
   clear hX h1
   rename World => X2
   go_upto_region 6 with fail
   refine Par.region_ext (by kernel_rfl) 12 [0, 1, 0, 4, 12, 28, 63, 127, 255, 255, 511, 2047] [] (fun j f X => match j with
    | 0 => f 0 = .pointer (some ⟨q, 1, none⟩)
    | 1 => f 1 = .slice A a.length ca
    | 2 => f 2 = .pointer (some ⟨k, 0, none⟩)
    | 3 => f 3 = .pointer (some ⟨k, 0, none⟩)
    | 4 => f 4 = .pointer (some ⟨k, 0, none⟩)
    | 5 => f 5 = .int .i64 (C.size : Int)
    | 6 => ∃ A1, f 6 = .tuple #[.slice A1 C.size C.size, .bool true] ∧ RB X (fun b => b < X.heap.size) A1 C.size (bytesOf x C.size)
    | 7 => ∃ A1, f 7 = .tuple #[.slice A1 C.size C.size, .bool true] ∧ RB X (fun b => b < X.heap.size) A1 C.size (bytesOf x C.size)
    | 8 => ∃ A1, f 8 = .slice A1 C.size C.size ∧ RB X (fun b => b < X.heap.size) A1 C.size (bytesOf x C.size)
    | 9 => f 9 = .bool true
    | 10 => ∃ A1, f 10 = .slice A1 C.size C.size ∧ RB X (fun b => b < X.heap.size) A1 C.size (bytesOf x C.size)
    | 11 => f 11 = .bool true
    | _ => True) (by kernel_rfl) [(21, 0), (22, 1), (23, 2), (24, 3), (25, 4), (26, 5), (27, 6), (20, 7), (28, 8), (29, 9), (7, 10), (8, 11)] (by kernel_rfl) ?_
   refine Par.v0 1 11 ?_
   refine Par.ld1 2 10 0 c1 ?_
   refine Par.v0 3 9 ?_
   refine Par.v1 4 8 2 ?_
   refine Par.v1 5 7 3 ?_
   refine Par.ld1 6 6 4 ks ?_
   refine Par.c0 7 5 (fun f => #[f 1, f 5]) (F' := 61) (fun f X hX hR => ?_) ?_
   · have e1 : f 1 = _ := hR.out 1 rfl
     have e5 : f 5 = _ := hR.out 5 rfl
     simp only [e1, e5]
     refine (bytes_yes _ A ca a C.size X (RN.up Ha.out ((HE1.out.trans HX.out).trans hX)) (fun b hb => hb) (by have := HM.out.small; omega) (by rw [Hx.out]; exact HM.out.bits hxM)).mono ?_
     rw [Hx.out]
     rintro e w2 ⟨A1, rfl, hO, hB⟩
     exact ⟨_, rfl, hB, fun Y hY => ⟨A1, rfl, RB.upE (hO.mono fun b hb => hb.2) hY⟩⟩
   refine Par.S 8 4 [(21, 0), (22, 1), (23, 2), (24, 3), (25, 4), (26, 5), (27, 6)] (fun f X hX hR K hK => ?_) ?_
   · obtain ⟨A6, (e6 : f 6 = _), o6⟩ := hR.out 6 rfl
     simp only [yA, yB, yC, yD, yE, e6]
     refine ⟨?_⟩
     go_simp
     exact hK.out _ _ _ (by simp only [yA, yB, yC, yD, yE, e6]) (Ext.refl _) trivial (fun Y hY => ⟨A6, rfl, o6.upE hY⟩)
   refine Par.S 9 3 [(21, 0), (22, 1), (23, 2), (24, 3), (25, 4), (26, 5), (27, 6), (20, 7), (29, 9)] (fun f X hX hR K hK => ?_) ?_
   · obtain ⟨A7, (e7 : f 7 = _), o7⟩ := hR.out 7 rfl
     simp only [yA, yB, yC, yD, yE, e7]
     refine ⟨?_⟩
     go_simp
     exact hK.out _ _ _ (by simp only [yA, yB, yC, yD, yE, e7]) (Ext.refl _) trivial (fun Y hY => ⟨A7, rfl, o7.upE hY⟩)
   refine Par.S 10 2 [(21, 0), (22, 1), (23, 2), (24, 3), (25, 4), (26, 5), (27, 6), (20, 7), (28, 8), (7, 10)] (fun f X hX hR K hK => ?_) ?_
   · obtain ⟨A7, (e7 : f 7 = _), o7⟩ := hR.out 7 rfl
     simp only [yA, yB, yC, yD, yE, e7]
     refine ⟨?_⟩
     go_simp
     exact Par.k hK (s := by simp only [yA, yB, yC, yD, yE, e7])
   refine Par.S 11 1 [(21, 0), (22, 1), (23, 2), (24, 3), (25, 4), (26, 5), (27, 6), (20, 7), (28, 8), (29, 9)] (fun f X hX hR K hK => ?_) ?_
   · obtain ⟨A8, (e8 : f 8 = _), o8⟩ := hR.out 8 rfl
     simp only [yA, yB, yC, yD, yE, e8]
     refine ⟨?_⟩
     go_simp
     exact hK.out _ _ _ (by simp only [yA, yB, yC, yD, yE, e8]) (Ext.refl _) trivial (fun Y hY => ⟨A8, rfl, o8.upE hY⟩)
   refine Par.v1 12 0 9 ?_
   refine Par.AllOps.fin ⟨fun f X hX hR hal hap => ?_⟩
   obtain ⟨A6, (e6 : f 6 = _), o6⟩ := hR 6 (by decide)
   obtain ⟨A7, (e7 : f 7 = _), o7⟩ := hR 7 (by decide)
   obtain ⟨A8, (e8 : f 8 = _), o8⟩ := hR 8 (by decide)
   obtain ⟨Bx, (e10 : f 10 = _), o10⟩ := hR 10 (by decide)
   simp only [yA, yB, yD, yE, e6, e7, e8, e10]
   clear hR hal hap e6 e7 e8 e10
   refine Par.Chain.done ?_
   have HXY := Lib.hid hX
   replace c2 := hX.cell c2
   replace ks := hX.cell ks
   have HOx := Lib.hid o10
   clear hX o6 o7 o8 o10 c0 c1
   rename World => X3
   go_upto_region 7 with fail
   refine Par.region_ext (by kernel_rfl) 12 [0, 1, 0, 4, 12, 28, 63, 127, 255, 255, 511, 2047] [] (fun j f X => match j with
    | 0 => f 0 = .pointer (some ⟨q, 2, none⟩)
    | 1 => f 1 = .slice A' b.length cb
    | 2 => f 2 = .pointer (some ⟨k, 0, none⟩)
    | 3 => f 3 = .pointer (some ⟨k, 0, none⟩)
    | 4 => f 4 = .pointer (some ⟨k, 0, none⟩)
    | 5 => f 5 = .int .i64 (C.size : Int)
    | 6 => ∃ A1, f 6 = .tuple #[.slice A1 C.size C.size, .bool true] ∧ RB X (fun b => b < X.heap.size) A1 C.size (bytesOf y C.size)
    | 7 => ∃ A1, f 7 = .tuple #[.slice A1 C.size C.size, .bool true] ∧ RB X (fun b => b < X.heap.size) A1 C.size (bytesOf y C.size)
    | 8 => ∃ A1, f 8 = .slice A1 C.size C.size ∧ RB X (fun b => b < X.heap.size) A1 C.size (bytesOf y C.size)
    | 9 => f 9 = .bool true
    | 10 => ∃ A1, f 10 = .slice A1 C.size C.size ∧ RB X (fun b => b < X.heap.size) A1 C.size (bytesOf y C.size)
    | 11 => f 11 = .bool true
    | _ => True) (by kernel_rfl) [(31, 0), (32, 1), (33, 2), (34, 3), (35, 4), (36, 5), (37, 6), (30, 7), (38, 8), (39, 9), (9, 10), (10, 11)] (by kernel_rfl) ?_
   refine Par.v0 1 11 ?_
   refine Par.ld1 2 10 0 c2 ?_
   refine Par.v0 3 9 ?_
   refine Par.v1 4 8 2 ?_
   refine Par.v1 5 7 3 ?_
   refine Par.ld1 6 6 4 ks ?_
   refine Par.c0 7 5 (fun f => #[f 1, f 5]) (F' := 61) (fun f X hX hR => ?_) ?_
   · have e1 : f 1 = _ := hR.out 1 rfl
     have e5 : f 5 = _ := hR.out 5 rfl
     simp only [e1, e5]
     refine (bytes_yes _ A' cb b C.size X (RN.up Hb.out (((HE1.out.trans HX.out).trans HXY.out).trans hX)) (fun b hb => hb) (by have := HM.out.small; omega) (by rw [Hy.out]; exact HM.out.bits hyM)).mono ?_
     rw [Hy.out]
     rintro e w2 ⟨A1, rfl, hO, hB⟩
     exact ⟨_, rfl, hB, fun Y hY => ⟨A1, rfl, RB.upE (hO.mono fun b hb => hb.2) hY⟩⟩
   refine Par.S 8 4 [(31, 0), (32, 1), (33, 2), (34, 3), (35, 4), (36, 5), (37, 6)] (fun f X hX hR K hK => ?_) ?_
   · obtain ⟨A6, (e6 : f 6 = _), o6⟩ := hR.out 6 rfl
     simp only [yA, yB, yC, yD, yE, e6]
     refine ⟨?_⟩
     go_simp
     exact hK.out _ _ _ (by simp only [yA, yB, yC, yD, yE, e6]) (Ext.refl _) trivial (fun Y hY => ⟨A6, rfl, o6.upE hY⟩)
   refine Par.S 9 3 [(31, 0), (32, 1), (33, 2), (34, 3), (35, 4), (36, 5), (37, 6), (30, 7), (39, 9)] (fun f X hX hR K hK => ?_) ?_
   · obtain ⟨A7, (e7 : f 7 = _), o7⟩ := hR.out 7 rfl
     simp only [yA, yB, yC, yD, yE, e7]
     refine ⟨?_⟩
     go_simp
     exact hK.out _ _ _ (by simp only [yA, yB, yC, yD, yE, e7]) (Ext.refl _) trivial (fun Y hY => ⟨A7, rfl, o7.upE hY⟩)
   refine Par.S 10 2 [(31, 0), (32, 1), (33, 2), (34, 3), (35, 4), (36, 5), (37, 6), (30, 7), (38, 8), (9, 10)] (fun f X hX hR K hK => ?_) ?_
   · obtain ⟨A7, (e7 : f 7 = _), o7⟩ := hR.out 7 rfl
     simp only [yA, yB, yC, yD, yE, e7]
     refine ⟨?_⟩
     go_simp
     exact Par.k hK (s := by simp only [yA, yB, yC, yD, yE, e7])
   refine Par.S 11 1 [(31, 0), (32, 1), (33, 2), (34, 3), (35, 4), (36, 5), (37, 6), (30, 7), (38, 8), (39, 9)] (fun f X hX hR K hK => ?_) ?_
   · obtain ⟨A8, (e8 : f 8 = _), o8⟩ := hR.out 8 rfl
     simp only [yA, yB, yC, yD, yE, e8]
     refine ⟨?_⟩
     go_simp
     exact hK.out _ _ _ (by simp only [yA, yB, yC, yD, yE, e8]) (Ext.refl _) trivial (fun Y hY => ⟨A8, rfl, o8.upE hY⟩)
   refine Par.v1 12 0 9 ?_
   refine Par.AllOps.fin ⟨fun f X hX hR hal hap => ?_⟩
   obtain ⟨A6, (e6 : f 6 = _), o6⟩ := hR 6 (by decide)
   obtain ⟨A7, (e7 : f 7 = _), o7⟩ := hR 7 (by decide)
   obtain ⟨A8, (e8 : f 8 = _), o8⟩ := hR 8 (by decide)
   obtain ⟨By, (e10 : f 10 = _), o10⟩ := hR 10 (by decide)
   simp only [yA, yB, yD, yE, e6, e7, e8, e10]
   clear hR hal hap e6 e7 e8 e10
   refine Par.Chain.done ?_
   have HXZ := Lib.hid hX
   have hx8 := Lib.hid (HOx.out.upE hX)
   have hy8 := Lib.hid o10
   clear hX o6 o7 o8 o10 c2 ks
   rename World => X4
   obtain ⟨B0, hB0⟩ : ∃ B, X4.heap.size = B := ⟨_, rfl⟩
   have hl : OW (X4.alloc (.cells #[.int .u8 4] 5)) X4.heap.size (some ⟨X4.heap.size, 0, none⟩) 1 [4] := OW.lit X4 4 (by omega)
   have hA := Ext.alloc X4 (.cells #[.int .u8 4] 5)
   have hx9 := Lib.hid ((hx8.out).below hA (fun b hb => hb))
   have hy9 := Lib.hid ((hy8.out).below hA (fun b hb => hb))
   have hz9 : (X4.alloc (.cells #[.int .u8 4] 5)).heap.size = B0 + 1 := by rw [World.size_alloc, hB0]
   have HA := Lib.hid hA
   rw [hB0] at hl
   have Hl := Lib.hid hl
   have HB0 := Lib.hid hB0
   have lx := bytesOf_len x C.size
   have ly := bytesOf_len y C.size
   have HS := Lib.hid lx
   have HT := Lib.hid ly
   have Hsm := Lib.hid HM.out.small
   have Hz9 := Lib.hid hz9
   clear hl hA hz9 lx ly
   go_upto_region 8 with fail
   go_wp2_with (at_builtin; first
    | (refine app8 rfl (.tmp 40) (.tmp 41) rfl B0 rfl Hl.out (by rw [HS.out]; rfl) hx9.out (by rw [HS.out]; have := Hsm.out; simp; omega) (by have := Hz9.out; omega) ?_; intro A1 c1 w1 hw1 hb1; have Hw1 := Lib.hid hw1; have Hb1 := Lib.hid hb1; clear hw1 hb1)
    | (refine app8 rfl (.tmp 42) (.tmp 43) rfl B0 rfl Hw1.out (by rw [HT.out]; rfl) (hy9.out.below Hb1.out (fun b hb => by have := HB0.out; omega)) (by rw [List.length_append, HS.out, HT.out]; have := Hsm.out; simp; omega) (by have := Hz9.out; have := Hb1.out.size; omega) ?_; intro A2 c2 w2 hw2 hb2; have Hw2 := Lib.hid hw2; have Hb2 := Lib.hid hb2; clear hw2 hb2))
   go_ret2
   have hEx := (HEX.out.trans HXY.out).trans HXZ.out
   have hq : q ≤ B0 := by have := hEx.bsize; have := Hq.out; omega
   have hrb := Hw2.out.rb (by rw [List.length_append, List.length_append, HS.out, HT.out]; have := Hsm.out; simp; omega)
   refine ⟨A2, c2, ?_, hrb.mono (fun b hb => ⟨by have := hb.1; omega, hb.2⟩), Below.trans (hEx.trans HA.out) (Below.mono (Hb1.out.trans Hb2.out) (by have := hEx.bsize; omega))⟩
   show _ = Ending.returned (.tuple #[.slice A2 (4 :: (bytesOf x C.size ++ bytesOf y C.size)).length c2, .bool true])
   rw [List.length_cons, List.length_append]
   rfl
def downE (M k x y z : Nat) : Option (Nat × Nat) := if z % M = 0 then none else some (mm M x (mm M (Pm.pw M z k (M - 2)) (Pm.pw M z k (M - 2))) % M, mm M y (mm M (mm M (Pm.pw M z k (M - 2)) (Pm.pw M z k (M - 2))) (Pm.pw M z k (M - 2))) % M)
theorem down_eval {M k x y z : Nat} (hk : M - 2 < 2 ^ k) : downP M x y z = downE M k x y z := by
 unfold downP downE
 split
 · rfl
 · rw [Pm.pw_eq k _ hk]
   have h1 : mm M (z ^ (M - 2)) (z ^ (M - 2)) = mm M (z ^ (M - 2) % M) (z ^ (M - 2) % M) := by simp only [mm]; rw [← Nat.mul_mod]
   have h2 : ∀ a, mm M a (z ^ (M - 2)) = mm M a (z ^ (M - 2) % M) := fun a => by simp only [mm]; rw [Nat.mul_mod, Nat.mul_mod a (z ^ (M - 2) % M), Nat.mod_mod]
   simp only [h1, h2]
def bx : Nat := 48439561293906451759052585252797914202762949526041747995844080717082404635286
def by_ : Nat := 36134250956749795798585127919587881956611106672985015071877198253568414405109
def x2 : Nat := 56515219790691171413109057904011688695424810155802929973526481321309856242040
def y2 : Nat := 3377031843712258259223711451491452598088675519751548567112458094635497583569
def p256 : Nat := 115792089210356248762697446949407573530086143415290314195533631308867097853951
theorem c256_M : c256.M = p256 := by kernel_rfl
theorem c256_x : val 18446744073709551616 c256.xl = bx := by kernel_rfl
theorem c256_y : val 18446744073709551616 c256.yl = by_ := by kernel_rfl
theorem on_base : onQ c256 false bx by_ = true := by kernel_rfl
theorem on_two : onQ c256 false x2 y2 = true := by kernel_rfl
theorem mul_two : mulC c256 false bx by_ 2 = some (some (x2, y2)) := by
 rw [mulC, if_pos on_base, if_pos (by decide +kernel)]
 rw [downT, down_eval (k := 256) (by rw [c256_M]; decide +kernel)]
 kernel_rfl
theorem add_two : addC c256 false bx by_ false bx by_ = some (some (x2, y2)) := by
 rw [addC, if_pos on_base, if_pos on_base]
 rw [downT, down_eval (k := 256) (by rw [c256_M]; decide +kernel)]
 kernel_rfl
def eb : List Nat := 4 :: (bytesOf x2 32 ++ bytesOf y2 32)
theorem eb_len : eb.length = 65 := by kernel_rfl
theorem enc_two : encC c256 false x2 y2 = some eb := by
 rw [encC, if_pos on_two]
 rfl
theorem dec_two : decC c256 eb = some (some (x2, y2)) := by kernel_rfl
theorem digs_x2 : digs 18446744073709551616 x2 = [11964737083406719352, 13873736548487404341, 9967090510939364035, 9003393950442278782] := by
 rw [show x2 = val 18446744073709551616 [11964737083406719352, 13873736548487404341, 9967090510939364035, 9003393950442278782] by kernel_rfl]
 exact digs_val (by omega) (by decide) (by decide)
theorem nl_len : c256.nl.length = 4 := rfl
theorem isC1 : IsC 1 c256 := Or.inl ⟨rfl, rfl⟩
theorem isC2 : IsC 2 c384 := Or.inr ⟨rfl, rfl⟩
def PB (X : World) (b : Nat) (bi : Bool) (x y : Nat) : Prop := ∃ p1 p2, X.heap[b]? = some (.cells #[.bool bi, p1, p2] 27 (0, 0)) ∧ APt X (.agg #[.bool bi, p1, p2]) bi x y
theorem PB.ext {X Y : World} {b : Nat} {bi : Bool} {x y : Nat} (h : PB X b bi x y) (hE : Ext X Y) : PB Y b bi x y := let ⟨p1, p2, h1, h2⟩ := h; ⟨p1, p2, hE.at_ h1, h2.ext hE⟩
theorem neq_nilP (w : World) (f : Fn) (a b : Array Value) : (binOp .neq 59 (.func f a b) .nilFunc).run Try.prog w = .ok (.bool true) w := by kernel_rfl
theorem begun9_any (w : World) : Calls Try.prog 10 #[] w fun e w' => e = .returned (.bool true) ∧ Ext w w' := by
 go_enter Try.func10, Try.ntmps10
 go_upto_region 2 with (go_at_call 20; refine (base_c isC1 _).mono ?_; rintro e w1 ⟨A, cc, A', cc', rfl, hA, hA', hE1⟩)
 have hp1 : APt w1 (.agg #[.bool false, .slice A c256.xl.length cc, .slice A' c256.yl.length cc']) false bx by_ := ⟨A, A', cc, cc', _, _, rfl, hA, hA', c256_x, c256_y⟩
 generalize Value.slice A c256.xl.length cc = s1 at *
 generalize Value.slice A' c256.yl.length cc' = s2 at *
 have hb1 := heap_alloc_new w1 (.cells #[.bool false, s1, s2] 27)
 have hA1 := Ext.alloc w1 (.cells #[.bool false, s1, s2] 27)
 replace hp1 := hp1.ext hA1
 have HE1 := Lib.hid (hE1.trans hA1)
 generalize hV1 : w1.alloc (.cells #[.bool false, s1, s2] 27) = V1 at *
 obtain ⟨b1, hq1⟩ : ∃ b, w1.heap.size = b := ⟨_, rfl⟩
 rw [hq1] at hb1 ⊢
 have Hp1 := Lib.hid hp1
 have hA2 := Ext.alloc V1 (.cells #[.int .u64 2] 72)
 have htwo : RU (V1.alloc (.cells #[.int .u64 2] 72)) (some ⟨V1.heap.size, 0, none⟩) 1 [2] := (RN.one V1 2 (by omega)).mono (fun b hb => by rw [World.size_alloc]; exact hb.2)
 have hmul := mul_c isC1 (n := [2]) (E := 2) (V1.alloc (.cells #[.int .u64 2] 72)) (hp1.ext hA2) htwo rfl
 rw [mul_two, show [2].length = 1 from rfl] at hmul
 have Hmul := Lib.hid hmul
 replace hb1 := hA2.at_ hb1
 have HE2 := Lib.hid (HE1.out.trans hA2)
 replace Hp1 := Lib.hid (Hp1.out.ext hA2)
 obtain ⟨z10, z11, z12, q10, q11, q12⟩ := pt_facts hb1
 clear hA hA' hE1 hA1 hV1 hq1 hp1 htwo hmul hA2 HE1
 go_upto_region 3 with (go_at_call 15; refine Hmul.out.mono ?_; rintro e w2 ⟨o2, rfl, ⟨A2, k2, A2', k2', rfl, hx2, hy2⟩, hE2⟩)
 replace hb1 := hE2.at_ hb1
 replace Hp1 := Lib.hid (Hp1.out.ext hE2)
 have hp2 : APt w2 (.agg #[.bool false, .slice A2 (digs 18446744073709551616 x2).length k2, .slice A2' (digs 18446744073709551616 y2).length k2']) false x2 y2 := ⟨A2, A2', k2, k2', _, _, rfl, hx2.ru, hy2.ru, val_digs (by omega) _, val_digs (by omega) _⟩
 generalize Value.slice A2 (digs 18446744073709551616 x2).length k2 = s3 at *
 generalize Value.slice A2' (digs 18446744073709551616 y2).length k2' = s4 at *
 have hb2 := heap_alloc_new w2 (.cells #[.bool false, s3, s4] 27)
 have hA2 := Ext.alloc w2 (.cells #[.bool false, s3, s4] 27)
 generalize hV2 : w2.alloc (.cells #[.bool false, s3, s4] 27) = V2 at *
 obtain ⟨b2, hq2⟩ : ∃ b, w2.heap.size = b := ⟨_, rfl⟩
 rw [hq2] at hb2 ⊢
 have Hp2 := Lib.hid (hp2.ext hA2)
 have HE3 := Lib.hid ((HE2.out.trans hE2).trans hA2)
 replace hb1 := hA2.at_ hb1
 replace Hp1 := Lib.hid (Hp1.out.ext hA2)
 obtain ⟨z10, z11, z12, q10, q11, q12⟩ := pt_facts hb1
 have hadd := add_c isC1 V2 Hp1.out Hp1.out
 rw [add_two] at hadd
 have Hadd := Lib.hid hadd
 clear hx2 hy2 hE2 hp2 hA2 hV2 hq2 Hmul HE2 hadd
 go_upto_region 4 with (go_at_call 21; refine Hadd.out.mono ?_; rintro e w3 ⟨o3, rfl, ⟨A3, k3, A3', k3', rfl, hx3, hy3⟩, hE3⟩)
 replace hb1 := hE3.at_ hb1
 replace hb2 := hE3.at_ hb2
 have hp3 : APt w3 (.agg #[.bool false, .slice A3 (digs 18446744073709551616 x2).length k3, .slice A3' (digs 18446744073709551616 y2).length k3']) false x2 y2 := ⟨A3, A3', k3, k3', _, _, rfl, hx3.ru, hy3.ru, val_digs (by omega) _, val_digs (by omega) _⟩
 generalize Value.slice A3 (digs 18446744073709551616 x2).length k3 = s5 at *
 generalize Value.slice A3' (digs 18446744073709551616 y2).length k3' = s6 at *
 have hb3 := heap_alloc_new w3 (.cells #[.bool false, s5, s6] 27)
 have hA3 := Ext.alloc w3 (.cells #[.bool false, s5, s6] 27)
 generalize hV3 : w3.alloc (.cells #[.bool false, s5, s6] 27) = V3 at *
 obtain ⟨b3, hq3⟩ : ∃ b, w3.heap.size = b := ⟨_, rfl⟩
 rw [hq3] at hb3 ⊢
 replace hb1 := hA3.at_ hb1
 replace hb2 := hA3.at_ hb2
 replace Hp2 := Lib.hid (Hp2.out.ext (hE3.trans hA3))
 have Hp3 := Lib.hid (hp3.ext hA3)
 have HE4 := Lib.hid (HE3.out.trans (hE3.trans hA3))
 obtain ⟨y10, y11, y12, r10, r11, r12⟩ := pt_facts hb2
 have henc := encode_c isC1 V3 Hp2.out
 rw [enc_two, Option.getD_some, eb_len] at henc
 have Henc := Lib.hid henc
 clear hx3 hy3 hE3 hp3 hA3 hV3 hq3 Hadd HE3 henc Hp1 z10 z11 z12 q10 q11 q12
 go_upto_region 5 with (go_at_call 26; refine Henc.out.mono ?_; rintro e w4 ⟨A4, k4, rfl, hr4, hE4⟩)
 replace hb1 := hE4.at_ hb1
 replace hb3 := hE4.at_ hb3
 have HE5 := Lib.hid (HE4.out.trans hE4)
 replace Hp3 := Lib.hid (Hp3.out.ext hE4)
 have hdec := decode_c isC1 _ A4 k4 _ w4 hr4 (fun b hb => hb.2)
 rw [eb_len, dec_two] at hdec
 have Hdec := Lib.hid hdec
 clear hr4 hE4 Henc HE4 hdec hb2 y10 y11 y12 r10 r11 r12 Hp2
 go_upto_region 6 with (go_at_call 27; refine Hdec.out.mono ?_; rintro e w5 ⟨o5, rfl, ⟨A5, k5, A5', k5', rfl, hx5, hy5⟩, hE5⟩)
 replace hb1 := hE5.at_ hb1
 replace hb3 := hE5.at_ hb3
 rw [digs_x2]
 rw [show [11964737083406719352, 13873736548487404341, 9967090510939364035, 9003393950442278782].length = 4 from rfl]
 generalize Value.slice A5' (digs 18446744073709551616 y2).length k5' = s8 at *
 have hb8 := heap_alloc_new w5 (.cells #[.bool false, .slice A5 4 k5, s8] 27)
 have hA8 := Ext.alloc w5 (.cells #[.bool false, .slice A5 4 k5, s8] 27)
 generalize hV8 : w5.alloc (.cells #[.bool false, .slice A5 4 k5, s8] 27) = V8 at *
 obtain ⟨b8, hq8⟩ : ∃ b, w5.heap.size = b := ⟨_, rfl⟩
 rw [hq8] at hb8 ⊢
 have HE6 := Lib.hid (HE5.out.trans (hE5.trans hA8))
 replace Hp3 := Lib.hid (Hp3.out.ext (hE5.trans hA8))
 replace hb1 := hA8.at_ hb1
 replace hb3 := hA8.at_ hb3
 obtain ⟨z10, z11, z12, q10, q11, q12⟩ := pt_facts hb1
 clear hx5 hy5 hE5 hA8 hV8 hq8 Hdec HE5
 go_upto_region 7 with (go_at_call 30; refine (multiples_any 1 V8).mono ?_; rintro e w6 ⟨rfl, hw6⟩; have hE6 : Ext V8 w6 := (by rw [hw6]; exact (Ext.alloc _ _).trans (Ext.alloc _ _)); clear hw6)
 replace hb3 := hE6.at_ hb3
 replace hb8 := hE6.at_ hb8
 obtain ⟨y30, y31, y32, r30, r31, r32⟩ := pt_facts hb3
 obtain ⟨y80, y81, y82, r80, r81, r82⟩ := pt_facts hb8
 have hon := onx_c isC1 w6 (Hp3.out.ext hE6)
 rw [on_two] at hon
 have Hon := Lib.hid hon
 have HE7 := Lib.hid (HE6.out.trans hE6)
 have hnn := fun W => neq_nilP W (.func 65) #[] #[.pointer (some ⟨V8.heap.size, 0, none⟩), .pointer (some ⟨V8.heap.size + 1, 0, none⟩)]
 clear hb1 z10 z11 z12 q10 q11 q12 hE6 hon HE6
 go_wp2_with (first
  | (go_at_call 37; refine Hon.out.mono ?_; rintro e w7 ⟨rfl, hE7⟩; have x81 := hE7.cell y81)
  | (go_at_call 35; refine (size_c isC2 _).mono ?_; rintro e w8 ⟨rfl, hE8⟩; rw [show ((c384.size : Nat) : Int) = 48 from rfl])
  | (go_at_call 24; refine (order_c isC1 _).mono ?_; rintro e w9 ⟨A9, k9, rfl, hr9, hE9⟩; rw [nl_len]))
 go_ret
 exact ⟨rfl, ((HE7.out.trans hE7).trans hE8).trans hE9⟩
def IsU (c : Int) (C : Crv) : Prop := IsC c C ∨ (c ≠ 1 ∧ c ≠ 2 ∧ C = c0)
theorem isU (c : Int) : ∃ C, IsU c C := by
 by_cases h1 : c = 1
 · exact ⟨c256, Or.inl (Or.inl ⟨h1, rfl⟩)⟩
 · by_cases h2 : c = 2
   · exact ⟨c384, Or.inl (Or.inr ⟨h2, rfl⟩)⟩
   · exact ⟨c0, Or.inr ⟨h1, h2, rfl⟩⟩
structure Crv.Norm (C : Crv) : Prop where
 p : digs 18446744073709551616 C.M = C.pl
 n : digs 18446744073709551616 (val 18446744073709551616 C.nl) = C.nl
 x : digs 18446744073709551616 (val 18446744073709551616 C.xl) = C.xl
 y : digs 18446744073709551616 (val 18446744073709551616 C.yl) = C.yl
def Crv.inf (C : Crv) : Bool := C.size == 0
theorem IsC.inf {c : Int} {C : Crv} (h : IsC c C) : C.inf = false := by
 rcases h with ⟨_, rfl⟩ | ⟨_, rfl⟩ <;> rfl
theorem ron_none {v : Value} (bi : Bool) (u1 u2 : Value) (w : World) (hc : RC w c0 v) : Calls Try.prog 16 #[v, .agg #[.bool bi, u1, u2]] w fun e w' => e = .returned (.bool false) ∧ Ext w w' := by
 obtain ⟨Ap, An, Ab, Ax, Ay, cp, cn, cb, cx, cy, rfl, h1, h2, h3, h4, h5⟩ := hc
 rw [show c0.size = 0 by rfl]
 go_enter Try.func16, Try.ntmps16
 go_wp2
 go_ret
 exact ⟨rfl, (Ext.alloc _ _).trans (Ext.alloc _ _)⟩
theorem point_none {c : Int} (g1 : c ≠ 1) (g2 : c ≠ 2) (A : Option Addr) (n cap : Nat) (sp : Bool) (w : World) :
 Calls Try.prog 12 #[.int .i64 c, .slice A n cap, .bool sp] w fun e w' => e = .returned (.agg #[.bool false, .slice A n cap, .slice A n cap]) ∧ Ext w w' := by
 have hr := heap_alloc_new w (.cells #[.bool false, .slice none 0 0, .slice none 0 0] 27)
 have hA0 := Ext.alloc w (.cells #[.bool false, .slice none 0 0, .slice none 0 0] 27)
 obtain ⟨W0, hW0⟩ : ∃ W0, W0 = w.alloc (.cells #[.bool false, .slice none 0 0, .slice none 0 0] 27) := ⟨_, rfl⟩
 obtain ⟨b0, hb0⟩ : ∃ b, w.heap.size = b := ⟨_, rfl⟩
 rw [← hW0, hb0] at hr
 rw [← hW0] at hA0
 have HA0 := Lib.hid hA0
 clear hA0
 go_enter Try.func12, Try.ntmps12
 go_upto_region 1 with fail
 rw [← hW0]
 have Hb0 := Lib.hid hb0
 clear hW0 hb0
 go_upto_region 2 with (go_at_call 13; refine (refOf_none g1 g2 _).mono ?_; rintro e w2 ⟨v, rfl, ⟨Ap, An, Ab, Ax, Ay, cp, cn, cb, cx, cy, rfl, hp, hn, hb, hx, hy⟩, hE2⟩)
 have hc0 := heap_alloc_new w2 (.cells #[.slice Ap (digs 4294967296 c0.M).length cp, .slice An (digs 4294967296 (val 18446744073709551616 c0.nl)).length cn, .slice Ab (digs 4294967296 c0.bb).length cb, .slice Ax (digs 4294967296 (val 18446744073709551616 c0.xl)).length cx, .slice Ay (digs 4294967296 (val 18446744073709551616 c0.yl)).length cy, .int .i64 (c0.size : Int)] 31)
 have hA := Ext.alloc w2 (.cells #[.slice Ap (digs 4294967296 c0.M).length cp, .slice An (digs 4294967296 (val 18446744073709551616 c0.nl)).length cn, .slice Ab (digs 4294967296 c0.bb).length cb, .slice Ax (digs 4294967296 (val 18446744073709551616 c0.xl)).length cx, .slice Ay (digs 4294967296 (val 18446744073709551616 c0.yl)).length cy, .int .i64 (c0.size : Int)] 31)
 replace hr := hA.at_ (hE2.at_ hr)
 have HE := Lib.hid (HA0.out.trans (hE2.trans hA))
 generalize hV1 : w2.alloc (.cells #[.slice Ap (digs 4294967296 c0.M).length cp, .slice An (digs 4294967296 (val 18446744073709551616 c0.nl)).length cn, .slice Ab (digs 4294967296 c0.bb).length cb, .slice Ax (digs 4294967296 (val 18446744073709551616 c0.xl)).length cx, .slice Ay (digs 4294967296 (val 18446744073709551616 c0.yl)).length cy, .int .i64 (c0.size : Int)] 31) = V1 at *
 obtain ⟨b1, hq1⟩ : ∃ b, w2.heap.size = b := ⟨_, rfl⟩
 rw [hq1] at hc0 ⊢
 clear hV1 hq1 hp hn hb hx hy hE2 hA HA0
 have z5 := blk_cell hc0 5
 rw [show c0.size = 0 by rfl] at z5
 obtain ⟨y0, y1, y2, f0, f1, f2⟩ := pt_facts hr
 go_wp2
 exact end_p rfl rfl rfl (pt_set hr _ _ _) ⟨rfl, pt_ext HE.out (by have := Hb0.out; omega) _ _ _⟩
end Go.Proofs.Ytldhmjfjbalakaa

namespace Go.Proofs.Ytldhmjfjbalakaa
open Go.RowKit
theorem eql_nilP (w : World) (f : Fn) (a b : Array Value) : (binOp .eql 59 (.func f a b) .nilFunc).run Try.prog w = .ok (.bool false) w := by kernel_rfl
attribute [local go_sem] eql_nilP Oper.semAt_some
theorem mult_law_c {c : Int} {C : Crv} (hC : IsC c C) {P : Nat → Prop} {A : Option Addr} {cap : Nat} {l : List Nat} (sp : Bool) (nn : Int) (w : World) (hk : RL w P A cap l) (hP : ∀ b, P b → b < w.heap.size) :
 Calls Try.prog 6 #[.int .i64 c, .slice A l.length cap, .bool sp, .int .i64 nn] w fun e w' => e = .returned (.bool true) ∧ Ext w w' := by
 obtain ⟨l1, hl1⟩ : ∃ x, l.take 1 = x := ⟨_, rfl⟩
 obtain ⟨R, hR⟩ : ∃ R, rmulP C.M false (val 18446744073709551616 C.xl) (val 18446744073709551616 C.yl) (val 18446744073709551616 l1) = R := ⟨_, rfl⟩
 have Hl1 := Lib.hid hl1
 have HR := Lib.hid hR
 have HC := Lib.hid hC
 have HK := Lib.hid hk
 have HP := Lib.hid hP
 clear hl1 hR hC hk hP
 refine (callsIn_wide (n := 6)).1 ?_
 refine callsIn_of_wp_marks Try.func6 rfl trivial ?_ rfl
 simp only [Try.ntmps6, List.size_toArray, List.length_cons, List.length_nil, Nat.reduceAdd, Nat.reduceSub, Array.replicate_succ, Array.replicate_zero, List.push_toArray, List.append_toArray, List.nil_append, List.cons_append]
 refine wpIn_wide.2 ?_
 go_upto_region 1 with fail
 have h7 := (two_at2 w (.cells #[.int .i64 nn] 3) (.cells #[.bool false] 4)).1
 have h8 := (two_at2 w (.cells #[.int .i64 nn] 3) (.cells #[.bool false] 4)).2.1
 have hA2 : Ext w ((w.alloc (.cells #[.int .i64 nn] 3)).alloc (.cells #[.bool false] 4)) := (Ext.alloc _ _).trans (Ext.alloc _ _)
 have HE := Lib.hid hA2
 generalize hV : (w.alloc (.cells #[.int .i64 nn] 3)).alloc (.cells #[.bool false] 4) = V0 at *
 obtain ⟨b7, hq⟩ : ∃ b, w.heap.size = b := ⟨_, rfl⟩
 rw [hq] at h7 h8 ⊢
 have hw7 : w.heap.size ≤ b7 := Nat.le_of_eq hq
 clear hV hq hA2
 go_upto_region 2 with (go_at_call 10; refine (begun9_any _).mono ?_; rintro e w1 ⟨rfl, hE1⟩)
 replace h7 := hE1.at_ h7
 replace h8 := hE1.at_ h8
 replace HE := Lib.hid (HE.out.trans hE1)
 clear hE1
 go_upto_region 3 with (go_at_call 12; refine (point_c HC.out sp Hl1.out HR.out w1 (HK.out.below HE.out HP.out) (fun b hb => Nat.lt_of_lt_of_le (HP.out b hb) HE.out.bsize)).mono ?_; rintro e w2 ⟨v, bi, a, b, rfl, ⟨A3, B3, c3, d3, rfl, hx3, hy3⟩, la, lb, hG, hE2⟩)
 replace h7 := hE2.at_ h7
 replace h8 := hE2.at_ h8
 replace HE := Lib.hid (HE.out.trans hE2)
 have Hp := Lib.hid (show APn w2 (.agg #[.bool bi, .slice A3 a.length c3, .slice B3 b.length d3]) bi a b from ⟨A3, B3, c3, d3, rfl, hx3, hy3⟩)
 have Hla := Lib.hid la
 have Hlb := Lib.hid lb
 clear hx3 hy3 la lb hG hE2
 generalize Value.slice A3 a.length c3 = s1 at *
 generalize Value.slice B3 b.length d3 = s2 at *
 have h10 := heap_alloc_new w2 (.cells #[.bool bi, s1, s2] 27)
 have hA := Ext.alloc w2 (.cells #[.bool bi, s1, s2] 27)
 replace h7 := hA.at_ h7
 replace h8 := hA.at_ h8
 replace HE := Lib.hid (HE.out.trans hA)
 replace Hp := Lib.hid (Hp.out.ext hA)
 generalize hV : w2.alloc (.cells #[.bool bi, s1, s2] 27) = V2 at *
 obtain ⟨b10, hq⟩ : ∃ b, w2.heap.size = b := ⟨_, rfl⟩
 rw [hq] at h10 ⊢
 clear hV hq hA
 go_upto_region 4 with (go_at_call 13; refine (refOf_c HC.out _).mono ?_; rintro e w3 ⟨v, rfl, ⟨Ap, An, Ab, Ax, Ay, cp, cn, cb, cx, cy, rfl, hp, hn, hb, hx, hy⟩, hE3⟩)
 have Hrc := Lib.hid (show RC w3 C (.agg #[.slice Ap (digs 4294967296 C.M).length cp, .slice An (digs 4294967296 (val 18446744073709551616 C.nl)).length cn, .slice Ab (digs 4294967296 C.bb).length cb, .slice Ax (digs 4294967296 (val 18446744073709551616 C.xl)).length cx, .slice Ay (digs 4294967296 (val 18446744073709551616 C.yl)).length cy, .int .i64 (C.size : Int)]) from ⟨Ap, An, Ab, Ax, Ay, cp, cn, cb, cx, cy, rfl, hp, hn, hb, hx, hy⟩)
 clear hp hn hb hx hy
 replace h7 := hE3.at_ h7
 replace h8 := hE3.at_ h8
 replace h10 := hE3.at_ h10
 replace HE := Lib.hid (HE.out.trans hE3)
 replace Hp := Lib.hid (Hp.out.ext hE3)
 clear hE3
 have h11 := heap_alloc_new w3 (.cells #[.slice Ap (digs 4294967296 C.M).length cp, .slice An (digs 4294967296 (val 18446744073709551616 C.nl)).length cn, .slice Ab (digs 4294967296 C.bb).length cb, .slice Ax (digs 4294967296 (val 18446744073709551616 C.xl)).length cx, .slice Ay (digs 4294967296 (val 18446744073709551616 C.yl)).length cy, .int .i64 (C.size : Int)] 31)
 have hA := Ext.alloc w3 (.cells #[.slice Ap (digs 4294967296 C.M).length cp, .slice An (digs 4294967296 (val 18446744073709551616 C.nl)).length cn, .slice Ab (digs 4294967296 C.bb).length cb, .slice Ax (digs 4294967296 (val 18446744073709551616 C.xl)).length cx, .slice Ay (digs 4294967296 (val 18446744073709551616 C.yl)).length cy, .int .i64 (C.size : Int)] 31)
 replace h7 := hA.at_ h7
 replace h8 := hA.at_ h8
 replace h10 := hA.at_ h10
 replace HE := Lib.hid (HE.out.trans hA)
 replace Hp := Lib.hid (Hp.out.ext hA)
 replace Hrc := Lib.hid (Hrc.out.ext hA)
 generalize hV : w3.alloc (.cells #[.slice Ap (digs 4294967296 C.M).length cp, .slice An (digs 4294967296 (val 18446744073709551616 C.nl)).length cn, .slice Ab (digs 4294967296 C.bb).length cb, .slice Ax (digs 4294967296 (val 18446744073709551616 C.xl)).length cx, .slice Ay (digs 4294967296 (val 18446744073709551616 C.yl)).length cy, .int .i64 (C.size : Int)] 31) = V3 at *
 obtain ⟨b11, hq⟩ : ∃ b, w3.heap.size = b := ⟨_, rfl⟩
 rw [hq] at h11 ⊢
 clear hV hq hA
 obtain ⟨x, hx⟩ : ∃ x, (if bi then 0 else val 18446744073709551616 a) = x := ⟨_, rfl⟩
 have Hx := Lib.hid hx
 clear hx
 obtain ⟨y, hy⟩ : ∃ x, (if bi then 0 else val 18446744073709551616 b) = x := ⟨_, rfl⟩
 have Hy := Lib.hid hy
 clear hy
 refine Par.region_txt 3 [0, 1, 0, 7] [2] (fun j f X => match j with
  | 0 => f 0 = .agg #[.bool bi, s1, s2]
  | 1 => ∃ A B c d, f 1 = .agg #[.bool bi, .slice A (digs 4294967296 x).length c, .slice B (digs 4294967296 y).length d] ∧ RU X A c (digs 4294967296 x) ∧ RU X B d (digs 4294967296 y)
  | 2 => ∃ b, f 2 = .pointer (some ⟨b, 0, none⟩) ∧ V3.heap.size ≤ b ∧ X.heap[b]? = some (.cells #[.bool false, .slice none 0 0, .slice none 0 0] 34 (0, 0))
  | _ => True) (by kernel_rfl) [(24, 0), (25, 1), (12, 2)] (by kernel_rfl) ?_
 refine lV0 1 2 h10 infoP ?_
 refine Par.c0 2 1 (fun f => #[f 0]) (F' := 14) (fun f X hX hR => ?_) ?_
 · have e0 : f 0 = _ := hR.out 0 rfl
   simp only [e0]
   refine (rfrom_n X (Hp.out.ext hX) Hla.out Hlb.out).mono ?_
   rw [Hx.out, Hy.out]
   rintro e w2 ⟨o, rfl, ⟨A, B, c, d, rfl, hu, hv⟩, hB⟩
   exact ⟨(.agg #[.bool bi, .slice A (digs 4294967296 x).length c, .slice B (digs 4294967296 y).length d]), rfl, hB, fun Y hY => ⟨A, B, c, d, rfl, RN.up hu hY, RN.up hv hY⟩⟩
 refine Par.al 3 0 ?_
 refine Par.AllOps.fin ⟨fun f X hX hR hal hap => ?_⟩
 obtain ⟨A1, B1, c1, d1, (e1 : f 1 = _), h1, k1⟩ := hR 1 (by decide)
 obtain ⟨bz2, (e2 : f 2 = _), lz2, hz2⟩ := hR 2 (by decide)
 simp only [yA, yB, yD, yE, e1, e2]
 clear hR hal hap e1 e2
 refine Par.Chain.next (fun K hK => ⟨Par.want (by kernel_rfl) (wp_storeV (cs' := #[.bool bi, .slice A1 (digs 4294967296 x).length c1, .slice B1 (digs 4294967296 y).length d1]) (t := 34) 34 (.tmp 12) (.tmp 25) rfl rfl rfl rfl hz2 infoRP rfl (pt_one _ _ _ _ _ _ _) (fun Y h11' h12' h13' => hK.out _ _ ?_))⟩)
 refine Par.Chain.done ?_
 have hEY : Ext V3 Y := h12'.ext hX lz2
 have h12 := h11'
 have Hu := Lib.hid (RN.offJ h1 h12' hz2 (by kernel_rfl))
 have Hv := Lib.hid (RN.offJ k1 h12' hz2 (by kernel_rfl))
 obtain ⟨b12, hb12⟩ : ∃ b, bz2 = b := ⟨_, rfl⟩
 clear h1 k1 h11' h12' h13' hX
 replace h7 := hEY.at_ h7
 replace h8 := hEY.at_ h8
 replace h10 := hEY.at_ h10
 replace h11 := hEY.at_ h11
 replace HE := Lib.hid (HE.out.trans hEY)
 replace Hp := Lib.hid (Hp.out.ext hEY)
 replace Hrc := Lib.hid (Hrc.out.ext hEY)
 clear hEY hz2 lz2
 subst hb12
 rename World => V4
 obtain ⟨y0, y1, y2, f0, f1, f2⟩ := pt_facts h10
 go_upto_region 6 with (go_at_call 30; refine (multiples_any c _).mono ?_; rintro e w5 ⟨rfl, rfl⟩)
 clear y0 y1 y2 f0 f1 f2
 have k7 := blk_lt h8
 have hbc := (two_at2 V4 (.cells #[.int .i64 c] 3) (.cells #[.bool bi, s1, s2] 27)).1
 have hbp := (two_at2 V4 (.cells #[.int .i64 c] 3) (.cells #[.bool bi, s1, s2] 27)).2.1
 have hA2 : Ext V4 ((V4.alloc (.cells #[.int .i64 c] 3)).alloc (.cells #[.bool bi, s1, s2] 27)) := (Ext.alloc _ _).trans (Ext.alloc _ _)
 replace h7 := hA2.at_ h7
 replace h8 := hA2.at_ h8
 replace h10 := hA2.at_ h10
 replace h11 := hA2.at_ h11
 replace h12 := hA2.at_ h12
 replace HE := Lib.hid (HE.out.trans hA2)
 replace Hp := Lib.hid (Hp.out.ext hA2)
 replace Hrc := Lib.hid (Hrc.out.ext hA2)
 replace Hu := Lib.hid (RN.up Hu.out hA2)
 replace Hv := Lib.hid (RN.up Hv.out hA2)
 generalize hV : (V4.alloc (.cells #[.int .i64 c] 3)).alloc (.cells #[.bool bi, s1, s2] 27) = V5 at *
 obtain ⟨bc, hq⟩ : ∃ b, V4.heap.size = b := ⟨_, rfl⟩
 rw [hq] at k7
 rw [hq] at hbc hbp ⊢
 clear hV hq hA2
 have c7 := blk_cell h7 0
 have f7 := blk_free h7 0
 simp only [List.getElem?_toArray, List.getElem?_cons_zero] at c7
 go_upto_region 8 with fail
 go_cut [36] from 29 (fun s36 wx => s36 = .bool (decide (nn < 1 ∨ 6 < nn)) ∧ wx = V5)
 case first =>
  rcases Int.lt_or_le nn 1 with h1 | h1
  · have t1 : decide (nn < 1) = true := decide_eq_true h1
    have t3 : decide (nn < 1 ∨ 6 < nn) = true := decide_eq_true (.inl h1)
    go_wp2
    go_meet
    case rel => exact ⟨by rw [t3], rfl⟩
  · have t1 : decide (nn < 1) = false := decide_eq_false (by omega)
    rcases Int.lt_or_le 6 nn with h2 | h2
    · have t2 : decide (6 < nn) = true := decide_eq_true h2
      have t3 : decide (nn < 1 ∨ 6 < nn) = true := decide_eq_true (.inr h2)
      go_wp2
      go_meet
      case rel => exact ⟨by rw [t3], rfl⟩
    · have t2 : decide (6 < nn) = false := decide_eq_false (by omega)
      have t3 : decide (nn < 1 ∨ 6 < nn) = false := decide_eq_false (by omega)
      go_wp2
      go_meet
      case rel => exact ⟨by rw [t3], rfl⟩
 case rest =>
  obtain ⟨rfl, rfl⟩ := hcut
  obtain ⟨bb, hbb⟩ : ∃ bb, decide (nn < 1 ∨ 6 < nn) = bb := ⟨_, rfl⟩
  rw [hbb]
  go_upto_if 36 with fail
  go_cut [] from 29 (fun wx => ∃ z : Int, (1 ≤ z ∧ z ≤ 6) ∧ wx.heap[b7]? = some (.cells #[.int .i64 z] 3 (0, 0)) ∧ Just b7 wc wx)
  case first =>
   rcases bb with _ | _
   · have h1 := of_decide_eq_false hbb
     clear hbb
     go_wp2
     go_meet
     case rel => exact ⟨nn, by omega, h7, Just.refl _ _⟩
   · clear hbb
     go_wp2
     go_meet
     case rel => exact ⟨6, by omega, (one_set h7 (.int .i64 6)).1, (one_set h7 (.int .i64 6)).2⟩
  case rest =>
   rename World => V7
   obtain ⟨z, hz1, h7', hj7⟩ := hcut
   clear hbb
   have hku := KU.just hj7 h7 (by intro i n e; rcases i with _ | i <;> simp at e)
   replace h8 := hj7.at_ (by omega) h8
   replace h10 := hj7.at_ (fun e => by rw [e, h7] at h10; simp at h10) h10
   replace h11 := hj7.at_ (fun e => by rw [e, h7] at h11; simp at h11) h11
   replace h12 := hj7.at_ (fun e => by rw [e, h7] at h12; simp at h12) h12
   replace hbp := hj7.at_ (fun e => by rw [e, h7] at hbp; simp at hbp) hbp
   replace hbc := hj7.at_ (by omega) hbc
   replace HE := Lib.hid (hj7.ext HE.out hw7)
   replace Hrc := Lib.hid (Hrc.out.ku hku)
   replace Hp := Lib.hid (Hp.out.ku hku)
   replace Hu := Lib.hid (RN.kuu Hu.out hku)
   replace Hv := Lib.hid (RN.kuu Hv.out hku)
   clear hku hj7 h7 c7 f7
   have h7 := h7'
   clear h7'
   obtain ⟨N, rfl⟩ : ∃ N : Nat, z = (N : Int) := ⟨z.toNat, by omega⟩
   have hN1 : 1 ≤ N ∧ N ≤ 6 := by omega
   go_upto_region 11 with fail
   have lw14 := HE.out.bsize
   have h14 := heap_alloc_new V7 (.cells #[.int .i64 0] 3)
   have hA := Ext.alloc V7 (.cells #[.int .i64 0] 3)
   replace h7 := hA.at_ h7
   replace h8 := hA.at_ h8
   replace h10 := hA.at_ h10
   replace h11 := hA.at_ h11
   replace h12 := hA.at_ h12
   replace hbc := hA.at_ hbc
   replace hbp := hA.at_ hbp
   replace HE := Lib.hid (HE.out.trans hA)
   replace Hp := Lib.hid (Hp.out.ext hA)
   replace Hrc := Lib.hid (Hrc.out.ext hA)
   replace Hu := Lib.hid (RN.up Hu.out hA)
   replace Hv := Lib.hid (RN.up Hv.out hA)
   generalize hV : V7.alloc (.cells #[.int .i64 0] 3) = V8 at *
   obtain ⟨b14, hq⟩ : ∃ b, V7.heap.size = b := ⟨_, rfl⟩
   rw [hq] at lw14
   rw [hq] at h14 ⊢
   clear hV hq hA
   go_upto_region 12 with fail
   have o12 := blk_lt h12
   have lw15 := HE.out.bsize
   have h15 := heap_alloc_new V8 (.cells #[.bool true, .slice none 0 0, .slice none 0 0] 34)
   have hA := Ext.alloc V8 (.cells #[.bool true, .slice none 0 0, .slice none 0 0] 34)
   replace h7 := hA.at_ h7
   replace h8 := hA.at_ h8
   replace h10 := hA.at_ h10
   replace h11 := hA.at_ h11
   replace h12 := hA.at_ h12
   replace hbc := hA.at_ hbc
   replace hbp := hA.at_ hbp
   replace h14 := hA.at_ h14
   replace HE := Lib.hid (HE.out.trans hA)
   replace Hp := Lib.hid (Hp.out.ext hA)
   replace Hrc := Lib.hid (Hrc.out.ext hA)
   replace Hu := Lib.hid (RN.up Hu.out hA)
   replace Hv := Lib.hid (RN.up Hv.out hA)
   generalize hV : V8.alloc (.cells #[.bool true, .slice none 0 0, .slice none 0 0] 34) = V9 at *
   obtain ⟨b15, hq⟩ : ∃ b, V8.heap.size = b := ⟨_, rfl⟩
   rw [hq] at o12 lw15
   rw [hq] at h15 ⊢
   clear hV hq hA
   go_wp2
   have z14 := blk_lt h14
   have z15 := blk_lt h15
   have z7 := blk_lt h7
   have z8 := blk_lt h8
   have z11 := blk_lt h11
   have z12 := blk_lt h12
   have n1415 : b14 ≠ b15 := fun e => by rw [e, h15] at h14; simp at h14
   have n7a : b7 ≠ b14 := fun e => by rw [e, h14] at h7; simp at h7; omega
   have n7b : b7 ≠ b15 := fun e => by rw [e, h15] at h7; simp at h7
   have nh8a : b7 + 1 ≠ b14 := fun e => by rw [e, h14] at h8; simp at h8
   have nh8b : b7 + 1 ≠ b15 := fun e => by rw [e, h15] at h8; simp at h8
   have nh11a : b11 ≠ b14 := fun e => by rw [e, h14] at h11; simp at h11
   have nh11b : b11 ≠ b15 := fun e => by rw [e, h15] at h11; simp at h11
   have nh12a : bz2 ≠ b14 := fun e => by rw [e, h14] at h12; simp at h12
   have nh12b : bz2 ≠ b15 := fun e => by rw [e, h15] at h12; omega
   obtain ⟨q, hq⟩ : ∃ q, onQ C bi (val 18446744073709551616 a) (val 18446744073709551616 b) = q := ⟨_, rfl⟩
   have hq0 := onQ_bi C bi (val 18446744073709551616 a) (val 18446744073709551616 b)
   rw [Hx.out, Hy.out, hq] at hq0
   have Hq0 := Lib.hid hq0
   clear hq0
   cases q
   case false =>
    have Hseq := Lib.hid (mult_off HC.out V9 hbc hbp Hp.out.pt hq (fun _ _ _ => False))
    have H0 := Lib.hid (show LawI V9.heap.size b14 b15 V9 (true, 0, 0) 0 V9 from ⟨rfl, rfl, rfl, KU.refl _, fun _ _ _ _ _ h => h, h14, _, h15, RPd.inf_ _⟩)
    clear hbc hbp
    refine (wpIn_wide (n := 6)).1 ?_
    refine' wpIn_iterX (by omega) (gf := 65) (lb := #[.pointer (some ⟨bc, 0, none⟩), .pointer (some ⟨bc + 1, 0, none⟩)]) rfl (enters_of Try.func65 (by kernel_rfl) rfl)
     Hseq.out (fun h k => KC.trans h k) (fun Z l o o' _ hl hc _ => KC.put Z l o o' hl hc) tjac_keeps (Below.refl _ _) (fun _ _ => rfl)
     (fun _ Z => LawI V9.heap.size b14 b15 V9 (true, 0, 0) 0 Z) (fun _ Z => LawI V9.heap.size b14 b15 V9 (true, 0, 0) 0 Z) (fun _ _ _ => False)
     (fun _ Z Z' row hi hg hr => LawI.own z14 z15 0 Z Z' row hi hg hr) (fun _ Z Z' row hi hg hr => LawI.own z14 z15 0 Z Z' row hi hg hr) (fun _ _ _ _ _ h => h.elim)
     (fun _ _ _ _ => trivial) (fun B k A' C' hB _ hi ht => LawI.jac (k := 0) hi z14 z15 (Nat.le_refl _) hB hB ht) (fun h => by cases h) H0.out
     (fun _ _ _ _ => False) (fun _ _ _ _ _ h => h.elim) (fun _ _ _ _ _ _ hv => hv.elim) (fun _ _ _ _ h => h.elim) ?done (fun _ _ _ _ _ _ _ h => h.elim)
    case done =>
     rintro D U hD hl hKD
     have g7 := hl.blk b7 _ z7 n7a n7b h7
     have g8 := hl.blk (b7 + 1) _ z8 nh8a nh8b h8
     have g11 := hl.blk b11 _ z11 nh11a nh11b h11
     have g12 := hl.blk bz2 _ z12 nh12a nh12b h12
     have g14 : U.heap[b14]? = some (.cells #[.int .i64 0] 3 (0, 0)) := hl.cnt
     have HrcU := Lib.hid (Hrc.out.ku hl.ku)
     have HuU := Lib.hid (RN.kuu Hu.out hl.ku)
     have HvU := Lib.hid (RN.kuu Hv.out hl.ku)
     have w9 := HE.out.bsize
     have w10 := hl.ku.1
     have HEU := Lib.hid (show Ext w U from ⟨hl.os.trans HE.out.os, hl.tape.trans HE.out.tape, hl.output.trans HE.out.output, Nat.le_trans w9 w10, fun b hb => by
      have ho := Array.getElem?_eq_getElem hb
      exact (hl.blk b _ (by omega) (by omega) (by omega) (HE.out.at_ ho)).trans ho.symm⟩)
     have c7 := blk_cell g7 0
     have c14 := blk_cell g14 0
     simp only [List.getElem?_toArray, List.getElem?_cons_zero] at c7 c14
     clear hl
     gi_wp2
     go_upto_region 21 with fail
     refine Par.region_ext (by kernel_rfl) 10 [0, 1, 3, 3, 15, 3, 3, 99, 255, 511, 1023] [] (fun j f X => match j with
      | 0 => f 0 = .bool true
      | 1 => f 1 = .bool true
      | 2 => f 2 = .int .i64 0
      | 3 => f 3 = .int .i64 (N : Int)
      | 4 => f 4 = .bool false
      | 5 => f 5 = .agg #[.slice Ap (digs 4294967296 C.M).length cp, .slice An (digs 4294967296 (val 18446744073709551616 C.nl)).length cn, .slice Ab (digs 4294967296 C.bb).length cb, .slice Ax (digs 4294967296 (val 18446744073709551616 C.xl)).length cx, .slice Ay (digs 4294967296 (val 18446744073709551616 C.yl)).length cy, .int .i64 (C.size : Int)]
      | 6 => f 6 = .agg #[.bool bi, .slice A1 (digs 4294967296 x).length c1, .slice B1 (digs 4294967296 y).length d1]
      | 7 => f 7 = .bool false
      | 8 => f 8 = .bool true
      | 9 => f 9 = .bool true
      | _ => True) (by kernel_rfl) [(57, 0), (58, 1), (59, 2), (60, 3), (61, 4), (62, 5), (63, 6), (64, 7), (65, 8), (66, 9)] (by kernel_rfl) ?_
     refine Par.v0 1 9 ?_
     refine Par.v1 2 8 0 ?_
     refine Par.ld1 3 7 1 c14 ?_
     refine Par.ld1 4 6 1 c7 ?_
     refine Par.S 5 5 [(57, 0), (58, 1), (59, 2), (60, 3), (62, 5), (63, 6), (64, 7)] (fun f X hX hR K hK => ?_) ?_
     · have e1 : f 1 = _ := hR.out 1 rfl
       have e2 : f 2 = _ := hR.out 2 rfl
       have e3 : f 3 = _ := hR.out 3 rfl
       have nn0 : ((0 : Int) == (N : Int)) = false := by rw [beq_eq_false_iff_ne]; omega
       have nn1 : ¬ (0 : Int) = (N : Int) := by omega
       have nn2 : decide ((0 : Int) = (N : Int)) = false := decide_eq_false nn1
       simp only [yA, yB, yC, yD, yE, e1, e2, e3]
       refine ⟨Par.want (by kernel_rfl) ?_⟩
       go_simp
       exact Par.k hK (s := by simp only [yA, yB, yC, yD, yE, e1, e2, e3])
     refine lV1 6 4 1 g11 infoRC ?_
     refine lV1 7 3 1 g12 infoRP ?_
     refine Par.c1 8 2 1 (fun f => #[f 5, f 6]) (F' := 16) (fun f X hX hR => ?_) ?_
     · have e5 : f 5 = _ := hR.out 5 rfl
       have e6 : f 6 = _ := hR.out 6 rfl
       simp only [e5, e6]
       refine (refOn_any HC.out.fine _ _ _ _ _ _ _ _ (HrcU.out.ext hX) (RN.up HuU.out hX) (RN.up HvU.out hX)).mono ?_
       rw [Hq0.out]
       rintro e w2 ⟨rfl, hB⟩
       exact ⟨_, rfl, hB, fun _ _ => rfl⟩
     refine Par.S 9 1 [(57, 0), (58, 1), (59, 2), (60, 3), (61, 4), (62, 5), (63, 6), (64, 7)] (fun f X hX hR K hK => ?_) ?_
     · have e1 : f 1 = _ := hR.out 1 rfl
       have e4 : f 4 = _ := hR.out 4 rfl
       have e7 : f 7 = _ := hR.out 7 rfl
       simp only [yA, yB, yC, yD, yE, e1, e4, e7]
       refine ⟨Par.want (by kernel_rfl) ?_⟩
       go_simp
       exact Par.k hK (s := by simp only [yA, yB, yC, yD, yE, e1, e4, e7])
     refine Par.v2 10 0 1 8 ?_
     refine Par.AllOps.fin ⟨fun f X hX hR hal hap => ?_⟩
     have e9 : f 9 = _ := hR 9 (by decide)
     simp only [yA, yB, yD, yE, e9]
     clear hR hal hap e9
     have g8X := hX.at_ g8
     have c8 := blk_cell g8X 0
     have f8 := blk_free g8X 0
     simp only [List.getElem?_toArray, List.getElem?_cons_zero] at c8
     refine Par.Chain.next (fun K hK => ⟨Par.want (by kernel_rfl) ?_⟩)
     go_simp
     refine hK.out _ _ ?_
     refine Par.Chain.done ?_
     obtain ⟨g8', hj8⟩ := one_set g8X (.bool true)
     generalize World.setCell _ ⟨b7 + 1, 0, none⟩ (.bool true) = Y at *
     have hKY : Y.heap[D]? = some (.deferred (some [])) := hj8.at_ (by omega) (hX.at_ hKD)
     have hres : (Y.putObj D (.deferred none)).heap[b7 + 1]? = some (.cells #[.bool true] 4 (0, 0)) := (World.putObj_heap_other (by omega)).trans g8'
     have hEY : Ext w Y := hj8.ext (HEU.out.trans hX) (by omega)
     go_wp2
     exact ⟨by simp, .inl ⟨_, _, rfl, run_takeDeferred hKY, _, res_bool rfl rfl hres, ⟨rfl, Below.trans hEY (belowK_b (w := w) (Nat.le_refl _) Y D _ _ (by omega) hKY rfl rfl)⟩⟩⟩
   case true =>
    obtain ⟨Sq, hSq⟩ : ∃ S : Nat → Option (Nat × Nat), (fun k => downT C.M (mulJ C.M (upP bi (val 18446744073709551616 a) (val 18446744073709551616 b)) k)) = S := ⟨_, rfl⟩
    obtain ⟨Tq, hTq⟩ : ∃ T : Nat → Bool × Nat × Nat, rs C.M bi x y = T := ⟨_, rfl⟩
    have HT0 := Lib.hid (show Tq 0 = (true, 0, 0) by rw [← hTq]; rfl)
    have HTs := Lib.hid (show ∀ k, raddP C.M (Tq k).1 (Tq k).2.1 (Tq k).2.2 bi x y = Tq (k + 1) from fun k => by rw [← hTq]; rfl)
    have HTa := Lib.hid (show ∀ k, Tq (k + 1) = trip (Sq k) from fun k => by rw [← hTq, ← hSq]; exact (mult_agree HC.out hq Hx.out Hy.out k).1)
    have HTb := Lib.hid (show ∀ k, (Tq k).1 = false → (Tq k).2.1 < C.M ∧ (Tq k).2.2 < C.M from fun k => by rw [← hTq]; exact (mult_agree HC.out hq Hx.out Hy.out k).2)
    have hseq : SeqAtV Try.prog 65 #[.pointer (some ⟨bc, 0, none⟩), .pointer (some ⟨bc + 1, 0, none⟩)] (fun _ v => #[v]) (fun k v Z => ∃ base, V9.heap.size ≤ base ∧ PtV Z base v (Sq k)) NoNeed TJac (KC V9.heap.size) 0 N false V9 := by rw [← hSq]; exact mult_seq HC.out V9 hbc hbp Hp.out.pt hq N
    have Hseq := Lib.hid hseq
    have Hxy := Lib.hid (show bi = false → x < C.M ∧ y < C.M from fun h => onB_lt (show onB C.M C.bb x y = true from by have h1 := Hq0.out; rw [h] at h1; exact h1))
    have H0 := Lib.hid (show 0 < N ∧ LawI V9.heap.size b14 b15 V9 (Tq 0) 0 V9 from ⟨by omega, rfl, rfl, rfl, KU.refl _, fun _ _ _ _ _ h => h, h14, _, h15, by rw [HT0.out]; exact RPd.inf_ _⟩)
    clear hTq hSq hseq hq hbc hbp
    refine (wpIn_wide (n := 6)).1 ?_
    refine' wpIn_iterX (by omega) (gf := 65) (lb := #[.pointer (some ⟨bc, 0, none⟩), .pointer (some ⟨bc + 1, 0, none⟩)]) rfl (enters_of Try.func65 (by kernel_rfl) rfl)
     Hseq.out (fun h k => KC.trans h k) (fun Z l o o' _ hl hc _ => KC.put Z l o o' hl hc) tjac_keeps (Below.refl _ _) (fun _ _ => rfl)
     (fun k Z => k < N ∧ LawI V9.heap.size b14 b15 V9 (Tq k) k Z) (fun k Z => k < N ∧ LawI V9.heap.size b14 b15 V9 (Tq k) k Z) (fun cc k Z => cc = .exit 0 ∧ k = N ∧ LawI V9.heap.size b14 b15 V9 (Tq k) k Z)
     (fun k Z Z' row hi hg hr => ⟨hi.1, LawI.own z14 z15 k Z Z' row hi.2 hg hr⟩) (fun k Z Z' row hi hg hr => ⟨hi.1, LawI.own z14 z15 k Z Z' row hi.2 hg hr⟩) (fun cc k Z Z' row hi hg hr => ⟨hi.1, hi.2.1, LawI.own z14 z15 k Z Z' row hi.2.2 hg hr⟩)
     (fun _ _ _ _ => trivial) (fun B k A' C' hB _ hi ht => ⟨hi.1, hi.2.jac z14 z15 (Nat.le_refl _) hB hB ht⟩) (fun _ Z h => absurd h.1 (by omega)) H0.out
     (fun a k a' Z => ∃ (q0 : Nat) (t1 t2 : Value), a' = { tmps := (a.tmps.setIfInBounds 39 (.agg #[.bool (Sq k).isNone, t1, t2])).setIfInBounds 16 (.pointer (some ⟨q0, 0, none⟩)), defers := [] } ∧ V9.heap.size ≤ q0 ∧ Z.heap[q0]? = some (.cells #[.bool (Sq k).isNone, t1, t2] 27 (0, 0)) ∧ APn Z (.agg #[.bool (Sq k).isNone, t1, t2]) (Sq k).isNone (digs 18446744073709551616 ((Sq k).elim 0 (·.1))) (digs 18446744073709551616 ((Sq k).elim 0 (·.2))) ∧ k < N ∧ LawI V9.heap.size b14 b15 V9 (Tq k) k Z) ?hIa ?assign ?body ?done ?stop
    case hIa =>
     rintro a' k Z Z' row ⟨q0, t1, t2, e, hq0, hb, hap, hk, hl⟩ hg hr
     exact ⟨q0, t1, t2, e, hq0, (grownBy_keeps_cells hg (fun r e => (hr r e).2) hb rfl).trans hb, hap.ku (KU.grown hg hr), hk, LawI.own z14 z15 k Z Z' row hl hg hr⟩
    case assign =>
     intro l k v Z K hi hv hk hz hK
     obtain ⟨base, hbase, hpv⟩ := hv
     have hap := hpv.pn
     obtain ⟨A8, B8, c8, d8, ev, hx8, hy8⟩ := hpv.pn
     rw [ev] at hap ⊢
     clear hpv hx8 hy8 ev
     have hn := heap_alloc_new Z (.cells #[.bool (Sq k).isNone, .slice A8 (digs 18446744073709551616 ((Sq k).elim 0 (·.1))).length c8, .slice B8 (digs 18446744073709551616 ((Sq k).elim 0 (·.2))).length d8] 27)
     have hK' := hK _ (Z.alloc (.cells #[.bool (Sq k).isNone, .slice A8 (digs 18446744073709551616 ((Sq k).elim 0 (·.1))).length c8, .slice B8 (digs 18446744073709551616 ((Sq k).elim 0 (·.2))).length d8] 27)) ⟨Z.heap.size, _, _, rfl, by omega, hn, hap.ext (Ext.alloc _ _), hk, hi.2.ext z14 z15 (Ext.alloc _ _)⟩ (Keeps.alloc _ _ _ _ _) (KC.ext (Ext.alloc _ _))
     simp only [List.setIfInBounds_toArray, List.set_cons_succ, List.set_cons_zero] at hK'
     have HK := Lib.hid hK'
     clear hK hK' hn hi hap
     gi_wp2
     exact HK.out
    case body =>
     rintro l k a' U ⟨q0, t1, t2, rfl, hq0, hqb, hap, hkN, hl⟩ _ hz
     simp only [List.setIfInBounds_toArray, List.set_cons_succ, List.set_cons_zero]
     have g11 := hl.blk b11 _ z11 nh11a nh11b h11
     have g12 := hl.blk bz2 _ z12 nh12a nh12b h12
     have g7 := hl.blk b7 _ z7 n7a n7b h7
     obtain ⟨cs, hcs, Aa, Ab', ca, cb', ecs, r1, r2⟩ := hl.sum
     obtain rfl : cs = #[.bool (Tq k).1, .slice Aa (digs 4294967296 (Tq k).2.1).length ca, .slice Ab' (digs 4294967296 (Tq k).2.2).length cb'] := by injection ecs
     clear ecs
     have HrcU := Lib.hid (Hrc.out.ku hl.ku)
     have HuU := Lib.hid (show RD V9.heap.size U A1 c1 _ from RN.mono (RN.ku Hu.out hl.ku) fun b hb => ⟨Nat.lt_of_lt_of_le hb hl.ku.1, .inl hb⟩)
     have HvU := Lib.hid (show RD V9.heap.size U B1 d1 _ from RN.mono (RN.ku Hv.out hl.ku) fun b hb => ⟨Nat.lt_of_lt_of_le hb hl.ku.1, .inl hb⟩)
     have HL := Lib.hid hl
     have Hap := Lib.hid hap
     have R1 := Lib.hid r1
     have R2 := Lib.hid r2
     clear hl hap r1 r2
     gi_upto_region 14 with fail
     refine Par.region_txt_in 4 [0, 0, 3, 7] [] (fun j f X => match j with
      | 0 => f 0 = .agg #[.slice Ap (digs 4294967296 C.M).length cp, .slice An (digs 4294967296 (val 18446744073709551616 C.nl)).length cn, .slice Ab (digs 4294967296 C.bb).length cb, .slice Ax (digs 4294967296 (val 18446744073709551616 C.xl)).length cx, .slice Ay (digs 4294967296 (val 18446744073709551616 C.yl)).length cy, .int .i64 (C.size : Int)]
      | 1 => f 1 = .agg #[.bool bi, .slice A1 (digs 4294967296 x).length c1, .slice B1 (digs 4294967296 y).length d1]
      | 2 => f 2 = .bool true
      | 3 => f 3 = .bool false
      | _ => True) (by kernel_rfl) [(40, 0), (41, 1), (42, 2), (43, 3)] (by kernel_rfl) (by kernel_rfl) ?_
     refine Par.S 1 3 [(41, 1)] (fun f X hX hR K hK => ?_) ?_
     · simp only [yA, yB, yC, yD, yE]
       refine ⟨Par.want (by kernel_rfl) (wp_loadV (v := .agg #[.slice Ap (digs 4294967296 C.M).length cp, .slice An (digs 4294967296 (val 18446744073709551616 C.nl)).length cn, .slice Ab (digs 4294967296 C.bb).length cb, .slice Ax (digs 4294967296 (val 18446744073709551616 C.xl)).length cx, .slice Ay (digs 4294967296 (val 18446744073709551616 C.yl)).length cy, .int .i64 (C.size : Int)]) (t := 31) 31 (.tmp 11) rfl rfl (hX.at_ g11) Try.underlying31 rfl infoRC rfl ?_)⟩
       exact Par.k hK (s := by simp only [yA, yB, yC, yD, yE])
     refine Par.S 2 2 [(40, 0)] (fun f X hX hR K hK => ?_) ?_
     · simp only [yA, yB, yC, yD, yE]
       refine ⟨Par.want (by kernel_rfl) (wp_loadV (v := .agg #[.bool bi, .slice A1 (digs 4294967296 x).length c1, .slice B1 (digs 4294967296 y).length d1]) (t := 34) 34 (.tmp 12) rfl rfl (hX.at_ g12) Try.underlying34 rfl infoRP rfl ?_)⟩
       exact Par.k hK (s := by simp only [yA, yB, yC, yD, yE])
     refine Par.S 3 1 [(40, 0), (41, 1)] (fun f X hX hR K hK => ?_) ?_
     · have e0 : f 0 = _ := hR.out 0 rfl
       have e1 : f 1 = _ := hR.out 1 rfl
       simp only [yA, yB, yC, yD, yE, e0, e1]
       refine ⟨?_⟩
       go_simp
       refine (refOn_any HC.out.fine _ _ _ _ _ _ _ _ (HrcU.out.ext hX) (RN.up HuU.out.ru hX) (RN.up HvU.out.ru hX)).mono ?_
       rw [Hq0.out]
       rintro e w2 ⟨rfl, hB⟩
       exact hK.out _ _ _ (by simp only [yA, yB, yC, yD, yE, e0, e1]) hB trivial (fun _ _ => rfl)
     refine Par.S 4 0 [(40, 0), (41, 1), (42, 2)] (fun f X hX hR K hK => ?_) ?_
     · have e2 : f 2 = _ := hR.out 2 rfl
       simp only [yA, yB, yC, yD, yE, e2]
       refine ⟨?_⟩
       go_simp
       exact Par.k hK (s := by simp only [yA, yB, yC, yD, yE, e2])
     refine Par.AllOps.fin ⟨fun f X hX hR hal hap => ?_⟩
     have e0 : f 0 = _ := hR 0 (by decide)
     have e1 : f 1 = _ := hR 1 (by decide)
     have e2 : f 2 = _ := hR 2 (by decide)
     have e3 : f 3 = _ := hR 3 (by decide)
     simp only [yA, yB, yD, yE, e0, e1, e2, e3]
     clear hR hal hap e0 e1 e2 e3
     refine Par.Chain.done ?_
     refine ⟨nofun, ?_⟩
     have HRK := Lib.hid (RdK.ext (D := V9.heap.size) hX)
     replace HL := Lib.hid (HL.out.ext z14 z15 hX)
     replace Hap := Lib.hid (Hap.out.ext hX)
     replace HrcU := Lib.hid (HrcU.out.ext hX)
     replace HuU := Lib.hid (HuU.out.up hX)
     replace HvU := Lib.hid (HvU.out.up hX)
     replace R1 := Lib.hid (R1.out.up hX)
     replace R2 := Lib.hid (R2.out.up hX)
     replace g11 := hX.at_ g11
     replace g12 := hX.at_ g12
     replace g7 := hX.at_ g7
     replace hcs := hX.at_ hcs
     replace hqb := hX.at_ hqb
     clear hX
     rename World => U2
     gi_upto_region 16 with fail
     refine Par.region_txt_in 4 [0, 0, 0, 7, 15] [] (fun j f X => match j with
      | 0 => f 0 = .agg #[.slice Ap (digs 4294967296 C.M).length cp, .slice An (digs 4294967296 (val 18446744073709551616 C.nl)).length cn, .slice Ab (digs 4294967296 C.bb).length cb, .slice Ax (digs 4294967296 (val 18446744073709551616 C.xl)).length cx, .slice Ay (digs 4294967296 (val 18446744073709551616 C.yl)).length cy, .int .i64 (C.size : Int)]
      | 1 => f 1 = .agg #[.bool (Tq k).1, .slice Aa (digs 4294967296 (Tq k).2.1).length ca, .slice Ab' (digs 4294967296 (Tq k).2.2).length cb']
      | 2 => f 2 = .agg #[.bool bi, .slice A1 (digs 4294967296 x).length c1, .slice B1 (digs 4294967296 y).length d1]
      | 3 => ∃ o, f 3 = o ∧ RPd V9.heap.size X o (Tq (k + 1)).1 (Tq (k + 1)).2.1 (Tq (k + 1)).2.2
      | _ => True) (by kernel_rfl) [(44, 0), (45, 1), (46, 2), (47, 3)] (by kernel_rfl) (by kernel_rfl) ?_
     refine Par.S 1 3 [(45, 1), (46, 2)] (fun f X hX hR K hK => ?_) ?_
     · simp only [yA, yB, yC, yD, yE]
       refine ⟨Par.want (by kernel_rfl) (wp_loadV (v := .agg #[.slice Ap (digs 4294967296 C.M).length cp, .slice An (digs 4294967296 (val 18446744073709551616 C.nl)).length cn, .slice Ab (digs 4294967296 C.bb).length cb, .slice Ax (digs 4294967296 (val 18446744073709551616 C.xl)).length cx, .slice Ay (digs 4294967296 (val 18446744073709551616 C.yl)).length cy, .int .i64 (C.size : Int)]) (t := 31) 31 (.tmp 11) rfl rfl (hX.at_ g11) Try.underlying31 rfl infoRC rfl ?_)⟩
       exact Par.k hK (s := by simp only [yA, yB, yC, yD, yE])
     refine Par.S 2 2 [(44, 0), (46, 2)] (fun f X hX hR K hK => ?_) ?_
     · simp only [yA, yB, yC, yD, yE]
       refine ⟨Par.want (by kernel_rfl) (wp_loadV (v := .agg #[.bool (Tq k).1, .slice Aa (digs 4294967296 (Tq k).2.1).length ca, .slice Ab' (digs 4294967296 (Tq k).2.2).length cb']) (t := 34) 34 (.tmp 15) rfl rfl (hX.at_ hcs) Try.underlying34 rfl infoRP rfl ?_)⟩
       exact Par.k hK (s := by simp only [yA, yB, yC, yD, yE])
     refine Par.S 3 1 [(44, 0), (45, 1)] (fun f X hX hR K hK => ?_) ?_
     · simp only [yA, yB, yC, yD, yE]
       refine ⟨Par.want (by kernel_rfl) (wp_loadV (v := .agg #[.bool bi, .slice A1 (digs 4294967296 x).length c1, .slice B1 (digs 4294967296 y).length d1]) (t := 34) 34 (.tmp 12) rfl rfl (hX.at_ g12) Try.underlying34 rfl infoRP rfl ?_)⟩
       exact Par.k hK (s := by simp only [yA, yB, yC, yD, yE])
     refine Par.S 4 0 [(44, 0), (45, 1), (46, 2)] (fun f X hX hR K hK => ?_) ?_
     · have e0 : f 0 = _ := hR.out 0 rfl
       have e1 : f 1 = _ := hR.out 1 rfl
       have e2 : f 2 = _ := hR.out 2 rfl
       simp only [yA, yB, yC, yD, yE, e0, e1, e2]
       refine ⟨?_⟩
       go_simp
       refine (radd_t (D := V9.heap.size) HC.out.fine HC.out.ptlt.2.2 X (HrcU.out.ext hX) (R1.out.up hX) (R2.out.up hX) (HuU.out.up hX) (HvU.out.up hX) (HTb.out k) Hxy.out).mono ?_
       rw [HTs.out k]
       rintro e w2 ⟨o, rfl, h, hB⟩
       exact hK.out _ o _ (by simp only [yA, yB, yC, yD, yE, e0, e1, e2]) hB trivial (fun Y hY => ⟨o, rfl, h.ext hY⟩)
     refine Par.AllOps.fin ⟨fun f X hX hR hal hap => ?_⟩
     have e0 : f 0 = _ := hR 0 (by decide)
     have e1 : f 1 = _ := hR 1 (by decide)
     have e2 : f 2 = _ := hR 2 (by decide)
     obtain ⟨o3, (e3 : f 3 = _), h3⟩ := hR 3 (by decide)
     simp only [yA, yB, yD, yE, e0, e1, e2, e3]
     clear hR hal hap e0 e1 e2 e3
     obtain ⟨As, Bs, us, vs, ev, rs1, rs2⟩ := h3
     subst ev
     refine Par.Chain.next (fun K hK => ⟨Par.want (by kernel_rfl) (wp_storeV (cs' := #[.bool (Tq (k + 1)).1, .slice As (digs 4294967296 (Tq (k + 1)).2.1).length us, .slice Bs (digs 4294967296 (Tq (k + 1)).2.2).length vs]) (t := 34) 34 (.tmp 15) (.tmp 47) rfl rfl rfl rfl (hX.at_ hcs) infoRP rfl (pt_one _ _ _ _ _ _ _) (fun Y hY1 hY2 hY3 => hK.out _ _ ?_))⟩)
     refine Par.Chain.done ?_
     refine ⟨nofun, ?_⟩
     have hsX := hX.at_ hcs
     have rs1' := RD.offJ rs1 hY2 hsX (by kernel_rfl) (by decide)
     have rs2' := RD.offJ rs2 hY2 hsX (by kernel_rfl) (by decide)
     replace HRK := Lib.hid ((HRK.out.trans (RdK.ext hX)).trans (RdK.just hY2 hsX z15 (by decide) (by decide)))
     have hkuY : KU U2 Y := (KU.ext hX).trans (KU.just hY2 hsX (by intro i n e; rcases i with _ | _ | _ | i <;> simp at e))
     replace HL := Lib.hid ((HL.out.ext z14 z15 hX).put15 (T' := Tq (k + 1)) n1415 hsX (by intro i n e; rcases i with _ | _ | _ | i <;> simp at e) hY2 hY1 ⟨_, _, _, _, rfl, rs1', rs2'⟩)
     replace Hap := Lib.hid (Hap.out.ku hkuY)
     replace g7 := hY2.at_ n7b (hX.at_ g7)
     replace hqb := hY2.at_ (by omega) (hX.at_ hqb)
     have Rs1 := Lib.hid rs1'.ru
     have Rs2 := Lib.hid rs2'.ru
     clear hX hY2 hY3 hsX rs1 rs2 rs1' rs2' hkuY hcs g11 g12 HrcU HuU HvU R1 R2
     rename World => U3
     gi_upto_region 17 with fail
     refine Par.region_txt_in 4 [0, 0, 3, 7] [] (fun j f X => match j with
      | 0 => f 0 = .agg #[.bool (Sq k).isNone, t1, t2]
      | 1 => f 1 = .agg #[.bool (Tq (k + 1)).1, .slice As (digs 4294967296 (Tq (k + 1)).2.1).length us, .slice Bs (digs 4294967296 (Tq (k + 1)).2.2).length vs]
      | 2 => f 2 = .bool true
      | 3 => f 3 = .bool false
      | _ => True) (by kernel_rfl) [(48, 0), (49, 1), (50, 2), (51, 3)] (by kernel_rfl) (by kernel_rfl) ?_
     refine Par.S 1 3 [(49, 1)] (fun f X hX hR K hK => ?_) ?_
     · simp only [yA, yB, yC, yD, yE]
       refine ⟨Par.want (by kernel_rfl) (wp_loadV (v := .agg #[.bool (Sq k).isNone, t1, t2]) (t := 27) 27 (.tmp 16) rfl rfl (hX.at_ hqb) Try.underlying27 rfl infoP rfl ?_)⟩
       exact Par.k hK (s := by simp only [yA, yB, yC, yD, yE])
     refine Par.S 2 2 [(48, 0)] (fun f X hX hR K hK => ?_) ?_
     · simp only [yA, yB, yC, yD, yE]
       refine ⟨Par.want (by kernel_rfl) (wp_loadV (v := .agg #[.bool (Tq (k + 1)).1, .slice As (digs 4294967296 (Tq (k + 1)).2.1).length us, .slice Bs (digs 4294967296 (Tq (k + 1)).2.2).length vs]) (t := 34) 34 (.tmp 15) rfl rfl (hX.at_ hY1) Try.underlying34 rfl infoRP rfl ?_)⟩
       exact Par.k hK (s := by simp only [yA, yB, yC, yD, yE])
     refine Par.S 3 1 [(48, 0), (49, 1)] (fun f X hX hR K hK => ?_) ?_
     · have e0 : f 0 = _ := hR.out 0 rfl
       have e1 : f 1 = _ := hR.out 1 rfl
       simp only [yA, yB, yC, yD, yE, e0, e1]
       refine ⟨?_⟩
       go_simp
       refine (ris_n X (Hap.out.ext hX) ⟨_, _, _, _, rfl, RN.up Rs1.out hX, RN.up Rs2.out hX⟩).mono ?_
       rintro e w2 ⟨he, hB⟩
       simp only [HTa.out k, trip, beq_self_eq_true, decide_true, Bool.and_self] at he
       subst he
       exact hK.out _ _ _ (by simp only [yA, yB, yC, yD, yE, e0, e1]) hB trivial (fun _ _ => rfl)
     refine Par.S 4 0 [(48, 0), (49, 1), (50, 2)] (fun f X hX hR K hK => ?_) ?_
     · have e2 : f 2 = _ := hR.out 2 rfl
       simp only [yA, yB, yC, yD, yE, e2]
       refine ⟨?_⟩
       go_simp
       exact Par.k hK (s := by simp only [yA, yB, yC, yD, yE, e2])
     refine Par.AllOps.fin ⟨fun f X hX hR hal hap => ?_⟩
     have e0 : f 0 = _ := hR 0 (by decide)
     have e1 : f 1 = _ := hR 1 (by decide)
     have e2 : f 2 = _ := hR 2 (by decide)
     have e3 : f 3 = _ := hR 3 (by decide)
     simp only [yA, yB, yD, yE, e0, e1, e2, e3]
     clear hR hal hap e0 e1 e2 e3
     refine Par.Chain.done ?_
     refine ⟨nofun, ?_⟩
     replace HRK := Lib.hid (HRK.out.trans (RdK.ext hX))
     replace HL := Lib.hid (HL.out.ext z14 z15 hX)
     replace g7 := hX.at_ g7
     clear hX hY1 hqb Hap Rs1 Rs2
     rename World => U4
     have g14 := HL.out.cnt
     have c14 := blk_cell g14 0
     have f14 := blk_free g14 0
     simp only [List.getElem?_toArray, List.getElem?_cons_zero] at c14
     obtain ⟨k1, hk1⟩ : ∃ k1 : Nat, k + 1 = k1 := ⟨_, rfl⟩
     have hw1 : IntKind.i64.wrap ((k : Int) + 1) = (k1 : Int) := by rw [IntWalk.i64_in _ (by omega)]; omega
     have Hk1 := Lib.hid hk1
     clear hk1
     gi_upto_region 20 with fail
     obtain ⟨g14', hj14⟩ := one_set g14 (.int .i64 (k1 : Int))
     replace HRK := Lib.hid (HRK.out.trans (RdK.just hj14 g14 z14 (by decide) (by decide)))
     replace HL := Lib.hid (HL.out.put14 n1415 hj14 g14')
     replace g7 := hj14.at_ n7a g7
     generalize U4.setCell ⟨b14, 0, none⟩ (.int .i64 (k1 : Int)) = U5 at *
     clear hj14 g14 c14 f14 hw1
     have c14 := blk_cell g14' 0
     have c7 := blk_cell g7 0
     simp only [List.getElem?_toArray, List.getElem?_cons_zero] at c14 c7
     clear g7 g14'
     by_cases hkn : k1 = N
     · subst hkn
       gi_wp2
       exact ⟨HRK.out.2, rfl, Hk1.out, by have h1 := HL.out; rw [← Hk1.out] at h1; exact h1⟩
     · have e1 : ¬ (k1 : Int) = (N : Int) := by omega
       gi_wp2
       exact ⟨HRK.out.2, HRK.out.1, by have := Hk1.out; omega, by have h1 := HL.out; rw [← Hk1.out] at h1; exact h1⟩
    case done => exact fun D Z _ h => absurd h.1 (by omega)
    case stop =>
     rintro D cc k U hD _ hk ⟨rfl, hkN, hl⟩ hKD
     rw [hkN] at hl
     clear hkN hk
     have g7 := hl.blk b7 _ z7 n7a n7b h7
     have g8 := hl.blk (b7 + 1) _ z8 nh8a nh8b h8
     have g11 := hl.blk b11 _ z11 nh11a nh11b h11
     have g12 := hl.blk bz2 _ z12 nh12a nh12b h12
     have g14 : U.heap[b14]? = some (.cells #[.int .i64 (N : Int)] 3 (0, 0)) := hl.cnt
     have HrcU := Lib.hid (Hrc.out.ku hl.ku)
     have HuU := Lib.hid (RN.kuu Hu.out hl.ku)
     have HvU := Lib.hid (RN.kuu Hv.out hl.ku)
     have w9 := HE.out.bsize
     have w10 := hl.ku.1
     have HEU := Lib.hid (show Ext w U from ⟨hl.os.trans HE.out.os, hl.tape.trans HE.out.tape, hl.output.trans HE.out.output, Nat.le_trans w9 w10, fun b hb => by
      have ho := Array.getElem?_eq_getElem hb
      exact (hl.blk b _ (by omega) (by omega) (by omega) (HE.out.at_ ho)).trans ho.symm⟩)
     have c7 := blk_cell g7 0
     have c14 := blk_cell g14 0
     simp only [List.getElem?_toArray, List.getElem?_cons_zero] at c7 c14
     clear hl
     gi_wp2
     go_upto_region 21 with fail
     refine Par.region_ext (by kernel_rfl) 10 [0, 1, 3, 3, 15, 3, 3, 99, 255, 511, 1023] [] (fun j f X => match j with
      | 0 => f 0 = .bool true
      | 1 => f 1 = .bool true
      | 2 => f 2 = .int .i64 (N : Int)
      | 3 => f 3 = .int .i64 (N : Int)
      | 4 => f 4 = .bool true
      | 5 => f 5 = .agg #[.slice Ap (digs 4294967296 C.M).length cp, .slice An (digs 4294967296 (val 18446744073709551616 C.nl)).length cn, .slice Ab (digs 4294967296 C.bb).length cb, .slice Ax (digs 4294967296 (val 18446744073709551616 C.xl)).length cx, .slice Ay (digs 4294967296 (val 18446744073709551616 C.yl)).length cy, .int .i64 (C.size : Int)]
      | 6 => f 6 = .agg #[.bool bi, .slice A1 (digs 4294967296 x).length c1, .slice B1 (digs 4294967296 y).length d1]
      | 7 => f 7 = .bool true
      | 8 => f 8 = .bool true
      | 9 => f 9 = .bool true
      | _ => True) (by kernel_rfl) [(57, 0), (58, 1), (59, 2), (60, 3), (61, 4), (62, 5), (63, 6), (64, 7), (65, 8), (66, 9)] (by kernel_rfl) ?_
     refine Par.v0 1 9 ?_
     refine Par.v1 2 8 0 ?_
     refine Par.ld1 3 7 1 c14 ?_
     refine Par.ld1 4 6 1 c7 ?_
     refine Par.S 5 5 [(57, 0), (58, 1), (59, 2), (60, 3), (62, 5), (63, 6), (64, 7)] (fun f X hX hR K hK => ?_) ?_
     · have e1 : f 1 = _ := hR.out 1 rfl
       have e2 : f 2 = _ := hR.out 2 rfl
       have e3 : f 3 = _ := hR.out 3 rfl
       simp only [yA, yB, yC, yD, yE, e1, e2, e3]
       refine ⟨Par.want (by kernel_rfl) ?_⟩
       go_simp
       exact Par.k hK (s := by simp only [yA, yB, yC, yD, yE, e1, e2, e3])
     refine lV1 6 4 1 g11 infoRC ?_
     refine lV1 7 3 1 g12 infoRP ?_
     refine Par.c1 8 2 1 (fun f => #[f 5, f 6]) (F' := 16) (fun f X hX hR => ?_) ?_
     · have e5 : f 5 = _ := hR.out 5 rfl
       have e6 : f 6 = _ := hR.out 6 rfl
       simp only [e5, e6]
       refine (refOn_any HC.out.fine _ _ _ _ _ _ _ _ (HrcU.out.ext hX) (RN.up HuU.out hX) (RN.up HvU.out hX)).mono ?_
       rw [Hq0.out]
       rintro e w2 ⟨rfl, hB⟩
       exact ⟨_, rfl, hB, fun _ _ => rfl⟩
     refine Par.S 9 1 [(57, 0), (58, 1), (59, 2), (60, 3), (61, 4), (62, 5), (63, 6), (64, 7)] (fun f X hX hR K hK => ?_) ?_
     · have e1 : f 1 = _ := hR.out 1 rfl
       have e4 : f 4 = _ := hR.out 4 rfl
       have e7 : f 7 = _ := hR.out 7 rfl
       simp only [yA, yB, yC, yD, yE, e1, e4, e7]
       refine ⟨Par.want (by kernel_rfl) ?_⟩
       go_simp
       exact Par.k hK (s := by simp only [yA, yB, yC, yD, yE, e1, e4, e7])
     refine Par.v2 10 0 1 8 ?_
     refine Par.AllOps.fin ⟨fun f X hX hR hal hap => ?_⟩
     have e9 : f 9 = _ := hR 9 (by decide)
     simp only [yA, yB, yD, yE, e9]
     clear hR hal hap e9
     have g8X := hX.at_ g8
     have c8 := blk_cell g8X 0
     have f8 := blk_free g8X 0
     simp only [List.getElem?_toArray, List.getElem?_cons_zero] at c8
     refine Par.Chain.next (fun K hK => ⟨Par.want (by kernel_rfl) ?_⟩)
     go_simp
     refine hK.out _ _ ?_
     refine Par.Chain.done ?_
     obtain ⟨g8', hj8⟩ := one_set g8X (.bool true)
     generalize World.setCell _ ⟨b7 + 1, 0, none⟩ (.bool true) = Y at *
     have hKY : Y.heap[D]? = some (.deferred (some [])) := hj8.at_ (by omega) (hX.at_ hKD)
     have hres : (Y.putObj D (.deferred none)).heap[b7 + 1]? = some (.cells #[.bool true] 4 (0, 0)) := (World.putObj_heap_other (by omega)).trans g8'
     have hEY : Ext w Y := hj8.ext (HEU.out.trans hX) (by omega)
     go_wp2
     exact ⟨by simp, .inl ⟨_, _, rfl, run_takeDeferred hKY, _, res_bool rfl rfl hres, ⟨rfl, Below.trans hEY (belowK_b (w := w) (Nat.le_refl _) Y D _ _ (by omega) hKY rfl rfl)⟩⟩⟩
theorem mult_law_n {c : Int} (g1 : c ≠ 1) (g2 : c ≠ 2) {P : Nat → Prop} {A : Option Addr} {cap : Nat} {l : List Nat} (sp : Bool) (nn : Int) (w : World) (hk : RL w P A cap l) (hP : ∀ b, P b → b < w.heap.size) :
 Calls Try.prog 6 #[.int .i64 c, .slice A l.length cap, .bool sp, .int .i64 nn] w fun e w' => e = .returned (.bool true) ∧ Ext w w' := by
 have HK := Lib.hid hk
 have HP := Lib.hid hP
 clear hk hP
 refine (callsIn_wide (n := 6)).1 ?_
 refine callsIn_of_wp_marks Try.func6 rfl trivial ?_ rfl
 simp only [Try.ntmps6, List.size_toArray, List.length_cons, List.length_nil, Nat.reduceAdd, Nat.reduceSub, Array.replicate_succ, Array.replicate_zero, List.push_toArray, List.append_toArray, List.nil_append, List.cons_append]
 refine wpIn_wide.2 ?_
 go_upto_region 1 with fail
 have h7 := (two_at2 w (.cells #[.int .i64 nn] 3) (.cells #[.bool false] 4)).1
 have h8 := (two_at2 w (.cells #[.int .i64 nn] 3) (.cells #[.bool false] 4)).2.1
 have hA2 : Ext w ((w.alloc (.cells #[.int .i64 nn] 3)).alloc (.cells #[.bool false] 4)) := (Ext.alloc _ _).trans (Ext.alloc _ _)
 have HE := Lib.hid hA2
 generalize hV : (w.alloc (.cells #[.int .i64 nn] 3)).alloc (.cells #[.bool false] 4) = V0 at *
 obtain ⟨b7, hq⟩ : ∃ b, w.heap.size = b := ⟨_, rfl⟩
 rw [hq] at h7 h8 ⊢
 have hw7 : w.heap.size ≤ b7 := Nat.le_of_eq hq
 clear hV hq hA2
 go_upto_region 2 with (go_at_call 10; refine (begun9_any _).mono ?_; rintro e w1 ⟨rfl, hE1⟩)
 replace h7 := hE1.at_ h7
 replace h8 := hE1.at_ h8
 replace HE := Lib.hid (HE.out.trans hE1)
 clear hE1
 go_upto_region 3 with (go_at_call 12; refine (point_none g1 g2 A l.length cap sp w1).mono ?_; rintro e w2 ⟨rfl, hE2⟩)
 replace h7 := hE2.at_ h7
 replace h8 := hE2.at_ h8
 replace HE := Lib.hid (HE.out.trans hE2)
 clear hE2
 have h10 := heap_alloc_new w2 (.cells #[.bool false, .slice A l.length cap, .slice A l.length cap] 27)
 have hA := Ext.alloc w2 (.cells #[.bool false, .slice A l.length cap, .slice A l.length cap] 27)
 replace h7 := hA.at_ h7
 replace h8 := hA.at_ h8
 replace HE := Lib.hid (HE.out.trans hA)
 generalize hV : w2.alloc (.cells #[.bool false, .slice A l.length cap, .slice A l.length cap] 27) = V2 at *
 obtain ⟨b10, hq⟩ : ∃ b, w2.heap.size = b := ⟨_, rfl⟩
 rw [hq] at h10 ⊢
 clear hV hq hA
 go_upto_region 4 with (go_at_call 13; refine (refOf_none g1 g2 _).mono ?_; rintro e w3 ⟨v, rfl, ⟨Ap, An, Ab, Ax, Ay, cp, cn, cb, cx, cy, rfl, hp, hn, hb, hx, hy⟩, hE3⟩)
 have Hrc := Lib.hid (show RC w3 c0 (.agg #[.slice Ap (digs 4294967296 c0.M).length cp, .slice An (digs 4294967296 (val 18446744073709551616 c0.nl)).length cn, .slice Ab (digs 4294967296 c0.bb).length cb, .slice Ax (digs 4294967296 (val 18446744073709551616 c0.xl)).length cx, .slice Ay (digs 4294967296 (val 18446744073709551616 c0.yl)).length cy, .int .i64 (c0.size : Int)]) from ⟨Ap, An, Ab, Ax, Ay, cp, cn, cb, cx, cy, rfl, hp, hn, hb, hx, hy⟩)
 clear hp hn hb hx hy
 replace h7 := hE3.at_ h7
 replace h8 := hE3.at_ h8
 replace h10 := hE3.at_ h10
 replace HE := Lib.hid (HE.out.trans hE3)
 clear hE3
 have h11 := heap_alloc_new w3 (.cells #[.slice Ap (digs 4294967296 c0.M).length cp, .slice An (digs 4294967296 (val 18446744073709551616 c0.nl)).length cn, .slice Ab (digs 4294967296 c0.bb).length cb, .slice Ax (digs 4294967296 (val 18446744073709551616 c0.xl)).length cx, .slice Ay (digs 4294967296 (val 18446744073709551616 c0.yl)).length cy, .int .i64 (c0.size : Int)] 31)
 have hA := Ext.alloc w3 (.cells #[.slice Ap (digs 4294967296 c0.M).length cp, .slice An (digs 4294967296 (val 18446744073709551616 c0.nl)).length cn, .slice Ab (digs 4294967296 c0.bb).length cb, .slice Ax (digs 4294967296 (val 18446744073709551616 c0.xl)).length cx, .slice Ay (digs 4294967296 (val 18446744073709551616 c0.yl)).length cy, .int .i64 (c0.size : Int)] 31)
 replace h7 := hA.at_ h7
 replace h8 := hA.at_ h8
 replace h10 := hA.at_ h10
 replace HE := Lib.hid (HE.out.trans hA)
 replace Hrc := Lib.hid (Hrc.out.ext hA)
 generalize hV : w3.alloc (.cells #[.slice Ap (digs 4294967296 c0.M).length cp, .slice An (digs 4294967296 (val 18446744073709551616 c0.nl)).length cn, .slice Ab (digs 4294967296 c0.bb).length cb, .slice Ax (digs 4294967296 (val 18446744073709551616 c0.xl)).length cx, .slice Ay (digs 4294967296 (val 18446744073709551616 c0.yl)).length cy, .int .i64 (c0.size : Int)] 31) = V3 at *
 obtain ⟨b11, hq⟩ : ∃ b, w3.heap.size = b := ⟨_, rfl⟩
 rw [hq] at h11 ⊢
 clear hV hq hA
 refine Par.region_txt 3 [0, 1, 0, 7] [2] (fun j f X => match j with
  | 0 => f 0 = .agg #[.bool false, .slice A l.length cap, .slice A l.length cap]
  | 1 => ∃ B n k D m j, f 1 = .agg #[.bool false, .slice B n k, .slice D m j]
  | 2 => ∃ b, f 2 = .pointer (some ⟨b, 0, none⟩) ∧ V3.heap.size ≤ b ∧ X.heap[b]? = some (.cells #[.bool false, .slice none 0 0, .slice none 0 0] 34 (0, 0))
  | _ => True) (by kernel_rfl) [(24, 0), (25, 1), (12, 2)] (by kernel_rfl) ?_
 refine lV0 1 2 h10 infoP ?_
 refine Par.c0 2 1 (fun f => #[f 0]) (F' := 14) (fun f X hX hR => ?_) ?_
 · have e0 : f 0 = _ := hR.out 0 rfl
   simp only [e0]
   refine (rfrom_w X (HK.out.below (HE.out.trans hX) HP.out) (HK.out.below (HE.out.trans hX) HP.out) (fun b hb => Nat.lt_of_lt_of_le (HP.out b hb) (HE.out.trans hX).bsize)).mono ?_
   rintro e w2 ⟨⟨B, n, k, D, m, j, rfl⟩, hB⟩
   exact ⟨(.agg #[.bool false, .slice B n k, .slice D m j]), rfl, hB, fun Y hY => ⟨B, n, k, D, m, j, rfl⟩⟩
 refine Par.al 3 0 ?_
 refine Par.AllOps.fin ⟨fun f X hX hR hal hap => ?_⟩
 obtain ⟨B1, n1, k1, D1, m1, j1, (e1 : f 1 = _)⟩ := hR 1 (by decide)
 obtain ⟨bz2, (e2 : f 2 = _), lz2, hz2⟩ := hR 2 (by decide)
 simp only [yA, yB, yD, yE, e1, e2]
 clear hR hal hap e1 e2
 refine Par.Chain.next (fun K hK => ⟨Par.want (by kernel_rfl) (wp_storeV (cs' := #[.bool false, .slice B1 n1 k1, .slice D1 m1 j1]) (t := 34) 34 (.tmp 12) (.tmp 25) rfl rfl rfl rfl hz2 infoRP rfl (pt_one _ _ _ _ _ _ _) (fun Y h11' h12' h13' => hK.out _ _ ?_))⟩)
 refine Par.Chain.done ?_
 have hEY : Ext V3 Y := h12'.ext hX lz2
 have h12 := h11'
 clear h11' h12' h13' hX
 replace h7 := hEY.at_ h7
 replace h8 := hEY.at_ h8
 replace h10 := hEY.at_ h10
 replace h11 := hEY.at_ h11
 replace HE := Lib.hid (HE.out.trans hEY)
 replace Hrc := Lib.hid (Hrc.out.ext hEY)
 clear hEY hz2 lz2
 rename World => V4
 obtain ⟨y0, y1, y2, f0, f1, f2⟩ := pt_facts h10
 go_upto_region 6 with (go_at_call 30; refine (multiples_any c _).mono ?_; rintro e w5 ⟨rfl, rfl⟩)
 clear y0 y1 y2 f0 f1 f2
 have k7 := blk_lt h8
 have hbc := (two_at2 V4 (.cells #[.int .i64 c] 3) (.cells #[.bool false, .slice A l.length cap, .slice A l.length cap] 27)).1
 have hbp := (two_at2 V4 (.cells #[.int .i64 c] 3) (.cells #[.bool false, .slice A l.length cap, .slice A l.length cap] 27)).2.1
 have hA2 : Ext V4 ((V4.alloc (.cells #[.int .i64 c] 3)).alloc (.cells #[.bool false, .slice A l.length cap, .slice A l.length cap] 27)) := (Ext.alloc _ _).trans (Ext.alloc _ _)
 replace h7 := hA2.at_ h7
 replace h8 := hA2.at_ h8
 replace h10 := hA2.at_ h10
 replace h11 := hA2.at_ h11
 replace h12 := hA2.at_ h12
 replace HE := Lib.hid (HE.out.trans hA2)
 replace Hrc := Lib.hid (Hrc.out.ext hA2)
 generalize hV : (V4.alloc (.cells #[.int .i64 c] 3)).alloc (.cells #[.bool false, .slice A l.length cap, .slice A l.length cap] 27) = V5 at *
 obtain ⟨bc, hq⟩ : ∃ b, V4.heap.size = b := ⟨_, rfl⟩
 rw [hq] at k7
 rw [hq] at hbc hbp ⊢
 clear hV hq hA2
 have c7 := blk_cell h7 0
 have f7 := blk_free h7 0
 simp only [List.getElem?_toArray, List.getElem?_cons_zero] at c7
 go_upto_region 8 with fail
 go_cut [36] from 29 (fun s36 wx => s36 = .bool (decide (nn < 1 ∨ 6 < nn)) ∧ wx = V5)
 case first =>
  rcases Int.lt_or_le nn 1 with h1 | h1
  · have t1 : decide (nn < 1) = true := decide_eq_true h1
    have t3 : decide (nn < 1 ∨ 6 < nn) = true := decide_eq_true (.inl h1)
    go_wp2
    go_meet
    case rel => exact ⟨by rw [t3], rfl⟩
  · have t1 : decide (nn < 1) = false := decide_eq_false (by omega)
    rcases Int.lt_or_le 6 nn with h2 | h2
    · have t2 : decide (6 < nn) = true := decide_eq_true h2
      have t3 : decide (nn < 1 ∨ 6 < nn) = true := decide_eq_true (.inr h2)
      go_wp2
      go_meet
      case rel => exact ⟨by rw [t3], rfl⟩
    · have t2 : decide (6 < nn) = false := decide_eq_false (by omega)
      have t3 : decide (nn < 1 ∨ 6 < nn) = false := decide_eq_false (by omega)
      go_wp2
      go_meet
      case rel => exact ⟨by rw [t3], rfl⟩
 case rest =>
  obtain ⟨rfl, rfl⟩ := hcut
  obtain ⟨bb, hbb⟩ : ∃ bb, decide (nn < 1 ∨ 6 < nn) = bb := ⟨_, rfl⟩
  rw [hbb]
  go_upto_if 36 with fail
  go_cut [] from 29 (fun wx => ∃ z : Int, (1 ≤ z ∧ z ≤ 6) ∧ wx.heap[b7]? = some (.cells #[.int .i64 z] 3 (0, 0)) ∧ Just b7 wc wx)
  case first =>
   rcases bb with _ | _
   · have h1 := of_decide_eq_false hbb
     clear hbb
     go_wp2
     go_meet
     case rel => exact ⟨nn, by omega, h7, Just.refl _ _⟩
   · clear hbb
     go_wp2
     go_meet
     case rel => exact ⟨6, by omega, (one_set h7 (.int .i64 6)).1, (one_set h7 (.int .i64 6)).2⟩
  case rest =>
   rename World => V7
   obtain ⟨z, hz1, h7', hj7⟩ := hcut
   clear hbb
   have hku := KU.just hj7 h7 (by intro i n e; rcases i with _ | i <;> simp at e)
   replace h8 := hj7.at_ (by omega) h8
   replace h10 := hj7.at_ (fun e => by rw [e, h7] at h10; simp at h10) h10
   replace h11 := hj7.at_ (fun e => by rw [e, h7] at h11; simp at h11) h11
   replace h12 := hj7.at_ (fun e => by rw [e, h7] at h12; simp at h12) h12
   replace hbp := hj7.at_ (fun e => by rw [e, h7] at hbp; simp at hbp) hbp
   replace hbc := hj7.at_ (by omega) hbc
   replace HE := Lib.hid (hj7.ext HE.out hw7)
   replace Hrc := Lib.hid (Hrc.out.ku hku)
   clear hku hj7 h7 c7 f7
   have h7 := h7'
   clear h7'
   obtain ⟨N, rfl⟩ : ∃ N : Nat, z = (N : Int) := ⟨z.toNat, by omega⟩
   have hN1 : 1 ≤ N ∧ N ≤ 6 := by omega
   go_upto_region 11 with fail
   have lw14 := HE.out.bsize
   have h14 := heap_alloc_new V7 (.cells #[.int .i64 0] 3)
   have hA := Ext.alloc V7 (.cells #[.int .i64 0] 3)
   replace h7 := hA.at_ h7
   replace h8 := hA.at_ h8
   replace h10 := hA.at_ h10
   replace h11 := hA.at_ h11
   replace h12 := hA.at_ h12
   replace hbc := hA.at_ hbc
   replace hbp := hA.at_ hbp
   replace HE := Lib.hid (HE.out.trans hA)
   replace Hrc := Lib.hid (Hrc.out.ext hA)
   generalize hV : V7.alloc (.cells #[.int .i64 0] 3) = V8 at *
   obtain ⟨b14, hq⟩ : ∃ b, V7.heap.size = b := ⟨_, rfl⟩
   rw [hq] at lw14
   rw [hq] at h14 ⊢
   clear hV hq hA
   go_upto_region 12 with fail
   have o12 := blk_lt h12
   have lw15 := HE.out.bsize
   have h15 := heap_alloc_new V8 (.cells #[.bool true, .slice none 0 0, .slice none 0 0] 34)
   have hA := Ext.alloc V8 (.cells #[.bool true, .slice none 0 0, .slice none 0 0] 34)
   replace h7 := hA.at_ h7
   replace h8 := hA.at_ h8
   replace h10 := hA.at_ h10
   replace h11 := hA.at_ h11
   replace h12 := hA.at_ h12
   replace hbc := hA.at_ hbc
   replace hbp := hA.at_ hbp
   replace h14 := hA.at_ h14
   replace HE := Lib.hid (HE.out.trans hA)
   replace Hrc := Lib.hid (Hrc.out.ext hA)
   generalize hV : V8.alloc (.cells #[.bool true, .slice none 0 0, .slice none 0 0] 34) = V9 at *
   obtain ⟨b15, hq⟩ : ∃ b, V8.heap.size = b := ⟨_, rfl⟩
   rw [hq] at o12 lw15
   rw [hq] at h15 ⊢
   clear hV hq hA
   go_wp2
   have z14 := blk_lt h14
   have z15 := blk_lt h15
   have z7 := blk_lt h7
   have z8 := blk_lt h8
   have z11 := blk_lt h11
   have z12 := blk_lt h12
   have n1415 : b14 ≠ b15 := fun e => by rw [e, h15] at h14; simp at h14
   have n7a : b7 ≠ b14 := fun e => by rw [e, h14] at h7; simp at h7; omega
   have n7b : b7 ≠ b15 := fun e => by rw [e, h15] at h7; simp at h7
   have nh8a : b7 + 1 ≠ b14 := fun e => by rw [e, h14] at h8; simp at h8
   have nh8b : b7 + 1 ≠ b15 := fun e => by rw [e, h15] at h8; simp at h8
   have nh11a : b11 ≠ b14 := fun e => by rw [e, h14] at h11; simp at h11
   have nh11b : b11 ≠ b15 := fun e => by rw [e, h15] at h11; simp at h11
   have nh12a : bz2 ≠ b14 := fun e => by rw [e, h14] at h12; simp at h12
   have nh12b : bz2 ≠ b15 := fun e => by rw [e, h15] at h12; omega
   have Hseq := Lib.hid (mult_none g1 g2 V9 hbc hbp (fun _ _ _ => False))
   have H0 := Lib.hid (show LawI V9.heap.size b14 b15 V9 (true, 0, 0) 0 V9 from ⟨rfl, rfl, rfl, KU.refl _, fun _ _ _ _ _ h => h, h14, _, h15, RPd.inf_ _⟩)
   clear hbc hbp
   refine (wpIn_wide (n := 6)).1 ?_
   refine' wpIn_iterX (by omega) (gf := 65) (lb := #[.pointer (some ⟨bc, 0, none⟩), .pointer (some ⟨bc + 1, 0, none⟩)]) rfl (enters_of Try.func65 (by kernel_rfl) rfl)
    Hseq.out (fun h k => KC.trans h k) (fun Z l o o' _ hl hc _ => KC.put Z l o o' hl hc) tjac_keeps (Below.refl _ _) (fun _ _ => rfl)
    (fun _ Z => LawI V9.heap.size b14 b15 V9 (true, 0, 0) 0 Z) (fun _ Z => LawI V9.heap.size b14 b15 V9 (true, 0, 0) 0 Z) (fun _ _ _ => False)
    (fun _ Z Z' row hi hg hr => LawI.own z14 z15 0 Z Z' row hi hg hr) (fun _ Z Z' row hi hg hr => LawI.own z14 z15 0 Z Z' row hi hg hr) (fun _ _ _ _ _ h => h.elim)
    (fun _ _ _ _ => trivial) (fun B k A' C' hB _ hi ht => LawI.jac (k := 0) hi z14 z15 (Nat.le_refl _) hB hB ht) (fun h => by cases h) H0.out
    (fun _ _ _ _ => False) (fun _ _ _ _ _ h => h.elim) (fun _ _ _ _ _ _ hv => hv.elim) (fun _ _ _ _ h => h.elim) ?done (fun _ _ _ _ _ _ _ h => h.elim)
   case done =>
    rintro D U hD hl hKD
    have g7 := hl.blk b7 _ z7 n7a n7b h7
    have g8 := hl.blk (b7 + 1) _ z8 nh8a nh8b h8
    have g11 := hl.blk b11 _ z11 nh11a nh11b h11
    have g12 := hl.blk bz2 _ z12 nh12a nh12b h12
    have g14 : U.heap[b14]? = some (.cells #[.int .i64 0] 3 (0, 0)) := hl.cnt
    have HrcU := Lib.hid (Hrc.out.ku hl.ku)
    have w9 := HE.out.bsize
    have w10 := hl.ku.1
    have HEU := Lib.hid (show Ext w U from ⟨hl.os.trans HE.out.os, hl.tape.trans HE.out.tape, hl.output.trans HE.out.output, Nat.le_trans w9 w10, fun b hb => by
     have ho := Array.getElem?_eq_getElem hb
     exact (hl.blk b _ (by omega) (by omega) (by omega) (HE.out.at_ ho)).trans ho.symm⟩)
    have c7 := blk_cell g7 0
    have c14 := blk_cell g14 0
    simp only [List.getElem?_toArray, List.getElem?_cons_zero] at c7 c14
    clear hl
    gi_wp2
    go_upto_region 21 with fail
    refine Par.region_ext (by kernel_rfl) 10 [0, 1, 3, 3, 15, 3, 3, 99, 255, 511, 1023] [] (fun j f X => match j with
     | 0 => f 0 = .bool true
     | 1 => f 1 = .bool true
     | 2 => f 2 = .int .i64 0
     | 3 => f 3 = .int .i64 (N : Int)
     | 4 => f 4 = .bool false
     | 5 => f 5 = .agg #[.slice Ap (digs 4294967296 c0.M).length cp, .slice An (digs 4294967296 (val 18446744073709551616 c0.nl)).length cn, .slice Ab (digs 4294967296 c0.bb).length cb, .slice Ax (digs 4294967296 (val 18446744073709551616 c0.xl)).length cx, .slice Ay (digs 4294967296 (val 18446744073709551616 c0.yl)).length cy, .int .i64 (c0.size : Int)]
     | 6 => f 6 = .agg #[.bool false, .slice B1 n1 k1, .slice D1 m1 j1]
     | 7 => f 7 = .bool false
     | 8 => f 8 = .bool true
     | 9 => f 9 = .bool true
     | _ => True) (by kernel_rfl) [(57, 0), (58, 1), (59, 2), (60, 3), (61, 4), (62, 5), (63, 6), (64, 7), (65, 8), (66, 9)] (by kernel_rfl) ?_
    refine Par.v0 1 9 ?_
    refine Par.v1 2 8 0 ?_
    refine Par.ld1 3 7 1 c14 ?_
    refine Par.ld1 4 6 1 c7 ?_
    refine Par.S 5 5 [(57, 0), (58, 1), (59, 2), (60, 3), (62, 5), (63, 6), (64, 7)] (fun f X hX hR K hK => ?_) ?_
    · have e1 : f 1 = _ := hR.out 1 rfl
      have e2 : f 2 = _ := hR.out 2 rfl
      have e3 : f 3 = _ := hR.out 3 rfl
      have nn0 : ((0 : Int) == (N : Int)) = false := by rw [beq_eq_false_iff_ne]; omega
      have nn1 : ¬ (0 : Int) = (N : Int) := by omega
      have nn2 : decide ((0 : Int) = (N : Int)) = false := decide_eq_false nn1
      simp only [yA, yB, yC, yD, yE, e1, e2, e3]
      refine ⟨Par.want (by kernel_rfl) ?_⟩
      go_simp
      exact Par.k hK (s := by simp only [yA, yB, yC, yD, yE, e1, e2, e3])
    refine lV1 6 4 1 g11 infoRC ?_
    refine lV1 7 3 1 g12 infoRP ?_
    refine Par.c1 8 2 1 (fun f => #[f 5, f 6]) (F' := 16) (fun f X hX hR => ?_) ?_
    · have e5 : f 5 = _ := hR.out 5 rfl
      have e6 : f 6 = _ := hR.out 6 rfl
      simp only [e5, e6]
      refine (ron_none _ _ _ X (HrcU.out.ext hX)).mono ?_
      rintro e w2 ⟨rfl, hB⟩
      exact ⟨_, rfl, hB, fun _ _ => rfl⟩
    refine Par.S 9 1 [(57, 0), (58, 1), (59, 2), (60, 3), (61, 4), (62, 5), (63, 6), (64, 7)] (fun f X hX hR K hK => ?_) ?_
    · have e1 : f 1 = _ := hR.out 1 rfl
      have e4 : f 4 = _ := hR.out 4 rfl
      have e7 : f 7 = _ := hR.out 7 rfl
      simp only [yA, yB, yC, yD, yE, e1, e4, e7]
      refine ⟨Par.want (by kernel_rfl) ?_⟩
      go_simp
      exact Par.k hK (s := by simp only [yA, yB, yC, yD, yE, e1, e4, e7])
    refine Par.v2 10 0 1 8 ?_
    refine Par.AllOps.fin ⟨fun f X hX hR hal hap => ?_⟩
    have e9 : f 9 = _ := hR 9 (by decide)
    simp only [yA, yB, yD, yE, e9]
    clear hR hal hap e9
    have g8X := hX.at_ g8
    have c8 := blk_cell g8X 0
    have f8 := blk_free g8X 0
    simp only [List.getElem?_toArray, List.getElem?_cons_zero] at c8
    refine Par.Chain.next (fun K hK => ⟨Par.want (by kernel_rfl) ?_⟩)
    go_simp
    refine hK.out _ _ ?_
    refine Par.Chain.done ?_
    obtain ⟨g8', hj8⟩ := one_set g8X (.bool true)
    generalize World.setCell _ ⟨b7 + 1, 0, none⟩ (.bool true) = Y at *
    have hKY : Y.heap[D]? = some (.deferred (some [])) := hj8.at_ (by omega) (hX.at_ hKD)
    have hres : (Y.putObj D (.deferred none)).heap[b7 + 1]? = some (.cells #[.bool true] 4 (0, 0)) := (World.putObj_heap_other (by omega)).trans g8'
    have hEY : Ext w Y := hj8.ext (HEU.out.trans hX) (by omega)
    go_wp2
    exact ⟨by simp, .inl ⟨_, _, rfl, run_takeDeferred hKY, _, res_bool rfl rfl hres, ⟨rfl, Below.trans hEY (belowK_b (w := w) (Nat.le_refl _) Y D _ _ (by omega) hKY rfl rfl)⟩⟩⟩
theorem mult_law {c : Int} {P : Nat → Prop} {A : Option Addr} {cap : Nat} {l : List Nat} (sp : Bool) (nn : Int) (w : World) (hk : RL w P A cap l) (hP : ∀ b, P b → b < w.heap.size) :
 Calls Try.prog 6 #[.int .i64 c, .slice A l.length cap, .bool sp, .int .i64 nn] w fun e w' => e = .returned (.bool true) ∧ Ext w w' := by
 obtain ⟨C, h | ⟨h1, h2, _⟩⟩ := isU c
 · exact mult_law_c h sp nn w hk hP
 · exact mult_law_n h1 h2 sp nn w hk hP
end Go.Proofs.Ytldhmjfjbalakaa
