/- A table of sixteen points by three elements, in memory. curve: Add. curve: Mul. curve: the program's and the reference's multiples and sums of points are the group's: their numbers agree. Plain: no code is walked here. curve: of the two curves, the program's multiples and sums of points are the reference's. Plain: no code is walked here. The reference's From, of lists however long: that it returns. The reference's points: From. append of bytes onto a row of the call's own. curve: Encode. -/
import Derived.Test.YtldhmjfjbalakaaQ239ae5a08171
import Derived.Sort.CutIn
import Derived.Sort.AtCallIn
import Derived.TacticsInMore
namespace Go.Proofs.Ytldhmjfjbalakaa
open Go.RowKit

def z85 : Array Value := Array.replicate 288 (.int .u64 0)
theorem info85s : (Try.prog.info? 85).map (·.size) = some 288 := by kernel_rfl
theorem z85_size : z85.size = 288 := by kernel_rfl
def JRow (C : Crv) (X : World) (b i : Nat) (p : Nat × Nat × Nat) : Prop := ∃ x y z, X.rangeAt b (18 * i) (nts (x ++ y ++ z)) ∧ FJ C.M C.n x y z p.1 p.2.1 p.2.2
structure TabAt (C : Crv) (X : World) (b : Nat) (t : Nat → Nat × Nat × Nat) (n : Nat) : Prop where
 blk : ∃ cs : Array Value, X.heap[b]? = some (.cells cs 85 (0, 0)) ∧ cs.size = 288
 row : ∀ i, i < n → JRow C X b i (t i)
section
variable {C : Crv} {X Y : World} {b n : Nat} {t : Nat → Nat × Nat × Nat}
theorem TabAt.lt (h : TabAt C X b t n) : b < X.heap.size := by
 obtain ⟨cs, hb, _⟩ := h.blk
 exact blk_lt hb
theorem TabAt.same (h : TabAt C X b t n) (hb : Y.heap[b]? = X.heap[b]?) : TabAt C Y b t n := by
 obtain ⟨cs, h1, h2⟩ := h.blk
 refine ⟨⟨cs, hb.trans h1, h2⟩, fun i hi => ?_⟩
 obtain ⟨x, y, z, hr, hf⟩ := h.row i hi
 exact ⟨x, y, z, fun j v hv => (World.cell?_of_block hb).trans (hr j v hv), hf⟩
theorem TabAt.ext (h : TabAt C X b t n) (hE : Ext X Y) : TabAt C Y b t n := h.same (Below.block hE b h.lt)
theorem TabAt.just {g : Nat} (h : TabAt C X b t n) (hj : Just g X Y) (hg : b ≠ g) : TabAt C Y b t n := h.same (hj.block b h.lt hg)
theorem len18 {x y z : List Nat} {M m : Nat} {p : Nat × Nat × Nat} (h : FJ M m x y z p.1 p.2.1 p.2.2) : (nts (x ++ y ++ z)).length = 18 := by
 rw [nts_length, List.length_append, List.length_append, h.x.elt.six, h.y.elt.six, h.z.elt.six]
theorem wp_loadT {op : Oper} {a : Act} {K : Act → World → Prop} {Q : Exit → Act → World → Prop} (x : Operand) (ho : op.op = .load 83 x) {i : Nat} (h : TabAt C X b t n) (hi : i < n) {o : Nat} (hoi : 18 * i = o) (hx : a.eval x = .pointer (some ⟨b, o, none⟩)) (hK : ∀ v, JAt C v (t i) → K (a.put op.dst v) X) : op.wp Try.prog a X K Q := by
 obtain ⟨lx, ly, lz, hr, hf⟩ := h.row i hi
 subst hoi
 exact wp_load_mid 83 x ho b (18 * i) hx _ _ hr Try.underlying83 rfl (by rw [len18 hf]; exact infoJ) (hK _ ⟨lx, ly, lz, rfl, hf⟩)
theorem set_blk {T : TypeId} (b : Nat) : ∀ (vs : List Value) (o : Nat) (X : World) (cs : Array Value), X.heap[b]? = some (.cells cs T (0, 0)) → ∃ ds : Array Value, (X.setCells b o vs).heap[b]? = some (.cells ds T (0, 0)) ∧ ds.size = cs.size
  | [], _, X, cs, h => ⟨cs, h, rfl⟩
  | v :: vs, o, X, cs, h => by
    obtain ⟨ds, h1, h2⟩ := set_blk b vs (o + 1) (X.setCell ⟨b, o, none⟩ v) _ (blk_set h o v)
    exact ⟨ds, h1, by rw [h2]; simp⟩
theorem setCells_just (b : Nat) : ∀ (vs : List Value) (o : Nat) (X : World), Just b X (X.setCells b o vs) ∧ (X.setCells b o vs).heap.size = X.heap.size
  | [], _, X => ⟨Just.refl b X, rfl⟩
  | v :: vs, o, X => by
    obtain ⟨h1, h2⟩ := setCells_just b vs (o + 1) (X.setCell ⟨b, o, none⟩ v)
    exact ⟨((Just.refl b X).set o v).trans h1, h2.trans (by simp [World.setCell])⟩
theorem wp_storeT {op : Oper} {a : Act} {K : Act → World → Prop} {Q : Exit → Act → World → Prop} (x y : Operand) (ho : op.op = .store 83 x y) (hd : op.dst = none) (h : TabAt C X b t n) (hn : n < 16) {v : Value} (hv : JAt C v (t n)) {o : Nat} (hoi : 18 * n = o) (hx : a.eval x = .pointer (some ⟨b, o, none⟩)) (hy : a.eval y = v)
 (hK : ∀ Y, TabAt C Y b t (n + 1) → Just b X Y → Y.heap.size = X.heap.size → K a Y) : op.wp Try.prog a X K Q := by
 obtain ⟨lx, ly, lz, rfl, hf⟩ := hv
 obtain ⟨cs, hb, hs⟩ := h.blk
 subst hoi
 have hl := len18 hf
 have ht : X.there b (18 * n) (nts (lx ++ ly ++ lz)).toArray.size := fun j hj => by
  rw [List.size_toArray, hl] at hj
  refine ⟨?_, blk_free hb _⟩
  rw [blk_cell hb]
  simp [hs]
  omega
 refine wp_store_mid 83 x y ho b (18 * n) _ hx hy ht (by rw [List.size_toArray, hl]; exact infoJ) (all_one _) ?_
 rw [hd]
 obtain ⟨h1, h2⟩ := setCells_just b (nts (lx ++ ly ++ lz)) (18 * n) X
 refine hK _ ⟨?_, fun i hi => ?_⟩ h1 h2
 · obtain ⟨ds, h3, h4⟩ := set_blk b (nts (lx ++ ly ++ lz)) (18 * n) X cs hb
   exact ⟨ds, h3, h4.trans hs⟩
 · rcases Nat.lt_or_ge i n with hlt | hge
   · obtain ⟨mx, my, mz, hr, hg⟩ := h.row i hlt
     exact ⟨mx, my, mz, World.rangeAt_setCells_apart hr _ _ _ (.inr (.inl (by rw [len18 hg]; omega))), hg⟩
   · obtain rfl : i = n := by omega
     exact ⟨lx, ly, lz, World.rangeAt_setCells_same _ _ _ _ (by rwa [List.size_toArray] at ht), hf⟩
end
theorem six3 {l : List Nat} (h : l.length = 18) : ∃ a0 a1 a2 a3 a4 a5 a6 a7 a8 a9 b0 b1 b2 b3 b4 b5 b6 b7, l = [a0, a1, a2, a3, a4, a5, a6, a7, a8, a9, b0, b1, b2, b3, b4, b5, b6, b7] := by
 match l, h with
 | [a0, a1, a2, a3, a4, a5, a6, a7, a8, a9, b0, b1, b2, b3, b4, b5, b6, b7], _ => exact ⟨_, _, _, _, _, _, _, _, _, _, _, _, _, _, _, _, _, _, rfl⟩
theorem built85 {x y : List Nat} (hx : x.length = 18) (hy : y.length = 18) : Try.prog.built 85 [(0, .agg (nts x).toArray), (1, .agg (nts y).toArray)] = some (nts (x ++ y ++ List.replicate 252 0)).toArray := by
 obtain ⟨a0, a1, a2, a3, a4, a5, a6, a7, a8, a9, b0, b1, b2, b3, b4, b5, b6, b7, rfl⟩ := six3 hx
 obtain ⟨c0, c1, c2, c3, c4, c5, c6, c7, c8, c9, d0, d1, d2, d3, d4, d5, d6, d7, rfl⟩ := six3 hy
 kernel_rfl
theorem wp_build85 {C : Crv} {op : Oper} {a : Act} {X : World} {K : Act → World → Prop} {Q : Exit → Act → World → Prop} (p q : Operand) (ho : op.op = .build 85 #[(0, p), (1, q)]) {v u : Value} {x y : Nat × Nat × Nat} (hp : a.eval p = v) (hq : a.eval q = u) (hv : JAt C v x) (hu : JAt C u y)
 (hK : ∀ cs : Array Value, cs.size = 288 → cs.all (·.oneCell') = true → (∀ W b, W.heap[b]? = some (.cells cs 85 (0, 0)) → ∀ t : Nat → Nat × Nat × Nat, t 0 = x → t 1 = y → TabAt C W b t 2) → K (a.put op.dst (.agg cs)) X) : op.wp Try.prog a X K Q := by
 obtain ⟨x1, x2, x3, rfl, hf⟩ := hv
 obtain ⟨y1, y2, y3, rfl, hg⟩ := hu
 have hlx : (x1 ++ x2 ++ x3).length = 18 := by have := len18 hf; rwa [nts_length] at this
 have hly : (y1 ++ y2 ++ y3).length = 18 := by have := len18 hg; rwa [nts_length] at this
 have hb : (#[(0, p), (1, q)].map fun (i, x) => (i, a.eval x)).toList = [(0, .agg (nts (x1 ++ x2 ++ x3)).toArray), (1, .agg (nts (y1 ++ y2 ++ y3)).toArray)] := by simp [hp, hq, JV]
 have hs : (x1 ++ x2 ++ x3 ++ (y1 ++ y2 ++ y3) ++ List.replicate 252 0).length = 288 := by rw [List.length_append, List.length_append, hlx, hly, List.length_replicate]
 refine wp_build 85 #[(0, p), (1, q)] ho (by rw [hb, built85 hlx hly]; rfl) ?_
 rw [hb, built85 hlx hly, Option.getD_some]
 refine hK _ (by rw [List.size_toArray, nts_length, hs]) (all_one _) fun W b h t h0 h1 => ⟨⟨_, h, by rw [List.size_toArray, nts_length, hs]⟩, fun i hi => ?_⟩
 have key : ∀ pre l post : List Nat, x1 ++ x2 ++ x3 ++ (y1 ++ y2 ++ y3) ++ List.replicate 252 0 = pre ++ l ++ post → W.rangeAt b pre.length (nts l) := fun pre l post e j v hv => by
  rw [blk_cell h, e, List.getElem?_toArray, nts_append, nts_append, List.append_assoc, List.getElem?_append_right (by rw [nts_length]; omega), nts_length, Nat.add_sub_cancel_left, List.getElem?_append_left, hv]
  exact (List.getElem?_eq_some_iff.1 hv).1
 rcases (show i = 0 ∨ i = 1 by omega) with rfl | rfl
 · rw [h0]
   exact ⟨x1, x2, x3, by have := key [] (x1 ++ x2 ++ x3) _ (by rw [List.nil_append, List.append_assoc]); simpa using this, hf⟩
 · rw [h1]
   exact ⟨y1, y2, y3, by have := key (x1 ++ x2 ++ x3) (y1 ++ y2 ++ y3) _ rfl; rwa [hlx] at this, hg⟩
end Go.Proofs.Ytldhmjfjbalakaa

namespace Go.Proofs.Ytldhmjfjbalakaa
open Go.RowKit

def addC (C : Crv) (bi : Bool) (x y : Nat) (bj : Bool) (u v : Nat) : Option (Option (Nat × Nat)) :=
 if onQ C bi x y = true then (if onQ C bj u v = true then some (downT C.M (addT C.M (upP bi x y) (upP bj u v))) else none) else none
theorem ptv_store {X : World} {base b : Nat} {v : Value} {o : Option (Nat × Nat)} (h : PtV X base v o) : ∃ x0 x1 x2, v = .agg #[x0, x1, x2] ∧ (#[x0, x1, x2] : Array Value).all (·.oneCell') = true ∧ ∀ Y, Just b X Y → (∃ cs, X.heap[b]? = some (.cells cs 27 (0, 0))) → PtV Y base v o := by
 cases o with
 | none => cases h; exact ⟨_, _, _, rfl, pt_one _ _ _ _ _ _ _, fun _ _ _ => rfl⟩
 | some p =>
  obtain ⟨A, c, A', c', rfl, h1, h2⟩ := h
  exact ⟨_, _, _, rfl, pt_one _ _ _ _ _ _ _, fun Y hj ⟨cs, hb⟩ => ⟨A, c, A', c', rfl, h1.just hj hb (by decide), h2.just hj hb (by decide)⟩⟩
theorem apt_agg {w : World} {v : Value} {i : Bool} {x y : Nat} (h : APt w v i x y) : ∃ x1 x2, v = .agg #[.bool i, x1, x2] := by
 obtain ⟨A, A', c, c', a, b, rfl, _⟩ := h
 exact ⟨_, _, rfl⟩
theorem three_p (w : World) (o1 o2 o3 : Obj) : (((w.alloc o1).alloc o2).alloc o3).heap[w.heap.size]? = some o1 ∧ (((w.alloc o1).alloc o2).alloc o3).heap[w.heap.size + 1]? = some o2 ∧ (((w.alloc o1).alloc o2).alloc o3).heap[w.heap.size + 2]? = some o3 ∧ (((w.alloc o1).alloc o2).alloc o3).heap.size = w.heap.size + 3 := three_at w o1 o2 o3
set_option maxRecDepth 100000 in
set_option maxHeartbeats 8000000 in
theorem add_c {c : Int} {C : Crv} (hC : IsC c C) {p r : Value} {bi bj : Bool} {x y u v : Nat} (w : World) (hp : APt w p bi x y) (hr : APt w r bj u v) :
 Calls Try.prog 21 #[.int .i64 c, p, r] w fun e w' => ∃ o, e = .returned (.tuple #[o, .bool (addC C bi x y bj u v).isSome]) ∧ PtV w' w.heap.size o (addC C bi x y bj u v).join ∧ Ext w w' := by
 obtain ⟨p1, p2, rfl⟩ := apt_agg hp
 obtain ⟨r1, r2, rfl⟩ := apt_agg hr
 obtain ⟨W0, hW0⟩ : ∃ W0, W0 = ((w.alloc (.cells #[.bool bi, p1, p2] 27)).alloc (.cells #[.bool bj, r1, r2] 27)).alloc (.cells #[.bool false, .slice none 0 0, .slice none 0 0] 27) := ⟨_, rfl⟩
 obtain ⟨q, hq⟩ : ∃ q, w.heap.size = q := ⟨_, rfl⟩
 have hE0 : Ext w W0 := by rw [hW0]; exact ((Ext.alloc _ _).trans (Ext.alloc _ _)).trans (Ext.alloc _ _)
 obtain ⟨h1, h2, h3, hz0⟩ := three_p w (.cells #[.bool bi, p1, p2] 27) (.cells #[.bool bj, r1, r2] 27) (.cells #[.bool false, .slice none 0 0, .slice none 0 0] 27)
 rw [← hW0, hq] at h1 h2 h3 hz0
 have hp0 := Lib.hid (hp.ext hE0)
 have hr0 := Lib.hid (hr.ext hE0)
 have HE0 := Lib.hid hE0
 have Hz0 := Lib.hid hz0
 have HC := Lib.hid hC
 rw [hq]
 obtain ⟨res, hres⟩ : ∃ o, addC C bi x y bj u v = o := ⟨_, rfl⟩
 rw [hres]
 have Hres := Lib.hid hres
 clear hp hr hE0 hz0 hC hres
 go_enter Try.func21, Try.ntmps21
 go_upto_region 1 with fail
 rw [← hW0]
 have Hq := Lib.hid hq
 clear hW0 hq
 obtain ⟨o1, ho1⟩ : ∃ o, onQ C bi x y = o := ⟨_, rfl⟩
 obtain ⟨o2, ho2⟩ : ∃ o, onQ C bj u v = o := ⟨_, rfl⟩
 have Ho1 := Lib.hid ho1
 have Ho2 := Lib.hid ho2
 clear ho1 ho2
 go_upto_region 2 with (go_at_call 42; refine (of_c HC.out _).mono ?_; rintro e wa ⟨k, rfl, hk, hE1⟩)
 have HE1 := Lib.hid hE1
 replace h1 := hE1.at_ h1
 replace h2 := hE1.at_ h2
 replace h3 := hE1.at_ h3
 clear hE1
 cases o1
 case false =>
  obtain rfl : res = none := by rw [← Hres.out, addC, if_neg (by rw [Ho1.out]; decide)]
  refine Par.region_txt 10 [0, 0, 3, 7, 15, 31, 31, 127, 255, 511] [] (fun j f X => match j with
   | 0 => f 0 = .pointer (some ⟨k, 0, none⟩)
   | 1 => f 1 = .agg #[.bool bi, p1, p2]
   | 2 => f 2 = .bool false
   | 3 => f 3 = .bool true
   | 4 => f 4 = .bool true
   | 5 => f 5 = undef
   | 6 => f 6 = undef
   | 7 => f 7 = undef
   | 8 => f 8 = undef
   | 9 => f 9 = .bool true
   | _ => True) (by kernel_rfl) [(11, 0), (12, 1), (13, 2), (14, 3), (15, 4), (16, 5), (17, 6), (18, 7), (19, 8), (20, 9)] (by kernel_rfl) ?_
  refine Par.v0 1 9 ?_
  refine lV0 2 8 h1 infoP ?_
  refine Par.c0 3 7 (fun f => #[f 0, f 1]) (F' := 43) (fun f X hX hR => ?_) ?_
  · have e0 : f 0 = _ := hR.out 0 rfl
    have e1 : f 1 = _ := hR.out 1 rfl
    simp only [e0, e1]
    refine (on_j (hk.ext hX) HC.out.fine (hp0.out.ext (HE1.out.trans hX))).mono ?_
    rw [Ho1.out]
    rintro e w2 ⟨rfl, hB⟩
    exact ⟨_, rfl, hB, fun _ _ => rfl⟩
  refine Par.v1 4 6 2 ?_
  refine Par.v1 5 5 3 ?_
  refine Par.sk 6 4 4 ?_
  refine Par.sk 7 3 4 ?_
  refine Par.sk 8 2 4 ?_
  refine Par.sk 9 1 4 ?_
  refine Par.v2 10 0 4 8 ?_
  refine Par.AllOps.fin ⟨fun f X hX hR hal hap => ?_⟩
  have e9 : f 9 = _ := hR 9 (by decide)
  simp only [yA, yB, yD, yE, e9]
  clear hR hal hap e9
  refine Par.Chain.done ?_
  have hb1 := hX.at_ h3
  go_wp2_with (go_at_call 45; refine (none_any _).mono ?_; rintro e wb ⟨rfl, hE2⟩; have hrb2 := hE2.at_ hb1; obtain ⟨z0, z1, z2, f0, f1, f2⟩ := pt_facts hrb2)
  exact end_pt rfl rfl rfl rfl (pt_set hrb2 _ _ _) ⟨_, by rfl, by rfl, pt_ext (((HE0.out.trans HE1.out).trans hX).trans hE2) (by have := Hq.out; omega) _ _ _⟩
 case true =>
  cases o2
  case false =>
   obtain rfl : res = none := by rw [← Hres.out, addC, if_pos Ho1.out, if_neg (by rw [Ho2.out]; decide)]
   refine Par.region_txt 10 [0, 0, 3, 7, 15, 31, 31, 127, 255, 511] [] (fun j f X => match j with
    | 0 => f 0 = .pointer (some ⟨k, 0, none⟩)
    | 1 => f 1 = .agg #[.bool bi, p1, p2]
    | 2 => f 2 = .bool true
    | 3 => f 3 = .bool false
    | 4 => f 4 = .bool false
    | 5 => f 5 = .pointer (some ⟨k, 0, none⟩)
    | 6 => f 6 = .agg #[.bool bj, r1, r2]
    | 7 => f 7 = .bool false
    | 8 => f 8 = .bool true
    | 9 => f 9 = .bool true
    | _ => True) (by kernel_rfl) [(11, 0), (12, 1), (13, 2), (14, 3), (15, 4), (16, 5), (17, 6), (18, 7), (19, 8), (20, 9)] (by kernel_rfl) ?_
   refine Par.v0 1 9 ?_
   refine lV0 2 8 h1 infoP ?_
   refine Par.c0 3 7 (fun f => #[f 0, f 1]) (F' := 43) (fun f X hX hR => ?_) ?_
   · have e0 : f 0 = _ := hR.out 0 rfl
     have e1 : f 1 = _ := hR.out 1 rfl
     simp only [e0, e1]
     refine (on_j (hk.ext hX) HC.out.fine (hp0.out.ext (HE1.out.trans hX))).mono ?_
     rw [Ho1.out]
     rintro e w2 ⟨rfl, hB⟩
     exact ⟨_, rfl, hB, fun _ _ => rfl⟩
   refine Par.v1 4 6 2 ?_
   refine Par.v1 5 5 3 ?_
   refine Par.v1 6 4 4 ?_
   refine lV1 7 3 4 h2 infoP ?_
   refine Par.c1 8 2 4 (fun f => #[f 5, f 6]) (F' := 43) (fun f X hX hR => ?_) ?_
   · have e5 : f 5 = _ := hR.out 5 rfl
     have e6 : f 6 = _ := hR.out 6 rfl
     simp only [e5, e6]
     refine (on_j (hk.ext hX) HC.out.fine (hr0.out.ext (HE1.out.trans hX))).mono ?_
     rw [Ho2.out]
     rintro e w2 ⟨rfl, hB⟩
     exact ⟨_, rfl, hB, fun _ _ => rfl⟩
   refine Par.v2 9 1 4 7 ?_
   refine Par.v2 10 0 4 8 ?_
   refine Par.AllOps.fin ⟨fun f X hX hR hal hap => ?_⟩
   have e9 : f 9 = _ := hR 9 (by decide)
   simp only [yA, yB, yD, yE, e9]
   clear hR hal hap e9
   refine Par.Chain.done ?_
   have hb1 := hX.at_ h3
   go_wp2_with (go_at_call 45; refine (none_any _).mono ?_; rintro e wb ⟨rfl, hE2⟩; have hrb2 := hE2.at_ hb1; obtain ⟨z0, z1, z2, f0, f1, f2⟩ := pt_facts hrb2)
   exact end_pt rfl rfl rfl rfl (pt_set hrb2 _ _ _) ⟨_, by rfl, by rfl, pt_ext (((HE0.out.trans HE1.out).trans hX).trans hE2) (by have := Hq.out; omega) _ _ _⟩
  case true =>
   obtain rfl : res = some (downT C.M (addT C.M (upP bi x y) (upP bj u v))) := by rw [← Hres.out, addC, if_pos Ho1.out, if_pos Ho2.out]
   refine Par.region_txt 10 [0, 0, 3, 7, 15, 31, 31, 127, 255, 511] [] (fun j f X => match j with
    | 0 => f 0 = .pointer (some ⟨k, 0, none⟩)
    | 1 => f 1 = .agg #[.bool bi, p1, p2]
    | 2 => f 2 = .bool true
    | 3 => f 3 = .bool false
    | 4 => f 4 = .bool false
    | 5 => f 5 = .pointer (some ⟨k, 0, none⟩)
    | 6 => f 6 = .agg #[.bool bj, r1, r2]
    | 7 => f 7 = .bool true
    | 8 => f 8 = .bool false
    | 9 => f 9 = .bool false
    | _ => True) (by kernel_rfl) [(11, 0), (12, 1), (13, 2), (14, 3), (15, 4), (16, 5), (17, 6), (18, 7), (19, 8), (20, 9)] (by kernel_rfl) ?_
   refine Par.v0 1 9 ?_
   refine lV0 2 8 h1 infoP ?_
   refine Par.c0 3 7 (fun f => #[f 0, f 1]) (F' := 43) (fun f X hX hR => ?_) ?_
   · have e0 : f 0 = _ := hR.out 0 rfl
     have e1 : f 1 = _ := hR.out 1 rfl
     simp only [e0, e1]
     refine (on_j (hk.ext hX) HC.out.fine (hp0.out.ext (HE1.out.trans hX))).mono ?_
     rw [Ho1.out]
     rintro e w2 ⟨rfl, hB⟩
     exact ⟨_, rfl, hB, fun _ _ => rfl⟩
   refine Par.v1 4 6 2 ?_
   refine Par.v1 5 5 3 ?_
   refine Par.v1 6 4 4 ?_
   refine lV1 7 3 4 h2 infoP ?_
   refine Par.c1 8 2 4 (fun f => #[f 5, f 6]) (F' := 43) (fun f X hX hR => ?_) ?_
   · have e5 : f 5 = _ := hR.out 5 rfl
     have e6 : f 6 = _ := hR.out 6 rfl
     simp only [e5, e6]
     refine (on_j (hk.ext hX) HC.out.fine (hr0.out.ext (HE1.out.trans hX))).mono ?_
     rw [Ho2.out]
     rintro e w2 ⟨rfl, hB⟩
     exact ⟨_, rfl, hB, fun _ _ => rfl⟩
   refine Par.v2 9 1 4 7 ?_
   refine Par.v2 10 0 4 8 ?_
   refine Par.AllOps.fin ⟨fun f X hX hR hal hap => ?_⟩
   have e9 : f 9 = _ := hR 9 (by decide)
   simp only [yA, yB, yD, yE, e9]
   clear hR hal hap e9
   refine Par.Chain.done ?_
   have HX := Lib.hid hX
   rename World => X2
   replace h1 := HX.out.at_ h1
   replace h2 := HX.out.at_ h2
   replace h3 := HX.out.at_ h3
   have HEX := Lib.hid ((HE0.out.trans HE1.out).trans HX.out)
   clear hX
   go_upto_region 4 with fail
   refine Par.region_ext (by kernel_rfl) 10 [0, 0, 0, 0, 12, 0, 0, 124, 254, 511, 1023, 2047] [] (fun j f X => match j with
    | 0 => f 0 = .pointer (some ⟨k, 0, none⟩)
    | 1 => f 1 = .pointer (some ⟨k, 0, none⟩)
    | 2 => f 2 = .pointer (some ⟨k, 0, none⟩)
    | 3 => f 3 = .agg #[.bool bi, p1, p2]
    | 4 => ∃ o, f 4 = o ∧ JAt C o (upP bi x y)
    | 5 => f 5 = .pointer (some ⟨k, 0, none⟩)
    | 6 => f 6 = .agg #[.bool bj, r1, r2]
    | 7 => ∃ o, f 7 = o ∧ JAt C o (upP bj u v)
    | 8 => ∃ o, f 8 = o ∧ JAt C o (addT C.M (upP bi x y) (upP bj u v))
    | 9 => ∃ o, f 9 = o ∧ PtV X q o (downT C.M (addT C.M (upP bi x y) (upP bj u v)))
    | _ => True) (by kernel_rfl) [(22, 0), (23, 1), (24, 2), (25, 3), (26, 4), (27, 5), (28, 6), (29, 7), (30, 8), (31, 9)] (by kernel_rfl) ?_
   refine Par.v0 1 9 ?_
   refine Par.v0 2 8 ?_
   refine Par.v0 3 7 ?_
   refine lV0 4 6 h1 infoP ?_
   refine Par.c0 5 5 (fun f => #[f 2, f 3]) (F' := 46) (fun f X hX hR => ?_) ?_
   · have e2 : f 2 = _ := hR.out 2 rfl
     have e3 : f 3 = _ := hR.out 3 rfl
     simp only [e2, e3]
     refine (up_j (hk.ext (HX.out.trans hX)) (hp0.out.ext ((HE1.out.trans HX.out).trans hX)) Ho1.out).mono ?_
     rintro e w2 ⟨o, rfl, hj, hB⟩
     exact ⟨_, rfl, hB, fun _ _ => ⟨_, rfl, hj⟩⟩
   refine Par.v0 6 4 ?_
   refine lV0 7 3 h2 infoP ?_
   refine Par.c0 8 2 (fun f => #[f 5, f 6]) (F' := 46) (fun f X hX hR => ?_) ?_
   · have e5 : f 5 = _ := hR.out 5 rfl
     have e6 : f 6 = _ := hR.out 6 rfl
     simp only [e5, e6]
     refine (up_j (hk.ext (HX.out.trans hX)) (hr0.out.ext ((HE1.out.trans HX.out).trans hX)) Ho2.out).mono ?_
     rintro e w2 ⟨o, rfl, hj, hB⟩
     exact ⟨_, rfl, hB, fun _ _ => ⟨_, rfl, hj⟩⟩
   refine Par.c0 9 1 (fun f => #[f 1, f 4, f 7]) (F' := 47) (fun f X hX hR => ?_) ?_
   · have e1 : f 1 = _ := hR.out 1 rfl
     obtain ⟨v4, (e4 : f 4 = _), j4⟩ := hR.out 4 rfl
     obtain ⟨v7, (e7 : f 7 = _), j7⟩ := hR.out 7 rfl
     simp only [e1, e4, e7]
     refine (add_j (hk.ext (HX.out.trans hX)) j4 j7).mono ?_
     rintro e w2 ⟨o, rfl, hj, hB⟩
     exact ⟨_, rfl, hB, fun _ _ => ⟨_, rfl, hj⟩⟩
   refine Par.c0 10 0 (fun f => #[f 0, f 8]) (F' := 50) (fun f X hX hR => ?_) ?_
   · have e0 : f 0 = _ := hR.out 0 rfl
     obtain ⟨v8, (e8 : f 8 = _), j8⟩ := hR.out 8 rfl
     simp only [e0, e8]
     refine (down_j (hk.ext (HX.out.trans hX)) HC.out.plen j8).mono ?_
     rintro e w2 ⟨o, rfl, hj, hB⟩
     exact ⟨_, rfl, hB, fun Y hY => ⟨_, rfl, (hj.mono (by have := HEX.out.bsize; have := hX.bsize; have := Hq.out; omega)).ext hY⟩⟩
   refine Par.AllOps.fin ⟨fun f X hX hR hal hap => ?_⟩
   obtain ⟨v4, (e4 : f 4 = _), j4⟩ := hR 4 (by decide)
   obtain ⟨v7, (e7 : f 7 = _), j7⟩ := hR 7 (by decide)
   obtain ⟨v8, (e8 : f 8 = _), j8⟩ := hR 8 (by decide)
   obtain ⟨v9, (e9 : f 9 = _), j9⟩ := hR 9 (by decide)
   simp only [yA, yB, yD, yE, e4, e7, e8, e9]
   clear hR hal hap e4 e7 e8 e9
   obtain ⟨x0, x1, x2, ev, hone, hst⟩ := ptv_store (b := q + 1 + 1) j9
   subst ev
   refine Par.Chain.next (fun K hK => ⟨Par.want (by kernel_rfl) (wp_storeV (cs' := #[x0, x1, x2]) (t := 27) 27 (.tmp 6) (.tmp 31) rfl rfl rfl rfl (hX.at_ h3) infoP rfl hone (fun Y hY1 hY2 hY3 => hK.out _ _ ?_))⟩)
   refine Par.Chain.next (fun K hK => ⟨Par.want (by kernel_rfl) ?_⟩)
   go_simp
   refine hK.out _ _ ?_
   refine Par.Chain.done ?_
   go_wp2
   exact end_pt rfl rfl rfl rfl hY1 ⟨_, rfl, hst Y hY2 ⟨_, hX.at_ h3⟩, hY2.ext (HEX.out.trans hX) (by have := Hq.out; omega)⟩
end Go.Proofs.Ytldhmjfjbalakaa

namespace Go.Proofs.Ytldhmjfjbalakaa
open Go.RowKit Go.Shelf

attribute [local go_sem] Oper.semAt_some

def tabP (M : Nat) (p : Nat × Nat × Nat) : Nat → Nat × Nat × Nat
 | 0 => (1, 1, 0)
 | 1 => p
 | k + 2 => addT M (tabP M p (k + 1)) p
def mulS (M : Nat) (p : Nat × Nat × Nat) (E : Nat) : Nat → (Nat × Nat × Nat) × Nat
 | 0 => ((1, 1, 0), 0)
 | k + 1 => if (bitAt E k).1 % 4 = 0 then (addT M (dblT M (mulS M p E k).1) (tabP M p (2 * (mulS M p E k).2 + (bitAt E k).2)), 0) else (dblT M (mulS M p E k).1, 2 * (mulS M p E k).2 + (bitAt E k).2)
def mulC (C : Crv) (bi : Bool) (x y E : Nat) : Option (Option (Nat × Nat)) := if onQ C bi x y = true then (if nbits E ≤ 4096 then some (downT C.M (mulS C.M (upP bi x y) E (nbits E)).1) else none) else none
theorem one_set {X : World} {b : Nat} {u : Value} {T : TypeId} (h : X.heap[b]? = some (.cells #[u] T (0, 0))) (v : Value) : (X.setCell ⟨b, 0, none⟩ v).heap[b]? = some (.cells #[v] T (0, 0)) ∧ Just b X (X.setCell ⟨b, 0, none⟩ v) :=
 ⟨by simpa using blk_set h 0 v, (Just.refl b X).set 0 v⟩
def JBlk (C : Crv) (X : World) (b : Nat) (p : Nat × Nat × Nat) : Prop := ∃ x y z, BlkJ X b x y z ∧ FJ C.M C.n x y z p.1 p.2.1 p.2.2
theorem BlkJ.lt' {X : World} {b : Nat} {x y z : List Nat} (h : BlkJ X b x y z) : b < X.heap.size := blk_lt h
theorem JBlk.ext {C : Crv} {X Y : World} {b : Nat} {p : Nat × Nat × Nat} (h : JBlk C X b p) (hE : Ext X Y) : JBlk C Y b p := let ⟨x, y, z, h1, h2⟩ := h; ⟨x, y, z, hE.at_ h1, h2⟩
theorem dig_lt (M : Nat) (p : Nat × Nat × Nat) (E : Nat) : ∀ k, k < nbits E → (mulS M p E k).2 * 2 ^ ((nbits E - 1 - k) % 4) < 8
 | 0, _ => by rw [show (mulS M p E 0).2 = 0 from rfl]; omega
 | k + 1, h => by
  have ih := dig_lt M p E k (by omega)
  have hb : (bitAt E k).2 < 2 := Nat.mod_lt _ (by omega)
  have hi : (bitAt E k).1 = nbits E - 1 - k := rfl
  simp only [mulS]
  split
  · simp
  · rename_i hne
    rw [hi] at hne
    obtain ⟨i, hi'⟩ : ∃ i, nbits E - 1 - k = i := ⟨_, rfl⟩
    rw [hi'] at ih hne
    rw [show nbits E - 1 - (k + 1) = i - 1 by omega]
    have hr : i % 4 = 1 ∨ i % 4 = 2 ∨ i % 4 = 3 := by omega
    show (2 * (mulS M p E k).2 + (bitAt E k).2) * _ < 8
    rcases hr with hr | hr | hr
    · rw [hr] at ih
      rw [show (i - 1) % 4 = 0 by omega]
      omega
    · rw [hr] at ih
      rw [show (i - 1) % 4 = 1 by omega]
      omega
    · rw [hr] at ih
      rw [show (i - 1) % 4 = 2 by omega]
      omega
theorem dig_lt8 {M : Nat} {p : Nat × Nat × Nat} {E k : Nat} (h : k < nbits E) : (mulS M p E k).2 < 8 := Nat.lt_of_le_of_lt (Nat.le_mul_of_pos_right _ (Nat.pow_pos (by omega))) (dig_lt M p E k h)
theorem res_pt {fn : Func} {tm : Array Value} {W : World} {p u : Tmp} {g : Nat} {ty : TypeId} {fr : Nat × Nat} {x0 x1 x2 v : Value} (hr : fn.results = #[.cell p 27, .tmp u]) (hp : tm.getD p undef = .pointer (some ⟨g, 0, none⟩)) (hu : tm.getD u undef = v)
 (hg : W.heap[g]? = some (.cells #[x0, x1, x2] ty fr)) : (results fn tm).run Try.prog W = .ok (.tuple #[.agg #[x0, x1, x2], v]) W := by
 rw [results_cell_tmp hr, hp]
 have h1 : (asAddr (.pointer (some ⟨g, 0, none⟩)) : Sem Addr).run Try.prog W = .ok ⟨g, 0, none⟩ W := rfl
 rw [h1, Result.andThen_ok, run_loadVar_row W g ty 27 #[x0, x1, x2] fr _ hg Try.underlying27 rfl infoP, Result.andThen_ok, hu]
theorem JBlk.just {C : Crv} {X Y : World} {b g : Nat} {p : Nat × Nat × Nat} (h : JBlk C X b p) (hj : Just g X Y) (hb : b ≠ g) : JBlk C Y b p := let ⟨x, y, z, h1, h2⟩ := h; ⟨x, y, z, hj.at_ hb h1, h2⟩
theorem OB.put {X : World} {base D : Nat} {A : Option Addr} {c : Nat} {l : List Nat} {o o' : Obj} (h : OB X base A c l) (hD : X.heap[D]? = some o) (hc : o.isCells = false) : OB (X.putObj D o') base A c l := by
 obtain ⟨h1, h2, h3, h4⟩ := h
 refine ⟨h1, h2, h3, fun hl => ?_⟩
 obtain ⟨g, cur, e, hg, hgc, hr⟩ := h4 hl
 refine ⟨g, cur, e, hg, (World.putObj_heap_other (fun e => ?_)).trans hgc, hr⟩
 subst e
 rw [hD] at hgc
 cases hgc
 cases hc
theorem PtV.put {X : World} {base D : Nat} {v : Value} {p : Option (Nat × Nat)} {o' : Obj} (h : PtV X base v p) (hD : X.heap[D]? = some (.deferred (some []))) : PtV (X.putObj D o') base v p := by
 cases p with
 | none => exact h
 | some p =>
  obtain ⟨A, c, A', c', rfl, h1, h2⟩ := h
  exact ⟨A, c, A', c', rfl, h1.put hD rfl, h2.put hD rfl⟩
structure MK (n0 t bo be : Nat) (w3 V Z : World) : Prop where
 keeps : Keeps n0 (n0 + 2) 0 V Z
 stay : Stay t n0 V Z
 below : Below bo w3 Z
 tab : Z.heap[be]? = V.heap[be]?
 size : n0 ≤ Z.heap.size
theorem MK.ext {n0 t bo be : Nat} {w3 V Z Z' : World} (h : MK n0 t bo be w3 V Z) (hE : Ext Z Z') (hbe : be < n0) (hbo : bo ≤ n0) : MK n0 t bo be w3 V Z' :=
 ⟨h.keeps.trans (Keeps.below hE (Nat.le_refl _)), Stay.trans h.stay (hE.stay h.size), h.below.trans (Below.mono hE (by have := h.size; omega)), (Below.block hE be (by have := h.size; omega)).trans h.tab, Nat.le_trans h.size hE.bsize⟩
theorem MK.just {n0 t bo be g : Nat} {w3 V Z Z' : World} {cs : Array Value} {T : TypeId} {fr : Nat × Nat} (h : MK n0 t bo be w3 V Z) (hj : Just g Z Z') (hg : Z.heap[g]? = some (.cells cs T fr)) (hgt : g < t) (hgb : bo ≤ g) (hne : be ≠ g) (hbe : be < n0) (hbo : bo ≤ n0) : MK n0 t bo be w3 V Z' :=
 ⟨h.keeps.trans (Keeps.just hj hg), Stay.trans h.stay (hj.stay hgt h.size), h.below.trans (hj.below hgb (by have := h.size; omega)), (hj.block be (by have := h.size; omega) hne).trans h.tab, Nat.le_trans h.size hj.size⟩
theorem JBlk.below {C : Crv} {X Y : World} {b B : Nat} {p : Nat × Nat × Nat} (h : JBlk C X b p) (hB : Below B X Y) (hb : b < B) : JBlk C Y b p := let ⟨x, y, z, h1, h2⟩ := h; ⟨x, y, z, (hB.block b hb).trans h1, h2⟩
set_option maxRecDepth 100000 in
set_option maxHeartbeats 8000000 in
theorem mul_c {c : Int} {C : Crv} (hC : IsC c C) {p : Value} {bi : Bool} {x y E : Nat} {An : Option Addr} {cn : Nat} {n : List Nat} (w : World) (hp : APt w p bi x y) (hn : RU w An cn n) (hE : val 18446744073709551616 n = E) :
 Calls Try.prog 15 #[.int .i64 c, .slice An n.length cn, p] w fun e w' => ∃ o, e = .returned (.tuple #[o, .bool (mulC C bi x y E).isSome]) ∧ PtV w' w.heap.size o (mulC C bi x y E).join ∧ Ext w w' := by
 obtain ⟨A, A', ca, cb, a, b, rfl, ha, hb, hx, hy⟩ := hp
 have hp : APt w (.agg #[.bool bi, .slice A a.length ca, .slice A' b.length cb]) bi x y := ⟨A, A', ca, cb, a, b, rfl, ha, hb, hx, hy⟩
 obtain ⟨W0, hW0⟩ : ∃ W0, W0 = (w.alloc (.cells #[.bool bi, .slice A a.length ca, .slice A' b.length cb] 27)).alloc (.cells #[.bool false, .slice none 0 0, .slice none 0 0] 27) := ⟨_, rfl⟩
 obtain ⟨q, hq⟩ : ∃ q, w.heap.size = q := ⟨_, rfl⟩
 have hE0 : Ext w W0 := by rw [hW0]; exact (Ext.alloc _ _).trans (Ext.alloc _ _)
 obtain ⟨h1, h3, hz0⟩ := two_at2 w (.cells #[.bool bi, .slice A a.length ca, .slice A' b.length cb] 27) (.cells #[.bool false, .slice none 0 0, .slice none 0 0] 27)
 rw [← hW0, hq] at h1 h3 hz0
 have hp0 := Lib.hid (hp.ext hE0)
 have HE0 := Lib.hid hE0
 have Hz0 := Lib.hid hz0
 have HC := Lib.hid hC
 have HN := Lib.hid (RN.up hn hE0)
 have HE := Lib.hid hE
 rw [hq]
 obtain ⟨res, hres⟩ : ∃ o, mulC C bi x y E = o := ⟨_, rfl⟩
 rw [hres]
 have Hres := Lib.hid hres
 clear hp hE0 hz0 hC hres ha hb hx hy hn hE
 obtain ⟨o1, ho1⟩ : ∃ o, onQ C bi x y = o := ⟨_, rfl⟩
 have Ho1 := Lib.hid ho1
 obtain ⟨nb, hnb⟩ : ∃ o, nbits E = o := ⟨_, rfl⟩
 have Hnb := Lib.hid hnb
 clear ho1 hnb
 cases o1
 case false =>
  obtain rfl : res = none := by rw [← Hres.out, mulC, if_neg (by rw [Ho1.out]; decide)]
  go_enter Try.func15, Try.ntmps15
  go_upto_region 1 with fail
  rw [← hW0]
  have Hq := Lib.hid hq
  clear hW0 hq
  go_upto_region 2 with (go_at_call 42; refine (of_c HC.out _).mono ?_; rintro e wa ⟨k1, rfl, hk1, hE1⟩)
  obtain ⟨b2, hb2⟩ : ∃ b, wa.heap.size = b := ⟨_, rfl⟩
  have h2 := heap_alloc_new wa (.cells #[.pointer (some ⟨k1, 0, none⟩)] 75)
  have hA := Ext.alloc wa (.cells #[.pointer (some ⟨k1, 0, none⟩)] 75)
  rw [hb2] at h2
  have hz1 : (wa.alloc (.cells #[.pointer (some ⟨k1, 0, none⟩)] 75)).heap.size = b2 + 1 := by rw [World.size_alloc, hb2]
  generalize hW1 : wa.alloc (.cells #[.pointer (some ⟨k1, 0, none⟩)] 75) = W1 at *
  rw [hb2]
  have Hk1 := Lib.hid (hk1.ext hA)
  have HE1 := Lib.hid (hE1.trans hA)
  have Hz1 := Lib.hid hz1
  have HB2 := Lib.hid (show q + 2 ≤ b2 by have := hE1.bsize; have := Hz0.out; omega)
  replace h1 := HE1.out.at_ h1
  replace h3 := HE1.out.at_ h3
  have ck := blk_cell h2 0
  simp only [List.getElem?_toArray, List.getElem?_cons_zero] at ck
  clear hk1 hE1 hA hz1 hb2 hW1
  refine Par.region_txt 9 [0, 0, 3, 7, 15, 31, 63, 127, 255] [] (fun j f X => match j with
   | 0 => f 0 = .pointer (some ⟨k1, 0, none⟩)
   | 1 => f 1 = .agg #[.bool bi, .slice A a.length ca, .slice A' b.length cb]
   | 2 => f 2 = .bool false
   | 3 => f 3 = .bool true
   | 4 => f 4 = .bool true
   | 5 => f 5 = undef
   | 6 => f 6 = undef
   | 7 => f 7 = undef
   | 8 => f 8 = .bool true
   | _ => True) (by kernel_rfl) [(17, 0), (18, 1), (19, 2), (20, 3), (21, 4), (22, 5), (23, 6), (24, 7), (25, 8)] (by kernel_rfl) ?_
  refine Par.ld0 1 8 ck ?_
  refine lV0 2 7 h1 infoP ?_
  refine Par.c0 3 6 (fun f => #[f 0, f 1]) (F' := 43) (fun f X hX hR => ?_) ?_
  · have e0 : f 0 = _ := hR.out 0 rfl
    have e1 : f 1 = _ := hR.out 1 rfl
    simp only [e0, e1]
    refine (on_j (Hk1.out.ext hX) HC.out.fine (hp0.out.ext (HE1.out.trans hX))).mono ?_
    rw [Ho1.out]
    rintro e w2 ⟨rfl, hB⟩
    exact ⟨_, rfl, hB, fun _ _ => rfl⟩
  refine Par.v1 4 5 2 ?_
  refine Par.v1 5 4 3 ?_
  refine Par.sk 6 3 4 ?_
  refine Par.sk 7 2 4 ?_
  refine Par.sk 8 1 4 ?_
  refine Par.v2 9 0 4 7 ?_
  refine Par.AllOps.fin ⟨fun f X hX hR hal hap => ?_⟩
  have e8 : f 8 = _ := hR 8 (by decide)
  simp only [yA, yB, yD, yE, e8]
  clear hR hal hap e8
  refine Par.Chain.done ?_
  have hb1 := hX.at_ h3
  go_wp2_with (go_at_call 45; refine (none_any _).mono ?_; rintro e wb ⟨rfl, hE2⟩; have hrb2 := hE2.at_ hb1; obtain ⟨z0, z1, z2, f0, f1, f2⟩ := pt_facts hrb2)
  exact end_pt rfl rfl rfl rfl (pt_set hrb2 _ _ _) ⟨_, rfl, rfl, pt_ext (((HE0.out.trans HE1.out).trans hX).trans hE2) (by have := Hq.out; omega) _ _ _⟩
 case true =>
  by_cases hbits : nb ≤ 4096
  case neg =>
   obtain rfl : res = none := by rw [← Hres.out, mulC, if_pos Ho1.out, if_neg (by rw [Hnb.out]; exact hbits)]
   have Hgt := Lib.hid (show (4096 : Int) < (nb : Int) by omega)
   go_enter Try.func15, Try.ntmps15
   go_upto_region 1 with fail
   rw [← hW0]
   have Hq := Lib.hid hq
   clear hW0 hq
   go_upto_region 2 with (go_at_call 42; refine (of_c HC.out _).mono ?_; rintro e wa ⟨k1, rfl, hk1, hE1⟩)
   obtain ⟨b2, hb2⟩ : ∃ b, wa.heap.size = b := ⟨_, rfl⟩
   have h2 := heap_alloc_new wa (.cells #[.pointer (some ⟨k1, 0, none⟩)] 75)
   have hA := Ext.alloc wa (.cells #[.pointer (some ⟨k1, 0, none⟩)] 75)
   rw [hb2] at h2
   have hz1 : (wa.alloc (.cells #[.pointer (some ⟨k1, 0, none⟩)] 75)).heap.size = b2 + 1 := by rw [World.size_alloc, hb2]
   generalize hW1 : wa.alloc (.cells #[.pointer (some ⟨k1, 0, none⟩)] 75) = W1 at *
   rw [hb2]
   have Hk1 := Lib.hid (hk1.ext hA)
   have HE1 := Lib.hid (hE1.trans hA)
   have Hz1 := Lib.hid hz1
   have HB2 := Lib.hid (show q + 2 ≤ b2 by have := hE1.bsize; have := Hz0.out; omega)
   replace h1 := HE1.out.at_ h1
   replace h3 := HE1.out.at_ h3
   have ck := blk_cell h2 0
   simp only [List.getElem?_toArray, List.getElem?_cons_zero] at ck
   clear hk1 hE1 hA hz1 hb2 hW1
   refine Par.region_txt 9 [0, 0, 3, 7, 15, 31, 63, 127, 255] [] (fun j f X => match j with
    | 0 => f 0 = .pointer (some ⟨k1, 0, none⟩)
    | 1 => f 1 = .agg #[.bool bi, .slice A a.length ca, .slice A' b.length cb]
    | 2 => f 2 = .bool true
    | 3 => f 3 = .bool false
    | 4 => f 4 = .bool false
    | 5 => f 5 = .slice An n.length cn
    | 6 => f 6 = .int .i64 (nb : Int)
    | 7 => f 7 = .bool true
    | 8 => f 8 = .bool true
    | _ => True) (by kernel_rfl) [(17, 0), (18, 1), (19, 2), (20, 3), (21, 4), (22, 5), (23, 6), (24, 7), (25, 8)] (by kernel_rfl) ?_
   refine Par.ld0 1 8 ck ?_
   refine lV0 2 7 h1 infoP ?_
   refine Par.c0 3 6 (fun f => #[f 0, f 1]) (F' := 43) (fun f X hX hR => ?_) ?_
   · have e0 : f 0 = _ := hR.out 0 rfl
     have e1 : f 1 = _ := hR.out 1 rfl
     simp only [e0, e1]
     refine (on_j (Hk1.out.ext hX) HC.out.fine (hp0.out.ext (HE1.out.trans hX))).mono ?_
     rw [Ho1.out]
     rintro e w2 ⟨rfl, hB⟩
     exact ⟨_, rfl, hB, fun _ _ => rfl⟩
   refine Par.v1 4 5 2 ?_
   refine Par.v1 5 4 3 ?_
   refine Par.v1 6 3 4 ?_
   refine Par.c1 7 2 4 (fun f => #[f 5]) (F' := 44) (fun f X hX hR => ?_) ?_
   · have e5 : f 5 = _ := hR.out 5 rfl
     simp only [e5]
     refine (bits_any _ An cn n X (RN.up HN.out (HE1.out.trans hX))).mono ?_
     rw [HE.out, Hnb.out]
     rintro e w2 ⟨rfl, rfl⟩
     exact ⟨_, rfl, (Ext.refl _), fun _ _ => rfl⟩
   refine Par.S 8 1 [(17, 0), (18, 1), (19, 2), (20, 3), (21, 4), (22, 5), (23, 6)] (fun f X hX hR K hK => ?_) ?_
   · have e4 : f 4 = _ := hR.out 4 rfl
     have e6 : f 6 = _ := hR.out 6 rfl
     have hgt : decide ((4096 : Int) < (nb : Int)) = true := decide_eq_true (by have := Hgt.out; omega)
     have hgn : decide (4096 < nb) = true := decide_eq_true (by have := Hgt.out; omega)
     simp only [yA, yB, yC, yD, yE, e4, e6]
     refine ⟨Par.want (by kernel_rfl) ?_⟩
     go_simp
     exact Par.k hK (s := by simp only [yA, yB, yC, yD, yE, e4, e6])
   refine Par.v2 9 0 4 7 ?_
   refine Par.AllOps.fin ⟨fun f X hX hR hal hap => ?_⟩
   have e8 : f 8 = _ := hR 8 (by decide)
   simp only [yA, yB, yD, yE, e8]
   clear hR hal hap e8
   refine Par.Chain.done ?_
   have hb1 := hX.at_ h3
   go_wp2_with (go_at_call 45; refine (none_any _).mono ?_; rintro e wb ⟨rfl, hE2⟩; have hrb2 := hE2.at_ hb1; obtain ⟨z0, z1, z2, f0, f1, f2⟩ := pt_facts hrb2)
   exact end_pt rfl rfl rfl rfl (pt_set hrb2 _ _ _) ⟨_, rfl, rfl, pt_ext (((HE0.out.trans HE1.out).trans hX).trans hE2) (by have := Hq.out; omega) _ _ _⟩
  case pos =>
   obtain rfl : res = some (downT C.M (mulS C.M (upP bi x y) E nb).1) := by rw [← Hres.out, mulC, if_pos Ho1.out, if_pos (by rw [Hnb.out]; exact hbits), Hnb.out]
   have Hgt := Lib.hid (show ¬ (4096 : Int) < (nb : Int) by omega)
   refine (callsIn_wide (n := 6)).1 ?_
   refine callsIn_of_wp_marks Try.func15 rfl trivial ?_ rfl
   simp only [Try.ntmps15, List.size_toArray, List.length_cons, List.length_nil, Nat.reduceAdd, Nat.reduceSub, Array.replicate_succ, Array.replicate_zero, List.push_toArray, List.append_toArray, List.nil_append, List.cons_append]
   refine wpIn_wide.2 ?_
   go_upto_region 1 with fail
   rw [← hW0]
   have Hq := Lib.hid hq
   clear hW0 hq
   go_upto_region 2 with (go_at_call 42; refine (of_c HC.out _).mono ?_; rintro e wa ⟨k1, rfl, hk1, hE1⟩)
   obtain ⟨b2, hb2⟩ : ∃ b, wa.heap.size = b := ⟨_, rfl⟩
   have h2 := heap_alloc_new wa (.cells #[.pointer (some ⟨k1, 0, none⟩)] 75)
   have hA := Ext.alloc wa (.cells #[.pointer (some ⟨k1, 0, none⟩)] 75)
   rw [hb2] at h2
   have hz1 : (wa.alloc (.cells #[.pointer (some ⟨k1, 0, none⟩)] 75)).heap.size = b2 + 1 := by rw [World.size_alloc, hb2]
   generalize hW1 : wa.alloc (.cells #[.pointer (some ⟨k1, 0, none⟩)] 75) = W1 at *
   rw [hb2]
   have Hk1 := Lib.hid (hk1.ext hA)
   have HE1 := Lib.hid (hE1.trans hA)
   have Hz1 := Lib.hid hz1
   have HB2 := Lib.hid (show q + 2 ≤ b2 by have := hE1.bsize; have := Hz0.out; omega)
   replace h1 := HE1.out.at_ h1
   replace h3 := HE1.out.at_ h3
   have ck := blk_cell h2 0
   simp only [List.getElem?_toArray, List.getElem?_cons_zero] at ck
   clear hk1 hE1 hA hz1 hb2 hW1
   refine Par.region_txt 9 [0, 0, 3, 7, 15, 31, 63, 127, 255] [] (fun j f X => match j with
    | 0 => f 0 = .pointer (some ⟨k1, 0, none⟩)
    | 1 => f 1 = .agg #[.bool bi, .slice A a.length ca, .slice A' b.length cb]
    | 2 => f 2 = .bool true
    | 3 => f 3 = .bool false
    | 4 => f 4 = .bool false
    | 5 => f 5 = .slice An n.length cn
    | 6 => f 6 = .int .i64 (nb : Int)
    | 7 => f 7 = .bool false
    | 8 => f 8 = .bool false
    | _ => True) (by kernel_rfl) [(17, 0), (18, 1), (19, 2), (20, 3), (21, 4), (22, 5), (23, 6), (24, 7), (25, 8)] (by kernel_rfl) ?_
   refine Par.ld0 1 8 ck ?_
   refine lV0 2 7 h1 infoP ?_
   refine Par.c0 3 6 (fun f => #[f 0, f 1]) (F' := 43) (fun f X hX hR => ?_) ?_
   · have e0 : f 0 = _ := hR.out 0 rfl
     have e1 : f 1 = _ := hR.out 1 rfl
     simp only [e0, e1]
     refine (on_j (Hk1.out.ext hX) HC.out.fine (hp0.out.ext (HE1.out.trans hX))).mono ?_
     rw [Ho1.out]
     rintro e w2 ⟨rfl, hB⟩
     exact ⟨_, rfl, hB, fun _ _ => rfl⟩
   refine Par.v1 4 5 2 ?_
   refine Par.v1 5 4 3 ?_
   refine Par.v1 6 3 4 ?_
   refine Par.c1 7 2 4 (fun f => #[f 5]) (F' := 44) (fun f X hX hR => ?_) ?_
   · have e5 : f 5 = _ := hR.out 5 rfl
     simp only [e5]
     refine (bits_any _ An cn n X (RN.up HN.out (HE1.out.trans hX))).mono ?_
     rw [HE.out, Hnb.out]
     rintro e w2 ⟨rfl, rfl⟩
     exact ⟨_, rfl, (Ext.refl _), fun _ _ => rfl⟩
   refine Par.S 8 1 [(17, 0), (18, 1), (19, 2), (20, 3), (21, 4), (22, 5), (23, 6)] (fun f X hX hR K hK => ?_) ?_
   · have e4 : f 4 = _ := hR.out 4 rfl
     have e6 : f 6 = _ := hR.out 6 rfl
     have hgt : decide ((4096 : Int) < (nb : Int)) = false := decide_eq_false (by have := Hgt.out; omega)
     have hgn : decide (4096 < nb) = false := decide_eq_false (by have := Hgt.out; omega)
     simp only [yA, yB, yC, yD, yE, e4, e6]
     refine ⟨Par.want (by kernel_rfl) ?_⟩
     go_simp
     exact Par.k hK (s := by simp only [yA, yB, yC, yD, yE, e4, e6])
   refine Par.v2 9 0 4 7 ?_
   refine Par.AllOps.fin ⟨fun f X hX hR hal hap => ?_⟩
   have e8 : f 8 = _ := hR 8 (by decide)
   simp only [yA, yB, yD, yE, e8]
   clear hR hal hap e8
   refine Par.Chain.done ?_
   have HX := Lib.hid hX
   rename World => X2
   replace ck := hX.cell ck
   replace h1 := hX.at_ h1
   replace h3 := hX.at_ h3
   clear hX h2
   go_upto_region 4 with fail
   obtain ⟨pt, hpt⟩ : ∃ t, tabP C.M (upP bi x y) = t := ⟨_, rfl⟩
   have ht0 : pt 0 = (1, 1, 0) := by rw [← hpt]; rfl
   have ht1 : pt 1 = upP bi x y := by rw [← hpt]; rfl
   have hts : ∀ k, 1 ≤ k → pt (k + 1) = addT C.M (pt k) (pt 1) := by
    intro k hk
    obtain ⟨k, rfl⟩ : ∃ m, k = m + 1 := ⟨k - 1, by omega⟩
    rw [← hpt]
    rfl
   have Hpt := Lib.hid hpt
   have Ht0 := Lib.hid ht0
   have Ht1 := Lib.hid ht1
   have Hts := Lib.hid hts
   clear hpt ht0 ht1 hts
   refine Par.region_ext (by kernel_rfl) 4 [0, 0, 3, 0, 15] [3] (fun j f X => match j with
    | 0 => f 0 = .pointer (some ⟨k1, 0, none⟩)
    | 1 => f 1 = infV
    | 2 => ∃ v, f 2 = v ∧ JAt C v (1, 1, 0)
    | 3 => ∃ b, f 3 = .pointer (some ⟨b, 0, none⟩) ∧ X2.heap.size ≤ b ∧ X.heap[b]? = some (.cells #[.int .u64 0, .int .u64 0, .int .u64 0, .int .u64 0, .int .u64 0, .int .u64 0, .int .u64 0, .int .u64 0, .int .u64 0, .int .u64 0, .int .u64 0, .int .u64 0, .int .u64 0, .int .u64 0, .int .u64 0, .int .u64 0, .int .u64 0, .int .u64 0] 83 (0, 0))
    | _ => True) (by kernel_rfl) [(27, 0), (28, 1), (29, 2), (9, 3)] (by kernel_rfl) ?_
   refine Par.ld0 1 3 ck ?_
   refine Par.c0 2 2 (fun _ => #[]) (F' := 45) (fun f X hX hR => ?_) ?_
   · refine (none_any X).mono ?_
     rintro e w2 ⟨rfl, hB⟩
     exact ⟨infV, rfl, hB, fun _ _ => rfl⟩
   refine Par.c0 3 1 (fun f => #[f 0, f 1]) (F' := 46) (fun f X hX hR => ?_) ?_
   · have e0 : f 0 = _ := hR.out 0 rfl
     have e1 : f 1 = _ := hR.out 1 rfl
     simp only [e0, e1]
     refine (up_j (Hk1.out.ext (HX.out.trans hX)) (APt.inf_ X) rfl).mono ?_
     rintro e w2 ⟨o, rfl, hj, hB⟩
     exact ⟨_, rfl, hB, fun _ _ => ⟨_, rfl, hj⟩⟩
   refine Par.al 4 0 ?_
   refine Par.AllOps.fin ⟨fun f X hX hR hal hap => ?_⟩
   obtain ⟨v2, (e2 : f 2 = _), j2⟩ := hR 2 (by decide)
   obtain ⟨bo3, (e3 : f 3 = _), lo3, ho3⟩ := hR 3 (by decide)
   simp only [yA, yB, yD, yE, e2, e3]
   clear hR hal hap e2 e3
   obtain ⟨ox, oy, oz, ev, hf⟩ := j2
   subst ev
   refine Par.Chain.next (fun K hK => ⟨Par.want (by kernel_rfl) (wp_storeJ (x := ox) (y := oy) (z := oz) (.tmp 9) (.tmp 29) rfl rfl rfl rfl ho3 rfl hf.x.elt.six hf.y.elt.six hf.z.elt.six (fun Y hY1 hY2 hY3 => hK.out _ _ ?_))⟩)
   refine Par.Chain.done ?_
   have hXY := hY2.ext hX lo3
   have hbo : q + 2 ≤ bo3 := by have := HX.out.bsize; have := HE1.out.bsize; have := Hz0.out; omega
   have hJo : JBlk C Y bo3 (pt 0) := ⟨ox, oy, oz, hY1, by rw [Ht0.out]; exact hf⟩
   replace ck := hXY.cell ck
   replace h1 := hXY.at_ h1
   replace h3 := hXY.at_ h3
   have HXY := Lib.hid (HX.out.trans hXY)
   have lo := Nat.le_trans HX.out.bsize lo3
   have zY : bo3 < Y.heap.size := hY1.lt'
   clear hX hY1 hY2 hY3 ho3 lo3 hf hXY
   rename World => V4
   go_upto_region 5 with fail
   refine Par.region_ext (by kernel_rfl) 6 [0, 0, 0, 6, 15, 0, 63] [5] (fun j f X => match j with
    | 0 => ∃ v, f 0 = v ∧ JAt C v (pt 0)
    | 1 => f 1 = .pointer (some ⟨k1, 0, none⟩)
    | 2 => f 2 = .agg #[.bool bi, .slice A a.length ca, .slice A' b.length cb]
    | 3 => ∃ v, f 3 = v ∧ JAt C v (pt 1)
    | 4 => ∃ cs : Array Value, f 4 = .agg cs ∧ cs.size = 288 ∧ cs.all (·.oneCell') = true ∧ (∀ (W : World) (b : Nat), W.heap[b]? = some (.cells cs 85 (0, 0)) → TabAt C W b pt 2)
    | 5 => ∃ b, f 5 = .pointer (some ⟨b, 0, none⟩) ∧ V4.heap.size ≤ b ∧ X.heap[b]? = some (.cells z85 85 (0, 0))
    | _ => True) (by kernel_rfl) [(30, 0), (31, 1), (32, 2), (33, 3), (34, 4), (10, 5)] (by kernel_rfl) ?_
   refine Par.S 1 5 [(31, 1), (32, 2), (33, 3), (10, 5)] (fun f X hX hR K hK => ?_) ?_
   · obtain ⟨jx, jy, jz, hjb, hjf⟩ := hJo.ext hX
     simp only [yA, yB, yC, yD, yE]
     refine ⟨wp_loadV (v := JV jx jy jz) (t := 83) 83 (.tmp 9) rfl rfl hjb Try.underlying83 rfl (by rw [hjf.sz]; exact infoJ) rfl ?_⟩
     exact hK.out _ (JV jx jy jz) _ (by simp only [yA, yB, yC, yD, yE]) (Ext.refl _) trivial (fun _ _ => ⟨_, rfl, ⟨jx, jy, jz, rfl, hjf⟩⟩)
   refine Par.ld0 2 4 ck ?_
   refine lV0 3 3 h1 infoP ?_
   refine Par.c0 4 2 (fun f => #[f 1, f 2]) (F' := 46) (fun f X hX hR => ?_) ?_
   · have e1 : f 1 = _ := hR.out 1 rfl
     have e2 : f 2 = _ := hR.out 2 rfl
     simp only [e1, e2]
     refine (up_j (Hk1.out.ext (HXY.out.trans hX)) (hp0.out.ext ((HE1.out.trans HXY.out).trans hX)) Ho1.out).mono ?_
     rintro e w2 ⟨o, rfl, hj, hB⟩
     exact ⟨o, rfl, hB, fun _ _ => ⟨_, rfl, by rw [Ht1.out]; exact hj⟩⟩
   refine Par.S 5 1 [(30, 0), (31, 1), (32, 2), (33, 3), (10, 5)] (fun f X hX hR K hK => ?_) ?_
   · obtain ⟨v0, (e0 : f 0 = _), j0⟩ := hR.out 0 rfl
     obtain ⟨v3, (e3 : f 3 = _), j3⟩ := hR.out 3 rfl
     simp only [yA, yB, yC, yD, yE, e0, e3]
     refine ⟨wp_build85 (.tmp 30) (.tmp 33) rfl rfl rfl j0 j3 (fun cs h1 h2 h3 => ?_)⟩
     exact hK.out _ (.agg cs) _ (by simp only [yA, yB, yC, yD, yE, e0, e3]) (Ext.refl _) trivial (fun _ _ => ⟨cs, rfl, h1, h2, fun W b hb => h3 W b hb pt rfl rfl⟩)
   refine Par.al 6 0 ?_
   refine Par.AllOps.fin ⟨fun f X hX hR hal hap => ?_⟩
   obtain ⟨v0, (e0 : f 0 = _), j0⟩ := hR 0 (by decide)
   obtain ⟨v3, (e3 : f 3 = _), j3⟩ := hR 3 (by decide)
   obtain ⟨cs, (e4 : f 4 = _), hs4, ho4, ht4⟩ := hR 4 (by decide)
   obtain ⟨be5, (e5 : f 5 = _), le5, he5⟩ := hR 5 (by decide)
   simp only [yA, yB, yD, yE, e0, e3, e4, e5]
   clear hR hal hap e0 e3 e4 e5
   refine Par.Chain.next (fun K hK => ⟨Par.want (by kernel_rfl) (wp_storeV (cs' := cs) (t := 85) 85 (.tmp 10) (.tmp 34) rfl rfl rfl rfl he5 (by rw [hs4]; exact info85s) (by rw [hs4, z85_size]) ho4 (fun Y hY1 hY2 hY3 => hK.out _ _ ?_))⟩)
   refine Par.Chain.done ?_
   have hT2 : TabAt C Y be5 pt 2 := ht4 Y be5 hY1
   have hXZ := hY2.ext hX le5
   have zE : be5 < Y.heap.size := blk_lt hY1
   have zoe : bo3 < be5 := by omega
   have HXZ := Lib.hid (HXY.out.trans hXZ)
   replace ck := hXZ.cell ck
   replace hJo := hJo.ext hXZ
   replace h3 := hXZ.at_ h3
   clear hX hY1 hY2 hY3 he5 le5 hXZ j0 j3 ht4 hs4 ho4 h1 zY HXY
   rename World => V5
   have hb2o : b2 < bo3 := by have := Hz1.out; omega
   go_wp2
   go_loopw [11] (fun iv wr => ∃ k : Nat, iv = .int .i64 (k : Int) ∧ 2 ≤ k ∧ k ≤ 16 ∧ TabAt C wr be5 pt k ∧ Below be5 V5 wr) (fun iv _ => (16 - intOf iv).toNat)
   case atStart => exact ⟨2, by go_num, by omega, by omega, hT2, Below.refl _ _⟩
   case round =>
    obtain ⟨k, rfl, hk2, hk16, hT, hB⟩ := hrel
    by_cases hlt : k < 16
    · obtain ⟨m, hm⟩ : ∃ m, k = m + 1 := ⟨k - 1, by omega⟩
      have e1 : (k : Int) - 1 = (m : Int) := by omega
      have k1' : (k : Int) < 16 := by omega
      have k2' : (m : Int) < 16 := by omega
      have ckr := (hB.cell (p := ⟨b2, 0, none⟩) (by show b2 < be5; omega)).trans ck
      have HEr := Lib.hid (show Ext W1 wr from Below.trans HXZ.out (Below.mono hB (by have := Hz1.out; omega)))
      have hsz := hT.lt
      have Hpk := Lib.hid (show pt k = addT C.M (pt m) (pt 1) by rw [hm]; exact Hts.out m (by omega))
      clear hm
      go_upto_region 9 with fail
      refine Par.region_ext (by kernel_rfl) 10 [0, 0, 0, 4, 12, 28, 0, 64, 254, 511, 1023] [] (fun j f X => match j with
       | 0 => f 0 = .int .i64 (k : Int)
       | 1 => f 1 = .pointer (some ⟨k1, 0, none⟩)
       | 2 => f 2 = .int .i64 (k : Int)
       | 3 => f 3 = .int .i64 (m : Int)
       | 4 => f 4 = .pointer (some ⟨be5, m * 18, none⟩)
       | 5 => ∃ v, f 5 = v ∧ JAt C v (pt m)
       | 6 => f 6 = .pointer (some ⟨be5, 18, none⟩)
       | 7 => ∃ v, f 7 = v ∧ JAt C v (pt 1)
       | 8 => ∃ v, f 8 = v ∧ JAt C v (pt k)
       | 9 => f 9 = .pointer (some ⟨be5, k * 18, none⟩)
       | _ => True) (by kernel_rfl) [(39, 0), (40, 1), (41, 2), (42, 3), (43, 4), (44, 5), (45, 6), (46, 7), (47, 8), (48, 9)] (by kernel_rfl) ?_
      refine Par.v0 1 9 ?_
      refine Par.ld0 2 8 ckr ?_
      refine Par.v0 3 7 ?_
      refine Par.S 4 6 [(39, 0), (40, 1), (41, 2), (45, 6), (46, 7)] (fun f X hX hR K hK => ?_) ?_
      · have e2 : f 2 = _ := hR.out 2 rfl
        have ew : IntKind.i64.wrap (m : Int) = (m : Int) := IntWalk.i64_in _ (by omega)
        simp only [yA, yB, yC, yD, yE, e2]
        refine ⟨?_⟩
        go_simp
        exact Par.k hK (s := by simp only [yA, yB, yC, yD, yE, e2])
      refine Par.S 5 5 [(39, 0), (40, 1), (41, 2), (42, 3), (45, 6), (46, 7)] (fun f X hX hR K hK => ?_) ?_
      · have e3 : f 3 = _ := hR.out 3 rfl
        simp only [yA, yB, yC, yD, yE, e3]
        refine ⟨?_⟩
        go_simp
        exact Par.k hK (s := by simp only [yA, yB, yC, yD, yE, e3])
      refine Par.S 6 4 [(39, 0), (40, 1), (41, 2), (42, 3), (43, 4), (45, 6), (46, 7)] (fun f X hX hR K hK => ?_) ?_
      · have e4 : f 4 = _ := hR.out 4 rfl
        simp only [yA, yB, yC, yD, yE, e4]
        refine ⟨wp_loadT (.tmp 43) rfl (hT.ext hX) (i := m) (by omega) (Nat.mul_comm _ _) rfl (fun v hv => ?_)⟩
        exact hK.out _ v _ (by simp only [yA, yB, yC, yD, yE, e4]) (Ext.refl _) trivial (fun _ _ => ⟨_, rfl, hv⟩)
      refine Par.S 7 3 [(39, 0), (40, 1), (41, 2), (42, 3), (43, 4), (44, 5)] (fun f X hX hR K hK => ?_) ?_
      · simp only [yA, yB, yC, yD, yE]
        refine ⟨?_⟩
        go_simp
        exact Par.k hK (s := by simp only [yA, yB, yC, yD, yE])
      refine Par.S 8 2 [(39, 0), (40, 1), (41, 2), (42, 3), (43, 4), (44, 5), (45, 6)] (fun f X hX hR K hK => ?_) ?_
      · have e6 : f 6 = _ := hR.out 6 rfl
        simp only [yA, yB, yC, yD, yE, e6]
        refine ⟨wp_loadT (.tmp 45) rfl (hT.ext hX) (i := 1) (by omega) rfl rfl (fun v hv => ?_)⟩
        exact hK.out _ v _ (by simp only [yA, yB, yC, yD, yE, e6]) (Ext.refl _) trivial (fun _ _ => ⟨_, rfl, hv⟩)
      refine Par.c0 9 1 (fun f => #[f 1, f 5, f 7]) (F' := 47) (fun f X hX hR => ?_) ?_
      · have e1 : f 1 = _ := hR.out 1 rfl
        obtain ⟨v5, (e5 : f 5 = _), j5⟩ := hR.out 5 rfl
        obtain ⟨v7, (e7 : f 7 = _), j7⟩ := hR.out 7 rfl
        simp only [e1, e5, e7]
        refine (add_j (Hk1.out.ext (HEr.out.trans hX)) j5 j7).mono ?_
        rintro e w2 ⟨o, rfl, hj, hB⟩
        exact ⟨o, rfl, hB, fun _ _ => ⟨_, rfl, by rw [Hpk.out]; exact hj⟩⟩
      refine Par.S 10 0 [(39, 0), (40, 1), (41, 2), (42, 3), (43, 4), (44, 5), (45, 6), (46, 7), (47, 8)] (fun f X hX hR K hK => ?_) ?_
      · have e0 : f 0 = _ := hR.out 0 rfl
        simp only [yA, yB, yC, yD, yE, e0]
        refine ⟨?_⟩
        go_simp
        exact Par.k hK (s := by simp only [yA, yB, yC, yD, yE, e0])
      refine Par.AllOps.fin ⟨fun f X hX hR hal hap => ?_⟩
      obtain ⟨v5, (e5 : f 5 = _), j5⟩ := hR 5 (by decide)
      obtain ⟨v7, (e7 : f 7 = _), j7⟩ := hR 7 (by decide)
      obtain ⟨v8, (e8 : f 8 = _), j8⟩ := hR 8 (by decide)
      have e9 : f 9 = _ := hR 9 (by decide)
      simp only [yA, yB, yD, yE, e5, e7, e8, e9]
      clear hR hal hap e5 e7 e8 e9
      refine Par.Chain.next (fun K hK => ⟨wp_storeT (.tmp 48) (.tmp 47) rfl rfl (hT.ext hX) hlt j8 (Nat.mul_comm _ _) rfl rfl (fun Y hY1 hY2 hY3 => hK.out _ _ ?_)⟩)
      refine Par.Chain.done ?_
      have hBY : Below be5 V5 Y := (hB.trans (Below.mono hX (by omega))).trans (hY2.below (Nat.le_refl _) (by have := hX.bsize; omega))
      have HBY := Lib.hid hBY
      have HTY := Lib.hid hY1
      have hkw : IntKind.i64.wrap ((k : Int) + 1) = (k : Int) + 1 := IntWalk.i64_in _ (by omega)
      clear hX hY1 hY2 hY3 j5 j7 j8 hBY hT hB ckr
      go_wp2
      go_roundw
      case rel => exact ⟨k + 1, by go_num, by omega, by omega, HTY.out, HBY.out⟩
      case measure => simp [intOf]; omega
    · have hkk : k = 16 := by omega
      rw [show (k : Int) = 16 by omega]
      rw [hkk] at hT
      have k1' : ¬ (16 : Int) < 16 := by omega
      clear hlt hk2 hk16 hkk
      have HT := Lib.hid hT
      have HBr := Lib.hid hB
      have hJr : JBlk C wr bo3 (pt 0) := hJo.below hB zoe
      have h3r := (hB.block (q + 1) (by omega)).trans h3
      have ckr := (hB.cell (p := ⟨b2, 0, none⟩) (by show b2 < be5; omega)).trans ck
      clear hT hB hJo h3 ck
      have HEr := Lib.hid (show Ext W1 wr from Below.trans HXZ.out (Below.mono HBr.out (by have := Hz1.out; omega)))
      obtain ⟨bd, hbd⟩ : ∃ b, wr.heap.size = b := ⟨_, rfl⟩
      have d0 := heap_alloc_new wr (.cells #[.int .u64 0] 87)
      have hA6 := Ext.alloc wr (.cells #[.int .u64 0] 87)
      rw [hbd] at d0
      have hz6 : (wr.alloc (.cells #[.int .u64 0] 87)).heap.size = bd + 1 := by rw [World.size_alloc, hbd]
      have zbe : be5 < bd := by have := HT.out.lt; omega
      go_upto_region 11 with fail
      generalize hW6 : wr.alloc (.cells #[.int .u64 0] 87) = W6 at *
      replace ckr := hA6.cell ckr
      replace h3r := hA6.at_ h3r
      replace hJr := hJr.ext hA6
      have HT6 := Lib.hid (HT.out.ext hA6)
      have HE6 := Lib.hid (HEr.out.trans hA6)
      have heach := each_any _ An cn n W6 (RN.up HN.out (HE1.out.trans HE6.out)) (fun b hb => hb)
      rw [HE.out, hz6] at heach
      have Heach := Lib.hid heach
      have hW6z := Lib.hid hz6
      clear heach hA6 hbd hz6 hW6 HT HBr HEr
      go_wp2_with (go_at_call 48; refine Heach.out.mono ?_; rintro e' w3 ⟨Ae', ce', rfl, be, hOe, hB3⟩)
      obtain ⟨t, ht⟩ : ∃ t, bd + 1 = t := ⟨_, rfl⟩
      rw [ht] at be hOe hB3
      rw [ht]
      have hbdt : bd < t := by omega
      have hbot : bo3 < t := by omega
      have zn : t < w3.heap.size := blk_lt be
      have hbe := blk_cell be 0
      simp only [List.getElem?_toArray, List.getElem?_cons_zero] at hbe
      have hseq := each_seq t t w3.heap.size (In t w3.heap.size) Ae' ce' (digs 18446744073709551616 E) w3 (fun b hb => hb) (Nat.le_refl _) zn (Nat.le_refl _) hbe hOe.rn
      rw [val_digs (by omega), Hnb.out] at hseq
      have Hseq := Lib.hid hseq
      have hE3 : Ext W6 w3 := by rw [← ht, ← hW6z.out] at hB3; exact hB3
      have HE3 := Lib.hid (HE6.out.trans hE3)
      have c3 := hE3.cell ckr
      have hJ3 := hJr.ext hE3
      have hT3 := HT6.out.ext hE3
      have hd3 := hE3.at_ d0
      have h33 := hE3.at_ h3r
      clear hseq Heach hbe be hOe hB3 hE3 ckr hJr d0 h3r HT6 ht
      have hI0 : JBlk C w3 bo3 (mulS C.M (upP bi x y) E 0).1 := by rw [show (mulS C.M (upP bi x y) E 0).1 = pt 0 by rw [Ht0.out]; rfl]; exact hJ3
      have hInv : OwnFrom w3.heap.size (fun (k : Nat) X => JBlk C X bo3 (mulS C.M (upP bi x y) E k).1 ∧ X.heap[bd]? = some (.cells #[.int .u64 ((mulS C.M (upP bi x y) E k).2 : Int)] 87 (0, 0)) ∧ TabAt C X be5 pt 16 ∧ Below bo3 w3 X) := by
       rintro k X X' row ⟨⟨jx, jy, jz, g1, g2⟩, g3, g4, g5⟩ hg' hr
       have hr' := fun r e => (hr r e).2
       obtain ⟨cs', g6, g7⟩ := g4.blk
       exact ⟨⟨jx, jy, jz, (grownBy_keeps_cells hg' hr' g1 rfl).trans g1, g2⟩, (grownBy_keeps_cells hg' hr' g3 rfl).trans g3, g4.same (grownBy_keeps_cells hg' hr' g6 rfl), ownFrom_below (by omega) (by omega) k X X' row g5 hg' hr⟩
      refine (wpIn_wide (n := 6)).1 ?_
      refine' wpIn_iter (by omega) (gf := 81) (lb := #[.pointer (some ⟨t, 0, none⟩)]) rfl (enters_of Try.func81 (by kernel_rfl) rfl)
       Hseq.out (fun h k => Stay.trans h k) (fun X l o o' hl ho _ _ => ⟨by simp, fun i _ hi => World.putObj_heap_other (by omega)⟩) tplain_keeps (Below.refl _ _) (fun _ => rfl)
       (fun k X => JBlk C X bo3 (mulS C.M (upP bi x y) E k).1 ∧ X.heap[bd]? = some (.cells #[.int .u64 ((mulS C.M (upP bi x y) E k).2 : Int)] 87 (0, 0)) ∧ TabAt C X be5 pt 16 ∧ Below bo3 w3 X) (fun k X => JBlk C X bo3 (mulS C.M (upP bi x y) E k).1 ∧ X.heap[bd]? = some (.cells #[.int .u64 ((mulS C.M (upP bi x y) E k).2 : Int)] 87 (0, 0)) ∧ TabAt C X be5 pt 16 ∧ Below bo3 w3 X) (fun _ _ _ => False)
       hInv hInv (fun _ _ _ _ _ h => h.elim) (fun _ _ _ _ => trivial) (fun B k A C' _ _ hi ht => ?hIT) (fun h => by cases h) ⟨hI0, hd3, hT3, Below.refl _ _⟩ _ ?assign ?body ?done ?stop
      case hIT => exact ownFrom_plain (I := fun k X => JBlk C X bo3 (mulS C.M (upP bi x y) E k).1 ∧ X.heap[bd]? = some (.cells #[.int .u64 ((mulS C.M (upP bi x y) E k).2 : Int)] 87 (0, 0)) ∧ TabAt C X be5 pt 16 ∧ Below bo3 w3 X) (B := w3.heap.size) hInv hi ht
      case assign =>
       intro l k X K hK
       gi_wp2
       exact hK
      case body =>
       rintro l k V ⟨⟨jx, jy, jz, hjb, hjf⟩, hdV, hTV, h5⟩ hlt _
       have zV := h5.size
       have hd8 := dig_lt8 (M := C.M) (p := upP bi x y) (E := E) (k := k) (by rw [Hnb.out]; exact hlt)
       have hstep : mulS C.M (upP bi x y) E (k + 1) = if (bitAt E k).1 % 4 = 0 then (addT C.M (dblT C.M (mulS C.M (upP bi x y) E k).1) (tabP C.M (upP bi x y) (2 * (mulS C.M (upP bi x y) E k).2 + (bitAt E k).2)), 0) else (dblT C.M (mulS C.M (upP bi x y) E k).1, 2 * (mulS C.M (upP bi x y) E k).2 + (bitAt E k).2) := rfl
       rw [Hpt.out] at hstep
       have hb2' : (bitAt E k).2 < 2 := Nat.mod_lt _ (by omega)
       have hi1 : (bitAt E k).1 ≤ 4096 := by show nbits E - 1 - k ≤ 4096; rw [Hnb.out]; omega
       obtain ⟨so, hso⟩ : ∃ s, (mulS C.M (upP bi x y) E k).1 = s := ⟨_, rfl⟩
       obtain ⟨d, hd⟩ : ∃ s, (mulS C.M (upP bi x y) E k).2 = s := ⟨_, rfl⟩
       obtain ⟨bt, hbt⟩ : ∃ s, (bitAt E k).2 = s := ⟨_, rfl⟩
       obtain ⟨ii, hii⟩ : ∃ s, (bitAt E k).1 = s := ⟨_, rfl⟩
       obtain ⟨d2, hd2⟩ : ∃ s, 2 * d + bt = s := ⟨_, rfl⟩
       rw [hso, hd, hbt, hii, hd2] at hstep
       rw [hso] at hjf
       rw [hd] at hdV hd8
       rw [hbt] at hb2'
       rw [hii] at hi1
       rw [hbt, hii]
       have Hstep := Lib.hid hstep
       have Hd2 := Lib.hid hd2
       have HEV := Lib.hid (show Ext W1 V from Below.trans HE3.out (Below.mono h5 lo))
       have hd16 : d2 < 16 := by omega
       have hM0 : MK w3.heap.size t bo3 be5 w3 V V := ⟨Keeps.refl _ _ _ _, Stay.refl _ _ _, h5, rfl, zV⟩
       have HM0 := Lib.hid hM0
       have Hjf := Lib.hid hjf
       have HTV := Lib.hid hTV
       have cV : V.cell? ⟨b2, 0, none⟩ = some (.pointer (some ⟨k1, 0, none⟩)) := (h5.cell (p := ⟨b2, 0, none⟩) (by show b2 < bo3; omega)).trans c3
       clear hstep hd2 hso hd hbt hii hM0 hjf hTV h5
       gi_upto_region 14 with fail
       refine Par.region_txt_in 3 [0, 0, 3, 7] [] (fun j f X => match j with
        | 0 => f 0 = .pointer (some ⟨k1, 0, none⟩)
        | 1 => f 1 = JV jx jy jz
        | 2 => ∃ v, f 2 = v ∧ JAt C v (dblT C.M so)
        | _ => True) (by kernel_rfl) [(53, 0), (54, 1), (55, 2)] (by kernel_rfl) (by kernel_rfl) ?_
       refine Par.S 1 2 [(54, 1)] (fun f X hX hR K hK => ?_) ?_
       · have x0 := hX.cell cV
         simp only [yA, yB, yC, yD, yE]
         refine ⟨?_⟩
         go_simp
         exact Par.k hK (s := by simp only [yA, yB, yC, yD, yE])
       refine Par.S 2 1 [(53, 0)] (fun f X hX hR K hK => ?_) ?_
       · simp only [yA, yB, yC, yD, yE]
         refine ⟨wp_loadV (v := JV jx jy jz) (t := 83) 83 (.tmp 9) rfl rfl (hX.at_ hjb) Try.underlying83 rfl (by rw [Hjf.out.sz]; exact infoJ) rfl ?_⟩
         exact hK.out _ (JV jx jy jz) _ (by simp only [yA, yB, yC, yD, yE]) (Ext.refl _) trivial (fun _ _ => rfl)
       refine Par.S 3 0 [(53, 0), (54, 1)] (fun f X hX hR K hK => ?_) ?_
       · have e0 : f 0 = _ := hR.out 0 rfl
         have e1 : f 1 = _ := hR.out 1 rfl
         simp only [yA, yB, yC, yD, yE, e0, e1]
         refine ⟨?_⟩
         go_simp
         refine (double_j (Hk1.out.ext (HEV.out.trans hX)) ⟨jx, jy, jz, rfl, Hjf.out⟩).mono ?_
         rintro e w2 ⟨o, rfl, hj, hB⟩
         exact hK.out _ o _ (by simp only [yA, yB, yC, yD, yE, e0, e1]) hB trivial (fun _ _ => ⟨_, rfl, hj⟩)
       refine Par.AllOps.fin ⟨fun f X hX hR hal hap => ?_⟩
       have e0 : f 0 = _ := hR 0 (by decide)
       have e1 : f 1 = _ := hR 1 (by decide)
       obtain ⟨v2, (e2 : f 2 = _), j2⟩ := hR 2 (by decide)
       simp only [yA, yB, yD, yE, e0, e1, e2]
       clear hR hal hap e0 e1 e2
       obtain ⟨ox, oy, oz, ev, hf⟩ := j2
       subst ev
       refine Par.Chain.next (fun K hK => ⟨Par.want (by kernel_rfl) (wp_storeJ (x := ox) (y := oy) (z := oz) (.tmp 9) (.tmp 55) rfl rfl rfl rfl (hX.at_ hjb) Hjf.out.sz hf.x.elt.six hf.y.elt.six hf.z.elt.six (fun Y hY1 hY2 hY3 => hK.out _ _ ?_))⟩)
       refine Par.Chain.done ?_
       refine ⟨nofun, ?_⟩
       have hM1 := (HM0.out.ext hX (by omega) (by omega)).just hY2 (hX.at_ hjb) (by omega) (Nat.le_refl _) (by omega) (by omega) (by omega)
       have hdY := hY2.at_ (by omega) (hX.at_ hdV)
       have HM1 := Lib.hid hM1
       have HJ1 := Lib.hid (show JBlk C Y bo3 (dblT C.M so) from ⟨ox, oy, oz, hY1, hf⟩)
       have HdY := Lib.hid hdY
       have cd := blk_cell hdY 0
       have fd := blk_free hdY 0
       simp only [List.getElem?_toArray, List.getElem?_cons_zero] at cd
       have hw1 : IntKind.u64.wrap (2 * (d : Int)) = 2 * (d : Int) := IntWalk.u64_in _ (by omega)
       have hw2 : IntKind.u64.wrap (2 * (d : Int) + (bt : Int)) = (d2 : Int) := by rw [IntWalk.u64_in _ (by omega)]; have := Hd2.out; omega
       clear hM1 hdY hX hY1 hY2 hY3 hf hjb hdV cV
       gi_upto_region 16 with fail
       obtain ⟨hdV2, hj2⟩ := one_set HdY.out (.int .u64 (d2 : Int))
       have hM2 := HM1.out.just hj2 HdY.out (by omega) (by omega) (by omega) (by omega) (by omega)
       have hJ2 := HJ1.out.just hj2 (by omega)
       generalize hV2 : Y.setCell ⟨bd, 0, none⟩ (.int .u64 (d2 : Int)) = V2 at *
       have HM2 := Lib.hid hM2
       have HJ2 := Lib.hid hJ2
       have HdV2 := Lib.hid hdV2
       clear hM2 hJ2 hj2 hV2 cd fd hw1 hw2
       by_cases hi4 : ii % 4 = 0
       · have hst : mulS C.M (upP bi x y) E (k + 1) = (addT C.M (dblT C.M so) (pt d2), 0) := by rw [Hstep.out, if_pos hi4]
         have Hst := Lib.hid hst
         have hr4 : (ii : Int) % 4 = 0 := by omega
         have hr5 : (ii : Int).tmod 4 = 0 := by rw [IntWalk.rem_in _ _ (by omega)]; exact hr4
         have hTV2 := Lib.hid (HTV.out.same HM2.out.tab)
         have cV2 : V2.cell? ⟨b2, 0, none⟩ = some (.pointer (some ⟨k1, 0, none⟩)) := (HM2.out.below.cell (p := ⟨b2, 0, none⟩) (by show b2 < bo3; omega)).trans c3
         have cd2 := blk_cell hdV2 0
         simp only [List.getElem?_toArray, List.getElem?_cons_zero] at cd2
         have HE2 := Lib.hid (show Ext W1 V2 from Below.trans HE3.out (Below.mono HM2.out.below lo))
         obtain ⟨mx, my, mz, hmb, hmf⟩ := HJ2.out
         have Hmf := Lib.hid hmf
         clear hst hmf
         gi_upto_region 17 with fail
         clear hr4 hr5
         refine Par.region_ext_in (by kernel_rfl) 6 [0, 0, 0, 4, 12, 31, 63] [] (fun j f X => match j with
          | 0 => f 0 = .pointer (some ⟨k1, 0, none⟩)
          | 1 => f 1 = JV mx my mz
          | 2 => f 2 = .int .u64 (d2 : Int)
          | 3 => f 3 = .pointer (some ⟨be5, d2 * 18, none⟩)
          | 4 => ∃ v, f 4 = v ∧ JAt C v (pt d2)
          | 5 => ∃ v, f 5 = v ∧ JAt C v (addT C.M (dblT C.M so) (pt d2))
          | _ => True) (by kernel_rfl) [(63, 0), (64, 1), (65, 2), (66, 3), (67, 4), (68, 5)] (by kernel_rfl) (by kernel_rfl) ?_
         refine Par.S 1 5 [(64, 1), (65, 2), (66, 3), (67, 4)] (fun f X hX hR K hK => ?_) ?_
         · have x0 := hX.cell cV2
           simp only [yA, yB, yC, yD, yE]
           refine ⟨?_⟩
           go_simp
           exact Par.k hK (s := by simp only [yA, yB, yC, yD, yE])
         refine Par.S 2 4 [(63, 0), (65, 2), (66, 3), (67, 4)] (fun f X hX hR K hK => ?_) ?_
         · simp only [yA, yB, yC, yD, yE]
           refine ⟨wp_loadV (v := JV mx my mz) (t := 83) 83 (.tmp 9) rfl rfl (hX.at_ hmb) Try.underlying83 rfl (by rw [Hmf.out.sz]; exact infoJ) rfl ?_⟩
           exact hK.out _ (JV mx my mz) _ (by simp only [yA, yB, yC, yD, yE]) (Ext.refl _) trivial (fun _ _ => rfl)
         refine Par.S 3 3 [(63, 0), (64, 1)] (fun f X hX hR K hK => ?_) ?_
         · have x0 := hX.cell cd2
           simp only [yA, yB, yC, yD, yE]
           refine ⟨?_⟩
           go_simp
           exact Par.k hK (s := by simp only [yA, yB, yC, yD, yE])
         refine Par.S 4 2 [(63, 0), (64, 1), (65, 2)] (fun f X hX hR K hK => ?_) ?_
         · have e2 : f 2 = _ := hR.out 2 rfl
           have hd17 : (d2 : Int) < 16 := by omega
           simp only [yA, yB, yC, yD, yE, e2]
           refine ⟨?_⟩
           go_simp
           exact Par.k hK (s := by simp only [yA, yB, yC, yD, yE, e2])
         refine Par.S 5 1 [(63, 0), (64, 1), (65, 2), (66, 3)] (fun f X hX hR K hK => ?_) ?_
         · have e3 : f 3 = _ := hR.out 3 rfl
           simp only [yA, yB, yC, yD, yE, e3]
           refine ⟨wp_loadT (.tmp 66) rfl (hTV2.out.ext hX) (i := d2) hd16 (Nat.mul_comm _ _) rfl (fun v hv => ?_)⟩
           exact hK.out _ v _ (by simp only [yA, yB, yC, yD, yE, e3]) (Ext.refl _) trivial (fun _ _ => ⟨_, rfl, hv⟩)
         refine Par.S 6 0 [(63, 0), (64, 1), (65, 2), (66, 3), (67, 4)] (fun f X hX hR K hK => ?_) ?_
         · have e0 : f 0 = _ := hR.out 0 rfl
           have e1 : f 1 = _ := hR.out 1 rfl
           obtain ⟨v4, (e4 : f 4 = _), j4⟩ := hR.out 4 rfl
           simp only [yA, yB, yC, yD, yE, e0, e1, e4]
           refine ⟨?_⟩
           go_simp
           refine (add_j (Hk1.out.ext (HE2.out.trans hX)) ⟨mx, my, mz, rfl, Hmf.out⟩ j4).mono ?_
           rintro e w2 ⟨o, rfl, hj, hB⟩
           exact hK.out _ o _ (by simp only [yA, yB, yC, yD, yE, e0, e1, e4]) hB trivial (fun _ _ => ⟨_, rfl, hj⟩)
         refine Par.AllOps.fin ⟨fun f X hX hR hal hap => ?_⟩
         have e0 : f 0 = _ := hR 0 (by decide)
         have e1 : f 1 = _ := hR 1 (by decide)
         have e2 : f 2 = _ := hR 2 (by decide)
         have e3 : f 3 = _ := hR 3 (by decide)
         obtain ⟨v4, (e4 : f 4 = _), j4⟩ := hR 4 (by decide)
         obtain ⟨v5, (e5 : f 5 = _), j5⟩ := hR 5 (by decide)
         simp only [yA, yB, yD, yE, e0, e1, e2, e3, e4, e5]
         clear hR hal hap e0 e1 e2 e3 e4 e5
         obtain ⟨ux, uy, uz, ev, hf⟩ := j5
         subst ev
         refine Par.Chain.next (fun K hK => ⟨Par.want (by kernel_rfl) (wp_storeJ (x := ux) (y := uy) (z := uz) (.tmp 9) (.tmp 68) rfl rfl rfl rfl (hX.at_ hmb) Hmf.out.sz hf.x.elt.six hf.y.elt.six hf.z.elt.six (fun Y hY1 hY2 hY3 => hK.out _ _ ?_))⟩)
         refine Par.Chain.done ?_
         refine ⟨nofun, ?_⟩
         have hM3 := (HM2.out.ext hX (by omega) (by omega)).just hY2 (hX.at_ hmb) (by omega) (Nat.le_refl _) (by omega) (by omega) (by omega)
         have hd3' := hY2.at_ (by omega) (hX.at_ hdV2)
         have hJ3' : JBlk C Y bo3 (addT C.M (dblT C.M so) (pt d2)) := ⟨ux, uy, uz, hY1, hf⟩
         obtain ⟨hd4, hj4⟩ := one_set hd3' (.int .u64 0)
         have hM4 := hM3.just hj4 hd3' (by omega) (by omega) (by omega) (by omega) (by omega)
         have hJ4 := hJ3'.just hj4 (by omega)
         have cd := blk_cell hd3' 0
         have fd := blk_free hd3' 0
         simp only [List.getElem?_toArray, List.getElem?_cons_zero] at cd
         have HM4 := Lib.hid hM4
         have HJ4 := Lib.hid hJ4
         have Hd4 := Lib.hid hd4
         clear hM3 hM4 hJ3' hJ4 hd3' hd4 hj4 hX hY1 hY2 hY3 hf hmb cV2 cd2 hdV2
         gi_wp2
         exact ⟨HM4.out.keeps, HM4.out.stay, by rw [Hst.out]; exact HJ4.out, by rw [Hst.out]; exact Hd4.out, HTV.out.same HM4.out.tab, HM4.out.below⟩
       · have hst : mulS C.M (upP bi x y) E (k + 1) = (dblT C.M so, d2) := by rw [Hstep.out, if_neg hi4]
         have Hst := Lib.hid hst
         have hr4 : ¬ (ii : Int) % 4 = 0 := by omega
         have hr5 : ¬ (ii : Int).tmod 4 = 0 := by rw [IntWalk.rem_in _ _ (by omega)]; exact hr4
         clear hst hdV2
         gi_wp2
         exact ⟨HM2.out.keeps, HM2.out.stay, by rw [Hst.out]; exact HJ2.out, by rw [Hst.out]; exact HdV2.out, HTV.out.same HM2.out.tab, HM2.out.below⟩
      case done =>
       rintro D V hD ⟨⟨jx, jy, jz, hjb, hjf⟩, hdV, hTV, h5⟩ hKD
       have HEV := Lib.hid (show Ext W1 V from Below.trans HE3.out (Below.mono h5 lo))
       have cV : V.cell? ⟨b2, 0, none⟩ = some (.pointer (some ⟨k1, 0, none⟩)) := (h5.cell (p := ⟨b2, 0, none⟩) (by show b2 < bo3; omega)).trans c3
       have hrV := (h5.block (q + 1) (by omega)).trans h33
       have Hjf := Lib.hid hjf
       have HEX := Lib.hid ((HE0.out.trans HE1.out).trans HEV.out)
       obtain ⟨rs, hrs⟩ : ∃ r, (mulS C.M (upP bi x y) E nb).1 = r := ⟨_, rfl⟩
       rw [hrs] at Hjf
       have Hrs := Lib.hid hrs
       clear hjf hTV hdV hrs h5
       go_upto_region 19 with fail
       refine Par.region_txt 3 [0, 0, 3, 7, 15] [] (fun j f X => match j with
        | 0 => f 0 = .pointer (some ⟨k1, 0, none⟩)
        | 1 => f 1 = JV jx jy jz
        | 2 => ∃ v, f 2 = v ∧ PtV X q v (downT C.M rs)
        | _ => True) (by kernel_rfl) [(69, 0), (70, 1), (71, 2)] (by kernel_rfl) ?_
       refine Par.ld0 1 2 cV ?_
       refine Par.S 2 1 [(69, 0)] (fun f X hX hR K hK => ?_) ?_
       · simp only [yA, yB, yC, yD, yE]
         refine ⟨wp_loadV (v := JV jx jy jz) (t := 83) 83 (.tmp 9) rfl rfl (hX.at_ hjb) Try.underlying83 rfl (by rw [Hjf.out.sz]; exact infoJ) rfl ?_⟩
         exact hK.out _ (JV jx jy jz) _ (by simp only [yA, yB, yC, yD, yE]) (Ext.refl _) trivial (fun _ _ => rfl)
       refine Par.c0 3 0 (fun f => #[f 0, f 1]) (F' := 50) (fun f X hX hR => ?_) ?_
       · have e0 : f 0 = _ := hR.out 0 rfl
         have e1 : f 1 = _ := hR.out 1 rfl
         simp only [e0, e1]
         refine (down_j (Hk1.out.ext (HEV.out.trans hX)) HC.out.plen ⟨jx, jy, jz, rfl, Hjf.out⟩).mono ?_
         rintro e w2 ⟨o, rfl, hj, hB⟩
         exact ⟨o, rfl, hB, fun Y hY => ⟨_, rfl, (hj.mono (by have := HEX.out.bsize; have := hX.bsize; have := Hq.out; omega)).ext hY⟩⟩
       refine Par.AllOps.fin ⟨fun f X hX hR hal hap => ?_⟩
       obtain ⟨v2, (e2 : f 2 = _), j2⟩ := hR 2 (by decide)
       simp only [yA, yB, yD, yE, e2]
       clear hR hal hap e2
       obtain ⟨x0, x1, x2, ev, hone, hst⟩ := ptv_store (b := q + 1) j2
       subst ev
       refine Par.Chain.next (fun K hK => ⟨Par.want (by kernel_rfl) (wp_storeV (cs' := #[x0, x1, x2]) (t := 27) 27 (.tmp 6) (.tmp 71) rfl rfl rfl rfl (hX.at_ hrV) infoP rfl hone (fun Y hY1 hY2 hY3 => hK.out _ _ ?_))⟩)
       refine Par.Chain.next (fun K hK => ⟨Par.want (by kernel_rfl) ?_⟩)
       go_simp
       refine hK.out _ _ ?_
       refine Par.Chain.done ?_
       go_wp2
       have hKY : Y.heap[D]? = some (.deferred (some [])) := hY2.at_ (by omega) (hX.at_ hKD)
       have hrY : (Y.putObj D (.deferred none)).heap[q + 1]? = some (.cells #[x0, x1, x2] 27 (0, 0)) := (World.putObj_heap_other (by omega)).trans hY1
       have hEY : Ext w Y := hY2.ext (HEX.out.trans hX) (by have := Hq.out; omega)
       have hst' : PtV Y q (.agg #[x0, x1, x2]) (downT C.M rs) := hst Y hY2 ⟨_, hX.at_ hrV⟩
       have hpo : PtV (Y.putObj D (.deferred none)) q (.agg #[x0, x1, x2]) (downT C.M rs) := hst'.put hKY
       refine ⟨by simp, .inl ⟨_, _, rfl, run_takeDeferred hKY, _, res_pt rfl rfl rfl hrY, ⟨_, rfl, by rw [Hrs.out]; exact hpo, Below.trans hEY (belowK_b (w := w) (Nat.le_refl _) Y D _ _ (by have := Hq.out; omega) hKY rfl rfl)⟩⟩⟩
      case stop => exact fun _ _ _ _ _ _ _ h _ => h.elim
end Go.Proofs.Ytldhmjfjbalakaa

namespace Go.Proofs.Ytldhmjfjbalakaa
namespace Gl
section
variable {M : Nat} [NeZero M] {b : Fin M}
theorem sm_lt (x y : Nat) : sm M x y < M := Nat.mod_lt _ NeZero.lt
theorem mm_lt (x y : Nat) : mm M x y < M := Nat.mod_lt _ NeZero.lt
def RpN (J : Nat × Nat × Nat) (P : Pt M) : Prop := Rp (ph J.1) (ph J.2.1) (ph J.2.2) P
theorem RpN.zero (x y : Nat) : RpN (M := M) (x, y, 0) none := Or.inl ⟨ph0, rfl⟩
theorem Rp.split {X Y Z : Fin M} {P : Pt M} (h : Rp X Y Z P) (hz : Z ≠ 0) : ∃ x y, P = some (x, y) ∧ X = x * (Z * Z) ∧ Y = y * (Z * Z * Z) := h.elim (fun e => absurd e.1 hz) (·.2)
end
end Gl
end Go.Proofs.Ytldhmjfjbalakaa

namespace Go.Proofs.Ytldhmjfjbalakaa
open Gl

theorem IsC.cv {c : Int} {C : Crv} (h : IsC c C) : ∃ _ : NeZero C.M, Pm.Prime C.M ∧ Cv (p := C.M) ivp (ph C.bb) := by
 rcases h with ⟨_, rfl⟩ | ⟨_, rfl⟩
 · have e : c256.M = 115792089210356248762697446949407573530086143415290314195533631308867097853951 := by decide +kernel
   have eb : c256.bb = 41058363725152142129326129780047268409114441015993725554835256314039467401291 := by decide +kernel
   rw [e, eb]
   exact ⟨⟨by decide⟩, Pm.p256, cv_of Pm.p256 (by decide) root256⟩
 · have e : c384.M = 39402006196394479212279040100143613805079739270465446667948293404245721771496870329047266088258938001861606973112319 := by decide +kernel
   have eb : c384.bb = 27580193559959705877849011840389048093056905856361568521428707301988689241309860865136260764883745107765439761230575 := by decide +kernel
   rw [e, eb]
   exact ⟨⟨by decide⟩, Pm.p384, cv_of Pm.p384 (by decide) root384⟩
theorem onQ_bi (C : Crv) (bi : Bool) (x y : Nat) : (bi || onB C.M C.bb (if bi then 0 else x) (if bi then 0 else y)) = onQ C bi x y := by
 cases bi <;> rfl
end Go.Proofs.Ytldhmjfjbalakaa

namespace Go.Proofs.Ytldhmjfjbalakaa
open Go.RowKit

theorem RS.at1 {w : World} {P : Nat → Prop} {A : Option Addr} {c : Nat} {l : List Nat} (h : RS w P 1 A l.length c (nts l)) {i : Nat} (hi : i < l.length) : ∃ ad, A = some ad ∧ w.cell? (ad.add i) = some (.int .u64 (dg l i : Int)) := by
 obtain ⟨ad, e, _, hc⟩ := h.2.2.2 (by omega)
 exact ⟨ad, e, hc i _ (nts_get hi)⟩
set_option maxHeartbeats 400000 in
theorem trim_w (P : Nat → Prop) (A : Option Addr) (c : Nat) (l : List Nat) (w : World) (h : RS w P 1 A l.length c (nts l)) (_hb : l.length ≤ 70368744177664) (hx : ∀ x ∈ l, x < 18446744073709551616) :
 Calls Try.prog 60 #[.slice A l.length c] w fun e w' => (∃ A' n' c', e = .returned (.slice A' n' c')) ∧ w = w' := by
 have h1 := h.1
 have h2 : c ≤ 9223372036854775807 := h.2.1
 have Hx := Lib.hid hx
 clear hx
 go_enter Try.func60, Try.ntmps60
 go_wp2
 go_loop [3] (fun n => ∃ k : Nat, k ≤ l.length ∧ n = .int .i64 k) (fun n => (intOf n).toNat)
 case atStart => exact ⟨l.length, Nat.le_refl _, rfl⟩
 case round =>
  obtain ⟨k, hk, rfl⟩ := hrel
  rcases k with _ | k
  · go_wp2
    go_ret
    exact ⟨⟨_, _, _, rfl⟩, rfl⟩
  · obtain ⟨ad, rfl, hc⟩ := h.at1 (i := k) (by omega)
    by_cases h0 : dg l k = 0
    · rw [h0] at hc
      clear h0
      go_wp2
      go_round
      case rel => exact ⟨k, by omega, by go_num⟩
      case measure => simp [intOf]
    · have h0' : (((dg l k : Nat) : Int) == 0) = false := eqB (by omega)
      clear h0
      go_wp2
      go_ret
      exact ⟨⟨_, _, _, rfl⟩, rfl⟩
theorem RS.of_blk {w : World} {g : Nat} {l : List Nat} {c : Nat} (h : Blk w g l) (hc : l.length ≤ c) (hc' : c ≤ maxLen) : RS w (fun _ => True) 1 (some ⟨g, 0, none⟩) l.length c (nts l) :=
 ⟨hc, hc', by simp [nts], fun hn => ⟨_, rfl, trivial, fun j u hu => by
  have hj : j < l.length := by have := (List.getElem?_eq_some_iff.1 hu).1; simpa [nts] using this
  have := h.cell (i := j) hj
  rw [nts_get hj] at hu
  injection hu with hu
  subst hu
  rw [add_blk]
  exact this⟩⟩
set_option maxRecDepth 100000 in
set_option maxHeartbeats 1000000 in
theorem from_w (P : Nat → Prop) (A : Option Addr) (c : Nat) (l : List Nat) (w : World) (h : RL w P A c l) (hP : ∀ b, P b → b < w.heap.size) :
 Calls Try.prog 19 #[.slice A l.length c] w fun e w' => (∃ A1 n1 c1, e = .returned (.slice A1 n1 c1)) ∧ Below w.heap.size w w' := by
 have h1 := h.1.1
 have h2 : c ≤ 9223372036854775807 := h.1.2.1
 have h3 := h.2.2
 have hmk := run_make_row' (P := Try.prog) 29 72 (.int .u64 0) 8 Try.underlying29 info64 rfl .i64 .i64 (2 * l.length) (by omega) (by omega)
 simp only [Int.natCast_mul, Int.cast_ofNat_Int] at hmk
 go_enter Try.func19, Try.ntmps19
 go_wp2
 go_loopw [4] (fun iv wr => ∃ (i : Nat) (o : List Nat), iv = .int .i64 (i : Int) ∧ i ≤ l.length ∧ FromAt l o i ∧ (∀ x ∈ o, x < 18446744073709551616) ∧ Blk wr w.heap.size o ∧ Below w.heap.size w wr) (fun iv _ => l.length - (intOf iv).toNat)
 case atStart => exact ⟨0, List.replicate (2 * l.length) 0, rfl, by omega, FromAt.zero _, by simp, Blk.made w _, (Below.refl _ w).alloc (Nat.le_refl _) _⟩
 case round =>
  obtain ⟨i, o, rfl, hi, hF, hLo, hblk, hB⟩ := hrel
  by_cases hlt : i < l.length
  · obtain ⟨ad, rfl, q1⟩ := RS.at1 (h.below hB hP).1 hlt
    have hol := hF.1
    have hxi : dg l i < 18446744073709551616 := by rw [getD_eq hlt]; exact h.2.1 _ (List.getElem_mem hlt)
    obtain ⟨p, q, hp, hq, he, e1, e2⟩ : ∃ p q : Nat, p < 4294967296 ∧ q < 4294967296 ∧ p + 4294967296 * q = dg l i ∧ (dg l i : Int) % 4294967296 = (p : Int) ∧ (dg l i : Int) / 4294967296 = (q : Int) :=
     ⟨dg l i % 4294967296, dg l i / 4294967296, by omega, by omega, by omega, by omega, by omega⟩
    have q3 := hblk.cell (i := 2 * i) (by omega)
    have q4 := hblk.free (2 * i)
    have hblk1 := hblk.set (2 * i) p
    have q5 := hblk1.cell (i := 2 * i + 1) (by simp; omega)
    have q6 := hblk1.free (2 * i + 1)
    have hblk2 := hblk1.set (2 * i + 1) q
    have hLo' : ∀ x ∈ (o.set (2 * i) p).set (2 * i + 1) q, x < 18446744073709551616 := fun x hx => by
     rcases List.mem_or_eq_of_mem_set hx with hx | rfl
     · rcases List.mem_or_eq_of_mem_set hx with hx | rfl
       · exact hLo x hx
       · omega
     · omega
    have hB1 := hB.setCell (p := ⟨w.heap.size, 2 * i, none⟩) (Nat.le_refl _) (.int .u64 (p : Int))
    obtain ⟨_, e7, q7⟩ := RS.at1 (h.below hB1 hP).1 hlt
    injection e7 with e7
    subst e7
    have hB2 := hB1.setCell (p := ⟨w.heap.size, 2 * i + 1, none⟩) (Nat.le_refl _) (.int .u64 (q : Int))
    have hF' := hF.step hlt hp hq he
    have k1 : (2 : Int) * (i : Int) < 2 * (l.length : Int) := by omega
    have k2 : (2 : Int) * (i : Int) + 1 < 2 * (l.length : Int) := by omega
    have HLo := Lib.hid hLo'
    clear hF hLo hLo' hblk hB hblk1 hB1 he hol hp hq
    go_wp2
    go_roundw
    case rel => exact ⟨i + 1, (o.set (2 * i) p).set (2 * i + 1) q, by go_num, by omega, hF', HLo.out, hblk2, hB2⟩
    case measure => simp [intOf]; omega
  · obtain rfl : i = l.length := by omega
    have hol := hF.1
    have ht := trim_w _ _ (2 * l.length) _ _ (RS.of_blk hblk (by omega) (by unfold maxLen; omega)) (by omega) hLo
    rw [hol] at ht
    have Ht := Lib.hid ht
    clear hblk ht hLo hF hol
    go_wp2_with fail
    refine Ht.out.mono ?_
    rintro e w1 ⟨⟨A', n', c', rfl⟩, rfl⟩
    go_wp2
    go_ret
    exact ⟨⟨_, _, _, rfl⟩, hB⟩
end Go.Proofs.Ytldhmjfjbalakaa

namespace Go.Proofs.Ytldhmjfjbalakaa
open Go.RowKit

set_option maxRecDepth 100000 in
set_option maxHeartbeats 4000000 in
theorem rfrom_n {p : Value} {bi : Bool} {a b : List Nat} (w : World) (hp : APn w p bi a b) (hla : a.length < 100000) (hlb : b.length < 100000) : Calls Try.prog 14 #[p] w fun e w' => ∃ o, e = .returned o ∧
 RPv w' o bi (if bi then 0 else val 18446744073709551616 a) (if bi then 0 else val 18446744073709551616 b) ∧ Ext w w' := by
 obtain ⟨A, A', ca, cb, rfl, hx, hy⟩ := hp
 obtain ⟨W0, hW0⟩ : ∃ W0, W0 = (w.alloc (.cells #[.bool bi, .slice A a.length ca, .slice A' b.length cb] 27)).alloc (.cells #[.bool false, .slice none 0 0, .slice none 0 0] 34) := ⟨_, rfl⟩
 obtain ⟨q, hq⟩ : ∃ q, w.heap.size = q := ⟨_, rfl⟩
 have hE0 : Ext w W0 := by rw [hW0]; exact (Ext.alloc _ _).trans (Ext.alloc _ _)
 obtain ⟨h1, h2, hz0⟩ := two_at2 w (.cells #[.bool bi, .slice A a.length ca, .slice A' b.length cb] 27) (.cells #[.bool false, .slice none 0 0, .slice none 0 0] 34)
 rw [← hW0, hq] at h1 h2 hz0
 have p0 := blk_cell h1 0
 have p1 := blk_cell h1 1
 have p2 := blk_cell h1 2
 simp only [List.getElem?_toArray, List.getElem?_cons_zero, List.getElem?_cons_succ] at p0 p1 p2
 have Hx := Lib.hid (RN.up hx hE0)
 have Hy := Lib.hid (RN.up hy hE0)
 have HE0 := Lib.hid hE0
 clear hx hy hE0 hz0 h1
 cases bi
 case true =>
  go_enter Try.func14, Try.ntmps14
  go_upto_region 1 with fail
  rw [← hW0]
  have Hq := Lib.hid hq
  clear hW0 hq
  go_upto_region 2 with fail
  refine Par.region_txt 1 [0, 1] [] (fun j f X => match j with
   | 0 => f 0 = .agg #[.bool true, .slice none 0 0, .slice none 0 0]
   | _ => True) (by kernel_rfl) [(5, 0)] (by kernel_rfl) ?_
  refine Par.v0 1 0 ?_
  refine Par.AllOps.fin ⟨fun f X hX hR hal hap => ?_⟩
  have e0 : f 0 = _ := hR 0 (by decide)
  simp only [yA, yB, yD, yE, e0]
  clear hR hal hap e0
  refine Par.Chain.next (fun K hK => ⟨Par.want (by kernel_rfl) (wp_storeV (cs' := #[.bool true, .slice none 0 0, .slice none 0 0]) (t := 34) 34 (.tmp 2) (.tmp 5) rfl rfl rfl rfl (hX.at_ h2) infoRP rfl (pt_one _ _ _ _ _ _ _) (fun Y hY1 hY2 hY3 => hK.out _ _ ?_))⟩)
  refine Par.Chain.done ?_
  go_wp2
  exact end_rpt rfl rfl rfl hY1 ⟨_, rfl, RPv.inf_ _, hY2.ext (HE0.out.trans hX) (by have := Hq.out; omega)⟩
 case false =>
  go_enter Try.func14, Try.ntmps14
  go_upto_region 1 with fail
  rw [← hW0]
  have Hq := Lib.hid hq
  clear hW0 hq
  go_upto_region 3 with fail
  refine Par.region_ext (by kernel_rfl) 7 [0, 1, 3, 0, 8, 31, 63, 127] [] (fun j f X => match j with
   | 0 => f 0 = .pointer (some ⟨q, 1, none⟩)
   | 1 => f 1 = .slice A a.length ca
   | 2 => ∃ B c, f 2 = .slice B (digs 4294967296 (val 18446744073709551616 a)).length c ∧ RU X B c (digs 4294967296 (val 18446744073709551616 a))
   | 3 => f 3 = .pointer (some ⟨q, 2, none⟩)
   | 4 => f 4 = .slice A' b.length cb
   | 5 => ∃ B c, f 5 = .slice B (digs 4294967296 (val 18446744073709551616 b)).length c ∧ RU X B c (digs 4294967296 (val 18446744073709551616 b))
   | 6 => f 6 = .agg #[.bool false, f 2, f 5]
   | _ => True) (by kernel_rfl) [(6, 0), (7, 1), (8, 2), (9, 3), (10, 4), (11, 5), (12, 6)] (by kernel_rfl) ?_
  refine Par.v0 1 6 ?_
  refine Par.ld1 2 5 0 p1 ?_
  refine Par.c0 3 4 (fun f => #[f 1]) (F' := 19) (fun f X hX hR => ?_) ?_
  · have e1 : f 1 = _ := hR.out 1 rfl
    simp only [e1]
    refine (from_any _ A ca a X (RN.up Hx.out hX) (fun _ h => h) hla).mono ?_
    rintro e w2 ⟨B, c, rfl, h, hB⟩
    exact ⟨(.slice B (digs 4294967296 (val 18446744073709551616 a)).length c), rfl, hB, fun Y hY => ⟨B, c, rfl, RN.up h.ru hY⟩⟩
  refine Par.v0 4 3 ?_
  refine Par.ld1 5 2 3 p2 ?_
  refine Par.c0 6 1 (fun f => #[f 4]) (F' := 19) (fun f X hX hR => ?_) ?_
  · have e4 : f 4 = _ := hR.out 4 rfl
    simp only [e4]
    refine (from_any _ A' cb b X (RN.up Hy.out hX) (fun _ h => h) hlb).mono ?_
    rintro e w2 ⟨B, c, rfl, h, hB⟩
    exact ⟨(.slice B (digs 4294967296 (val 18446744073709551616 b)).length c), rfl, hB, fun Y hY => ⟨B, c, rfl, RN.up h.ru hY⟩⟩
  refine Par.S 7 0 [(6, 0), (7, 1), (8, 2), (9, 3), (10, 4), (11, 5)] (fun f X hX hR K hK => ?_) ?_
  · obtain ⟨B2, c2, (e2 : f 2 = _), h_2⟩ := hR.out 2 rfl
    obtain ⟨B5, c5, (e5 : f 5 = _), h_5⟩ := hR.out 5 rfl
    simp only [yA, yB, yC, yD, yE, e2, e5]
    refine ⟨?_⟩
    go_simp
    exact hK.out _ (.agg #[.bool false, f 2, f 5]) _ (by simp only [yA, yB, yC, yD, yE, e2, e5]) (Ext.refl _) trivial (fun _ _ => rfl)
  refine Par.AllOps.fin ⟨fun f X hX hR hal hap => ?_⟩
  obtain ⟨B2, c2, (e2 : f 2 = _), h_2⟩ := hR 2 (by decide)
  obtain ⟨B5, c5, (e5 : f 5 = _), h_5⟩ := hR 5 (by decide)
  have e6 : f 6 = .agg #[.bool false, f 2, f 5] := hR 6 (by decide)
  simp only [yA, yB, yD, yE, e2, e5, e6]
  clear hR hal hap e2 e5 e6
  refine Par.Chain.next (fun K hK => ⟨Par.want (by kernel_rfl) (wp_storeV (cs' := #[.bool false, .slice B2 (digs 4294967296 (val 18446744073709551616 a)).length c2, .slice B5 (digs 4294967296 (val 18446744073709551616 b)).length c5]) (t := 34) 34 (.tmp 2) (.tmp 12) rfl rfl rfl rfl (hX.at_ h2) infoRP rfl (pt_one _ _ _ _ _ _ _) (fun Y hY1 hY2 hY3 => hK.out _ _ ?_))⟩)
  refine Par.Chain.done ?_
  go_wp2
  exact end_rpt rfl rfl rfl hY1 ⟨_, rfl, ⟨_, _, _, _, rfl, h_2.offJ hY2 (hX.at_ h2) (by kernel_rfl), h_5.offJ hY2 (hX.at_ h2) (by kernel_rfl)⟩, hY2.ext (HE0.out.trans hX) (by have := Hq.out; omega)⟩
set_option maxRecDepth 100000 in
set_option maxHeartbeats 4000000 in
theorem rfrom_w {P : Nat → Prop} {A A' : Option Addr} {ca cb : Nat} {a b : List Nat} (w : World) (hx : RL w P A ca a) (hy : RL w P A' cb b) (hP : ∀ b, P b → b < w.heap.size) : Calls Try.prog 14 #[.agg #[.bool false, .slice A a.length ca, .slice A' b.length cb]] w fun e w' => (∃ B n k B' n' k', e = .returned (.agg #[.bool false, .slice B n k, .slice B' n' k'])) ∧ Ext w w' := by
 obtain ⟨W0, hW0⟩ : ∃ W0, W0 = (w.alloc (.cells #[.bool false, .slice A a.length ca, .slice A' b.length cb] 27)).alloc (.cells #[.bool false, .slice none 0 0, .slice none 0 0] 34) := ⟨_, rfl⟩
 obtain ⟨q, hq⟩ : ∃ q, w.heap.size = q := ⟨_, rfl⟩
 have hE0 : Ext w W0 := by rw [hW0]; exact (Ext.alloc _ _).trans (Ext.alloc _ _)
 obtain ⟨h1, h2, hz0⟩ := two_at2 w (.cells #[.bool false, .slice A a.length ca, .slice A' b.length cb] 27) (.cells #[.bool false, .slice none 0 0, .slice none 0 0] 34)
 rw [← hW0, hq] at h1 h2 hz0
 have p0 := blk_cell h1 0
 have p1 := blk_cell h1 1
 have p2 := blk_cell h1 2
 simp only [List.getElem?_toArray, List.getElem?_cons_zero, List.getElem?_cons_succ] at p0 p1 p2
 have Hx := Lib.hid (hx.below hE0 hP)
 have Hy := Lib.hid (hy.below hE0 hP)
 have HP := Lib.hid (show ∀ b, P b → b < W0.heap.size from fun b hb => Nat.lt_of_lt_of_le (hP b hb) hE0.bsize)
 have HE0 := Lib.hid hE0
 clear hx hy hE0 hz0 h1 hP
 go_enter Try.func14, Try.ntmps14
 go_upto_region 1 with fail
 rw [← hW0]
 have Hq := Lib.hid hq
 clear hW0 hq
 go_upto_region 3 with fail
 refine Par.region_ext (by kernel_rfl) 7 [0, 1, 3, 0, 8, 31, 63, 127] [] (fun j f X => match j with
  | 0 => f 0 = .pointer (some ⟨q, 1, none⟩)
  | 1 => f 1 = .slice A a.length ca
  | 2 => ∃ B n c, f 2 = .slice B n c
  | 3 => f 3 = .pointer (some ⟨q, 2, none⟩)
  | 4 => f 4 = .slice A' b.length cb
  | 5 => ∃ B n c, f 5 = .slice B n c
  | 6 => f 6 = .agg #[.bool false, f 2, f 5]
  | _ => True) (by kernel_rfl) [(6, 0), (7, 1), (8, 2), (9, 3), (10, 4), (11, 5), (12, 6)] (by kernel_rfl) ?_
 refine Par.v0 1 6 ?_
 refine Par.ld1 2 5 0 p1 ?_
 refine Par.c0 3 4 (fun f => #[f 1]) (F' := 19) (fun f X hX hR => ?_) ?_
 · have e1 : f 1 = _ := hR.out 1 rfl
   simp only [e1]
   refine (from_w P A ca a X (Hx.out.below hX HP.out) (fun b hb => Nat.lt_of_lt_of_le (HP.out b hb) hX.bsize)).mono ?_
   rintro e w2 ⟨⟨B, n, c, rfl⟩, hB⟩
   exact ⟨(.slice B n c), rfl, hB, fun Y hY => ⟨B, n, c, rfl⟩⟩
 refine Par.v0 4 3 ?_
 refine Par.ld1 5 2 3 p2 ?_
 refine Par.c0 6 1 (fun f => #[f 4]) (F' := 19) (fun f X hX hR => ?_) ?_
 · have e4 : f 4 = _ := hR.out 4 rfl
   simp only [e4]
   refine (from_w P A' cb b X (Hy.out.below hX HP.out) (fun b hb => Nat.lt_of_lt_of_le (HP.out b hb) hX.bsize)).mono ?_
   rintro e w2 ⟨⟨B, n, c, rfl⟩, hB⟩
   exact ⟨(.slice B n c), rfl, hB, fun Y hY => ⟨B, n, c, rfl⟩⟩
 refine Par.S 7 0 [(6, 0), (7, 1), (8, 2), (9, 3), (10, 4), (11, 5)] (fun f X hX hR K hK => ?_) ?_
 · obtain ⟨B2, n2, c2, (e2 : f 2 = _)⟩ := hR.out 2 rfl
   obtain ⟨B5, n5, c5, (e5 : f 5 = _)⟩ := hR.out 5 rfl
   simp only [yA, yB, yC, yD, yE, e2, e5]
   refine ⟨?_⟩
   go_simp
   exact hK.out _ (.agg #[.bool false, f 2, f 5]) _ (by simp only [yA, yB, yC, yD, yE, e2, e5]) (Ext.refl _) trivial (fun _ _ => rfl)
 refine Par.AllOps.fin ⟨fun f X hX hR hal hap => ?_⟩
 obtain ⟨B2, n2, c2, (e2 : f 2 = _)⟩ := hR 2 (by decide)
 obtain ⟨B5, n5, c5, (e5 : f 5 = _)⟩ := hR 5 (by decide)
 have e6 : f 6 = .agg #[.bool false, f 2, f 5] := hR 6 (by decide)
 simp only [yA, yB, yD, yE, e2, e5, e6]
 clear hR hal hap e2 e5 e6
 refine Par.Chain.next (fun K hK => ⟨Par.want (by kernel_rfl) (wp_storeV (cs' := #[.bool false, .slice B2 n2 c2, .slice B5 n5 c5]) (t := 34) 34 (.tmp 2) (.tmp 12) rfl rfl rfl rfl (hX.at_ h2) infoRP rfl (pt_one _ _ _ _ _ _ _) (fun Y hY1 hY2 hY3 => hK.out _ _ ?_))⟩)
 refine Par.Chain.done ?_
 go_wp2
 exact end_rpt rfl rfl rfl hY1 ⟨⟨_, _, _, _, _, _, rfl⟩, hY2.ext (HE0.out.trans hX) (by have := Hq.out; omega)⟩
end Go.Proofs.Ytldhmjfjbalakaa

namespace Go.Proofs.Ytldhmjfjbalakaa
open Go.RowKit

def OW (w : World) (base : Nat) (A : Option Addr) (c : Nat) (bs : List Nat) : Prop := w.ownsRow base 5 1 (.slice A bs.length c) bs.length (bys bs) ∧ ∀ b ∈ bs, b < 256
theorem own_base {w : World} {base n size : Nat} {e : TypeId} {v : Value} {cs : List Value} (h : w.ownsRow base e size v n cs) (k : Nat) (hk : v.ownBlock = some k) : base ≤ k := by
 rcases h.2 with ⟨rfl, rfl⟩ | ⟨g, cap, cur, rfl, hg, _⟩
 · cases hk
 · simp [Value.ownBlock] at hk
   omega
theorem OW.rb {w : World} {base : Nat} {A : Option Addr} {c : Nat} {bs : List Nat} (h : OW w base A c bs) (hl : bs.length ≤ 100000000) : RB w (In base w.heap.size) A c bs := ⟨RS.of_own h.1, h.2, by omega⟩
theorem OW.lit (w : World) (b : Nat) (hb : b < 256) : OW (w.alloc (.cells #[.int .u8 (b : Int)] 5)) w.heap.size (some ⟨w.heap.size, 0, none⟩) 1 [b] :=
 ⟨World.ownsRow_lit w #[.int .u8 (b : Int)] 1 (Nat.le_refl _) (by unfold maxLen; omega) rfl, by simp; exact hb⟩
theorem OW.ext {w X : World} {base : Nat} {A : Option Addr} {c : Nat} {bs : List Nat} (h : OW w base A c bs) (hE : w.grownBy X none) : OW X base A c bs := ⟨own_kept h.1 hE, h.2⟩
theorem RB.upE {w X : World} {A : Option Addr} {c : Nat} {bs : List Nat} (h : RB w (fun b => b < w.heap.size) A c bs) (hE : Ext w X) : RB X (fun b => b < X.heap.size) A c bs := (h.below hE (fun _ hb => hb)).mono fun _ hb => Nat.lt_of_lt_of_le hb hE.bsize
section
variable {w : World} {ops : Array Oper} {rest : List Oper} {o : Oper} {a : Act} {Q : Exit → Act → World → Prop}
theorem app8 (hgd : o.guard = none) (s x : Operand) (ho : o.op = .call { callee := .builtin .append, args := #[s, x], argTypes := #[49, 49] }) (base : Nat) {A Au : Option Addr} {c cu : Nat} {bs cs : List Nat} {B : Nat → Prop}
 (hs : a.eval s = .slice A bs.length c) (hown : OW w base A c bs) (hx : a.eval x = .slice Au cs.length cu) (hr : RB w B Au cu cs) (hl : bs.length + cs.length ≤ 100000000) (hbase : base ≤ w.heap.size)
 (h : ∀ A' c' w', OW w' base A' c' (bs ++ cs) → Below base w w' → wpList Try.prog ops Q rest (a.put o.dst (.slice A' (bs ++ cs).length c')) w') : wpList Try.prog ops Q (o :: rest) a w := by
 obtain ⟨i0, hi, hz0, hz1, hz2⟩ := info_parts info8
 refine wpList_append_rs w hgd s x 49 ho base 5 i0 (.int .u8 0) 1 1 Try.underlying49 hi hz0 hz1 hz2 rfl (by decide) _ bs.length (bys bs) hs hown.1 B Au cs.length cu (bys cs) hx hr.1 (by intro u hu; obtain ⟨b, _, rfl⟩ := List.mem_map.1 hu; rfl) (bs.length + cs.length) rfl (by unfold maxLen; omega) (by omega) hbase ?_
 intro A' c' w' h1 h2 h3
 have hlen : (bs ++ cs).length = bs.length + cs.length := List.length_append
 refine (hlen ▸ h A' c' w' ⟨?_, ?_⟩ ?_ : _)
 · rw [hlen, show bys (bs ++ cs) = bys bs ++ bys cs by simp [bys]]
   exact h1
 · intro b hb
   rcases List.mem_append.1 hb with hb | hb
   · exact hown.2 b hb
   · exact hr.2.1 b hb
 · exact Below.grown (Below.refl base w) h2 hbase (own_base hown.1)
end
end Go.Proofs.Ytldhmjfjbalakaa

namespace Go.Proofs.Ytldhmjfjbalakaa
open Go.RowKit

def encC (C : Crv) (bi : Bool) (x y : Nat) : Option (List Nat) := if onQ C bi x y = true then some (if bi then [0] else 4 :: (bytesOf x C.size ++ bytesOf y C.size)) else none
theorem Crv.Fine.bits {C : Crv} (h : C.Fine) {x : Nat} (hx : x < C.M) : nbits x ≤ 8 * C.size := nbits_le (Nat.lt_of_lt_of_le (Nat.lt_trans hx h.room) (by rw [pow256]; exact Nat.le_refl _))
theorem bytesOf_len (x n : Nat) : (bytesOf x n).length = n := by simp [bytesOf]
set_option maxRecDepth 100000 in
set_option maxHeartbeats 8000000 in
theorem encode_c {c : Int} {C : Crv} (hC : IsC c C) {p : Value} {bi : Bool} {x y : Nat} (w : World) (hp : APt w p bi x y) :
 Calls Try.prog 26 #[.int .i64 c, p] w fun e w' => ∃ A1 c1, e = .returned (.tuple #[.slice A1 ((encC C bi x y).getD []).length c1, .bool (encC C bi x y).isSome]) ∧ RB w' (In w.heap.size w'.heap.size) A1 c1 ((encC C bi x y).getD []) ∧ Ext w w' := by
 obtain ⟨A, A', ca, cb, a, b, rfl, ha, hb, hx, hy⟩ := hp
 have hp : APt w (.agg #[.bool bi, .slice A a.length ca, .slice A' b.length cb]) bi x y := ⟨A, A', ca, cb, a, b, rfl, ha, hb, hx, hy⟩
 obtain ⟨W0, hW0⟩ : ∃ W0, W0 = w.alloc (.cells #[.bool bi, .slice A a.length ca, .slice A' b.length cb] 27) := ⟨_, rfl⟩
 obtain ⟨q, hq⟩ : ∃ q, w.heap.size = q := ⟨_, rfl⟩
 have hE0 : Ext w W0 := by rw [hW0]; exact Ext.alloc _ _
 have h1 := heap_alloc_new w (.cells #[.bool bi, .slice A a.length ca, .slice A' b.length cb] 27)
 rw [← hW0, hq] at h1
 have hp0 := Lib.hid (hp.ext hE0)
 have HE0 := Lib.hid hE0
 have HC := Lib.hid hC
 have Ha := Lib.hid (RN.up ha hE0)
 have Hb := Lib.hid (RN.up hb hE0)
 have Hx := Lib.hid hx
 have Hy := Lib.hid hy
 rw [hq]
 obtain ⟨res, hres⟩ : ∃ o, encC C bi x y = o := ⟨_, rfl⟩
 rw [hres]
 have Hres := Lib.hid hres
 clear hp hE0 hC hres ha hb hx hy
 go_enter Try.func26, Try.ntmps26
 go_upto_region 1 with fail
 rw [← hW0]
 have Hq := Lib.hid hq
 clear hW0 hq
 obtain ⟨o1, ho1⟩ : ∃ o, onQ C bi x y = o := ⟨_, rfl⟩
 have Ho1 := Lib.hid ho1
 clear ho1
 go_upto_region 2 with (go_at_call 42; refine (of_c HC.out _).mono ?_; rintro e wa ⟨k, rfl, hk, hE1⟩)
 have HE1 := Lib.hid hE1
 replace h1 := hE1.at_ h1
 clear hE1
 cases o1
 case false =>
  obtain rfl : res = none := by rw [← Hres.out, encC, if_neg (by rw [Ho1.out]; decide)]
  refine Par.region_txt 4 [0, 0, 3, 7] [] (fun j f X => match j with
   | 0 => f 0 = .pointer (some ⟨k, 0, none⟩)
   | 1 => f 1 = .agg #[.bool bi, .slice A a.length ca, .slice A' b.length cb]
   | 2 => f 2 = .bool false
   | 3 => f 3 = .bool true
   | _ => True) (by kernel_rfl) [(13, 0), (14, 1), (15, 2), (16, 3)] (by kernel_rfl) ?_
  refine Par.v0 1 3 ?_
  refine lV0 2 2 h1 infoP ?_
  refine Par.c0 3 1 (fun f => #[f 0, f 1]) (F' := 43) (fun f X hX hR => ?_) ?_
  · have e0 : f 0 = _ := hR.out 0 rfl
    have e1 : f 1 = _ := hR.out 1 rfl
    simp only [e0, e1]
    refine (on_j (hk.ext hX) HC.out.fine (hp0.out.ext (HE1.out.trans hX))).mono ?_
    rw [Ho1.out]
    rintro e w2 ⟨rfl, hB⟩
    exact ⟨_, rfl, hB, fun _ _ => rfl⟩
  refine Par.v1 4 0 2 ?_
  refine Par.AllOps.fin ⟨fun f X hX hR hal hap => ?_⟩
  have e3 : f 3 = _ := hR 3 (by decide)
  simp only [yA, yB, yD, yE, e3]
  clear hR hal hap e3
  refine Par.Chain.done ?_
  go_wp2
  go_ret2
  exact ⟨none, 0, rfl, RB.nil_ _ _, (HE0.out.trans HE1.out).trans hX⟩
 case true =>
  cases bi
  case true =>
   obtain rfl : res = some [0] := by rw [← Hres.out, encC, if_pos Ho1.out]; rfl
   refine Par.region_txt 4 [0, 0, 3, 7] [] (fun j f X => match j with
    | 0 => f 0 = .pointer (some ⟨k, 0, none⟩)
    | 1 => f 1 = .agg #[.bool true, .slice A a.length ca, .slice A' b.length cb]
    | 2 => f 2 = .bool true
    | 3 => f 3 = .bool false
    | _ => True) (by kernel_rfl) [(13, 0), (14, 1), (15, 2), (16, 3)] (by kernel_rfl) ?_
   refine Par.v0 1 3 ?_
   refine lV0 2 2 h1 infoP ?_
   refine Par.c0 3 1 (fun f => #[f 0, f 1]) (F' := 43) (fun f X hX hR => ?_) ?_
   · have e0 : f 0 = _ := hR.out 0 rfl
     have e1 : f 1 = _ := hR.out 1 rfl
     simp only [e0, e1]
     refine (on_j (hk.ext hX) HC.out.fine (hp0.out.ext (HE1.out.trans hX))).mono ?_
     rw [Ho1.out]
     rintro e w2 ⟨rfl, hB⟩
     exact ⟨_, rfl, hB, fun _ _ => rfl⟩
   refine Par.v1 4 0 2 ?_
   refine Par.AllOps.fin ⟨fun f X hX hR hal hap => ?_⟩
   have e3 : f 3 = _ := hR 3 (by decide)
   simp only [yA, yB, yD, yE, e3]
   clear hR hal hap e3
   refine Par.Chain.done ?_
   have c0 := blk_cell (hX.at_ h1) 0
   simp only [List.getElem?_toArray, List.getElem?_cons_zero] at c0
   have HX := Lib.hid ((HE0.out.trans HE1.out).trans hX)
   clear hX h1
   rename World => X2
   have hw := OW.lit X2 0 (by omega)
   go_wp2
   go_ret2
   have := HX.out.bsize
   have := Hq.out
   exact ⟨_, _, rfl, (hw.rb (by simp)).mono (fun b hb => ⟨by have := hb.1; omega, hb.2⟩), HX.out.trans (Ext.alloc _ _)⟩
  case false =>
   obtain ⟨hxM, hyM⟩ := onQ_lt Ho1.out rfl
   obtain rfl : res = some (4 :: (bytesOf x C.size ++ bytesOf y C.size)) := by rw [← Hres.out, encC, if_pos Ho1.out]; rfl
   refine Par.region_txt 4 [0, 0, 3, 7] [] (fun j f X => match j with
    | 0 => f 0 = .pointer (some ⟨k, 0, none⟩)
    | 1 => f 1 = .agg #[.bool false, .slice A a.length ca, .slice A' b.length cb]
    | 2 => f 2 = .bool true
    | 3 => f 3 = .bool false
    | _ => True) (by kernel_rfl) [(13, 0), (14, 1), (15, 2), (16, 3)] (by kernel_rfl) ?_
   refine Par.v0 1 3 ?_
   refine lV0 2 2 h1 infoP ?_
   refine Par.c0 3 1 (fun f => #[f 0, f 1]) (F' := 43) (fun f X hX hR => ?_) ?_
   · have e0 : f 0 = _ := hR.out 0 rfl
     have e1 : f 1 = _ := hR.out 1 rfl
     simp only [e0, e1]
     refine (on_j (hk.ext hX) HC.out.fine (hp0.out.ext (HE1.out.trans hX))).mono ?_
     rw [Ho1.out]
     rintro e w2 ⟨rfl, hB⟩
     exact ⟨_, rfl, hB, fun _ _ => rfl⟩
   refine Par.v1 4 0 2 ?_
   refine Par.AllOps.fin ⟨fun f X hX hR hal hap => ?_⟩
   have e3 : f 3 = _ := hR 3 (by decide)
   simp only [yA, yB, yD, yE, e3]
   clear hR hal hap e3
   refine Par.Chain.done ?_
   have hk2 := hk.ext hX
   have ks := hk2.size
   have HX := Lib.hid hX
   have HEX := Lib.hid ((HE0.out.trans HE1.out).trans hX)
   replace h1 := hX.at_ h1
   have c0 := blk_cell h1 0
   have c1 := blk_cell h1 1
   have c2 := blk_cell h1 2
   simp only [List.getElem?_toArray, List.getElem?_cons_zero, List.getElem?_cons_succ] at c0 c1 c2
   have HM := Lib.hid HC.out.fine
   clear hX h1
   rename World => X2
   go_upto_region 6 with fail
   refine Par.region_ext (by kernel_rfl) 12 [0, 1, 0, 4, 12, 28, 63, 127, 255, 255, 511, 2047] [] (fun j f X => match j with
    | 0 => f 0 = .pointer (some ⟨q, 1, none⟩)
    | 1 => f 1 = .slice A a.length ca
    | 2 => f 2 = .pointer (some ⟨k, 0, none⟩)
    | 3 => f 3 = .pointer (some ⟨k, 0, none⟩)
    | 4 => f 4 = .pointer (some ⟨k, 0, none⟩)
    | 5 => f 5 = .int .i64 (C.size : Int)
    | 6 => ∃ A1, f 6 = .tuple #[.slice A1 C.size C.size, .bool true] ∧ RB X (fun b => b < X.heap.size) A1 C.size (bytesOf x C.size)
    | 7 => ∃ A1, f 7 = .tuple #[.slice A1 C.size C.size, .bool true] ∧ RB X (fun b => b < X.heap.size) A1 C.size (bytesOf x C.size)
    | 8 => ∃ A1, f 8 = .slice A1 C.size C.size ∧ RB X (fun b => b < X.heap.size) A1 C.size (bytesOf x C.size)
    | 9 => f 9 = .bool true
    | 10 => ∃ A1, f 10 = .slice A1 C.size C.size ∧ RB X (fun b => b < X.heap.size) A1 C.size (bytesOf x C.size)
    | 11 => f 11 = .bool true
    | _ => True) (by kernel_rfl) [(21, 0), (22, 1), (23, 2), (24, 3), (25, 4), (26, 5), (27, 6), (20, 7), (28, 8), (29, 9), (7, 10), (8, 11)] (by kernel_rfl) ?_
   refine Par.v0 1 11 ?_
   refine Par.ld1 2 10 0 c1 ?_
   refine Par.v0 3 9 ?_
   refine Par.v1 4 8 2 ?_
   refine Par.v1 5 7 3 ?_
   refine Par.ld1 6 6 4 ks ?_
   refine Par.c0 7 5 (fun f => #[f 1, f 5]) (F' := 61) (fun f X hX hR => ?_) ?_
   · have e1 : f 1 = _ := hR.out 1 rfl
     have e5 : f 5 = _ := hR.out 5 rfl
     simp only [e1, e5]
     refine (bytes_yes _ A ca a C.size X (RN.up Ha.out ((HE1.out.trans HX.out).trans hX)) (fun b hb => hb) (by have := HM.out.small; omega) (by rw [Hx.out]; exact HM.out.bits hxM)).mono ?_
     rw [Hx.out]
     rintro e w2 ⟨A1, rfl, hO, hB⟩
     exact ⟨_, rfl, hB, fun Y hY => ⟨A1, rfl, RB.upE (hO.mono fun b hb => hb.2) hY⟩⟩
   refine Par.S 8 4 [(21, 0), (22, 1), (23, 2), (24, 3), (25, 4), (26, 5), (27, 6)] (fun f X hX hR K hK => ?_) ?_
   · obtain ⟨A6, (e6 : f 6 = _), o6⟩ := hR.out 6 rfl
     simp only [yA, yB, yC, yD, yE, e6]
     refine ⟨?_⟩
     go_simp
     exact hK.out _ _ _ (by simp only [yA, yB, yC, yD, yE, e6]) (Ext.refl _) trivial (fun Y hY => ⟨A6, rfl, o6.upE hY⟩)
   refine Par.S 9 3 [(21, 0), (22, 1), (23, 2), (24, 3), (25, 4), (26, 5), (27, 6), (20, 7), (29, 9)] (fun f X hX hR K hK => ?_) ?_
   · obtain ⟨A7, (e7 : f 7 = _), o7⟩ := hR.out 7 rfl
     simp only [yA, yB, yC, yD, yE, e7]
     refine ⟨?_⟩
     go_simp
     exact hK.out _ _ _ (by simp only [yA, yB, yC, yD, yE, e7]) (Ext.refl _) trivial (fun Y hY => ⟨A7, rfl, o7.upE hY⟩)
   refine Par.S 10 2 [(21, 0), (22, 1), (23, 2), (24, 3), (25, 4), (26, 5), (27, 6), (20, 7), (28, 8), (7, 10)] (fun f X hX hR K hK => ?_) ?_
   · obtain ⟨A7, (e7 : f 7 = _), o7⟩ := hR.out 7 rfl
     simp only [yA, yB, yC, yD, yE, e7]
     refine ⟨?_⟩
     go_simp
     exact Par.k hK (s := by simp only [yA, yB, yC, yD, yE, e7])
   refine Par.S 11 1 [(21, 0), (22, 1), (23, 2), (24, 3), (25, 4), (26, 5), (27, 6), (20, 7), (28, 8), (29, 9)] (fun f X hX hR K hK => ?_) ?_
   · obtain ⟨A8, (e8 : f 8 = _), o8⟩ := hR.out 8 rfl
     simp only [yA, yB, yC, yD, yE, e8]
     refine ⟨?_⟩
     go_simp
     exact hK.out _ _ _ (by simp only [yA, yB, yC, yD, yE, e8]) (Ext.refl _) trivial (fun Y hY => ⟨A8, rfl, o8.upE hY⟩)
   refine Par.v1 12 0 9 ?_
   refine Par.AllOps.fin ⟨fun f X hX hR hal hap => ?_⟩
   obtain ⟨A6, (e6 : f 6 = _), o6⟩ := hR 6 (by decide)
   obtain ⟨A7, (e7 : f 7 = _), o7⟩ := hR 7 (by decide)
   obtain ⟨A8, (e8 : f 8 = _), o8⟩ := hR 8 (by decide)
   obtain ⟨Bx, (e10 : f 10 = _), o10⟩ := hR 10 (by decide)
   simp only [yA, yB, yD, yE, e6, e7, e8, e10]
   clear hR hal hap e6 e7 e8 e10
   refine Par.Chain.done ?_
   have HXY := Lib.hid hX
   replace c2 := hX.cell c2
   replace ks := hX.cell ks
   have HOx := Lib.hid o10
   clear hX o6 o7 o8 o10 c0 c1
   rename World => X3
   go_upto_region 7 with fail
   refine Par.region_ext (by kernel_rfl) 12 [0, 1, 0, 4, 12, 28, 63, 127, 255, 255, 511, 2047] [] (fun j f X => match j with
    | 0 => f 0 = .pointer (some ⟨q, 2, none⟩)
    | 1 => f 1 = .slice A' b.length cb
    | 2 => f 2 = .pointer (some ⟨k, 0, none⟩)
    | 3 => f 3 = .pointer (some ⟨k, 0, none⟩)
    | 4 => f 4 = .pointer (some ⟨k, 0, none⟩)
    | 5 => f 5 = .int .i64 (C.size : Int)
    | 6 => ∃ A1, f 6 = .tuple #[.slice A1 C.size C.size, .bool true] ∧ RB X (fun b => b < X.heap.size) A1 C.size (bytesOf y C.size)
    | 7 => ∃ A1, f 7 = .tuple #[.slice A1 C.size C.size, .bool true] ∧ RB X (fun b => b < X.heap.size) A1 C.size (bytesOf y C.size)
    | 8 => ∃ A1, f 8 = .slice A1 C.size C.size ∧ RB X (fun b => b < X.heap.size) A1 C.size (bytesOf y C.size)
    | 9 => f 9 = .bool true
    | 10 => ∃ A1, f 10 = .slice A1 C.size C.size ∧ RB X (fun b => b < X.heap.size) A1 C.size (bytesOf y C.size)
    | 11 => f 11 = .bool true
    | _ => True) (by kernel_rfl) [(31, 0), (32, 1), (33, 2), (34, 3), (35, 4), (36, 5), (37, 6), (30, 7), (38, 8), (39, 9), (9, 10), (10, 11)] (by kernel_rfl) ?_
   refine Par.v0 1 11 ?_
   refine Par.ld1 2 10 0 c2 ?_
   refine Par.v0 3 9 ?_
   refine Par.v1 4 8 2 ?_
   refine Par.v1 5 7 3 ?_
   refine Par.ld1 6 6 4 ks ?_
   refine Par.c0 7 5 (fun f => #[f 1, f 5]) (F' := 61) (fun f X hX hR => ?_) ?_
   · have e1 : f 1 = _ := hR.out 1 rfl
     have e5 : f 5 = _ := hR.out 5 rfl
     simp only [e1, e5]
     refine (bytes_yes _ A' cb b C.size X (RN.up Hb.out (((HE1.out.trans HX.out).trans HXY.out).trans hX)) (fun b hb => hb) (by have := HM.out.small; omega) (by rw [Hy.out]; exact HM.out.bits hyM)).mono ?_
     rw [Hy.out]
     rintro e w2 ⟨A1, rfl, hO, hB⟩
     exact ⟨_, rfl, hB, fun Y hY => ⟨A1, rfl, RB.upE (hO.mono fun b hb => hb.2) hY⟩⟩
   refine Par.S 8 4 [(31, 0), (32, 1), (33, 2), (34, 3), (35, 4), (36, 5), (37, 6)] (fun f X hX hR K hK => ?_) ?_
   · obtain ⟨A6, (e6 : f 6 = _), o6⟩ := hR.out 6 rfl
     simp only [yA, yB, yC, yD, yE, e6]
     refine ⟨?_⟩
     go_simp
     exact hK.out _ _ _ (by simp only [yA, yB, yC, yD, yE, e6]) (Ext.refl _) trivial (fun Y hY => ⟨A6, rfl, o6.upE hY⟩)
   refine Par.S 9 3 [(31, 0), (32, 1), (33, 2), (34, 3), (35, 4), (36, 5), (37, 6), (30, 7), (39, 9)] (fun f X hX hR K hK => ?_) ?_
   · obtain ⟨A7, (e7 : f 7 = _), o7⟩ := hR.out 7 rfl
     simp only [yA, yB, yC, yD, yE, e7]
     refine ⟨?_⟩
     go_simp
     exact hK.out _ _ _ (by simp only [yA, yB, yC, yD, yE, e7]) (Ext.refl _) trivial (fun Y hY => ⟨A7, rfl, o7.upE hY⟩)
   refine Par.S 10 2 [(31, 0), (32, 1), (33, 2), (34, 3), (35, 4), (36, 5), (37, 6), (30, 7), (38, 8), (9, 10)] (fun f X hX hR K hK => ?_) ?_
   · obtain ⟨A7, (e7 : f 7 = _), o7⟩ := hR.out 7 rfl
     simp only [yA, yB, yC, yD, yE, e7]
     refine ⟨?_⟩
     go_simp
     exact Par.k hK (s := by simp only [yA, yB, yC, yD, yE, e7])
   refine Par.S 11 1 [(31, 0), (32, 1), (33, 2), (34, 3), (35, 4), (36, 5), (37, 6), (30, 7), (38, 8), (39, 9)] (fun f X hX hR K hK => ?_) ?_
   · obtain ⟨A8, (e8 : f 8 = _), o8⟩ := hR.out 8 rfl
     simp only [yA, yB, yC, yD, yE, e8]
     refine ⟨?_⟩
     go_simp
     exact hK.out _ _ _ (by simp only [yA, yB, yC, yD, yE, e8]) (Ext.refl _) trivial (fun Y hY => ⟨A8, rfl, o8.upE hY⟩)
   refine Par.v1 12 0 9 ?_
   refine Par.AllOps.fin ⟨fun f X hX hR hal hap => ?_⟩
   obtain ⟨A6, (e6 : f 6 = _), o6⟩ := hR 6 (by decide)
   obtain ⟨A7, (e7 : f 7 = _), o7⟩ := hR 7 (by decide)
   obtain ⟨A8, (e8 : f 8 = _), o8⟩ := hR 8 (by decide)
   obtain ⟨By, (e10 : f 10 = _), o10⟩ := hR 10 (by decide)
   simp only [yA, yB, yD, yE, e6, e7, e8, e10]
   clear hR hal hap e6 e7 e8 e10
   refine Par.Chain.done ?_
   have HXZ := Lib.hid hX
   have hx8 := Lib.hid (HOx.out.upE hX)
   have hy8 := Lib.hid o10
   clear hX o6 o7 o8 o10 c2 ks
   rename World => X4
   obtain ⟨B0, hB0⟩ : ∃ B, X4.heap.size = B := ⟨_, rfl⟩
   have hl : OW (X4.alloc (.cells #[.int .u8 4] 5)) X4.heap.size (some ⟨X4.heap.size, 0, none⟩) 1 [4] := OW.lit X4 4 (by omega)
   have hA := Ext.alloc X4 (.cells #[.int .u8 4] 5)
   have hx9 := Lib.hid ((hx8.out).below hA (fun b hb => hb))
   have hy9 := Lib.hid ((hy8.out).below hA (fun b hb => hb))
   have hz9 : (X4.alloc (.cells #[.int .u8 4] 5)).heap.size = B0 + 1 := by rw [World.size_alloc, hB0]
   have HA := Lib.hid hA
   rw [hB0] at hl
   have Hl := Lib.hid hl
   have HB0 := Lib.hid hB0
   have lx := bytesOf_len x C.size
   have ly := bytesOf_len y C.size
   have HS := Lib.hid lx
   have HT := Lib.hid ly
   have Hsm := Lib.hid HM.out.small
   have Hz9 := Lib.hid hz9
   clear hl hA hz9 lx ly
   go_upto_region 8 with fail


   go_wp2_with (at_builtin; first
    | (refine app8 rfl (.tmp 40) (.tmp 41) rfl B0 rfl Hl.out (by rw [HS.out]; rfl) hx9.out (by rw [HS.out]; have := Hsm.out; simp; omega) (by have := Hz9.out; omega) ?_; intro A1 c1 w1 hw1 hb1; have Hw1 := Lib.hid hw1; have Hb1 := Lib.hid hb1; clear hw1 hb1)
    | (refine app8 rfl (.tmp 42) (.tmp 43) rfl B0 rfl Hw1.out (by rw [HT.out]; rfl) (hy9.out.below Hb1.out (fun b hb => by have := HB0.out; omega)) (by rw [List.length_append, HS.out, HT.out]; have := Hsm.out; simp; omega) (by have := Hz9.out; have := Hb1.out.size; omega) ?_; intro A2 c2 w2 hw2 hb2; have Hw2 := Lib.hid hw2; have Hb2 := Lib.hid hb2; clear hw2 hb2))
   go_ret2
   have hEx := (HEX.out.trans HXY.out).trans HXZ.out
   have hq : q ≤ B0 := by have := hEx.bsize; have := Hq.out; omega
   have hrb := Hw2.out.rb (by rw [List.length_append, List.length_append, HS.out, HT.out]; have := Hsm.out; simp; omega)
   refine ⟨A2, c2, ?_, hrb.mono (fun b hb => ⟨by have := hb.1; omega, hb.2⟩), Below.trans (hEx.trans HA.out) (Below.mono (Hb1.out.trans Hb2.out) (by have := hEx.bsize; omega))⟩
   show _ = Ending.returned (.tuple #[.slice A2 (4 :: (bytesOf x C.size ++ bytesOf y C.size)).length c2, .bool true])
   rw [List.length_cons, List.length_append]
   rfl
end Go.Proofs.Ytldhmjfjbalakaa
