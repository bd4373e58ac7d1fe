/- curve: Mul. -/
import Derived.Test.YtldhmjfjbalakaaQe23132f3f1a1
import Derived.Sort.CutIn
import Derived.Sort.AtCallIn
import Derived.TacticsInMore
import Derived.Sort.LoopGhostIn
set_option maxRecDepth 100000
set_option maxHeartbeats 16000000
namespace Go.Proofs.Ytldhmjfjbalakaa
open Go.RowKit Go.Shelf
attribute [local go_sem] Oper.semAt_some
def tabP (M : Nat) (p : Nat × Nat × Nat) : Nat → Nat × Nat × Nat
 | 0 => (1, 1, 0)
 | 1 => p
 | k + 2 => addT M (tabP M p (k + 1)) p
def mulS (M : Nat) (p : Nat × Nat × Nat) (E : Nat) : Nat → (Nat × Nat × Nat) × Nat
 | 0 => ((1, 1, 0), 0)
 | k + 1 => if (bitAt E k).1 % 4 = 0 then (addT M (dblT M (mulS M p E k).1) (tabP M p (2 * (mulS M p E k).2 + (bitAt E k).2)), 0) else (dblT M (mulS M p E k).1, 2 * (mulS M p E k).2 + (bitAt E k).2)
def mulC (C : Crv) (bi : Bool) (x y E : Nat) : Option (Option (Nat × Nat)) := if onQ C bi x y = true then (if nbits E ≤ 4096 then some (downT C.M (mulS C.M (upP bi x y) E (nbits E)).1) else none) else none
theorem one_set {X : World} {b : Nat} {u : Value} {T : TypeId} (h : X.heap[b]? = some (.cells #[u] T (0, 0))) (v : Value) : (X.setCell ⟨b, 0, none⟩ v).heap[b]? = some (.cells #[v] T (0, 0)) ∧ Just b X (X.setCell ⟨b, 0, none⟩ v) :=
 ⟨by simpa using blk_set h 0 v, (Just.refl b X).set 0 v⟩
def JBlk (C : Crv) (X : World) (b : Nat) (p : Nat × Nat × Nat) : Prop := ∃ x y z, BlkJ X b x y z ∧ FJ C.M C.n x y z p.1 p.2.1 p.2.2
theorem BlkJ.lt' {X : World} {b : Nat} {x y z : List Nat} (h : BlkJ X b x y z) : b < X.heap.size := blk_lt h
theorem JBlk.ext {C : Crv} {X Y : World} {b : Nat} {p : Nat × Nat × Nat} (h : JBlk C X b p) (hE : Ext X Y) : JBlk C Y b p := let ⟨x, y, z, h1, h2⟩ := h; ⟨x, y, z, hE.at_ h1, h2⟩
theorem dig_lt (M : Nat) (p : Nat × Nat × Nat) (E : Nat) : ∀ k, k < nbits E → (mulS M p E k).2 * 2 ^ ((nbits E - 1 - k) % 4) < 8
 | 0, _ => by rw [show (mulS M p E 0).2 = 0 from rfl]; omega
 | k + 1, h => by
  have ih := dig_lt M p E k (by omega)
  have hb : (bitAt E k).2 < 2 := Nat.mod_lt _ (by omega)
  have hi : (bitAt E k).1 = nbits E - 1 - k := rfl
  simp only [mulS]
  split
  · simp
  · rename_i hne
    rw [hi] at hne
    obtain ⟨i, hi'⟩ : ∃ i, nbits E - 1 - k = i := ⟨_, rfl⟩
    rw [hi'] at ih hne
    rw [show nbits E - 1 - (k + 1) = i - 1 by omega]
    have hr : i % 4 = 1 ∨ i % 4 = 2 ∨ i % 4 = 3 := by omega
    show (2 * (mulS M p E k).2 + (bitAt E k).2) * _ < 8
    rcases hr with hr | hr | hr
    · rw [hr] at ih
      rw [show (i - 1) % 4 = 0 by omega]
      omega
    · rw [hr] at ih
      rw [show (i - 1) % 4 = 1 by omega]
      omega
    · rw [hr] at ih
      rw [show (i - 1) % 4 = 2 by omega]
      omega
theorem dig_lt8 {M : Nat} {p : Nat × Nat × Nat} {E k : Nat} (h : k < nbits E) : (mulS M p E k).2 < 8 := Nat.lt_of_le_of_lt (Nat.le_mul_of_pos_right _ (Nat.pow_pos (by omega))) (dig_lt M p E k h)
theorem res_pt {fn : Func} {tm : Array Value} {W : World} {p u : Tmp} {g : Nat} {ty : TypeId} {fr : Nat × Nat} {x0 x1 x2 v : Value} (hr : fn.results = #[.cell p 27, .tmp u]) (hp : tm.getD p undef = .pointer (some ⟨g, 0, none⟩)) (hu : tm.getD u undef = v)
 (hg : W.heap[g]? = some (.cells #[x0, x1, x2] ty fr)) : (results fn tm).run Try.prog W = .ok (.tuple #[.agg #[x0, x1, x2], v]) W := by
 rw [results_cell_tmp hr, hp]
 have h1 : (asAddr (.pointer (some ⟨g, 0, none⟩)) : Sem Addr).run Try.prog W = .ok ⟨g, 0, none⟩ W := rfl
 rw [h1, Result.andThen_ok, run_loadVar_row W g ty 27 #[x0, x1, x2] fr _ hg Try.underlying27 rfl infoP, Result.andThen_ok, hu]
theorem JBlk.just {C : Crv} {X Y : World} {b g : Nat} {p : Nat × Nat × Nat} (h : JBlk C X b p) (hj : Just g X Y) (hb : b ≠ g) : JBlk C Y b p := let ⟨x, y, z, h1, h2⟩ := h; ⟨x, y, z, hj.at_ hb h1, h2⟩
theorem OB.put {X : World} {base D : Nat} {A : Option Addr} {c : Nat} {l : List Nat} {o o' : Obj} (h : OB X base A c l) (hD : X.heap[D]? = some o) (hc : o.isCells = false) : OB (X.putObj D o') base A c l := by
 obtain ⟨h1, h2, h3, h4⟩ := h
 refine ⟨h1, h2, h3, fun hl => ?_⟩
 obtain ⟨g, cur, e, hg, hgc, hr⟩ := h4 hl
 refine ⟨g, cur, e, hg, (World.putObj_heap_other (fun e => ?_)).trans hgc, hr⟩
 subst e
 rw [hD] at hgc
 cases hgc
 cases hc
theorem PtV.put {X : World} {base D : Nat} {v : Value} {p : Option (Nat × Nat)} {o' : Obj} (h : PtV X base v p) (hD : X.heap[D]? = some (.deferred (some []))) : PtV (X.putObj D o') base v p := by
 cases p with
 | none => exact h
 | some p =>
  obtain ⟨A, c, A', c', rfl, h1, h2⟩ := h
  exact ⟨A, c, A', c', rfl, h1.put hD rfl, h2.put hD rfl⟩
structure MK (n0 t bo be : Nat) (w3 V Z : World) : Prop where
 keeps : Keeps n0 (n0 + 2) 0 V Z
 stay : Stay t n0 V Z
 below : Below bo w3 Z
 tab : Z.heap[be]? = V.heap[be]?
 size : n0 ≤ Z.heap.size
theorem MK.ext {n0 t bo be : Nat} {w3 V Z Z' : World} (h : MK n0 t bo be w3 V Z) (hE : Ext Z Z') (hbe : be < n0) (hbo : bo ≤ n0) : MK n0 t bo be w3 V Z' :=
 ⟨h.keeps.trans (Keeps.below hE (Nat.le_refl _)), Stay.trans h.stay (hE.stay h.size), h.below.trans (Below.mono hE (by have := h.size; omega)), (Below.block hE be (by have := h.size; omega)).trans h.tab, Nat.le_trans h.size hE.bsize⟩
theorem MK.just {n0 t bo be g : Nat} {w3 V Z Z' : World} {cs : Array Value} {T : TypeId} {fr : Nat × Nat} (h : MK n0 t bo be w3 V Z) (hj : Just g Z Z') (hg : Z.heap[g]? = some (.cells cs T fr)) (hgt : g < t) (hgb : bo ≤ g) (hne : be ≠ g) (hbe : be < n0) (hbo : bo ≤ n0) : MK n0 t bo be w3 V Z' :=
 ⟨h.keeps.trans (Keeps.just hj hg), Stay.trans h.stay (hj.stay hgt h.size), h.below.trans (hj.below hgb (by have := h.size; omega)), (hj.block be (by have := h.size; omega) hne).trans h.tab, Nat.le_trans h.size hj.size⟩
theorem JBlk.below {C : Crv} {X Y : World} {b B : Nat} {p : Nat × Nat × Nat} (h : JBlk C X b p) (hB : Below B X Y) (hb : b < B) : JBlk C Y b p := let ⟨x, y, z, h1, h2⟩ := h; ⟨x, y, z, (hB.block b hb).trans h1, h2⟩
theorem mul_c {c : Int} {C : Crv} (hC : IsC c C) {p : Value} {bi : Bool} {x y E : Nat} {An : Option Addr} {cn : Nat} {n : List Nat} (w : World) (hp : APt w p bi x y) (hn : RU w An cn n) (hE : val 18446744073709551616 n = E) :
 Calls Try.prog 15 #[.int .i64 c, .slice An n.length cn, p] w fun e w' => ∃ o, e = .returned (.tuple #[o, .bool (mulC C bi x y E).isSome]) ∧ PtV w' w.heap.size o (mulC C bi x y E).join ∧ Ext w w' := by
 obtain ⟨A, A', ca, cb, a, b, rfl, ha, hb, hx, hy⟩ := hp
 have hp : APt w (.agg #[.bool bi, .slice A a.length ca, .slice A' b.length cb]) bi x y := ⟨A, A', ca, cb, a, b, rfl, ha, hb, hx, hy⟩
 obtain ⟨W0, hW0⟩ : ∃ W0, W0 = (w.alloc (.cells #[.bool bi, .slice A a.length ca, .slice A' b.length cb] 27)).alloc (.cells #[.bool false, .slice none 0 0, .slice none 0 0] 27) := ⟨_, rfl⟩
 obtain ⟨q, hq⟩ : ∃ q, w.heap.size = q := ⟨_, rfl⟩
 have hE0 : Ext w W0 := by rw [hW0]; exact (Ext.alloc _ _).trans (Ext.alloc _ _)
 obtain ⟨h1, h3, hz0⟩ := two_at2 w (.cells #[.bool bi, .slice A a.length ca, .slice A' b.length cb] 27) (.cells #[.bool false, .slice none 0 0, .slice none 0 0] 27)
 rw [← hW0, hq] at h1 h3 hz0
 have hp0 := Lib.hid (hp.ext hE0)
 have HE0 := Lib.hid hE0
 have Hz0 := Lib.hid hz0
 have HC := Lib.hid hC
 have HN := Lib.hid (RN.up hn hE0)
 have HE := Lib.hid hE
 rw [hq]
 obtain ⟨res, hres⟩ : ∃ o, mulC C bi x y E = o := ⟨_, rfl⟩
 rw [hres]
 have Hres := Lib.hid hres
 clear hp hE0 hz0 hC hres ha hb hx hy hn hE
 obtain ⟨o1, ho1⟩ : ∃ o, onQ C bi x y = o := ⟨_, rfl⟩
 have Ho1 := Lib.hid ho1
 obtain ⟨nb, hnb⟩ : ∃ o, nbits E = o := ⟨_, rfl⟩
 have Hnb := Lib.hid hnb
 clear ho1 hnb
 cases o1
 case false =>
  obtain rfl : res = none := by rw [← Hres.out, mulC, if_neg (by rw [Ho1.out]; decide)]
  go_enter Try.func15, Try.ntmps15
  go_upto_region 1 with fail
  rw [← hW0]
  have Hq := Lib.hid hq
  clear hW0 hq
  go_upto_region 2 with (go_at_call 42; refine (of_c HC.out _).mono ?_; rintro e wa ⟨k1, rfl, hk1, hE1⟩)
  obtain ⟨b2, hb2⟩ : ∃ b, wa.heap.size = b := ⟨_, rfl⟩
  have h2 := heap_alloc_new wa (.cells #[.pointer (some ⟨k1, 0, none⟩)] 75)
  have hA := Ext.alloc wa (.cells #[.pointer (some ⟨k1, 0, none⟩)] 75)
  rw [hb2] at h2
  have hz1 : (wa.alloc (.cells #[.pointer (some ⟨k1, 0, none⟩)] 75)).heap.size = b2 + 1 := by rw [World.size_alloc, hb2]
  generalize hW1 : wa.alloc (.cells #[.pointer (some ⟨k1, 0, none⟩)] 75) = W1 at *
  rw [hb2]
  have Hk1 := Lib.hid (hk1.ext hA)
  have HE1 := Lib.hid (hE1.trans hA)
  have Hz1 := Lib.hid hz1
  have HB2 := Lib.hid (show q + 2 ≤ b2 by have := hE1.bsize; have := Hz0.out; omega)
  replace h1 := HE1.out.at_ h1
  replace h3 := HE1.out.at_ h3
  have ck := blk_cell h2 0
  simp only [List.getElem?_toArray, List.getElem?_cons_zero] at ck
  clear hk1 hE1 hA hz1 hb2 hW1
  refine Par.region_txt 9 [0, 0, 3, 7, 15, 31, 63, 127, 255] [] (fun j f X => match j with
   | 0 => f 0 = .pointer (some ⟨k1, 0, none⟩)
   | 1 => f 1 = .agg #[.bool bi, .slice A a.length ca, .slice A' b.length cb]
   | 2 => f 2 = .bool false
   | 3 => f 3 = .bool true
   | 4 => f 4 = .bool true
   | 5 => f 5 = undef
   | 6 => f 6 = undef
   | 7 => f 7 = undef
   | 8 => f 8 = .bool true
   | _ => True) (by kernel_rfl) [(17, 0), (18, 1), (19, 2), (20, 3), (21, 4), (22, 5), (23, 6), (24, 7), (25, 8)] (by kernel_rfl) ?_
  refine Par.ld0 1 8 ck ?_
  refine lV0 2 7 h1 infoP ?_
  refine Par.c0 3 6 (fun f => #[f 0, f 1]) (F' := 43) (fun f X hX hR => ?_) ?_
  · have e0 : f 0 = _ := hR.out 0 rfl
    have e1 : f 1 = _ := hR.out 1 rfl
    simp only [e0, e1]
    refine (on_j (Hk1.out.ext hX) HC.out.fine (hp0.out.ext (HE1.out.trans hX))).mono ?_
    rw [Ho1.out]
    rintro e w2 ⟨rfl, hB⟩
    exact ⟨_, rfl, hB, fun _ _ => rfl⟩
  refine Par.v1 4 5 2 ?_
  refine Par.v1 5 4 3 ?_
  refine Par.sk 6 3 4 ?_
  refine Par.sk 7 2 4 ?_
  refine Par.sk 8 1 4 ?_
  refine Par.v2 9 0 4 7 ?_
  refine Par.AllOps.fin ⟨fun f X hX hR hal hap => ?_⟩
  have e8 : f 8 = _ := hR 8 (by decide)
  simp only [yA, yB, yD, yE, e8]
  clear hR hal hap e8
  refine Par.Chain.done ?_
  have hb1 := hX.at_ h3
  go_wp2_with (go_at_call 45; refine (none_any _).mono ?_; rintro e wb ⟨rfl, hE2⟩; have hrb2 := hE2.at_ hb1; obtain ⟨z0, z1, z2, f0, f1, f2⟩ := pt_facts hrb2)
  exact end_pt rfl rfl rfl rfl (pt_set hrb2 _ _ _) ⟨_, rfl, rfl, pt_ext (((HE0.out.trans HE1.out).trans hX).trans hE2) (by have := Hq.out; omega) _ _ _⟩
 case true =>
  by_cases hbits : nb ≤ 4096
  case neg =>
   obtain rfl : res = none := by rw [← Hres.out, mulC, if_pos Ho1.out, if_neg (by rw [Hnb.out]; exact hbits)]
   have Hgt := Lib.hid (show (4096 : Int) < (nb : Int) by omega)
   go_enter Try.func15, Try.ntmps15
   go_upto_region 1 with fail
   rw [← hW0]
   have Hq := Lib.hid hq
   clear hW0 hq
   go_upto_region 2 with (go_at_call 42; refine (of_c HC.out _).mono ?_; rintro e wa ⟨k1, rfl, hk1, hE1⟩)
   obtain ⟨b2, hb2⟩ : ∃ b, wa.heap.size = b := ⟨_, rfl⟩
   have h2 := heap_alloc_new wa (.cells #[.pointer (some ⟨k1, 0, none⟩)] 75)
   have hA := Ext.alloc wa (.cells #[.pointer (some ⟨k1, 0, none⟩)] 75)
   rw [hb2] at h2
   have hz1 : (wa.alloc (.cells #[.pointer (some ⟨k1, 0, none⟩)] 75)).heap.size = b2 + 1 := by rw [World.size_alloc, hb2]
   generalize hW1 : wa.alloc (.cells #[.pointer (some ⟨k1, 0, none⟩)] 75) = W1 at *
   rw [hb2]
   have Hk1 := Lib.hid (hk1.ext hA)
   have HE1 := Lib.hid (hE1.trans hA)
   have Hz1 := Lib.hid hz1
   have HB2 := Lib.hid (show q + 2 ≤ b2 by have := hE1.bsize; have := Hz0.out; omega)
   replace h1 := HE1.out.at_ h1
   replace h3 := HE1.out.at_ h3
   have ck := blk_cell h2 0
   simp only [List.getElem?_toArray, List.getElem?_cons_zero] at ck
   clear hk1 hE1 hA hz1 hb2 hW1
   refine Par.region_txt 9 [0, 0, 3, 7, 15, 31, 63, 127, 255] [] (fun j f X => match j with
    | 0 => f 0 = .pointer (some ⟨k1, 0, none⟩)
    | 1 => f 1 = .agg #[.bool bi, .slice A a.length ca, .slice A' b.length cb]
    | 2 => f 2 = .bool true
    | 3 => f 3 = .bool false
    | 4 => f 4 = .bool false
    | 5 => f 5 = .slice An n.length cn
    | 6 => f 6 = .int .i64 (nb : Int)
    | 7 => f 7 = .bool true
    | 8 => f 8 = .bool true
    | _ => True) (by kernel_rfl) [(17, 0), (18, 1), (19, 2), (20, 3), (21, 4), (22, 5), (23, 6), (24, 7), (25, 8)] (by kernel_rfl) ?_
   refine Par.ld0 1 8 ck ?_
   refine lV0 2 7 h1 infoP ?_
   refine Par.c0 3 6 (fun f => #[f 0, f 1]) (F' := 43) (fun f X hX hR => ?_) ?_
   · have e0 : f 0 = _ := hR.out 0 rfl
     have e1 : f 1 = _ := hR.out 1 rfl
     simp only [e0, e1]
     refine (on_j (Hk1.out.ext hX) HC.out.fine (hp0.out.ext (HE1.out.trans hX))).mono ?_
     rw [Ho1.out]
     rintro e w2 ⟨rfl, hB⟩
     exact ⟨_, rfl, hB, fun _ _ => rfl⟩
   refine Par.v1 4 5 2 ?_
   refine Par.v1 5 4 3 ?_
   refine Par.v1 6 3 4 ?_
   refine Par.c1 7 2 4 (fun f => #[f 5]) (F' := 44) (fun f X hX hR => ?_) ?_
   · have e5 : f 5 = _ := hR.out 5 rfl
     simp only [e5]
     refine (bits_any _ An cn n X (RN.up HN.out (HE1.out.trans hX))).mono ?_
     rw [HE.out, Hnb.out]
     rintro e w2 ⟨rfl, rfl⟩
     exact ⟨_, rfl, (Ext.refl _), fun _ _ => rfl⟩
   refine Par.S 8 1 [(17, 0), (18, 1), (19, 2), (20, 3), (21, 4), (22, 5), (23, 6)] (fun f X hX hR K hK => ?_) ?_
   · have e4 : f 4 = _ := hR.out 4 rfl
     have e6 : f 6 = _ := hR.out 6 rfl
     have hgt : decide ((4096 : Int) < (nb : Int)) = true := decide_eq_true (by have := Hgt.out; omega)
     have hgn : decide (4096 < nb) = true := decide_eq_true (by have := Hgt.out; omega)
     simp only [yA, yB, yC, yD, yE, e4, e6]
     refine ⟨Par.want (by kernel_rfl) ?_⟩
     go_simp
     exact Par.k hK (s := by simp only [yA, yB, yC, yD, yE, e4, e6])
   refine Par.v2 9 0 4 7 ?_
   refine Par.AllOps.fin ⟨fun f X hX hR hal hap => ?_⟩
   have e8 : f 8 = _ := hR 8 (by decide)
   simp only [yA, yB, yD, yE, e8]
   clear hR hal hap e8
   refine Par.Chain.done ?_
   have hb1 := hX.at_ h3
   go_wp2_with (go_at_call 45; refine (none_any _).mono ?_; rintro e wb ⟨rfl, hE2⟩; have hrb2 := hE2.at_ hb1; obtain ⟨z0, z1, z2, f0, f1, f2⟩ := pt_facts hrb2)
   exact end_pt rfl rfl rfl rfl (pt_set hrb2 _ _ _) ⟨_, rfl, rfl, pt_ext (((HE0.out.trans HE1.out).trans hX).trans hE2) (by have := Hq.out; omega) _ _ _⟩
  case pos =>
   obtain rfl : res = some (downT C.M (mulS C.M (upP bi x y) E nb).1) := by rw [← Hres.out, mulC, if_pos Ho1.out, if_pos (by rw [Hnb.out]; exact hbits), Hnb.out]
   have Hgt := Lib.hid (show ¬ (4096 : Int) < (nb : Int) by omega)
   refine (callsIn_wide (n := 6)).1 ?_
   refine callsIn_of_wp_marks Try.func15 rfl trivial ?_ rfl
   simp only [Try.ntmps15, List.size_toArray, List.length_cons, List.length_nil, Nat.reduceAdd, Nat.reduceSub, Array.replicate_succ, Array.replicate_zero, List.push_toArray, List.append_toArray, List.nil_append, List.cons_append]
   refine wpIn_wide.2 ?_
   go_upto_region 1 with fail
   rw [← hW0]
   have Hq := Lib.hid hq
   clear hW0 hq
   go_upto_region 2 with (go_at_call 42; refine (of_c HC.out _).mono ?_; rintro e wa ⟨k1, rfl, hk1, hE1⟩)
   obtain ⟨b2, hb2⟩ : ∃ b, wa.heap.size = b := ⟨_, rfl⟩
   have h2 := heap_alloc_new wa (.cells #[.pointer (some ⟨k1, 0, none⟩)] 75)
   have hA := Ext.alloc wa (.cells #[.pointer (some ⟨k1, 0, none⟩)] 75)
   rw [hb2] at h2
   have hz1 : (wa.alloc (.cells #[.pointer (some ⟨k1, 0, none⟩)] 75)).heap.size = b2 + 1 := by rw [World.size_alloc, hb2]
   generalize hW1 : wa.alloc (.cells #[.pointer (some ⟨k1, 0, none⟩)] 75) = W1 at *
   rw [hb2]
   have Hk1 := Lib.hid (hk1.ext hA)
   have HE1 := Lib.hid (hE1.trans hA)
   have Hz1 := Lib.hid hz1
   have HB2 := Lib.hid (show q + 2 ≤ b2 by have := hE1.bsize; have := Hz0.out; omega)
   replace h1 := HE1.out.at_ h1
   replace h3 := HE1.out.at_ h3
   have ck := blk_cell h2 0
   simp only [List.getElem?_toArray, List.getElem?_cons_zero] at ck
   clear hk1 hE1 hA hz1 hb2 hW1
   refine Par.region_txt 9 [0, 0, 3, 7, 15, 31, 63, 127, 255] [] (fun j f X => match j with
    | 0 => f 0 = .pointer (some ⟨k1, 0, none⟩)
    | 1 => f 1 = .agg #[.bool bi, .slice A a.length ca, .slice A' b.length cb]
    | 2 => f 2 = .bool true
    | 3 => f 3 = .bool false
    | 4 => f 4 = .bool false
    | 5 => f 5 = .slice An n.length cn
    | 6 => f 6 = .int .i64 (nb : Int)
    | 7 => f 7 = .bool false
    | 8 => f 8 = .bool false
    | _ => True) (by kernel_rfl) [(17, 0), (18, 1), (19, 2), (20, 3), (21, 4), (22, 5), (23, 6), (24, 7), (25, 8)] (by kernel_rfl) ?_
   refine Par.ld0 1 8 ck ?_
   refine lV0 2 7 h1 infoP ?_
   refine Par.c0 3 6 (fun f => #[f 0, f 1]) (F' := 43) (fun f X hX hR => ?_) ?_
   · have e0 : f 0 = _ := hR.out 0 rfl
     have e1 : f 1 = _ := hR.out 1 rfl
     simp only [e0, e1]
     refine (on_j (Hk1.out.ext hX) HC.out.fine (hp0.out.ext (HE1.out.trans hX))).mono ?_
     rw [Ho1.out]
     rintro e w2 ⟨rfl, hB⟩
     exact ⟨_, rfl, hB, fun _ _ => rfl⟩
   refine Par.v1 4 5 2 ?_
   refine Par.v1 5 4 3 ?_
   refine Par.v1 6 3 4 ?_
   refine Par.c1 7 2 4 (fun f => #[f 5]) (F' := 44) (fun f X hX hR => ?_) ?_
   · have e5 : f 5 = _ := hR.out 5 rfl
     simp only [e5]
     refine (bits_any _ An cn n X (RN.up HN.out (HE1.out.trans hX))).mono ?_
     rw [HE.out, Hnb.out]
     rintro e w2 ⟨rfl, rfl⟩
     exact ⟨_, rfl, (Ext.refl _), fun _ _ => rfl⟩
   refine Par.S 8 1 [(17, 0), (18, 1), (19, 2), (20, 3), (21, 4), (22, 5), (23, 6)] (fun f X hX hR K hK => ?_) ?_
   · have e4 : f 4 = _ := hR.out 4 rfl
     have e6 : f 6 = _ := hR.out 6 rfl
     have hgt : decide ((4096 : Int) < (nb : Int)) = false := decide_eq_false (by have := Hgt.out; omega)
     have hgn : decide (4096 < nb) = false := decide_eq_false (by have := Hgt.out; omega)
     simp only [yA, yB, yC, yD, yE, e4, e6]
     refine ⟨Par.want (by kernel_rfl) ?_⟩
     go_simp
     exact Par.k hK (s := by simp only [yA, yB, yC, yD, yE, e4, e6])
   refine Par.v2 9 0 4 7 ?_
   refine Par.AllOps.fin ⟨fun f X hX hR hal hap => ?_⟩
   have e8 : f 8 = _ := hR 8 (by decide)
   simp only [yA, yB, yD, yE, e8]
   clear hR hal hap e8
   refine Par.Chain.done ?_
   have HX := Lib.hid hX
   rename World => X2
   replace ck := hX.cell ck
   replace h1 := hX.at_ h1
   replace h3 := hX.at_ h3
   clear hX h2
   go_upto_region 4 with fail
   obtain ⟨pt, hpt⟩ : ∃ t, tabP C.M (upP bi x y) = t := ⟨_, rfl⟩
   have ht0 : pt 0 = (1, 1, 0) := by rw [← hpt]; rfl
   have ht1 : pt 1 = upP bi x y := by rw [← hpt]; rfl
   have hts : ∀ k, 1 ≤ k → pt (k + 1) = addT C.M (pt k) (pt 1) := by
    intro k hk
    obtain ⟨k, rfl⟩ : ∃ m, k = m + 1 := ⟨k - 1, by omega⟩
    rw [← hpt]
    rfl
   have Hpt := Lib.hid hpt
   have Ht0 := Lib.hid ht0
   have Ht1 := Lib.hid ht1
   have Hts := Lib.hid hts
   clear hpt ht0 ht1 hts
   refine Par.region_ext (by kernel_rfl) 4 [0, 0, 3, 0, 15] [3] (fun j f X => match j with
    | 0 => f 0 = .pointer (some ⟨k1, 0, none⟩)
    | 1 => f 1 = infV
    | 2 => ∃ v, f 2 = v ∧ JAt C v (1, 1, 0)
    | 3 => ∃ b, f 3 = .pointer (some ⟨b, 0, none⟩) ∧ X2.heap.size ≤ b ∧ X.heap[b]? = some (.cells #[.int .u64 0, .int .u64 0, .int .u64 0, .int .u64 0, .int .u64 0, .int .u64 0, .int .u64 0, .int .u64 0, .int .u64 0, .int .u64 0, .int .u64 0, .int .u64 0, .int .u64 0, .int .u64 0, .int .u64 0, .int .u64 0, .int .u64 0, .int .u64 0] 83 (0, 0))
    | _ => True) (by kernel_rfl) [(27, 0), (28, 1), (29, 2), (9, 3)] (by kernel_rfl) ?_
   refine Par.ld0 1 3 ck ?_
   refine Par.c0 2 2 (fun _ => #[]) (F' := 45) (fun f X hX hR => ?_) ?_
   · refine (none_any X).mono ?_
     rintro e w2 ⟨rfl, hB⟩
     exact ⟨infV, rfl, hB, fun _ _ => rfl⟩
   refine Par.c0 3 1 (fun f => #[f 0, f 1]) (F' := 46) (fun f X hX hR => ?_) ?_
   · have e0 : f 0 = _ := hR.out 0 rfl
     have e1 : f 1 = _ := hR.out 1 rfl
     simp only [e0, e1]
     refine (up_j (Hk1.out.ext (HX.out.trans hX)) (APt.inf_ X) rfl).mono ?_
     rintro e w2 ⟨o, rfl, hj, hB⟩
     exact ⟨_, rfl, hB, fun _ _ => ⟨_, rfl, hj⟩⟩
   refine Par.al 4 0 ?_
   refine Par.AllOps.fin ⟨fun f X hX hR hal hap => ?_⟩
   obtain ⟨v2, (e2 : f 2 = _), j2⟩ := hR 2 (by decide)
   obtain ⟨bo3, (e3 : f 3 = _), lo3, ho3⟩ := hR 3 (by decide)
   simp only [yA, yB, yD, yE, e2, e3]
   clear hR hal hap e2 e3
   obtain ⟨ox, oy, oz, ev, hf⟩ := j2
   subst ev
   refine Par.Chain.next (fun K hK => ⟨Par.want (by kernel_rfl) (wp_storeJ (x := ox) (y := oy) (z := oz) (.tmp 9) (.tmp 29) rfl rfl rfl rfl ho3 rfl hf.x.elt.six hf.y.elt.six hf.z.elt.six (fun Y hY1 hY2 hY3 => hK.out _ _ ?_))⟩)
   refine Par.Chain.done ?_
   have hXY := hY2.ext hX lo3
   have hbo : q + 2 ≤ bo3 := by have := HX.out.bsize; have := HE1.out.bsize; have := Hz0.out; omega
   have hJo : JBlk C Y bo3 (pt 0) := ⟨ox, oy, oz, hY1, by rw [Ht0.out]; exact hf⟩
   replace ck := hXY.cell ck
   replace h1 := hXY.at_ h1
   replace h3 := hXY.at_ h3
   have HXY := Lib.hid (HX.out.trans hXY)
   have lo := Nat.le_trans HX.out.bsize lo3
   have zY : bo3 < Y.heap.size := hY1.lt'
   clear hX hY1 hY2 hY3 ho3 lo3 hf hXY
   rename World => V4
   go_upto_region 5 with fail
   refine Par.region_ext (by kernel_rfl) 6 [0, 0, 0, 6, 15, 0, 63] [5] (fun j f X => match j with
    | 0 => ∃ v, f 0 = v ∧ JAt C v (pt 0)
    | 1 => f 1 = .pointer (some ⟨k1, 0, none⟩)
    | 2 => f 2 = .agg #[.bool bi, .slice A a.length ca, .slice A' b.length cb]
    | 3 => ∃ v, f 3 = v ∧ JAt C v (pt 1)
    | 4 => ∃ cs : Array Value, f 4 = .agg cs ∧ cs.size = 288 ∧ cs.all (·.oneCell') = true ∧ (∀ (W : World) (b : Nat), W.heap[b]? = some (.cells cs 85 (0, 0)) → TabAt C W b pt 2)
    | 5 => ∃ b, f 5 = .pointer (some ⟨b, 0, none⟩) ∧ V4.heap.size ≤ b ∧ X.heap[b]? = some (.cells z85 85 (0, 0))
    | _ => True) (by kernel_rfl) [(30, 0), (31, 1), (32, 2), (33, 3), (34, 4), (10, 5)] (by kernel_rfl) ?_
   refine Par.S 1 5 [(31, 1), (32, 2), (33, 3), (10, 5)] (fun f X hX hR K hK => ?_) ?_
   · obtain ⟨jx, jy, jz, hjb, hjf⟩ := hJo.ext hX
     simp only [yA, yB, yC, yD, yE]
     refine ⟨wp_loadV (v := JV jx jy jz) (t := 83) 83 (.tmp 9) rfl rfl hjb Try.underlying83 rfl (by rw [hjf.sz]; exact infoJ) rfl ?_⟩
     exact hK.out _ (JV jx jy jz) _ (by simp only [yA, yB, yC, yD, yE]) (Ext.refl _) trivial (fun _ _ => ⟨_, rfl, ⟨jx, jy, jz, rfl, hjf⟩⟩)
   refine Par.ld0 2 4 ck ?_
   refine lV0 3 3 h1 infoP ?_
   refine Par.c0 4 2 (fun f => #[f 1, f 2]) (F' := 46) (fun f X hX hR => ?_) ?_
   · have e1 : f 1 = _ := hR.out 1 rfl
     have e2 : f 2 = _ := hR.out 2 rfl
     simp only [e1, e2]
     refine (up_j (Hk1.out.ext (HXY.out.trans hX)) (hp0.out.ext ((HE1.out.trans HXY.out).trans hX)) Ho1.out).mono ?_
     rintro e w2 ⟨o, rfl, hj, hB⟩
     exact ⟨o, rfl, hB, fun _ _ => ⟨_, rfl, by rw [Ht1.out]; exact hj⟩⟩
   refine Par.S 5 1 [(30, 0), (31, 1), (32, 2), (33, 3), (10, 5)] (fun f X hX hR K hK => ?_) ?_
   · obtain ⟨v0, (e0 : f 0 = _), j0⟩ := hR.out 0 rfl
     obtain ⟨v3, (e3 : f 3 = _), j3⟩ := hR.out 3 rfl
     simp only [yA, yB, yC, yD, yE, e0, e3]
     refine ⟨wp_build85 (.tmp 30) (.tmp 33) rfl rfl rfl j0 j3 (fun cs h1 h2 h3 => ?_)⟩
     exact hK.out _ (.agg cs) _ (by simp only [yA, yB, yC, yD, yE, e0, e3]) (Ext.refl _) trivial (fun _ _ => ⟨cs, rfl, h1, h2, fun W b hb => h3 W b hb pt rfl rfl⟩)
   refine Par.al 6 0 ?_
   refine Par.AllOps.fin ⟨fun f X hX hR hal hap => ?_⟩
   obtain ⟨v0, (e0 : f 0 = _), j0⟩ := hR 0 (by decide)
   obtain ⟨v3, (e3 : f 3 = _), j3⟩ := hR 3 (by decide)
   obtain ⟨cs, (e4 : f 4 = _), hs4, ho4, ht4⟩ := hR 4 (by decide)
   obtain ⟨be5, (e5 : f 5 = _), le5, he5⟩ := hR 5 (by decide)
   simp only [yA, yB, yD, yE, e0, e3, e4, e5]
   clear hR hal hap e0 e3 e4 e5
   refine Par.Chain.next (fun K hK => ⟨Par.want (by kernel_rfl) (wp_storeV (cs' := cs) (t := 85) 85 (.tmp 10) (.tmp 34) rfl rfl rfl rfl he5 (by rw [hs4]; exact info85s) (by rw [hs4, z85_size]) ho4 (fun Y hY1 hY2 hY3 => hK.out _ _ ?_))⟩)
   refine Par.Chain.done ?_
   have hT2 : TabAt C Y be5 pt 2 := ht4 Y be5 hY1
   have hXZ := hY2.ext hX le5
   have zE : be5 < Y.heap.size := blk_lt hY1
   have zoe : bo3 < be5 := by omega
   have HXZ := Lib.hid (HXY.out.trans hXZ)
   replace ck := hXZ.cell ck
   replace hJo := hJo.ext hXZ
   replace h3 := hXZ.at_ h3
   clear hX hY1 hY2 hY3 he5 le5 hXZ j0 j3 ht4 hs4 ho4 h1 zY HXY
   rename World => V5
   have hb2o : b2 < bo3 := by have := Hz1.out; omega
   go_wp2
   go_loopw [11] (fun iv wr => ∃ k : Nat, iv = .int .i64 (k : Int) ∧ 2 ≤ k ∧ k ≤ 16 ∧ TabAt C wr be5 pt k ∧ Below be5 V5 wr) (fun iv _ => (16 - intOf iv).toNat)
   case atStart => exact ⟨2, by go_num, by omega, by omega, hT2, Below.refl _ _⟩
   case round =>
    obtain ⟨k, rfl, hk2, hk16, hT, hB⟩ := hrel
    by_cases hlt : k < 16
    · obtain ⟨m, hm⟩ : ∃ m, k = m + 1 := ⟨k - 1, by omega⟩
      have e1 : (k : Int) - 1 = (m : Int) := by omega
      have k1' : (k : Int) < 16 := by omega
      have k2' : (m : Int) < 16 := by omega
      have ckr := (hB.cell (p := ⟨b2, 0, none⟩) (by show b2 < be5; omega)).trans ck
      have HEr := Lib.hid (show Ext W1 wr from Below.trans HXZ.out (Below.mono hB (by have := Hz1.out; omega)))
      have hsz := hT.lt
      have Hpk := Lib.hid (show pt k = addT C.M (pt m) (pt 1) by rw [hm]; exact Hts.out m (by omega))
      clear hm
      go_upto_region 9 with fail
      refine Par.region_ext (by kernel_rfl) 10 [0, 0, 0, 4, 12, 28, 0, 64, 254, 511, 1023] [] (fun j f X => match j with
       | 0 => f 0 = .int .i64 (k : Int)
       | 1 => f 1 = .pointer (some ⟨k1, 0, none⟩)
       | 2 => f 2 = .int .i64 (k : Int)
       | 3 => f 3 = .int .i64 (m : Int)
       | 4 => f 4 = .pointer (some ⟨be5, m * 18, none⟩)
       | 5 => ∃ v, f 5 = v ∧ JAt C v (pt m)
       | 6 => f 6 = .pointer (some ⟨be5, 18, none⟩)
       | 7 => ∃ v, f 7 = v ∧ JAt C v (pt 1)
       | 8 => ∃ v, f 8 = v ∧ JAt C v (pt k)
       | 9 => f 9 = .pointer (some ⟨be5, k * 18, none⟩)
       | _ => True) (by kernel_rfl) [(39, 0), (40, 1), (41, 2), (42, 3), (43, 4), (44, 5), (45, 6), (46, 7), (47, 8), (48, 9)] (by kernel_rfl) ?_
      refine Par.v0 1 9 ?_
      refine Par.ld0 2 8 ckr ?_
      refine Par.v0 3 7 ?_
      refine Par.S 4 6 [(39, 0), (40, 1), (41, 2), (45, 6), (46, 7)] (fun f X hX hR K hK => ?_) ?_
      · have e2 : f 2 = _ := hR.out 2 rfl
        have ew : IntKind.i64.wrap (m : Int) = (m : Int) := IntWalk.i64_in _ (by omega)
        simp only [yA, yB, yC, yD, yE, e2]
        refine ⟨?_⟩
        go_simp
        exact Par.k hK (s := by simp only [yA, yB, yC, yD, yE, e2])
      refine Par.S 5 5 [(39, 0), (40, 1), (41, 2), (42, 3), (45, 6), (46, 7)] (fun f X hX hR K hK => ?_) ?_
      · have e3 : f 3 = _ := hR.out 3 rfl
        simp only [yA, yB, yC, yD, yE, e3]
        refine ⟨?_⟩
        go_simp
        exact Par.k hK (s := by simp only [yA, yB, yC, yD, yE, e3])
      refine Par.S 6 4 [(39, 0), (40, 1), (41, 2), (42, 3), (43, 4), (45, 6), (46, 7)] (fun f X hX hR K hK => ?_) ?_
      · have e4 : f 4 = _ := hR.out 4 rfl
        simp only [yA, yB, yC, yD, yE, e4]
        refine ⟨wp_loadT (.tmp 43) rfl (hT.ext hX) (i := m) (by omega) (Nat.mul_comm _ _) rfl (fun v hv => ?_)⟩
        exact hK.out _ v _ (by simp only [yA, yB, yC, yD, yE, e4]) (Ext.refl _) trivial (fun _ _ => ⟨_, rfl, hv⟩)
      refine Par.S 7 3 [(39, 0), (40, 1), (41, 2), (42, 3), (43, 4), (44, 5)] (fun f X hX hR K hK => ?_) ?_
      · simp only [yA, yB, yC, yD, yE]
        refine ⟨?_⟩
        go_simp
        exact Par.k hK (s := by simp only [yA, yB, yC, yD, yE])
      refine Par.S 8 2 [(39, 0), (40, 1), (41, 2), (42, 3), (43, 4), (44, 5), (45, 6)] (fun f X hX hR K hK => ?_) ?_
      · have e6 : f 6 = _ := hR.out 6 rfl
        simp only [yA, yB, yC, yD, yE, e6]
        refine ⟨wp_loadT (.tmp 45) rfl (hT.ext hX) (i := 1) (by omega) rfl rfl (fun v hv => ?_)⟩
        exact hK.out _ v _ (by simp only [yA, yB, yC, yD, yE, e6]) (Ext.refl _) trivial (fun _ _ => ⟨_, rfl, hv⟩)
      refine Par.c0 9 1 (fun f => #[f 1, f 5, f 7]) (F' := 47) (fun f X hX hR => ?_) ?_
      · have e1 : f 1 = _ := hR.out 1 rfl
        obtain ⟨v5, (e5 : f 5 = _), j5⟩ := hR.out 5 rfl
        obtain ⟨v7, (e7 : f 7 = _), j7⟩ := hR.out 7 rfl
        simp only [e1, e5, e7]
        refine (add_j (Hk1.out.ext (HEr.out.trans hX)) j5 j7).mono ?_
        rintro e w2 ⟨o, rfl, hj, hB⟩
        exact ⟨o, rfl, hB, fun _ _ => ⟨_, rfl, by rw [Hpk.out]; exact hj⟩⟩
      refine Par.S 10 0 [(39, 0), (40, 1), (41, 2), (42, 3), (43, 4), (44, 5), (45, 6), (46, 7), (47, 8)] (fun f X hX hR K hK => ?_) ?_
      · have e0 : f 0 = _ := hR.out 0 rfl
        simp only [yA, yB, yC, yD, yE, e0]
        refine ⟨?_⟩
        go_simp
        exact Par.k hK (s := by simp only [yA, yB, yC, yD, yE, e0])
      refine Par.AllOps.fin ⟨fun f X hX hR hal hap => ?_⟩
      obtain ⟨v5, (e5 : f 5 = _), j5⟩ := hR 5 (by decide)
      obtain ⟨v7, (e7 : f 7 = _), j7⟩ := hR 7 (by decide)
      obtain ⟨v8, (e8 : f 8 = _), j8⟩ := hR 8 (by decide)
      have e9 : f 9 = _ := hR 9 (by decide)
      simp only [yA, yB, yD, yE, e5, e7, e8, e9]
      clear hR hal hap e5 e7 e8 e9
      refine Par.Chain.next (fun K hK => ⟨wp_storeT (.tmp 48) (.tmp 47) rfl rfl (hT.ext hX) hlt j8 (Nat.mul_comm _ _) rfl rfl (fun Y hY1 hY2 hY3 => hK.out _ _ ?_)⟩)
      refine Par.Chain.done ?_
      have hBY : Below be5 V5 Y := (hB.trans (Below.mono hX (by omega))).trans (hY2.below (Nat.le_refl _) (by have := hX.bsize; omega))
      have HBY := Lib.hid hBY
      have HTY := Lib.hid hY1
      have hkw : IntKind.i64.wrap ((k : Int) + 1) = (k : Int) + 1 := IntWalk.i64_in _ (by omega)
      clear hX hY1 hY2 hY3 j5 j7 j8 hBY hT hB ckr
      go_wp2
      go_roundw
      case rel => exact ⟨k + 1, by go_num, by omega, by omega, HTY.out, HBY.out⟩
      case measure => simp [intOf]; omega
    · have hkk : k = 16 := by omega
      rw [show (k : Int) = 16 by omega]
      rw [hkk] at hT
      have k1' : ¬ (16 : Int) < 16 := by omega
      clear hlt hk2 hk16 hkk
      have HT := Lib.hid hT
      have HBr := Lib.hid hB
      have hJr : JBlk C wr bo3 (pt 0) := hJo.below hB zoe
      have h3r := (hB.block (q + 1) (by omega)).trans h3
      have ckr := (hB.cell (p := ⟨b2, 0, none⟩) (by show b2 < be5; omega)).trans ck
      clear hT hB hJo h3 ck
      have HEr := Lib.hid (show Ext W1 wr from Below.trans HXZ.out (Below.mono HBr.out (by have := Hz1.out; omega)))
      obtain ⟨bd, hbd⟩ : ∃ b, wr.heap.size = b := ⟨_, rfl⟩
      have d0 := heap_alloc_new wr (.cells #[.int .u64 0] 87)
      have hA6 := Ext.alloc wr (.cells #[.int .u64 0] 87)
      rw [hbd] at d0
      have hz6 : (wr.alloc (.cells #[.int .u64 0] 87)).heap.size = bd + 1 := by rw [World.size_alloc, hbd]
      have zbe : be5 < bd := by have := HT.out.lt; omega
      go_upto_region 11 with fail
      generalize hW6 : wr.alloc (.cells #[.int .u64 0] 87) = W6 at *
      replace ckr := hA6.cell ckr
      replace h3r := hA6.at_ h3r
      replace hJr := hJr.ext hA6
      have HT6 := Lib.hid (HT.out.ext hA6)
      have HE6 := Lib.hid (HEr.out.trans hA6)
      have heach := each_any _ An cn n W6 (RN.up HN.out (HE1.out.trans HE6.out)) (fun b hb => hb)
      rw [HE.out, hz6] at heach
      have Heach := Lib.hid heach
      have hW6z := Lib.hid hz6
      clear heach hA6 hbd hz6 hW6 HT HBr HEr
      go_wp2_with (go_at_call 48; refine Heach.out.mono ?_; rintro e' w3 ⟨Ae', ce', rfl, be, hOe, hB3⟩)
      obtain ⟨t, ht⟩ : ∃ t, bd + 1 = t := ⟨_, rfl⟩
      rw [ht] at be hOe hB3
      rw [ht]
      have hbdt : bd < t := by omega
      have hbot : bo3 < t := by omega
      have zn : t < w3.heap.size := blk_lt be
      have hbe := blk_cell be 0
      simp only [List.getElem?_toArray, List.getElem?_cons_zero] at hbe
      have hseq := each_seq t t w3.heap.size (In t w3.heap.size) Ae' ce' (digs 18446744073709551616 E) w3 (fun b hb => hb) (Nat.le_refl _) zn (Nat.le_refl _) hbe hOe.rn
      rw [val_digs (by omega), Hnb.out] at hseq
      have Hseq := Lib.hid hseq
      have hE3 : Ext W6 w3 := by rw [← ht, ← hW6z.out] at hB3; exact hB3
      have HE3 := Lib.hid (HE6.out.trans hE3)
      have c3 := hE3.cell ckr
      have hJ3 := hJr.ext hE3
      have hT3 := HT6.out.ext hE3
      have hd3 := hE3.at_ d0
      have h33 := hE3.at_ h3r
      clear hseq Heach hbe be hOe hB3 hE3 ckr hJr d0 h3r HT6 ht
      have hI0 : JBlk C w3 bo3 (mulS C.M (upP bi x y) E 0).1 := by rw [show (mulS C.M (upP bi x y) E 0).1 = pt 0 by rw [Ht0.out]; rfl]; exact hJ3
      have hInv : OwnFrom w3.heap.size (fun (k : Nat) X => JBlk C X bo3 (mulS C.M (upP bi x y) E k).1 ∧ X.heap[bd]? = some (.cells #[.int .u64 ((mulS C.M (upP bi x y) E k).2 : Int)] 87 (0, 0)) ∧ TabAt C X be5 pt 16 ∧ Below bo3 w3 X) := by
       rintro k X X' row ⟨⟨jx, jy, jz, g1, g2⟩, g3, g4, g5⟩ hg' hr
       have hr' := fun r e => (hr r e).2
       obtain ⟨cs', g6, g7⟩ := g4.blk
       exact ⟨⟨jx, jy, jz, (grownBy_keeps_cells hg' hr' g1 rfl).trans g1, g2⟩, (grownBy_keeps_cells hg' hr' g3 rfl).trans g3, g4.same (grownBy_keeps_cells hg' hr' g6 rfl), ownFrom_below (by omega) (by omega) k X X' row g5 hg' hr⟩
      refine (wpIn_wide (n := 6)).1 ?_
      refine' wpIn_iter (by omega) (gf := 81) (lb := #[.pointer (some ⟨t, 0, none⟩)]) rfl (enters_of Try.func81 (by kernel_rfl) rfl)
       Hseq.out (fun h k => Stay.trans h k) (fun X l o o' hl ho _ _ => ⟨by simp, fun i _ hi => World.putObj_heap_other (by omega)⟩) tplain_keeps (Below.refl _ _) (fun _ => rfl)
       (fun k X => JBlk C X bo3 (mulS C.M (upP bi x y) E k).1 ∧ X.heap[bd]? = some (.cells #[.int .u64 ((mulS C.M (upP bi x y) E k).2 : Int)] 87 (0, 0)) ∧ TabAt C X be5 pt 16 ∧ Below bo3 w3 X) (fun k X => JBlk C X bo3 (mulS C.M (upP bi x y) E k).1 ∧ X.heap[bd]? = some (.cells #[.int .u64 ((mulS C.M (upP bi x y) E k).2 : Int)] 87 (0, 0)) ∧ TabAt C X be5 pt 16 ∧ Below bo3 w3 X) (fun _ _ _ => False)
       hInv hInv (fun _ _ _ _ _ h => h.elim) (fun _ _ _ _ => trivial) (fun B k A C' _ _ hi ht => ?hIT) (fun h => by cases h) ⟨hI0, hd3, hT3, Below.refl _ _⟩ _ ?assign ?body ?done ?stop
      case hIT => exact ownFrom_plain (I := fun k X => JBlk C X bo3 (mulS C.M (upP bi x y) E k).1 ∧ X.heap[bd]? = some (.cells #[.int .u64 ((mulS C.M (upP bi x y) E k).2 : Int)] 87 (0, 0)) ∧ TabAt C X be5 pt 16 ∧ Below bo3 w3 X) (B := w3.heap.size) hInv hi ht
      case assign =>
       intro l k X K hK
       gi_wp2
       exact hK
      case body =>
       rintro l k V ⟨⟨jx, jy, jz, hjb, hjf⟩, hdV, hTV, h5⟩ hlt _
       have zV := h5.size
       have hd8 := dig_lt8 (M := C.M) (p := upP bi x y) (E := E) (k := k) (by rw [Hnb.out]; exact hlt)
       have hstep : mulS C.M (upP bi x y) E (k + 1) = if (bitAt E k).1 % 4 = 0 then (addT C.M (dblT C.M (mulS C.M (upP bi x y) E k).1) (tabP C.M (upP bi x y) (2 * (mulS C.M (upP bi x y) E k).2 + (bitAt E k).2)), 0) else (dblT C.M (mulS C.M (upP bi x y) E k).1, 2 * (mulS C.M (upP bi x y) E k).2 + (bitAt E k).2) := rfl
       rw [Hpt.out] at hstep
       have hb2' : (bitAt E k).2 < 2 := Nat.mod_lt _ (by omega)
       have hi1 : (bitAt E k).1 ≤ 4096 := by show nbits E - 1 - k ≤ 4096; rw [Hnb.out]; omega
       obtain ⟨so, hso⟩ : ∃ s, (mulS C.M (upP bi x y) E k).1 = s := ⟨_, rfl⟩
       obtain ⟨d, hd⟩ : ∃ s, (mulS C.M (upP bi x y) E k).2 = s := ⟨_, rfl⟩
       obtain ⟨bt, hbt⟩ : ∃ s, (bitAt E k).2 = s := ⟨_, rfl⟩
       obtain ⟨ii, hii⟩ : ∃ s, (bitAt E k).1 = s := ⟨_, rfl⟩
       obtain ⟨d2, hd2⟩ : ∃ s, 2 * d + bt = s := ⟨_, rfl⟩
       rw [hso, hd, hbt, hii, hd2] at hstep
       rw [hso] at hjf
       rw [hd] at hdV hd8
       rw [hbt] at hb2'
       rw [hii] at hi1
       rw [hbt, hii]
       have Hstep := Lib.hid hstep
       have Hd2 := Lib.hid hd2
       have HEV := Lib.hid (show Ext W1 V from Below.trans HE3.out (Below.mono h5 lo))
       have hd16 : d2 < 16 := by omega
       have hM0 : MK w3.heap.size t bo3 be5 w3 V V := ⟨Keeps.refl _ _ _ _, Stay.refl _ _ _, h5, rfl, zV⟩
       have HM0 := Lib.hid hM0
       have Hjf := Lib.hid hjf
       have HTV := Lib.hid hTV
       have cV : V.cell? ⟨b2, 0, none⟩ = some (.pointer (some ⟨k1, 0, none⟩)) := (h5.cell (p := ⟨b2, 0, none⟩) (by show b2 < bo3; omega)).trans c3
       clear hstep hd2 hso hd hbt hii hM0 hjf hTV h5
       gi_upto_region 14 with fail
       refine Par.region_txt_in 3 [0, 0, 3, 7] [] (fun j f X => match j with
        | 0 => f 0 = .pointer (some ⟨k1, 0, none⟩)
        | 1 => f 1 = JV jx jy jz
        | 2 => ∃ v, f 2 = v ∧ JAt C v (dblT C.M so)
        | _ => True) (by kernel_rfl) [(53, 0), (54, 1), (55, 2)] (by kernel_rfl) (by kernel_rfl) ?_
       refine Par.S 1 2 [(54, 1)] (fun f X hX hR K hK => ?_) ?_
       · have x0 := hX.cell cV
         simp only [yA, yB, yC, yD, yE]
         refine ⟨?_⟩
         go_simp
         exact Par.k hK (s := by simp only [yA, yB, yC, yD, yE])
       refine Par.S 2 1 [(53, 0)] (fun f X hX hR K hK => ?_) ?_
       · simp only [yA, yB, yC, yD, yE]
         refine ⟨wp_loadV (v := JV jx jy jz) (t := 83) 83 (.tmp 9) rfl rfl (hX.at_ hjb) Try.underlying83 rfl (by rw [Hjf.out.sz]; exact infoJ) rfl ?_⟩
         exact hK.out _ (JV jx jy jz) _ (by simp only [yA, yB, yC, yD, yE]) (Ext.refl _) trivial (fun _ _ => rfl)
       refine Par.S 3 0 [(53, 0), (54, 1)] (fun f X hX hR K hK => ?_) ?_
       · have e0 : f 0 = _ := hR.out 0 rfl
         have e1 : f 1 = _ := hR.out 1 rfl
         simp only [yA, yB, yC, yD, yE, e0, e1]
         refine ⟨?_⟩
         go_simp
         refine (double_j (Hk1.out.ext (HEV.out.trans hX)) ⟨jx, jy, jz, rfl, Hjf.out⟩).mono ?_
         rintro e w2 ⟨o, rfl, hj, hB⟩
         exact hK.out _ o _ (by simp only [yA, yB, yC, yD, yE, e0, e1]) hB trivial (fun _ _ => ⟨_, rfl, hj⟩)
       refine Par.AllOps.fin ⟨fun f X hX hR hal hap => ?_⟩
       have e0 : f 0 = _ := hR 0 (by decide)
       have e1 : f 1 = _ := hR 1 (by decide)
       obtain ⟨v2, (e2 : f 2 = _), j2⟩ := hR 2 (by decide)
       simp only [yA, yB, yD, yE, e0, e1, e2]
       clear hR hal hap e0 e1 e2
       obtain ⟨ox, oy, oz, ev, hf⟩ := j2
       subst ev
       refine Par.Chain.next (fun K hK => ⟨Par.want (by kernel_rfl) (wp_storeJ (x := ox) (y := oy) (z := oz) (.tmp 9) (.tmp 55) rfl rfl rfl rfl (hX.at_ hjb) Hjf.out.sz hf.x.elt.six hf.y.elt.six hf.z.elt.six (fun Y hY1 hY2 hY3 => hK.out _ _ ?_))⟩)
       refine Par.Chain.done ?_
       refine ⟨nofun, ?_⟩
       have hM1 := (HM0.out.ext hX (by omega) (by omega)).just hY2 (hX.at_ hjb) (by omega) (Nat.le_refl _) (by omega) (by omega) (by omega)
       have hdY := hY2.at_ (by omega) (hX.at_ hdV)
       have HM1 := Lib.hid hM1
       have HJ1 := Lib.hid (show JBlk C Y bo3 (dblT C.M so) from ⟨ox, oy, oz, hY1, hf⟩)
       have HdY := Lib.hid hdY
       have cd := blk_cell hdY 0
       have fd := blk_free hdY 0
       simp only [List.getElem?_toArray, List.getElem?_cons_zero] at cd
       have hw1 : IntKind.u64.wrap (2 * (d : Int)) = 2 * (d : Int) := IntWalk.u64_in _ (by omega)
       have hw2 : IntKind.u64.wrap (2 * (d : Int) + (bt : Int)) = (d2 : Int) := by rw [IntWalk.u64_in _ (by omega)]; have := Hd2.out; omega
       clear hM1 hdY hX hY1 hY2 hY3 hf hjb hdV cV
       gi_upto_region 16 with fail
       obtain ⟨hdV2, hj2⟩ := one_set HdY.out (.int .u64 (d2 : Int))
       have hM2 := HM1.out.just hj2 HdY.out (by omega) (by omega) (by omega) (by omega) (by omega)
       have hJ2 := HJ1.out.just hj2 (by omega)
       generalize hV2 : Y.setCell ⟨bd, 0, none⟩ (.int .u64 (d2 : Int)) = V2 at *
       have HM2 := Lib.hid hM2
       have HJ2 := Lib.hid hJ2
       have HdV2 := Lib.hid hdV2
       clear hM2 hJ2 hj2 hV2 cd fd hw1 hw2
       by_cases hi4 : ii % 4 = 0
       · have hst : mulS C.M (upP bi x y) E (k + 1) = (addT C.M (dblT C.M so) (pt d2), 0) := by rw [Hstep.out, if_pos hi4]
         have Hst := Lib.hid hst
         have hr4 : (ii : Int) % 4 = 0 := by omega
         have hr5 : (ii : Int).tmod 4 = 0 := by rw [IntWalk.rem_in _ _ (by omega)]; exact hr4
         have hTV2 := Lib.hid (HTV.out.same HM2.out.tab)
         have cV2 : V2.cell? ⟨b2, 0, none⟩ = some (.pointer (some ⟨k1, 0, none⟩)) := (HM2.out.below.cell (p := ⟨b2, 0, none⟩) (by show b2 < bo3; omega)).trans c3
         have cd2 := blk_cell hdV2 0
         simp only [List.getElem?_toArray, List.getElem?_cons_zero] at cd2
         have HE2 := Lib.hid (show Ext W1 V2 from Below.trans HE3.out (Below.mono HM2.out.below lo))
         obtain ⟨mx, my, mz, hmb, hmf⟩ := HJ2.out
         have Hmf := Lib.hid hmf
         clear hst hmf
         gi_upto_region 17 with fail
         clear hr4 hr5
         refine Par.region_ext_in (by kernel_rfl) 6 [0, 0, 0, 4, 12, 31, 63] [] (fun j f X => match j with
          | 0 => f 0 = .pointer (some ⟨k1, 0, none⟩)
          | 1 => f 1 = JV mx my mz
          | 2 => f 2 = .int .u64 (d2 : Int)
          | 3 => f 3 = .pointer (some ⟨be5, d2 * 18, none⟩)
          | 4 => ∃ v, f 4 = v ∧ JAt C v (pt d2)
          | 5 => ∃ v, f 5 = v ∧ JAt C v (addT C.M (dblT C.M so) (pt d2))
          | _ => True) (by kernel_rfl) [(63, 0), (64, 1), (65, 2), (66, 3), (67, 4), (68, 5)] (by kernel_rfl) (by kernel_rfl) ?_
         refine Par.S 1 5 [(64, 1), (65, 2), (66, 3), (67, 4)] (fun f X hX hR K hK => ?_) ?_
         · have x0 := hX.cell cV2
           simp only [yA, yB, yC, yD, yE]
           refine ⟨?_⟩
           go_simp
           exact Par.k hK (s := by simp only [yA, yB, yC, yD, yE])
         refine Par.S 2 4 [(63, 0), (65, 2), (66, 3), (67, 4)] (fun f X hX hR K hK => ?_) ?_
         · simp only [yA, yB, yC, yD, yE]
           refine ⟨wp_loadV (v := JV mx my mz) (t := 83) 83 (.tmp 9) rfl rfl (hX.at_ hmb) Try.underlying83 rfl (by rw [Hmf.out.sz]; exact infoJ) rfl ?_⟩
           exact hK.out _ (JV mx my mz) _ (by simp only [yA, yB, yC, yD, yE]) (Ext.refl _) trivial (fun _ _ => rfl)
         refine Par.S 3 3 [(63, 0), (64, 1)] (fun f X hX hR K hK => ?_) ?_
         · have x0 := hX.cell cd2
           simp only [yA, yB, yC, yD, yE]
           refine ⟨?_⟩
           go_simp
           exact Par.k hK (s := by simp only [yA, yB, yC, yD, yE])
         refine Par.S 4 2 [(63, 0), (64, 1), (65, 2)] (fun f X hX hR K hK => ?_) ?_
         · have e2 : f 2 = _ := hR.out 2 rfl
           have hd17 : (d2 : Int) < 16 := by omega
           simp only [yA, yB, yC, yD, yE, e2]
           refine ⟨?_⟩
           go_simp
           exact Par.k hK (s := by simp only [yA, yB, yC, yD, yE, e2])
         refine Par.S 5 1 [(63, 0), (64, 1), (65, 2), (66, 3)] (fun f X hX hR K hK => ?_) ?_
         · have e3 : f 3 = _ := hR.out 3 rfl
           simp only [yA, yB, yC, yD, yE, e3]
           refine ⟨wp_loadT (.tmp 66) rfl (hTV2.out.ext hX) (i := d2) hd16 (Nat.mul_comm _ _) rfl (fun v hv => ?_)⟩
           exact hK.out _ v _ (by simp only [yA, yB, yC, yD, yE, e3]) (Ext.refl _) trivial (fun _ _ => ⟨_, rfl, hv⟩)
         refine Par.S 6 0 [(63, 0), (64, 1), (65, 2), (66, 3), (67, 4)] (fun f X hX hR K hK => ?_) ?_
         · have e0 : f 0 = _ := hR.out 0 rfl
           have e1 : f 1 = _ := hR.out 1 rfl
           obtain ⟨v4, (e4 : f 4 = _), j4⟩ := hR.out 4 rfl
           simp only [yA, yB, yC, yD, yE, e0, e1, e4]
           refine ⟨?_⟩
           go_simp
           refine (add_j (Hk1.out.ext (HE2.out.trans hX)) ⟨mx, my, mz, rfl, Hmf.out⟩ j4).mono ?_
           rintro e w2 ⟨o, rfl, hj, hB⟩
           exact hK.out _ o _ (by simp only [yA, yB, yC, yD, yE, e0, e1, e4]) hB trivial (fun _ _ => ⟨_, rfl, hj⟩)
         refine Par.AllOps.fin ⟨fun f X hX hR hal hap => ?_⟩
         have e0 : f 0 = _ := hR 0 (by decide)
         have e1 : f 1 = _ := hR 1 (by decide)
         have e2 : f 2 = _ := hR 2 (by decide)
         have e3 : f 3 = _ := hR 3 (by decide)
         obtain ⟨v4, (e4 : f 4 = _), j4⟩ := hR 4 (by decide)
         obtain ⟨v5, (e5 : f 5 = _), j5⟩ := hR 5 (by decide)
         simp only [yA, yB, yD, yE, e0, e1, e2, e3, e4, e5]
         clear hR hal hap e0 e1 e2 e3 e4 e5
         obtain ⟨ux, uy, uz, ev, hf⟩ := j5
         subst ev
         refine Par.Chain.next (fun K hK => ⟨Par.want (by kernel_rfl) (wp_storeJ (x := ux) (y := uy) (z := uz) (.tmp 9) (.tmp 68) rfl rfl rfl rfl (hX.at_ hmb) Hmf.out.sz hf.x.elt.six hf.y.elt.six hf.z.elt.six (fun Y hY1 hY2 hY3 => hK.out _ _ ?_))⟩)
         refine Par.Chain.done ?_
         refine ⟨nofun, ?_⟩
         have hM3 := (HM2.out.ext hX (by omega) (by omega)).just hY2 (hX.at_ hmb) (by omega) (Nat.le_refl _) (by omega) (by omega) (by omega)
         have hd3' := hY2.at_ (by omega) (hX.at_ hdV2)
         have hJ3' : JBlk C Y bo3 (addT C.M (dblT C.M so) (pt d2)) := ⟨ux, uy, uz, hY1, hf⟩
         obtain ⟨hd4, hj4⟩ := one_set hd3' (.int .u64 0)
         have hM4 := hM3.just hj4 hd3' (by omega) (by omega) (by omega) (by omega) (by omega)
         have hJ4 := hJ3'.just hj4 (by omega)
         have cd := blk_cell hd3' 0
         have fd := blk_free hd3' 0
         simp only [List.getElem?_toArray, List.getElem?_cons_zero] at cd
         have HM4 := Lib.hid hM4
         have HJ4 := Lib.hid hJ4
         have Hd4 := Lib.hid hd4
         clear hM3 hM4 hJ3' hJ4 hd3' hd4 hj4 hX hY1 hY2 hY3 hf hmb cV2 cd2 hdV2
         gi_wp2
         exact ⟨HM4.out.keeps, HM4.out.stay, by rw [Hst.out]; exact HJ4.out, by rw [Hst.out]; exact Hd4.out, HTV.out.same HM4.out.tab, HM4.out.below⟩
       · have hst : mulS C.M (upP bi x y) E (k + 1) = (dblT C.M so, d2) := by rw [Hstep.out, if_neg hi4]
         have Hst := Lib.hid hst
         have hr4 : ¬ (ii : Int) % 4 = 0 := by omega
         have hr5 : ¬ (ii : Int).tmod 4 = 0 := by rw [IntWalk.rem_in _ _ (by omega)]; exact hr4
         clear hst hdV2
         gi_wp2
         exact ⟨HM2.out.keeps, HM2.out.stay, by rw [Hst.out]; exact HJ2.out, by rw [Hst.out]; exact HdV2.out, HTV.out.same HM2.out.tab, HM2.out.below⟩
      case done =>
       rintro D V hD ⟨⟨jx, jy, jz, hjb, hjf⟩, hdV, hTV, h5⟩ hKD
       have HEV := Lib.hid (show Ext W1 V from Below.trans HE3.out (Below.mono h5 lo))
       have cV : V.cell? ⟨b2, 0, none⟩ = some (.pointer (some ⟨k1, 0, none⟩)) := (h5.cell (p := ⟨b2, 0, none⟩) (by show b2 < bo3; omega)).trans c3
       have hrV := (h5.block (q + 1) (by omega)).trans h33
       have Hjf := Lib.hid hjf
       have HEX := Lib.hid ((HE0.out.trans HE1.out).trans HEV.out)
       obtain ⟨rs, hrs⟩ : ∃ r, (mulS C.M (upP bi x y) E nb).1 = r := ⟨_, rfl⟩
       rw [hrs] at Hjf
       have Hrs := Lib.hid hrs
       clear hjf hTV hdV hrs h5
       go_upto_region 19 with fail
       refine Par.region_txt 3 [0, 0, 3, 7, 15] [] (fun j f X => match j with
        | 0 => f 0 = .pointer (some ⟨k1, 0, none⟩)
        | 1 => f 1 = JV jx jy jz
        | 2 => ∃ v, f 2 = v ∧ PtV X q v (downT C.M rs)
        | _ => True) (by kernel_rfl) [(69, 0), (70, 1), (71, 2)] (by kernel_rfl) ?_
       refine Par.ld0 1 2 cV ?_
       refine Par.S 2 1 [(69, 0)] (fun f X hX hR K hK => ?_) ?_
       · simp only [yA, yB, yC, yD, yE]
         refine ⟨wp_loadV (v := JV jx jy jz) (t := 83) 83 (.tmp 9) rfl rfl (hX.at_ hjb) Try.underlying83 rfl (by rw [Hjf.out.sz]; exact infoJ) rfl ?_⟩
         exact hK.out _ (JV jx jy jz) _ (by simp only [yA, yB, yC, yD, yE]) (Ext.refl _) trivial (fun _ _ => rfl)
       refine Par.c0 3 0 (fun f => #[f 0, f 1]) (F' := 50) (fun f X hX hR => ?_) ?_
       · have e0 : f 0 = _ := hR.out 0 rfl
         have e1 : f 1 = _ := hR.out 1 rfl
         simp only [e0, e1]
         refine (down_j (Hk1.out.ext (HEV.out.trans hX)) HC.out.plen ⟨jx, jy, jz, rfl, Hjf.out⟩).mono ?_
         rintro e w2 ⟨o, rfl, hj, hB⟩
         exact ⟨o, rfl, hB, fun Y hY => ⟨_, rfl, (hj.mono (by have := HEX.out.bsize; have := hX.bsize; have := Hq.out; omega)).ext hY⟩⟩
       refine Par.AllOps.fin ⟨fun f X hX hR hal hap => ?_⟩
       obtain ⟨v2, (e2 : f 2 = _), j2⟩ := hR 2 (by decide)
       simp only [yA, yB, yD, yE, e2]
       clear hR hal hap e2
       obtain ⟨x0, x1, x2, ev, hone, hst⟩ := ptv_store (b := q + 1) j2
       subst ev
       refine Par.Chain.next (fun K hK => ⟨Par.want (by kernel_rfl) (wp_storeV (cs' := #[x0, x1, x2]) (t := 27) 27 (.tmp 6) (.tmp 71) rfl rfl rfl rfl (hX.at_ hrV) infoP rfl hone (fun Y hY1 hY2 hY3 => hK.out _ _ ?_))⟩)
       refine Par.Chain.next (fun K hK => ⟨Par.want (by kernel_rfl) ?_⟩)
       go_simp
       refine hK.out _ _ ?_
       refine Par.Chain.done ?_
       go_wp2
       have hKY : Y.heap[D]? = some (.deferred (some [])) := hY2.at_ (by omega) (hX.at_ hKD)
       have hrY : (Y.putObj D (.deferred none)).heap[q + 1]? = some (.cells #[x0, x1, x2] 27 (0, 0)) := (World.putObj_heap_other (by omega)).trans hY1
       have hEY : Ext w Y := hY2.ext (HEX.out.trans hX) (by have := Hq.out; omega)
       have hst' : PtV Y q (.agg #[x0, x1, x2]) (downT C.M rs) := hst Y hY2 ⟨_, hX.at_ hrV⟩
       have hpo : PtV (Y.putObj D (.deferred none)) q (.agg #[x0, x1, x2]) (downT C.M rs) := hst'.put hKY
       refine ⟨by simp, .inl ⟨_, _, rfl, run_takeDeferred hKY, _, res_pt rfl rfl rfl hrY, ⟨_, rfl, by rw [Hrs.out]; exact hpo, Below.trans hEY (belowK_b (w := w) (Nat.le_refl _) Y D _ _ (by have := Hq.out; omega) hKY rfl rfl)⟩⟩⟩
      case stop => exact fun _ _ _ _ _ _ _ h _ => h.elim
end Go.Proofs.Ytldhmjfjbalakaa

namespace Go.Proofs.Ytldhmjfjbalakaa
namespace Gl
section
variable {M : Nat} [NeZero M] {b : Fin M}
theorem ph_mm (x y : Nat) : ph (p := M) (mm M x y) = ph x * ph y := by rw [mm, ph_mod, ph_mul]
theorem ph_am (x y : Nat) : ph (p := M) (am M x y) = ph x + ph y := by rw [am, ph_mod, ph_add]
theorem ph_sm (x y : Nat) : ph (p := M) (sm M x y) = ph x - ph y := by
 rw [sm, ph_mod, ph_sub (by have := Nat.mod_lt y (NeZero.lt (p := M)); omega), ph_add, ph_self, ph_mod]
 grind
theorem sm_lt (x y : Nat) : sm M x y < M := Nat.mod_lt _ NeZero.lt
theorem mm_lt (x y : Nat) : mm M x y < M := Nat.mod_lt _ NeZero.lt
def RpN (J : Nat × Nat × Nat) (P : Pt M) : Prop := Rp (ph J.1) (ph J.2.1) (ph J.2.2) P
theorem RpN.zero (x y : Nat) : RpN (M := M) (x, y, 0) none := Or.inl ⟨ph0, rfl⟩
theorem RpN.of_zero {J : Nat × Nat × Nat} {P : Pt M} (h : RpN J P) (hz : J.2.2 % M = 0) : P = none := h.none_iff.1 (ph_zero.2 hz)
theorem dblP_rp (h : Cv ivp b) {x y z : Nat} {P : Pt M} (hr : RpN (x, y, z) P) (hP : On b P) : RpN (dblP M x y z) (ad ivp P P) := by
 refine h.dbl hr hP rfl ?_ ?_ ?_
 · simp only [dblP, ph_mm, ph_am, ph_sm]
   rw [show (ph (p := M) 3) = 3 from rfl]
   grind
 · simp only [dblP, ph_mm, ph_am, ph_sm]
   rw [show (ph (p := M) 3) = 3 from rfl]
   grind
 · simp only [dblP, ph_mm, ph_am, ph_sm]
   grind
theorem Rp.split {X Y Z : Fin M} {P : Pt M} (h : Rp X Y Z P) (hz : Z ≠ 0) : ∃ x y, P = some (x, y) ∧ X = x * (Z * Z) ∧ Y = y * (Z * Z * Z) := h.elim (fun e => absurd e.1 hz) (·.2)
theorem addQ_rp (h : Cv ivp b) {x1 y1 z1 x2 y2 z2 : Nat} {P Q : Pt M} (hr : RpN (x1, y1, z1) P) (hs : RpN (x2, y2, z2) Q) (hP : On b P) (hQ : On b Q) (hz1 : ¬ z1 % M = 0) (hz2 : ¬ z2 % M = 0) : RpN (addQ M x1 y1 z1 x2 y2 z2) (ad ivp P Q) := by
 have n1 : ph (p := M) z1 ≠ 0 := fun e => hz1 (ph_zero.1 e)
 have n2 : ph (p := M) z2 ≠ 0 := fun e => hz2 (ph_zero.1 e)
 obtain ⟨px, py, rfl, e1, e2⟩ := Rp.split hr n1
 obtain ⟨qx, qy, rfl, e3, e4⟩ := Rp.split hs n2
 obtain ⟨a1, a2, a3⟩ := h.add (X' := ph (addQ M x1 y1 z1 x2 y2 z2).1) (Y' := ph (addQ M x1 y1 z1 x2 y2 z2).2.1) (Z' := ph (addQ M x1 y1 z1 x2 y2 z2).2.2) n1 n2 e1 e2 e3 e4 hP hQ rfl rfl rfl rfl
 have c1 : ∀ u3 u4 : Nat, ph (p := M) u3 = ph x1 * (ph z2 * ph z2) → ph (p := M) u4 = ph x2 * (ph z1 * ph z1) → (sm M u4 u3 % M = 0 ↔ px = qx) := fun u3 u4 g3 g4 => by rw [← a1, ← g3, ← g4, ← ph_zero, ph_sm]
 have c2 : ∀ u6 u8 : Nat, ph (p := M) u6 = ph y1 * (ph z2 * ph z2 * ph z2) → ph (p := M) u8 = ph y2 * (ph z1 * ph z1 * ph z1) → (sm M u8 u6 % M = 0 ↔ py = qy) := fun u6 u8 g6 g8 => by rw [← a2, ← g6, ← g8, ← ph_zero, ph_sm]
 have d1 := c1 (mm M x1 (mm M z2 z2)) (mm M x2 (mm M z1 z1)) (by simp only [ph_mm]) (by simp only [ph_mm])
 have d2 := c2 (mm M y1 (mm M (mm M z2 z2) z2)) (mm M y2 (mm M (mm M z1 z1) z1)) (by simp only [ph_mm]) (by simp only [ph_mm])
 clear c1 c2
 by_cases hx : px = qx
 · by_cases hy : py = qy
   · subst hx hy
     have e : addQ M x1 y1 z1 x2 y2 z2 = dblP M x1 y1 z1 := by
      simp only [addQ]
      rw [if_pos (d1.2 rfl), if_pos (d2.2 rfl)]
     rw [e]
     exact dblP_rp h hr hP
   · subst hx
     have e : addQ M x1 y1 z1 x2 y2 z2 = (1, 1, 0) := by
      simp only [addQ]
      rw [if_pos (d1.2 rfl), if_neg (fun g => hy (d2.1 g))]
     rw [e, ad_opp hy]
     exact RpN.zero _ _
 · have hn : ¬ sm M (mm M x2 (mm M z1 z1)) (mm M x1 (mm M z2 z2)) % M = 0 := fun g => hx (d1.1 g)
   refine a3 (fun g => hx (a1.1 g)) ?_ ?_ ?_
   · simp only [addQ]
     rw [if_neg hn]
     simp only [ph_mm, ph_am, ph_sm]
   · simp only [addQ]
     rw [if_neg hn]
     simp only [ph_mm, ph_am, ph_sm]
   · simp only [addQ]
     rw [if_neg hn]
     simp only [ph_mm, ph_sm]
theorem addT_rp (h : Cv ivp b) {p q : Nat × Nat × Nat} {P Q : Pt M} (hr : RpN p P) (hs : RpN q Q) (hP : On b P) (hQ : On b Q) : RpN (addT M p q) (ad ivp P Q) := by
 unfold addT addP
 by_cases h1 : p.2.2 % M = 0
 · rw [if_pos h1, hr.of_zero h1]
   exact hs
 · rw [if_neg h1]
   by_cases h2 : q.2.2 % M = 0
   · rw [if_pos h2, hs.of_zero h2, ad_none]
     exact hr
   · rw [if_neg h2]
     exact addQ_rp h hr hs hP hQ h1 h2
def natP (P : Pt M) : Option (Nat × Nat) := P.map fun q => (q.1.val, q.2.val)
def toP (bi : Bool) (x y : Nat) : Pt M := if bi then none else some (ph x, ph y)
theorem natP_toP {x y : Nat} (hx : x < M) (hy : y < M) : natP (M := M) (toP false x y) = some (x, y) := by
 show some ((ph (p := M) x).val, (ph (p := M) y).val) = _
 rw [ph_val, ph_val, Nat.mod_eq_of_lt hx, Nat.mod_eq_of_lt hy]
omit [NeZero M] in
theorem natP_lt {P : Pt M} {q : Nat × Nat} (h : natP P = some q) : q.1 < M ∧ q.2 < M := by
  match P with
  | none => exact absurd h (by simp [natP])
  | some (x, y) =>
    have : (x.val, y.val) = q := by simpa [natP] using h
    subst this
    exact ⟨x.isLt, y.isLt⟩
theorem toP_natP {P : Pt M} : toP (natP P).isNone ((natP P).elim 0 (·.1)) ((natP P).elim 0 (·.2)) = P := by
 match P with
 | none => rfl
 | some (x, y) => show some (ph x.val, ph y.val) = _; rw [ph_of_val, ph_of_val]
omit [NeZero M] in
theorem mod_ne {z : Nat} (hz : ¬ z % M = 0) : ¬ M ∣ z := fun h => hz (Nat.mod_eq_zero_of_dvd h)
theorem downT_rp (hp : Pm.Prime M) {J : Nat × Nat × Nat} {P : Pt M} (hr : RpN J P) : downT M J = natP P := by
 unfold downT downP
 by_cases h1 : J.2.2 % M = 0
 · rw [if_pos h1, hr.of_zero h1]; rfl
 · rw [if_neg h1]
   have n1 : ph (p := M) J.2.2 ≠ 0 := fun e => h1 (ph_zero.1 e)
   obtain ⟨x, y, rfl, -, -⟩ := Rp.split hr n1
   have hv : ph (p := M) J.2.2 * ph (J.2.2 ^ (M - 2)) = 1 := by
    have := Pm.inv_mul hp (mod_ne h1)
    rw [← ph_mod (J.2.2 ^ (M - 2)), ← ph_mul, ← ph_mod (J.2.2 * _), this]
    exact ph1
   obtain ⟨b1, b2⟩ := Rp.back hr hv
   show some (_, _) = some (x.val, y.val)
   have e1 : ph (p := M) (mm M J.1 (mm M (J.2.2 ^ (M - 2)) (J.2.2 ^ (M - 2)))) = x := by simp only [ph_mm]; exact b1
   have e2 : ph (p := M) (mm M J.2.1 (mm M (mm M (J.2.2 ^ (M - 2)) (J.2.2 ^ (M - 2))) (J.2.2 ^ (M - 2)))) = y := by simp only [ph_mm]; exact b2
   rw [← e1, ← e2, ph_val, ph_val]
theorem invLoop_ok (x : Nat) : ∀ (n r s t u : Nat), s ≤ n → ph (p := M) r = ph t * ph x → ph (p := M) s = ph u * ph x → (invLoop M r s t u).1 = Nat.gcd r s ∧ ph (p := M) (invLoop M r s t u).1 = ph (invLoop M r s t u).2 * ph x := by
  intro n
  induction n with
  | zero =>
    intro r s t u hs h1 h2
    obtain rfl : s = 0 := by omega
    rw [invLoop_zero, Nat.gcd_zero_right]
    exact ⟨rfl, h1⟩
  | succ n ih =>
    intro r s t u hs h1 h2
    rcases Nat.eq_zero_or_pos s with rfl | h0
    · rw [invLoop_zero, Nat.gcd_zero_right]; exact ⟨rfl, h1⟩
    · rw [invLoop_step (by omega)]
      have hr : ph (p := M) (r % s) = ph ((t + M - r / s * u % M) % M) * ph x := by
        have hd := Nat.div_add_mod r s
        have e1 : ph (p := M) r = ph s * ph (r / s) + ph (r % s) := by rw [← ph_mul, ← ph_add, hd]
        rw [ph_mod, ph_sub (by have := Nat.mod_lt (r / s * u) (NeZero.lt (p := M)); omega), ph_add, ph_self, ph_mod, ph_mul]
        clear ih hd
        grind
      obtain ⟨g1, g2⟩ := ih s (r % s) u _ (by have := Nat.mod_lt r h0; omega) h2 hr
      refine ⟨?_, g2⟩
      rw [g1, Nat.gcd_comm r s]
      rw [Nat.gcd_comm s (r % s), ← Nat.gcd_rec]
theorem inv_ok (hp : Pm.Prime M) {z : Nat} (hz : ¬ z % M = 0) : ph (p := M) z * ph (invNum z M).1 = 1 := by
 obtain ⟨g1, g2⟩ := invLoop_ok (M := M) z (z % M) M (z % M) 0 1 (Nat.le_refl _) (by rw [ph_self, ph0]; grind) (by rw [ph_mod, ph1]; grind)
 have hg : Nat.gcd M (z % M) = 1 := hp.coprime (fun hd => hz (by have := Nat.eq_zero_of_dvd_of_lt hd (Nat.mod_lt _ NeZero.lt); exact this))
 rw [hg] at g1
 unfold invNum
 rw [if_pos g1]
 rw [g1, ph1] at g2
 show ph z * ph (invLoop M M (z % M) 0 1).2 = 1
 rw [g2]
 grind
theorem upP_rp (h1 : (1 : Fin M) ≠ 0) (bi : Bool) (x y : Nat) : RpN (M := M) (upP bi x y) (toP bi x y) := by
 cases bi
 · exact Rp.up h1 _ _
 · exact RpN.zero _ _
theorem onB_on {bb : Nat} (hb : b = ph bb) {x y : Nat} (h : onB M bb x y = true) : Oc b (ph x) (ph y) := by
 unfold onB at h
 rw [Bool.and_eq_true, Bool.and_eq_true] at h
 have e := congrArg (ph (p := M)) (of_decide_eq_true h.2)
 rw [ph_mod, ph_mul, ph_mod, ph_add, ph_mod, ph_sub (by have := Nat.mod_lt (3 * x) (NeZero.lt (p := M)); omega), ph_add, ph_self, ph_mod, ph_mul, ph_mod, ph_mul, ph_mod, ph_mul] at e
 rw [show (ph (p := M) 3) = 3 from rfl] at e
 unfold Oc
 rw [e, hb]
 grind
theorem onQ_on {bb : Nat} (hb : b = ph bb) {bi : Bool} {x y : Nat} (h : bi = false → onB M bb x y = true) : On b (toP bi x y) := by
 cases bi
 · exact onB_on hb (h rfl)
 · trivial
end
end Gl
end Go.Proofs.Ytldhmjfjbalakaa

namespace Go.Proofs.Ytldhmjfjbalakaa
open Gl
theorem IsC.cv {c : Int} {C : Crv} (h : IsC c C) : ∃ _ : NeZero C.M, Pm.Prime C.M ∧ Cv (p := C.M) ivp (ph C.bb) := by
 rcases h with ⟨_, rfl⟩ | ⟨_, rfl⟩
 · have e : c256.M = 115792089210356248762697446949407573530086143415290314195533631308867097853951 := by decide +kernel
   have eb : c256.bb = 41058363725152142129326129780047268409114441015993725554835256314039467401291 := by decide +kernel
   rw [e, eb]
   exact ⟨⟨by decide⟩, Pm.p256, cv_of Pm.p256 (by decide) root256⟩
 · have e : c384.M = 39402006196394479212279040100143613805079739270465446667948293404245721771496870329047266088258938001861606973112319 := by decide +kernel
   have eb : c384.bb = 27580193559959705877849011840389048093056905856361568521428707301988689241309860865136260764883745107765439761230575 := by decide +kernel
   rw [e, eb]
   exact ⟨⟨by decide⟩, Pm.p384, cv_of Pm.p384 (by decide) root384⟩
theorem onQ_onB {C : Crv} {bi : Bool} {x y : Nat} (ho : onQ C bi x y = true) : bi = false → onB C.M C.bb x y = true := by
 rintro rfl
 exact ho
theorem onQ_bi (C : Crv) (bi : Bool) (x y : Nat) : (bi || onB C.M C.bb (if bi then 0 else x) (if bi then 0 else y)) = onQ C bi x y := by
 cases bi <;> rfl
end Go.Proofs.Ytldhmjfjbalakaa

namespace Go.Proofs.Ytldhmjfjbalakaa
open Go.RowKit
theorem cmpV_z {x y : Nat} : cmpV x y = 0 ↔ x = y := ⟨fun h => by rcases cmpV_cases x y with h1 | h1 | h1 <;> omega, fun h => by rw [h]; exact cmpV_eq y⟩
def raddA (M x y qx qy : Nat) : Bool × Nat × Nat := let u1 := sm M qy y; let u2 := sm M qx x; let iv := (invNum u2 M).1; let u3 := mm M u1 iv; let u4 := mm M u3 u3; let u5 := sm M u4 x; let u6 := sm M u5 qx; let u7 := sm M x u6; let u8 := mm M u3 u7; let u9 := sm M u8 y; (false, u6, u9)
def raddD (M x y qx : Nat) : Bool × Nat × Nat := let u1 := mm M x x; let u2 := mm M 3 u1; let u3 := sm M u2 3; let u4 := mm M 2 y; let iv := (invNum u4 M).1; let u5 := mm M u3 iv; let u6 := mm M u5 u5; let u7 := sm M u6 x; let u8 := sm M u7 qx; let u9 := sm M x u8; let u10 := mm M u5 u9; let u11 := sm M u10 y; (false, u8, u11)
def raddP (M : Nat) (bi : Bool) (x y : Nat) (bj : Bool) (qx qy : Nat) : Bool × Nat × Nat :=
 if bi then (bj, qx, qy) else if bj then (bi, x, y) else if x = qx then (if y = qy then (if y = 0 then (true, 0, 0) else raddD M x y qx) else (true, 0, 0)) else raddA M x y qx qy
end Go.Proofs.Ytldhmjfjbalakaa

namespace Go.Proofs.Ytldhmjfjbalakaa
open Gl
def trip (o : Option (Nat × Nat)) : Bool × Nat × Nat := (o.isNone, o.elim 0 (·.1), o.elim 0 (·.2))
section
variable {M : Nat} [NeZero M] {b : Fin M}
theorem pair_val {X Y : Fin M} {x y : Nat} (hx : ph x = X) (hy : ph y = Y) (lx : x < M) (ly : y < M) : ((false, x, y) : Bool × Nat × Nat) = trip (natP (some (X, Y))) := by
 subst hx hy
 show (false, x, y) = (false, (ph (p := M) x).val, (ph (p := M) y).val)
 rw [ph_val, ph_val, Nat.mod_eq_of_lt lx, Nat.mod_eq_of_lt ly]
theorem inv_ph (hp : Pm.Prime M) (h : Cv ivp b) {d : Nat} {D : Fin M} (hd : ph d = D) (hD : D ≠ 0) : ph (p := M) (invNum d M).1 = ivp D := by
 subst hd
 have h1 := inv_ok hp (fun e => hD (ph_zero.2 e))
 have h2 := h.inv _ hD
 exact h.cancel hD (h1.trans h2.symm)
theorem raddA_rp (hp : Pm.Prime M) (h : Cv ivp b) {x y u v : Nat} (hne : ph (p := M) x ≠ ph u) : raddA M x y u v = trip (natP (M := M) (ad ivp (some (ph x, ph y)) (some (ph u, ph v)))) := by
 rw [ad_chord hne]
 have hi := inv_ph hp h (d := sm M u x) (ph_sm u x) (by intro e; exact hne (by grind))
 unfold raddA
 refine pair_val ?_ ?_ (Gl.sm_lt _ _) (Gl.sm_lt _ _)
 · simp only [ph_sm, ph_mm, hi]
 · simp only [ph_sm, ph_mm, hi]
theorem raddD_rp (hp : Pm.Prime M) (h : Cv ivp b) {x y : Nat} (hy : 2 * ph (p := M) y ≠ 0) : raddD M x y x = trip (natP (M := M) (ad ivp (some (ph x, ph y)) (some (ph x, ph y)))) := by
 rw [ad_self]
 have h2 : (ph (p := M) 2) = 2 := rfl
 have h3 : (ph (p := M) 3) = 3 := rfl
 have hi := inv_ph hp h (d := mm M 2 y) (by rw [ph_mm, h2]) hy
 unfold raddD
 refine pair_val ?_ ?_ (Gl.sm_lt _ _) (Gl.sm_lt _ _)
 · simp only [ph_sm, ph_mm, hi, h3]
 · simp only [ph_sm, ph_mm, hi, h3]
theorem radd_rp (hp : Pm.Prime M) (h : Cv ivp b) {bi bj : Bool} {x y u v : Nat} (hP : On b (toP bi x y)) (hQ : On b (toP bj u v)) (hx : bi = false → x < M ∧ y < M) (hu : bj = false → u < M ∧ v < M) (hx0 : bi = true → x = 0 ∧ y = 0) (hu0 : bj = true → u = 0 ∧ v = 0) :
 raddP M bi x y bj u v = trip (natP (M := M) (ad ivp (toP bi x y) (toP bj u v))) := by
 cases bi
 · cases bj
   · obtain ⟨lx, ly⟩ := hx rfl
     obtain ⟨lu, lv⟩ := hu rfl
     simp only [raddP, Bool.false_eq_true, if_false]
     show _ = trip (natP (ad ivp (some (ph x, ph y)) (some (ph u, ph v))))
     by_cases hxu : x = u
     · subst hxu
       rw [if_pos rfl]
       by_cases hyv : y = v
       · subst hyv
         rw [if_pos rfl]
         have hy2 := h.y2 hP
         rw [if_neg (fun e => by rw [e, ph0] at hy2; exact hy2 (by grind))]
         exact raddD_rp hp h hy2
       · rw [if_neg hyv, ad_opp (fun e => hyv (ph_inj ly lv e))]
         rfl
     · rw [if_neg hxu]
       exact raddA_rp hp h (fun e => hxu (ph_inj lx lu e))
   · show (false, x, y) = _
     obtain ⟨lx, ly⟩ := hx rfl
     show _ = trip (natP (ad ivp (toP false x y) none))
     rw [ad_none, natP_toP lx ly]
     rfl
 · show (bj, u, v) = _
   cases bj
   · obtain ⟨lu, lv⟩ := hu rfl
     show _ = trip (natP (toP (M := M) false u v))
     rw [natP_toP lu lv]
     rfl
   · obtain ⟨rfl, rfl⟩ := hu0 rfl
     rfl
end
end Go.Proofs.Ytldhmjfjbalakaa

namespace Go.Proofs.Ytldhmjfjbalakaa
open Go.RowKit
def SeqAtV {β : Type} (P : Program) (g : Nat) (lb : Array Value) (xs : Nat → β → Array Value) (Vs : Nat → β → World → Prop) (Nd : Nat → World → Prop) (T : Nat → Nat → World → World → Prop) (Kp : World → World → Prop) (m N : Nat) (fin : Bool) (w : World) : Prop :=
  ∀ (n l : Nat) (J J' Jx : Nat → World → Prop) (W : World), 1 ≤ n → Below w.heap.size w W → l < W.heap.size → OwnFrom W.heap.size J → OwnFrom W.heap.size J' → OwnFrom W.heap.size Jx →
    (∀ k W1, k ≤ N → J k W1 → Nd k W1) → (∀ k W1 W2, k ≤ N → J k W1 → T W.heap.size k W1 W2 → J' k W2) → (fin = false → ∀ W', ¬ J' N W') →
    (∀ k b W1, J' k W1 → Vs k b W1 → k < N → W.heap.size + m ≤ W1.heap.size → YieldAt Fence.wide (n - 1) P l (xs k b) W1 fun e W' =>
      (e = .returned (.bool true) ∧ J (k + 1) W' ∧ Kp W1 W' ∧ Keeps W.heap.size W.heap.size m W1 W') ∨ (e = .returned (.bool false) ∧ Jx (k + 1) W' ∧ Keeps W.heap.size W.heap.size m W1 W')) →
    J 0 W →
    CallsIn Fence.wide n P g (#[.func (.yield l) #[] #[]] ++ lb) W fun e W' => (∃ v, e = .returned v) ∧ (J' N W' ∨ ∃ k, 0 < k ∧ k ≤ N ∧ Jx k W')
def KC (D : Nat) (W W' : World) : Prop := W.heap.size ≤ W'.heap.size ∧ ∀ (k : Nat) (cs : Array Value) (T : TypeId) (fr : Nat × Nat), W.heap[k]? = some (.cells cs T fr) → (D ≤ k ∨ T = 137 ∨ T = 105) → W'.heap[k]? = some (.cells cs T fr)
theorem KC.trans {D : Nat} {A B C : World} (h : KC D A B) (k : KC D B C) : KC D A C := ⟨Nat.le_trans h.1 k.1, fun i cs T fr hi ht => k.2 i cs T fr (h.2 i cs T fr hi ht) ht⟩
theorem KC.put {D : Nat} (W : World) (l : Nat) (o o' : Obj) (hl : W.heap[l]? = some o) (ho : o.isCells = false) : KC D W (W.putObj l o') :=
 ⟨by simp, fun k cs T fr hk _ => (World.putObj_heap_other (fun e => by rw [e, hl] at hk; cases hk; cases ho)).trans hk⟩
theorem KC.ext {D : Nat} {W W' : World} (h : Ext W W') : KC D W W' := ⟨h.bsize, fun _ _ _ _ hk _ => h.at_ hk⟩
theorem KC.cell {D : Nat} {W W' : World} (h : KC D W W') {p : Addr} {v : Value} (hp : W.cell? p = some v) (hD : D ≤ p.block) : W'.cell? p = some v := by
 have h1 : ∃ cs T fr, W.heap[p.block]? = some (.cells cs T fr) := by
  unfold World.cell? at hp
  split at hp
  · rename_i cs T fr hc
    exact ⟨cs, T, fr, hc⟩
  all_goals cases hp
 obtain ⟨cs, T, fr, hc⟩ := h1
 exact (World.cell?_of_block ((h.2 _ _ _ _ hc (.inl hD)).trans hc.symm)).trans hp
theorem RN.kc {D : Nat} {W W' : World} {P : Nat → Prop} {A : Option Addr} {c : Nat} {l : List Nat} (h : RN W P A c l) (hk : KC D W W') (hP : ∀ b, P b → D ≤ b) : RN W' P A c l := by
 obtain ⟨⟨h1, h2, h3, h4⟩, h5⟩ := h
 refine ⟨⟨h1, h2, h3, fun hl => ?_⟩, h5⟩
 obtain ⟨ad, e, hb, hc⟩ := h4 hl
 exact ⟨ad, e, hb, fun j u hj => hk.cell (hc j u hj) (by rw [block_of_add]; exact hP _ hb)⟩
def OfD (C : Crv) (D U : Nat) (W : World) (k : Nat) : Prop := ∃ (P0 : Nat → Prop) (g inv : Nat) (ml ol rl tl fl : List Nat) (Ap An Ab Ax Ay : Option Addr) (cp cn cb cx cy : Nat), Num W P0 k g C.size C.n inv C.M C.bb C.pl C.nl C.bl C.xl C.yl ml ol rl tl fl Ap An Ab Ax Ay cp cn cb cx cy ∧ (∀ b, P0 b → D ≤ b ∧ b < U) ∧ U ≤ W.heap.size
theorem OfD.of {C : Crv} {D U k : Nat} {W : World} (h : OfD C D U W k) : OfC C W k := by
 obtain ⟨P0, g, inv, ml, ol, rl, tl, fl, Ap, An, Ab, Ax, Ay, cp, cn, cb, cx, cy, hn, hP, hU⟩ := h
 exact ⟨P0, g, inv, ml, ol, rl, tl, fl, Ap, An, Ab, Ax, Ay, cp, cn, cb, cx, cy, hn, fun b hb => Nat.lt_of_lt_of_le (hP b hb).2 hU⟩
theorem OfD.keep {C : Crv} {D U k : Nat} {W W' : World} (h : OfD C D U W k) (hz : W.heap.size ≤ W'.heap.size) (h1 : ∀ (b : Nat) (cs : Array Value) (T : TypeId) (fr : Nat × Nat), W.heap[b]? = some (.cells cs T fr) → (T = 137 ∨ T = 105) → W'.heap[b]? = some (.cells cs T fr))
 (h2 : ∀ (P : Nat → Prop) (A : Option Addr) (c : Nat) (l : List Nat), RN W P A c l → (∀ b, P b → D ≤ b ∧ b < U) → RN W' P A c l) : OfD C D U W' k := by
 obtain ⟨P0, g, inv, ml, ol, rl, tl, fl, Ap, An, Ab, Ax, Ay, cp, cn, cb, cx, cy, hn, hP, hU⟩ := h
 refine ⟨P0, g, inv, ml, ol, rl, tl, fl, Ap, An, Ab, Ax, Ay, cp, cn, cb, cx, cy, ⟨h1 _ _ _ _ hn.blk (.inr rfl), h2 _ _ _ _ hn.p hP, h2 _ _ _ _ hn.nn hP, h2 _ _ _ _ hn.b hP, h2 _ _ _ _ hn.x hP, h2 _ _ _ _ hn.y hP, ?_, hn.pv, hn.three, hn.fb⟩, hP, Nat.le_trans hU hz⟩
 have hf := hn.fr
 exact ⟨⟨⟨h1 _ _ _ _ hf.ff.fld.blk (.inl rfl), hf.ff.fld.m6, hf.ff.fld.o6, hf.ff.fld.r6⟩, hf.ff.mlt, hf.ff.mval, hf.ff.mtake, hf.ff.npos, hf.ff.nle, hf.ff.big, hf.ff.invLt, hf.ff.invV⟩, hf.oelt, hf.oval, hf.relt, hf.rval⟩
theorem OfD.kc {C : Crv} {D U k : Nat} {W W' : World} (h : OfD C D U W k) (hk : KC D W W') : OfD C D U W' k :=
 h.keep hk.1 (fun b cs T fr hb ht => hk.2 b cs T fr hb (.inr ht)) (fun _P _A _c _l hr hP => hr.kc hk fun b hb => (hP b hb).1)
theorem JBlk.kc {C : Crv} {D b : Nat} {W W' : World} {p : Nat × Nat × Nat} (h : JBlk C W b p) (hk : KC D W W') (hb : D ≤ b) : JBlk C W' b p := let ⟨x, y, z, h1, h2⟩ := h; ⟨x, y, z, hk.2 _ _ _ _ h1 (.inl hb), h2⟩
def mulJ (M : Nat) (p : Nat × Nat × Nat) : Nat → Nat × Nat × Nat
 | 0 => p
 | k + 1 => addT M (mulJ M p k) p
theorem KC.mono {D D' : Nat} {W W' : World} (h : KC D W W') (hD : D ≤ D') : KC D' W W' := ⟨h.1, fun k cs T fr hk ht => h.2 k cs T fr hk (ht.imp (fun g => Nat.le_trans hD g) id)⟩
theorem OfD.just3 {C : Crv} {D U k g : Nat} {W X Y : World} {cs : Array Value} {fr : Nat × Nat} (h : OfD C D U W k) (hX : Ext W X) (hj : Just g X Y) (hg : X.heap[g]? = some (.cells cs 83 fr)) (hU : U ≤ g) : OfD C D U Y k := by
 refine (h.kc (KC.ext hX)).keep hj.size (fun b cs' T fr' hb ht => hj.at_ ?_ hb) (fun P A c l hr hP => hr.keep fun p hp => World.cell?_of_block (hj.block _ ?_ ?_))
 · rintro rfl
   rw [hg] at hb
   injection Option.some.inj hb with e1 e2
   rw [← e2] at ht
   exact absurd ht (by decide)
 · have h1 := (hP _ hp).2
   have h2 := blk_lt hg
   omega
 · have h1 := (hP _ hp).2
   omega
def TJac (B _k : Nat) (W W' : World) : Prop := (W'.os = W.os ∧ W'.tape = W.tape ∧ W'.output = W.output) ∧ W.heap.size ≤ W'.heap.size ∧ ∀ (b : Nat) (o : Obj), W.heap[b]? = some o → (b < B ∨ ∀ cs fr, o ≠ .cells cs 83 fr) → W'.heap[b]? = some o
theorem TJac.trans {B k : Nat} {a b c : World} (h : TJac B k a b) (g : TJac B k b c) : TJac B k a c := ⟨⟨g.1.1.trans h.1.1, g.1.2.1.trans h.1.2.1, g.1.2.2.trans h.1.2.2⟩, Nat.le_trans h.2.1 g.2.1, fun i o hi ht => g.2.2 i o (h.2.2 i o hi ht) ht⟩
theorem TJac.ext {B k : Nat} {a b : World} (h : Ext a b) : TJac B k a b := ⟨⟨h.os, h.tape, h.output⟩, h.bsize, fun _ _ hi _ => h.at_ hi⟩
theorem TJac.just {B k g : Nat} {a b : World} {cs : Array Value} {fr : Nat × Nat} (h : Just g a b) (hg : a.heap[g]? = some (.cells cs 83 fr)) (hB : B ≤ g) : TJac B k a b := by
 refine ⟨⟨h.os, h.tape, h.output⟩, h.size, fun i o hi ht => h.at_ ?_ hi⟩
 rintro rfl
 rcases ht with ht | ht
 · omega
 · rw [hg] at hi
   exact ht cs fr (Option.some.inj hi).symm
section
variable {P : Program} {ops : Array Oper} {Q : Exit → Act → World → Prop} {n : Nat}
theorem oper_wide {o : Oper} {a : Act} {w : World} {K : Act → World → Prop} (hd : Par.noDefer o = true) (hh : o.wp P a w K Q) : o.wpIn Fence.wide n P a w K Q := by
 refine ⟨fun _ _ => trivial, ?_⟩
 rw [Oper.semAt_eq _ _ _ (Par.noDefer_spec hd)]
 unfold Oper.wp at hh
 generalize (execOp a.eval o).run P w = r at *
 cases r with
 | ok x w' =>
  cases x <;> simp only [Oper.upon, Oper.uponIn] at hh ⊢
  case enter f args => exact ⟨(fun h => by cases h), (callsIn_wide (n := n - 1)).2 hh⟩
  case row r args => exact ⟨(fun h => by cases h), fun c cs _ => let ⟨v, w'', r, s⟩ := hh c cs; ⟨v, w'', r, stepsIn_wide.2 s⟩⟩
  all_goals first | exact hh | exact hh.elim
 | halt x w' => cases x <;> simp only [Oper.upon, Oper.uponIn] at hh ⊢ <;> exact hh
theorem ops_step {i : Nat} {rest : List Nat} {o : Oper} {a : Act} {w : World} (ho : ops[i]? = some o) (hw : Region.wanted o (yielded ops a.tmps) = true) (hd : Par.noDefer o = true) (h : ∀ K : Act → World → Prop, (∀ a' w', wpOpsIn Fence.wide n P ops Q rest a' w' → K a' w') → o.wp P a w K Q) : wpOpsIn Fence.wide n P ops Q (i :: rest) a w := by
 rw [wpOpsIn_cons]
 refine wpOpIn_step ho fun K hK => ?_
 rw [if_pos hw]
 exact oper_wide hd (h K hK)
end
theorem mult_seq {c : Int} {C : Crv} (hC : IsC c C) {bc bp : Nat} {bi : Bool} {p1 p2 : Value} {x y : Nat} (w : World) (hc : w.heap[bc]? = some (.cells #[.int .i64 c] 3 (0, 0))) (hp : w.heap[bp]? = some (.cells #[.bool bi, p1, p2] 27 (0, 0))) (hv : APt w (.agg #[.bool bi, p1, p2]) bi x y) (ho : onQ C bi x y = true) (N : Nat) :
 SeqAtV Try.prog 65 #[.pointer (some ⟨bc, 0, none⟩), .pointer (some ⟨bp, 0, none⟩)] (fun _ v => #[v]) (fun k v X => ∃ base, w.heap.size ≤ base ∧ PtV X base v (downT C.M (mulJ C.M (upP bi x y) k))) NoNeed TJac (KC w.heap.size) 0 N false w := by
 intro n l' J J' Jx W hn hW _ _ _ _ _ hT hfin hY h0
 have hcW : W.cell? ⟨bc, 0, none⟩ = some (.int .i64 c) := (hW.cell (p := ⟨bc, 0, none⟩) (blk_lt hc)).trans (blk_cell hc 0)
 have hpW : W.heap[bp]? = some (.cells #[.bool bi, p1, p2] 27 (0, 0)) := (hW.block bp (blk_lt hp)).trans hp
 have zW := hW.size
 have HT := Lib.hid hT
 have HY := Lib.hid hY
 have HF := Lib.hid hfin
 have HC := Lib.hid hC
 have HP := Lib.hid (APt.ext hv hW)
 have HO := Lib.hid ho
 have hbpW := blk_lt hpW
 clear hT hY hfin hC hv ho hc hp hW
 obtain ⟨p0, hp0⟩ : ∃ p, upP bi x y = p := ⟨_, rfl⟩
 rw [hp0] at HY
 have Hp0 := Lib.hid hp0
 clear hp0
 refine callsIn_of_wp Try.func65 rfl trivial ?_ rfl
 simp only [Try.ntmps65, List.size_toArray, List.length_cons, List.length_nil, Nat.reduceAdd, Nat.reduceSub, Array.replicate_succ, Array.replicate_zero, List.push_toArray, List.append_toArray, List.nil_append, List.cons_append]
 refine wpIn_wide.2 ?_
 go_upto_region 1 with (go_at_call 42; refine (of_b HC.out _).mono ?_; rintro e wa ⟨k1, rfl, ⟨P0, g, inv, ml, ol, rl, tl, fl, Ap, An, Ab, Ax, Ay, cp, cn, cb, cx, cy, hnn, hP0⟩, hE1⟩)
 have Hk := Lib.hid (show OfD C W.heap.size wa.heap.size wa k1 from ⟨P0, g, inv, ml, ol, rl, tl, fl, Ap, An, Ab, Ax, Ay, cp, cn, cb, cx, cy, hnn, hP0, Nat.le_refl _⟩)
 have HE := Lib.hid hE1
 have hpa := hE1.at_ hpW
 clear hnn hP0 hE1 hcW hpW
 refine Par.region_txt 4 [0, 0, 3, 7] [] (fun j f X => match j with
  | 0 => f 0 = .pointer (some ⟨k1, 0, none⟩)
  | 1 => f 1 = .agg #[.bool bi, p1, p2]
  | 2 => f 2 = .bool true
  | 3 => f 3 = .bool false
  | _ => True) (by kernel_rfl) [(9, 0), (10, 1), (11, 2), (12, 3)] (by kernel_rfl) ?_
 refine Par.v0 1 3 ?_
 refine lV0 2 2 hpa infoP ?_
 refine Par.c0 3 1 (fun f => #[f 0, f 1]) (F' := 43) (fun f X hX hR => ?_) ?_
 · have e0 : f 0 = _ := hR.out 0 rfl
   have e1 : f 1 = _ := hR.out 1 rfl
   simp only [e0, e1]
   refine (on_j (Hk.out.of.ext hX) HC.out.fine (HP.out.ext (HE.out.trans hX))).mono ?_
   rw [HO.out]
   rintro e w2 ⟨rfl, hB⟩
   exact ⟨_, rfl, hB, fun _ _ => rfl⟩
 refine Par.v1 4 0 2 ?_
 refine Par.AllOps.fin ⟨fun f X hX hR hal hap => ?_⟩
 have e3 : f 3 = _ := hR 3 (by decide)
 simp only [yA, yB, yD, yE, e3]
 clear hR hal hap e3
 refine Par.Chain.done ?_
 replace HE := Lib.hid (HE.out.trans hX)
 replace hpa := hX.at_ hpa
 replace Hk := Lib.hid (Hk.out.kc (KC.ext hX))
 have hab := hX.bsize
 clear hX
 rename World => wb
 have hWb := HE.out.bsize
 go_upto_region 2 with fail
 refine Par.region_txt 4 [0, 0, 3, 0, 15] [3] (fun j f X => match j with
  | 0 => f 0 = .pointer (some ⟨k1, 0, none⟩)
  | 1 => f 1 = .agg #[.bool bi, p1, p2]
  | 2 => ∃ v, f 2 = v ∧ JAt C v p0
  | 3 => ∃ b, f 3 = .pointer (some ⟨b, 0, none⟩) ∧ wb.heap.size ≤ b ∧ X.heap[b]? = some (.cells #[.int .u64 0, .int .u64 0, .int .u64 0, .int .u64 0, .int .u64 0, .int .u64 0, .int .u64 0, .int .u64 0, .int .u64 0, .int .u64 0, .int .u64 0, .int .u64 0, .int .u64 0, .int .u64 0, .int .u64 0, .int .u64 0, .int .u64 0, .int .u64 0] 83 (0, 0))
  | _ => True) (by kernel_rfl) [(13, 0), (14, 1), (15, 2), (5, 3)] (by kernel_rfl) ?_
 refine Par.v0 1 3 ?_
 refine lV0 2 2 hpa infoP ?_
 refine Par.c0 3 1 (fun f => #[f 0, f 1]) (F' := 46) (fun f X hX hR => ?_) ?_
 · have e0 : f 0 = _ := hR.out 0 rfl
   have e1 : f 1 = _ := hR.out 1 rfl
   simp only [e0, e1]
   refine (up_j (Hk.out.of.ext hX) (HP.out.ext (HE.out.trans hX)) HO.out).mono ?_
   rw [Hp0.out]
   rintro e w2 ⟨o, rfl, hj, hB⟩
   exact ⟨o, rfl, hB, fun _ _ => ⟨_, rfl, hj⟩⟩
 refine Par.al 4 0 ?_
 refine Par.AllOps.fin ⟨fun f X hX hR hal hap => ?_⟩
 obtain ⟨v2, (e2 : f 2 = _), j2⟩ := hR 2 (by decide)
 obtain ⟨bu3, (e3 : f 3 = _), lu3, hu3⟩ := hR 3 (by decide)
 simp only [yA, yB, yD, yE, e2, e3]
 clear hR hal hap e2 e3
 obtain ⟨ox, oy, oz, ev, hf⟩ := j2
 subst ev
 refine Par.Chain.next (fun K hK => ⟨Par.want (by kernel_rfl) (wp_storeJ (x := ox) (y := oy) (z := oz) (.tmp 5) (.tmp 15) rfl rfl rfl rfl hu3 rfl hf.x.elt.six hf.y.elt.six hf.z.elt.six (fun Y hY1 hY2 hY3 => hK.out _ _ ?_))⟩)
 refine Par.Chain.done ?_
 have hXY := hY2.ext hX lu3
 replace HE := Lib.hid (HE.out.trans hXY)
 replace Hk := Lib.hid (Hk.out.kc (KC.ext hXY))
 have Hf := Lib.hid hf
 have zY := hY1.lt'
 have hb5 : W.heap.size ≤ bu3 := Nat.le_trans hWb lu3
 have hU5 : wa.heap.size ≤ bu3 := Nat.le_trans hab lu3
 clear hX hY2 hY3 hu3 lu3 hf hXY hpa
 rename World => wc
 go_upto_region 3 with fail
 refine Par.region_txt 2 [0, 0, 3] [1] (fun j f X => match j with
  | 0 => f 0 = JV ox oy oz
  | 1 => ∃ b, f 1 = .pointer (some ⟨b, 0, none⟩) ∧ wc.heap.size ≤ b ∧ X.heap[b]? = some (.cells #[.int .u64 0, .int .u64 0, .int .u64 0, .int .u64 0, .int .u64 0, .int .u64 0, .int .u64 0, .int .u64 0, .int .u64 0, .int .u64 0, .int .u64 0, .int .u64 0, .int .u64 0, .int .u64 0, .int .u64 0, .int .u64 0, .int .u64 0, .int .u64 0] 83 (0, 0))
  | _ => True) (by kernel_rfl) [(16, 0), (6, 1)] (by kernel_rfl) ?_
 refine lV0 1 1 hY1 (by rw [Hf.out.sz]; exact infoJ) ?_
 refine Par.al 2 0 ?_
 refine Par.AllOps.fin ⟨fun f X hX hR hal hap => ?_⟩
 have e0 : f 0 = _ := hR 0 (by decide)
 obtain ⟨bq1, (e1 : f 1 = _), lq1, hq1⟩ := hR 1 (by decide)
 simp only [yA, yB, yD, yE, e0, e1]
 clear hR hal hap e0 e1
 refine Par.Chain.next (fun K hK => ⟨Par.want (by kernel_rfl) (wp_storeJ (x := ox) (y := oy) (z := oz) (.tmp 6) (.tmp 16) rfl rfl rfl rfl hq1 rfl Hf.out.x.elt.six Hf.out.y.elt.six Hf.out.z.elt.six (fun Y hZ1 hZ2 hZ3 => hK.out _ _ ?_))⟩)
 refine Par.Chain.done ?_
 have hXY := hZ2.ext hX lq1
 replace HE := Lib.hid (HE.out.trans hXY)
 replace Hk := Lib.hid (Hk.out.kc (KC.ext hXY))
 have HJ5 := Lib.hid (show JBlk C Y bu3 p0 from ⟨ox, oy, oz, hXY.at_ hY1, Hf.out⟩)
 have HJ6 := Lib.hid (show JBlk C Y bq1 p0 from ⟨ox, oy, oz, hZ1, Hf.out⟩)
 have hb6 : bu3 < bq1 := Nat.lt_of_lt_of_le zY lq1
 clear hX hZ1 hZ2 hZ3 hq1 lq1 hXY hY1 Hf
 rename World => wd
 go_wp2
 refine (wpIn_wide (n := n)).1 ?_
 gi_loopg [6] N (fun d i wr => ∃ (k b6 : Nat) (Wk : World), d + k = N ∧ i = .pointer (some ⟨b6, 0, none⟩) ∧ J k Wk ∧ TJac W.heap.size k Wk wr ∧ JBlk C wr bu3 p0 ∧ JBlk C wr b6 (mulJ C.M p0 k) ∧ bu3 < b6 ∧ OfD C W.heap.size wa.heap.size wr k1)
 case atStart => exact ⟨0, bq1, W, Nat.add_zero _, rfl, h0, TJac.ext HE.out, HJ5.out, HJ6.out, hb6, Hk.out⟩
 case round =>
  obtain ⟨k, b6, Wk, hdk, rfl, hJk, hTk, h5, h6, hb56, hkk⟩ := hrel
  clear HJ5 HJ6 Hk HE h0 hb6
  have hb5' := hb5
  obtain ⟨jx, jy, jz, hjb, hjf⟩ := h6
  have z6 := hjb.lt'
  have Hjf := Lib.hid hjf
  have Hkk := Lib.hid hkk
  have H5 := Lib.hid h5
  have HTk := Lib.hid hTk
  clear hjf hkk h5 hTk
  gi_upto_region 4 with fail
  refine wpIn_region ?_
  show wpOpsIn _ _ _ _ _ [0, 1, 2, 3, 4] _ _
  refine ops_step rfl (by kernel_rfl) (by kernel_rfl) (fun K hK => ?_)
  go_simp
  refine hK _ _ ?_
  clear hK
  refine ops_step rfl (by kernel_rfl) (by kernel_rfl) (fun K hK => ?_)
  go_simp
  refine hK _ _ ?_
  clear hK
  refine ops_step rfl (by kernel_rfl) (by kernel_rfl) (fun K hK => ?_)
  refine wp_loadV (v := JV jx jy jz) (t := 83) 83 (.tmp 6) rfl rfl hjb Try.underlying83 rfl (by rw [Hjf.out.sz]; exact infoJ) rfl ?_
  refine hK _ _ ?_
  clear hK
  simp only [Act.put, List.setIfInBounds_toArray]
  refine ops_step rfl (by kernel_rfl) (by kernel_rfl) (fun K hK => ?_)
  go_simp
  refine (down_j Hkk.out.of HC.out.plen ⟨jx, jy, jz, rfl, Hjf.out⟩).mono ?_
  rintro e w4 ⟨o, rfl, hpt, hE4⟩
  go_simp
  refine hK _ _ ?_
  clear hK
  have hJ4 := HT.out k Wk w4 (by omega) hJk (HTk.out.trans (TJac.ext hE4))
  have z4 := hE4.bsize
  by_cases hkN : k = N
  · subst hkN
    exact absurd hJ4 (HF.out trivial w4)
  obtain ⟨fn, tmps, assign, body, hy, hRo⟩ := HY.out k o w4 hJ4 ⟨wr.heap.size, by omega, hpt⟩ (by omega) (by omega)
  have HE4 := Lib.hid hE4
  clear hpt hE4 hJ4 hJk
  rw [wpOpsIn_cons]
  refine wpOpIn_step rfl (fun K hK => ?_)
  rw [if_pos (by kernel_rfl)]
  gi_wp2
  refine hRo.mono ?_
  rintro e W3 (⟨rfl, hJ3, hk3, _⟩ | ⟨rfl, hJx3, _⟩)
  · have hKC : KC W.heap.size wr W3 := KC.trans (KC.ext HE4.out) (hk3.mono zW)
    have Hk3 := Lib.hid (Hkk.out.kc hKC)
    obtain ⟨ax, ay, az, hab, haf⟩ := H5.out.kc hKC hb5
    have Haf := Lib.hid haf
    have hjb3 : BlkJ W3 b6 jx jy jz := hKC.2 _ _ _ _ hjb (.inl (by omega))
    have z3 := hKC.1
    clear hKC haf hjb hk3 Hkk H5 HTk hy hRo HE4
    gi_wp2
    simp only [wpOpsIn]
    gi_upto_region 5 with fail
    refine wpIn_wide.2 ?_
    refine Par.region_txt 4 [0, 0, 0, 7, 15] [] (fun j f X => match j with
     | 0 => f 0 = .pointer (some ⟨k1, 0, none⟩)
     | 1 => ∃ v, f 1 = v ∧ JAt C v (mulJ C.M p0 k)
     | 2 => ∃ v, f 2 = v ∧ JAt C v p0
     | 3 => ∃ v, f 3 = v ∧ JAt C v (mulJ C.M p0 (k + 1))
     | _ => True) (by kernel_rfl) [(22, 0), (23, 1), (24, 2), (25, 3)] (by kernel_rfl) ?_
    refine Par.v0 1 3 ?_
    refine Par.S 2 2 [(22, 0), (24, 2)] (fun f X hX hR K hK => ?_) ?_
    · simp only [yA, yB, yC, yD, yE]
      refine ⟨Par.want (by kernel_rfl) (wp_loadV (v := JV jx jy jz) (t := 83) 83 (.tmp 6) rfl rfl (hX.at_ hjb3) Try.underlying83 rfl (by rw [Hjf.out.sz]; exact infoJ) rfl ?_)⟩
      exact hK.out _ (JV jx jy jz) _ (by simp only [yA, yB, yC, yD, yE]) (Ext.refl _) trivial (fun _ _ => ⟨_, rfl, ⟨jx, jy, jz, rfl, Hjf.out⟩⟩)
    refine Par.S 3 1 [(22, 0), (23, 1)] (fun f X hX hR K hK => ?_) ?_
    · simp only [yA, yB, yC, yD, yE]
      refine ⟨Par.want (by kernel_rfl) (wp_loadV (v := JV ax ay az) (t := 83) 83 (.tmp 5) rfl rfl (hX.at_ hab) Try.underlying83 rfl (by rw [Haf.out.sz]; exact infoJ) rfl ?_)⟩
      exact hK.out _ (JV ax ay az) _ (by simp only [yA, yB, yC, yD, yE]) (Ext.refl _) trivial (fun _ _ => ⟨_, rfl, ⟨ax, ay, az, rfl, Haf.out⟩⟩)
    refine Par.c0 4 0 (fun f => #[f 0, f 1, f 2]) (F' := 47) (fun f X hX hR => ?_) ?_
    · have e0 : f 0 = _ := hR.out 0 rfl
      obtain ⟨v1, (e1 : f 1 = _), j1⟩ := hR.out 1 rfl
      obtain ⟨v2, (e2 : f 2 = _), j2⟩ := hR.out 2 rfl
      simp only [e0, e1, e2]
      refine (add_j (Hk3.out.of.ext hX) j1 j2).mono ?_
      rintro e w2 ⟨o, rfl, hj, hB⟩
      exact ⟨o, rfl, hB, fun _ _ => ⟨_, rfl, hj⟩⟩
    refine Par.AllOps.fin ⟨fun f X hX hR hal hap => ?_⟩
    obtain ⟨v1, (e1 : f 1 = _), j1⟩ := hR 1 (by decide)
    obtain ⟨v2, (e2 : f 2 = _), j2⟩ := hR 2 (by decide)
    obtain ⟨v3, (e3 : f 3 = _), j3⟩ := hR 3 (by decide)
    simp only [yA, yB, yD, yE, e1, e2, e3]
    clear hR hal hap e1 e2 e3
    obtain ⟨ox', oy', oz', ev, hf⟩ := j3
    subst ev
    refine Par.Chain.next (fun K hK => ⟨Par.want (by kernel_rfl) (wp_storeJ (x := ox') (y := oy') (z := oz') (.tmp 6) (.tmp 25) rfl rfl rfl rfl (hX.at_ hjb3) Hjf.out.sz hf.x.elt.six hf.y.elt.six hf.z.elt.six (fun Y hY1 hY2 hY3 => hK.out _ _ ?_))⟩)
    refine Par.Chain.done ?_
    have hT3 : TJac W.heap.size k W3 Y := (TJac.ext hX).trans (TJac.just hY2 (hX.at_ hjb3) (by omega))
    have HT3 := Lib.hid hT3
    have haY := hY2.at_ (show bu3 ≠ b6 by omega) (hX.at_ hab)
    have HkY := Lib.hid (Hk3.out.just3 hX hY2 (hX.at_ hjb3) (by omega))
    have Hf' := Lib.hid hf
    have zY' := hY2.size
    have zX' := hX.bsize
    clear hT3 hY2 hY3 hX hab hjb3 hf Hk3 Hjf
    rename World => V5
    gi_upto_region 6 with fail
    refine wpIn_wide.2 ?_
    refine Par.region_txt 1 [0] [] (fun j f X => match j with
     | 0 => f 0 = JV ox' oy' oz'
     | _ => True) (by kernel_rfl) [(26, 0)] (by kernel_rfl) ?_
    refine lV0 1 0 hY1 (by rw [Hf'.out.sz]; exact infoJ) ?_
    refine Par.AllOps.fin ⟨fun f X hX hR hal hap => ?_⟩
    have e0 : f 0 = _ := hR 0 (by decide)
    simp only [yA, yB, yD, yE, e0]
    clear hR hal hap e0
    refine Par.Chain.done ?_
    replace HT3 := Lib.hid (HT3.out.trans (TJac.ext hX))
    replace haY := hX.at_ haY
    replace HkY := Lib.hid (HkY.out.kc (KC.ext hX))
    have zX6 := hX.bsize
    clear hX hY1
    rename World => V6
    gi_upto_region 7 with fail
    refine wpIn_wide.2 ?_
    refine Par.region_txt 1 [0, 1] [0] (fun j f X => match j with
     | 0 => ∃ b, f 0 = .pointer (some ⟨b, 0, none⟩) ∧ V6.heap.size ≤ b ∧ X.heap[b]? = some (.cells #[.int .u64 0, .int .u64 0, .int .u64 0, .int .u64 0, .int .u64 0, .int .u64 0, .int .u64 0, .int .u64 0, .int .u64 0, .int .u64 0, .int .u64 0, .int .u64 0, .int .u64 0, .int .u64 0, .int .u64 0, .int .u64 0, .int .u64 0, .int .u64 0] 83 (0, 0))
     | _ => True) (by kernel_rfl) [(6, 0)] (by kernel_rfl) ?_
    refine Par.al 1 0 ?_
    refine Par.AllOps.fin ⟨fun f X hX hR hal hap => ?_⟩
    obtain ⟨bt0, (e0 : f 0 = _), lt0, ht0⟩ := hR 0 (by decide)
    simp only [yA, yB, yD, yE, e0]
    clear hR hal hap e0
    refine Par.Chain.next (fun K hK => ⟨Par.want (by kernel_rfl) (wp_storeJ (x := ox') (y := oy') (z := oz') (.tmp 6) (.tmp 26) rfl rfl rfl rfl ht0 rfl Hf'.out.x.elt.six Hf'.out.y.elt.six Hf'.out.z.elt.six (fun Y hZ1 hZ2 hZ3 => hK.out _ _ ?_))⟩)
    refine Par.Chain.done ?_
    have hXY := hZ2.ext hX lt0
    gi_wp2
    gi_roundg (gk - 1)
    case rel => exact ⟨k + 1, bt0, W3, by omega, rfl, hJ3, HT3.out.trans (TJac.ext hXY), ⟨ax, ay, az, hXY.at_ haY, Haf.out⟩, ⟨ox', oy', oz', hZ1, Hf'.out⟩, by omega, HkY.out.kc (KC.ext hXY)⟩
    case measure => omega
  · gi_wp2
    simp only [wpOpsIn]
    gi_wp2
    go_end0
    exact ⟨⟨_, rfl⟩, .inr ⟨k + 1, by omega, by omega, hJx3⟩⟩
end Go.Proofs.Ytldhmjfjbalakaa

namespace Go.Proofs.Ytldhmjfjbalakaa
open Gl
def rs (M : Nat) (bi : Bool) (x y : Nat) : Nat → Bool × Nat × Nat
 | 0 => (true, 0, 0)
 | k + 1 => raddP M (rs M bi x y k).1 (rs M bi x y k).2.1 (rs M bi x y k).2.2 bi x y
section
variable {M : Nat} [NeZero M] {b : Fin M}
theorem mulJ_rp (h : Cv ivp b) {p : Nat × Nat × Nat} {P : Pt M} (hr : RpN p P) (hP : On b P) : ∀ k, RpN (mulJ M p k) (nm ivp P (k + 1))
 | 0 => hr
 | k + 1 => addT_rp h (mulJ_rp h hr hP k) hr (h.on_nm hP _) hP
theorem rs_rp (hp : Pm.Prime M) (h : Cv ivp b) {bi : Bool} {x y : Nat} (hP : On b (toP (M := M) bi x y)) (hx : bi = false → x < M ∧ y < M) (hx0 : bi = true → x = 0 ∧ y = 0) : ∀ k, rs M bi x y k = trip (natP (M := M) (nm ivp (toP bi x y) k))
  | 0 => rfl
  | k + 1 => by
    have ih := rs_rp hp h hP hx hx0 k
    obtain ⟨Q, hQ⟩ : ∃ Q, nm ivp (toP (M := M) bi x y) k = Q := ⟨_, rfl⟩
    have hon : On b Q := by rw [← hQ]; exact h.on_nm hP k
    rw [hQ] at ih
    show raddP M (rs M bi x y k).1 (rs M bi x y k).2.1 (rs M bi x y k).2.2 bi x y = trip (natP (M := M) (ad ivp (nm ivp (toP bi x y) k) (toP bi x y)))
    rw [ih, hQ]
    have e1 := toP_natP (P := Q)
    have hr := radd_rp hp h (bi := (natP Q).isNone) (x := (natP Q).elim 0 (·.1)) (y := (natP Q).elim 0 (·.2)) (bj := bi) (u := x) (v := y) (by rw [e1]; exact hon) hP
      (fun hn => by
        cases hq : natP Q with
        | none => rw [hq] at hn; cases hn
        | some q => exact natP_lt hq) hx
      (fun hn => by
        cases hq : natP Q with
        | none => exact ⟨rfl, rfl⟩
        | some q => rw [hq] at hn; cases hn) hx0
    rw [e1] at hr
    exact hr
end
theorem mult_agree {c : Int} {C : Crv} (hC : IsC c C) {bi : Bool} {x y x' y' : Nat} (h1 : onQ C bi x y = true) (hx : (if bi then 0 else x) = x') (hy : (if bi then 0 else y) = y') (k : Nat) :
 rs C.M bi x' y' (k + 1) = trip (downT C.M (mulJ C.M (upP bi x y) k)) ∧ ((rs C.M bi x' y' k).1 = false → (rs C.M bi x' y' k).2.1 < C.M ∧ (rs C.M bi x' y' k).2.2 < C.M) := by
 obtain ⟨_, hp, hc⟩ := hC.cv
 have g1 := onQ_onB h1
 have hP := onQ_on (M := C.M) (b := ph C.bb) rfl g1
 have e1 : toP (M := C.M) bi x y = toP bi x' y' := by subst hx hy; cases bi <;> rfl
 have hP' := hP
 rw [e1] at hP'
 have hs := rs_rp hp hc hP' (fun h => by subst h hx hy; exact onB_lt (g1 rfl)) (fun h => by subst h; exact ⟨hx.symm, hy.symm⟩)
 refine ⟨?_, fun hn => ?_⟩
 · rw [hs (k + 1), downT_rp hp (mulJ_rp hc (upP_rp hc.one bi x y) hP k), e1]
 · rw [hs k] at hn ⊢
   cases hq : natP (nm ivp (toP (M := C.M) bi x' y') k) with
   | none => rw [hq] at hn; cases hn
   | some q => exact natP_lt hq
end Go.Proofs.Ytldhmjfjbalakaa

namespace Go.Proofs.Ytldhmjfjbalakaa
open Go.RowKit
theorem onx_c {c : Int} {C : Crv} (hC : IsC c C) {p : Value} {bi : Bool} {x y : Nat} (w : World) (hp : APt w p bi x y) :
 Calls Try.prog 37 #[.int .i64 c, p] w fun e w' => e = .returned (.bool (onQ C bi x y)) ∧ Ext w w' := by
 obtain ⟨p1, p2, rfl⟩ := apt_agg hp
 obtain ⟨W0, hW0⟩ : ∃ W0, W0 = w.alloc (.cells #[.bool bi, p1, p2] 27) := ⟨_, rfl⟩
 obtain ⟨q, hq⟩ : ∃ q, w.heap.size = q := ⟨_, rfl⟩
 have hE0 : Ext w W0 := by rw [hW0]; exact Ext.alloc _ _
 have h1 := heap_alloc_new w (.cells #[.bool bi, p1, p2] 27)
 rw [← hW0, hq] at h1
 have hp0 := Lib.hid (hp.ext hE0)
 have HE0 := Lib.hid hE0
 have HC := Lib.hid hC
 obtain ⟨res, hres⟩ : ∃ o, onQ C bi x y = o := ⟨_, rfl⟩
 rw [hres]
 have Hres := Lib.hid hres
 clear hp hE0 hC hres
 go_enter Try.func37, Try.ntmps37
 go_upto_region 1 with fail
 rw [← hW0]
 clear hW0 hq
 refine Par.region_ext (by kernel_rfl) 5 [0, 1, 0, 7, 15] [] (fun j f X => match j with
  | 0 => f 0 = .int .i64 c
  | 1 => ∃ k, f 1 = .pointer (some ⟨k, 0, none⟩) ∧ OfC C X k
  | 2 => f 2 = .agg #[.bool bi, p1, p2]
  | 3 => f 3 = .bool res
  | 4 => f 4 = .bool res
  | _ => True) (by kernel_rfl) [(5, 0), (6, 1), (7, 2), (8, 3), (4, 4)] (by kernel_rfl) ?_
 refine Par.v0 1 4 ?_
 refine Par.c0 2 3 (fun f => #[f 0]) (F' := 42) (fun f X hX hR => ?_) ?_
 · have e0 : f 0 = .int .i64 c := hR.out 0 rfl
   simp only [e0]
   refine (of_c HC.out X).mono ?_
   rintro e w2 ⟨k, rfl, hk, hB⟩
   exact ⟨_, rfl, hB, fun Y hY => ⟨k, rfl, hk.ext hY⟩⟩
 refine lV0 3 2 h1 infoP ?_
 refine Par.c0 4 1 (fun f => #[f 1, f 2]) (F' := 43) (fun f X hX hR => ?_) ?_
 · obtain ⟨k1, e1, hk1⟩ : ∃ k, f 1 = .pointer (some ⟨k, 0, none⟩) ∧ OfC C X k := hR.out 1 rfl
   have e2 : f 2 = .agg #[.bool bi, p1, p2] := hR.out 2 rfl
   simp only [e1, e2]
   refine (on_j hk1 HC.out.fine (hp0.out.ext hX)).mono ?_
   rw [Hres.out]
   rintro e w2 ⟨rfl, hB⟩
   exact ⟨_, rfl, hB, fun _ _ => rfl⟩
 refine Par.v1 5 0 3 ?_
 refine Par.AllOps.fin ⟨fun f X hX hR hal hap => ?_⟩
 obtain ⟨k1, e1, hk1⟩ : ∃ k, f 1 = .pointer (some ⟨k, 0, none⟩) ∧ OfC C X k := hR 1 (by decide)
 have e4 : f 4 = .bool res := hR 4 (by decide)
 simp only [Par.putL, Act.put, List.setIfInBounds_toArray, List.set_cons_succ, List.set_cons_zero, e1, e4]
 clear hR hal hap e1 e4
 refine Par.Chain.done ?_
 go_wp2
 go_ret
 exact ⟨rfl, HE0.out.trans hX⟩
theorem multiples_any (c : Int) {bi : Bool} {p1 p2 : Value} (w : World) :
 Calls Try.prog 30 #[.int .i64 c, .agg #[.bool bi, p1, p2]] w fun e w' => e = .returned (.func (.func 65) #[] #[.pointer (some ⟨w.heap.size, 0, none⟩), .pointer (some ⟨w.heap.size + 1, 0, none⟩)]) ∧
  w' = (w.alloc (.cells #[.int .i64 c] 3)).alloc (.cells #[.bool bi, p1, p2] 27) := by
 go_enter Try.func30, Try.ntmps30
 go_wp2
 go_ret
 exact ⟨rfl, rfl⟩
theorem mult_off {c : Int} {C : Crv} (hC : IsC c C) {bc bp : Nat} {bi : Bool} {p1 p2 : Value} {x y : Nat} (w : World) (hc : w.heap[bc]? = some (.cells #[.int .i64 c] 3 (0, 0))) (hp : w.heap[bp]? = some (.cells #[.bool bi, p1, p2] 27 (0, 0))) (hv : APt w (.agg #[.bool bi, p1, p2]) bi x y) (ho : onQ C bi x y = false) (Vs : Nat → Value → World → Prop) :
 SeqAtV Try.prog 65 #[.pointer (some ⟨bc, 0, none⟩), .pointer (some ⟨bp, 0, none⟩)] (fun _ v => #[v]) Vs NoNeed TJac (KC w.heap.size) 0 0 true w := by
 intro n l' J J' Jx W hn hW _ _ _ _ _ hT _ _ h0
 have hcW : W.cell? ⟨bc, 0, none⟩ = some (.int .i64 c) := (hW.cell (p := ⟨bc, 0, none⟩) (blk_lt hc)).trans (blk_cell hc 0)
 have hpW : W.heap[bp]? = some (.cells #[.bool bi, p1, p2] 27 (0, 0)) := (hW.block bp (blk_lt hp)).trans hp
 have HT := Lib.hid hT
 have HC := Lib.hid hC
 have HP := Lib.hid (APt.ext hv hW)
 have HO := Lib.hid ho
 clear hT hC hv ho hp hc hW
 refine callsIn_of_wp Try.func65 rfl trivial ?_ rfl
 simp only [Try.ntmps65, List.size_toArray, List.length_cons, List.length_nil, Nat.reduceAdd, Nat.reduceSub, Array.replicate_succ, Array.replicate_zero, List.push_toArray, List.append_toArray, List.nil_append, List.cons_append]
 refine wpIn_wide.2 ?_
 go_upto_region 1 with (go_at_call 42; refine (of_c HC.out _).mono ?_; rintro e wa ⟨k1, rfl, hk, hE1⟩)
 have Hk := Lib.hid hk
 have HE := Lib.hid hE1
 have hpa := hE1.at_ hpW
 clear hk hE1 hcW hpW
 refine Par.region_txt 4 [0, 0, 3, 7] [] (fun j f X => match j with
  | 0 => f 0 = .pointer (some ⟨k1, 0, none⟩)
  | 1 => f 1 = .agg #[.bool bi, p1, p2]
  | 2 => f 2 = .bool false
  | 3 => f 3 = .bool true
  | _ => True) (by kernel_rfl) [(9, 0), (10, 1), (11, 2), (12, 3)] (by kernel_rfl) ?_
 refine Par.v0 1 3 ?_
 refine lV0 2 2 hpa infoP ?_
 refine Par.c0 3 1 (fun f => #[f 0, f 1]) (F' := 43) (fun f X hX hR => ?_) ?_
 · have e0 : f 0 = .pointer (some ⟨k1, 0, none⟩) := hR.out 0 rfl
   have e1 : f 1 = .agg #[.bool bi, p1, p2] := hR.out 1 rfl
   simp only [e0, e1]
   refine (on_j (Hk.out.ext hX) HC.out.fine (HP.out.ext (HE.out.trans hX))).mono ?_
   rw [HO.out]
   rintro e w2 ⟨rfl, hB⟩
   exact ⟨_, rfl, hB, fun _ _ => rfl⟩
 refine Par.v1 4 0 2 ?_
 refine Par.AllOps.fin ⟨fun f X hX hR hal hap => ?_⟩
 have e3 : f 3 = .bool true := hR 3 (by decide)
 simp only [Par.putL, Act.put, List.setIfInBounds_toArray, List.set_cons_succ, List.set_cons_zero, e3]
 clear hR hal hap e3
 refine Par.Chain.done ?_
 go_wp2
 refine bodyPost_ret (results_none rfl _ _ _) rfl ?_
 exact ⟨⟨_, rfl⟩, .inl (HT.out 0 W _ (Nat.le_refl _) h0 (TJac.ext (HE.out.trans hX)))⟩
theorem mult_none {c : Int} (g1 : c ≠ 1) (g2 : c ≠ 2) {bc bp : Nat} {bi : Bool} {p1 p2 : Value} (w : World) (hc : w.heap[bc]? = some (.cells #[.int .i64 c] 3 (0, 0))) (hp : w.heap[bp]? = some (.cells #[.bool bi, p1, p2] 27 (0, 0))) (Vs : Nat → Value → World → Prop) :
 SeqAtV Try.prog 65 #[.pointer (some ⟨bc, 0, none⟩), .pointer (some ⟨bp, 0, none⟩)] (fun _ v => #[v]) Vs NoNeed TJac (KC w.heap.size) 0 0 true w := by
 intro n l' J J' Jx W hn hW _ _ _ _ _ hT _ _ h0
 have hcW : W.cell? ⟨bc, 0, none⟩ = some (.int .i64 c) := (hW.cell (p := ⟨bc, 0, none⟩) (blk_lt hc)).trans (blk_cell hc 0)
 have hpW : W.heap[bp]? = some (.cells #[.bool bi, p1, p2] 27 (0, 0)) := (hW.block bp (blk_lt hp)).trans hp
 have HT := Lib.hid hT
 clear hT hp hc hW
 refine callsIn_of_wp Try.func65 rfl trivial ?_ rfl
 simp only [Try.ntmps65, List.size_toArray, List.length_cons, List.length_nil, Nat.reduceAdd, Nat.reduceSub, Array.replicate_succ, Array.replicate_zero, List.push_toArray, List.append_toArray, List.nil_append, List.cons_append]
 refine wpIn_wide.2 ?_
 go_upto_region 1 with (go_at_call 42; refine (of_nil g1 g2 _).mono ?_; rintro e wa ⟨rfl, hE1⟩)
 have HE := Lib.hid hE1
 have hpa := hE1.at_ hpW
 clear hE1 hcW hpW
 refine Par.region_txt 4 [0, 0, 3, 7] [] (fun j f X => match j with
  | 0 => f 0 = .pointer none
  | 1 => f 1 = .agg #[.bool bi, p1, p2]
  | 2 => f 2 = .bool false
  | 3 => f 3 = .bool true
  | _ => True) (by kernel_rfl) [(9, 0), (10, 1), (11, 2), (12, 3)] (by kernel_rfl) ?_
 refine Par.v0 1 3 ?_
 refine lV0 2 2 hpa infoP ?_
 refine Par.c0 3 1 (fun f => #[f 0, f 1]) (F' := 43) (fun f X hX hR => ?_) ?_
 · have e0 : f 0 = .pointer none := hR.out 0 rfl
   have e1 : f 1 = .agg #[.bool bi, p1, p2] := hR.out 1 rfl
   simp only [e0, e1]
   refine (on_nil _ _ _ _).mono ?_
   rintro e w2 ⟨rfl, hB⟩
   exact ⟨_, rfl, hB, fun _ _ => rfl⟩
 refine Par.v1 4 0 2 ?_
 refine Par.AllOps.fin ⟨fun f X hX hR hal hap => ?_⟩
 have e3 : f 3 = .bool true := hR 3 (by decide)
 simp only [Par.putL, Act.put, List.setIfInBounds_toArray, List.set_cons_succ, List.set_cons_zero, e3]
 clear hR hal hap e3
 refine Par.Chain.done ?_
 go_wp2
 refine bodyPost_ret (results_none rfl _ _ _) rfl ?_
 exact ⟨⟨_, rfl⟩, .inl (HT.out 0 W _ (Nat.le_refl _) h0 (TJac.ext (HE.out.trans hX)))⟩
theorem minus_rt {C : Crv} {v : Value} {A A' : Option Addr} {c c' x y : Nat} (w : World) (hF : C.Fine) (hc : RC w C v) (h : RU w A c (digs 4294967296 x)) (h' : RU w A' c' (digs 4294967296 y)) (hx : x < C.M) (hy : y < C.M) :
 Calls Try.prog 54 #[v, .slice A (digs 4294967296 x).length c, .slice A' (digs 4294967296 y).length c'] w fun e w' => ∃ A1 c1, e = .returned (.slice A1 (digs 4294967296 (sm C.M x y)).length c1) ∧ RT w' A1 c1 (digs 4294967296 (sm C.M x y)) ∧ Ext w w' := by
 rw [show sm C.M x y = (x + C.M - y) % C.M by rw [sm, Nat.mod_eq_of_lt hy]]
 exact minus_t A A' c c' x y w hc h h' (by have := hF.len' hx; omega) (by have := hF.len; omega) (by omega) (by have := hF.three; omega)
end Go.Proofs.Ytldhmjfjbalakaa
