/- curve: Mul. ecdsa's may: a number from 1 to below the order, told of any curve and any number. ecdsa's Public: the point of a key, told of any curve and any number. SHA-256 as a function on lists: words are 32-bit vectors, bytes are numbers. No program is named here. A rule for a region that draws its order and lays a value into a block that it has made, where one operation (an answer's second part) may come before the store or behind it. Nothing here speaks of the program. -/
import Derived.Test.YtaemogcomplhiaaGreatDoorQ522373167a86
import Derived.Sort.CutIn
import Derived.Sort.AtCallIn
import Derived.TacticsInMore
import Derived.WalkKit
namespace Go.Proofs.YtaemogcomplhiaaGreatDoor
open Go.RowKit Go.Shelf

attribute [local go_sem] Oper.semAt_some

def tabP (M : Nat) (p : Nat × Nat × Nat) : Nat → Nat × Nat × Nat
 | 0 => (1, 1, 0)
 | 1 => p
 | k + 2 => addT M (tabP M p (k + 1)) p
def mulS (M : Nat) (p : Nat × Nat × Nat) (E : Nat) : Nat → (Nat × Nat × Nat) × Nat
 | 0 => ((1, 1, 0), 0)
 | k + 1 => if (bitAt E k).1 % 4 = 0 then (addT M (dblT M (mulS M p E k).1) (tabP M p (2 * (mulS M p E k).2 + (bitAt E k).2)), 0) else (dblT M (mulS M p E k).1, 2 * (mulS M p E k).2 + (bitAt E k).2)
def mulC (C : Crv) (bi : Bool) (x y E : Nat) : Option (Option (Nat × Nat)) := if onQ C bi x y = true then (if nbits E ≤ 4096 then some (downT C.M (mulS C.M (upP bi x y) E (nbits E)).1) else none) else none
theorem one_set {X : World} {b : Nat} {u : Value} {T : TypeId} (h : X.heap[b]? = some (.cells #[u] T (0, 0))) (v : Value) : (X.setCell ⟨b, 0, none⟩ v).heap[b]? = some (.cells #[v] T (0, 0)) ∧ Just b X (X.setCell ⟨b, 0, none⟩ v) :=
 ⟨by simpa using blk_set h 0 v, (Just.refl b X).set 0 v⟩
def JBlk (C : Crv) (X : World) (b : Nat) (p : Nat × Nat × Nat) : Prop := ∃ x y z, BlkJ X b x y z ∧ FJ C.M C.n x y z p.1 p.2.1 p.2.2
theorem BlkJ.lt' {X : World} {b : Nat} {x y z : List Nat} (h : BlkJ X b x y z) : b < X.heap.size := blk_lt h
theorem JBlk.ext {C : Crv} {X Y : World} {b : Nat} {p : Nat × Nat × Nat} (h : JBlk C X b p) (hE : Ext X Y) : JBlk C Y b p := let ⟨x, y, z, h1, h2⟩ := h; ⟨x, y, z, hE.at_ h1, h2⟩
theorem dig_lt (M : Nat) (p : Nat × Nat × Nat) (E : Nat) : ∀ k, k < nbits E → (mulS M p E k).2 * 2 ^ ((nbits E - 1 - k) % 4) < 8
 | 0, _ => by rw [show (mulS M p E 0).2 = 0 from rfl]; omega
 | k + 1, h => by
  have ih := dig_lt M p E k (by omega)
  have hb : (bitAt E k).2 < 2 := Nat.mod_lt _ (by omega)
  have hi : (bitAt E k).1 = nbits E - 1 - k := rfl
  simp only [mulS]
  split
  · simp
  · rename_i hne
    rw [hi] at hne
    obtain ⟨i, hi'⟩ : ∃ i, nbits E - 1 - k = i := ⟨_, rfl⟩
    rw [hi'] at ih hne
    rw [show nbits E - 1 - (k + 1) = i - 1 by omega]
    have hr : i % 4 = 1 ∨ i % 4 = 2 ∨ i % 4 = 3 := by omega
    show (2 * (mulS M p E k).2 + (bitAt E k).2) * _ < 8
    rcases hr with hr | hr | hr
    · rw [hr] at ih
      rw [show (i - 1) % 4 = 0 by omega]
      omega
    · rw [hr] at ih
      rw [show (i - 1) % 4 = 1 by omega]
      omega
    · rw [hr] at ih
      rw [show (i - 1) % 4 = 2 by omega]
      omega
theorem dig_lt8 {M : Nat} {p : Nat × Nat × Nat} {E k : Nat} (h : k < nbits E) : (mulS M p E k).2 < 8 := Nat.lt_of_le_of_lt (Nat.le_mul_of_pos_right _ (Nat.pow_pos (by omega))) (dig_lt M p E k h)
theorem res_pt {fn : Func} {tm : Array Value} {W : World} {p u : Tmp} {g : Nat} {ty : TypeId} {fr : Nat × Nat} {x0 x1 x2 v : Value} (hr : fn.results = #[.cell p 33, .tmp u]) (hp : tm.getD p undef = .pointer (some ⟨g, 0, none⟩)) (hu : tm.getD u undef = v)
 (hg : W.heap[g]? = some (.cells #[x0, x1, x2] ty fr)) : (results fn tm).run Tryz.prog W = .ok (.tuple #[.agg #[x0, x1, x2], v]) W := by
 rw [results_cell_tmp hr, hp]
 have h1 : (asAddr (.pointer (some ⟨g, 0, none⟩)) : Sem Addr).run Tryz.prog W = .ok ⟨g, 0, none⟩ W := rfl
 rw [h1, Result.andThen_ok, run_loadVar_row W g ty 33 #[x0, x1, x2] fr _ hg Tryz.underlying33 rfl infoP, Result.andThen_ok, hu]
theorem JBlk.just {C : Crv} {X Y : World} {b g : Nat} {p : Nat × Nat × Nat} (h : JBlk C X b p) (hj : Just g X Y) (hb : b ≠ g) : JBlk C Y b p := let ⟨x, y, z, h1, h2⟩ := h; ⟨x, y, z, hj.at_ hb h1, h2⟩
theorem OB.putC {X : World} {base D : Nat} {A : Option Addr} {c : Nat} {l : List Nat} {o o' : Obj} (h : OB X base A c l) (hD : X.heap[D]? = some o) (hc : o.isCells = false) : OB (X.putObj D o') base A c l := by
 obtain ⟨h1, h2, h3, h4⟩ := h
 refine ⟨h1, h2, h3, fun hl => ?_⟩
 obtain ⟨g, cur, e, hg, hgc, hr⟩ := h4 hl
 refine ⟨g, cur, e, hg, (World.putObj_heap_other (fun e => ?_)).trans hgc, hr⟩
 subst e
 rw [hD] at hgc
 cases hgc
 cases hc
theorem PtV.put {X : World} {base D : Nat} {v : Value} {p : Option (Nat × Nat)} {o' : Obj} (h : PtV X base v p) (hD : X.heap[D]? = some (.deferred (some []))) : PtV (X.putObj D o') base v p := by
 cases p with
 | none => exact h
 | some p =>
  obtain ⟨A, c, A', c', rfl, h1, h2⟩ := h
  exact ⟨A, c, A', c', rfl, h1.putC hD rfl, h2.putC hD rfl⟩
structure MK (n0 t bo be : Nat) (w3 V Z : World) : Prop where
 keeps : Keeps n0 (n0 + 2) 0 V Z
 stay : Stay t n0 V Z
 below : Below bo w3 Z
 tab : Z.heap[be]? = V.heap[be]?
 size : n0 ≤ Z.heap.size
theorem MK.ext {n0 t bo be : Nat} {w3 V Z Z' : World} (h : MK n0 t bo be w3 V Z) (hE : Ext Z Z') (hbe : be < n0) (hbo : bo ≤ n0) : MK n0 t bo be w3 V Z' :=
 ⟨h.keeps.trans (Keeps.below hE (Nat.le_refl _)), Stay.trans h.stay (hE.stay h.size), h.below.trans (Below.mono hE (by have := h.size; omega)), (Below.block hE be (by have := h.size; omega)).trans h.tab, Nat.le_trans h.size hE.bsize⟩
theorem MK.just {n0 t bo be g : Nat} {w3 V Z Z' : World} {cs : Array Value} {T : TypeId} {fr : Nat × Nat} (h : MK n0 t bo be w3 V Z) (hj : Just g Z Z') (hg : Z.heap[g]? = some (.cells cs T fr)) (hgt : g < t) (hgb : bo ≤ g) (hne : be ≠ g) (hbe : be < n0) (hbo : bo ≤ n0) : MK n0 t bo be w3 V Z' :=
 ⟨h.keeps.trans (Keeps.just hj hg), Stay.trans h.stay (hj.stay hgt h.size), h.below.trans (hj.below hgb (by have := h.size; omega)), (hj.block be (by have := h.size; omega) hne).trans h.tab, Nat.le_trans h.size hj.size⟩
theorem JBlk.below {C : Crv} {X Y : World} {b B : Nat} {p : Nat × Nat × Nat} (h : JBlk C X b p) (hB : Below B X Y) (hb : b < B) : JBlk C Y b p := let ⟨x, y, z, h1, h2⟩ := h; ⟨x, y, z, (hB.block b hb).trans h1, h2⟩
set_option maxRecDepth 100000 in
set_option maxHeartbeats 8000000 in
theorem mul_c {c : Int} {C : Crv} (hC : IsC c C) {p : Value} {bi : Bool} {x y E : Nat} {An : Option Addr} {cn : Nat} {n : List Nat} (w : World) (hp : APt w p bi x y) (hn : RU w An cn n) (hE : val 18446744073709551616 n = E) :
 Calls Tryz.prog 35 #[.int .i64 c, .slice An n.length cn, p] w fun e w' => ∃ o, e = .returned (.tuple #[o, .bool (mulC C bi x y E).isSome]) ∧ PtV w' w.heap.size o (mulC C bi x y E).join ∧ Ext w w' := by
 obtain ⟨A, A', ca, cb, a, b, rfl, ha, hb, hx, hy⟩ := hp
 have hp : APt w (.agg #[.bool bi, .slice A a.length ca, .slice A' b.length cb]) bi x y := ⟨A, A', ca, cb, a, b, rfl, ha, hb, hx, hy⟩
 obtain ⟨W0, hW0⟩ : ∃ W0, W0 = (w.alloc (.cells #[.bool bi, .slice A a.length ca, .slice A' b.length cb] 33)).alloc (.cells #[.bool false, .slice none 0 0, .slice none 0 0] 33) := ⟨_, rfl⟩
 obtain ⟨q, hq⟩ : ∃ q, w.heap.size = q := ⟨_, rfl⟩
 have hE0 : Ext w W0 := by rw [hW0]; exact (Ext.alloc _ _).trans (Ext.alloc _ _)
 obtain ⟨h1, h3, hz0⟩ := two_at2 w (.cells #[.bool bi, .slice A a.length ca, .slice A' b.length cb] 33) (.cells #[.bool false, .slice none 0 0, .slice none 0 0] 33)
 rw [← hW0, hq] at h1 h3 hz0
 have hp0 := Lib.hid (hp.ext hE0)
 have HE0 := Lib.hid hE0
 have Hz0 := Lib.hid hz0
 have HC := Lib.hid hC
 have HN := Lib.hid (RN.up hn hE0)
 have HE := Lib.hid hE
 rw [hq]
 obtain ⟨res, hres⟩ : ∃ o, mulC C bi x y E = o := ⟨_, rfl⟩
 rw [hres]
 have Hres := Lib.hid hres
 clear hp hE0 hz0 hC hres ha hb hx hy hn hE
 obtain ⟨o1, ho1⟩ : ∃ o, onQ C bi x y = o := ⟨_, rfl⟩
 have Ho1 := Lib.hid ho1
 obtain ⟨nb, hnb⟩ : ∃ o, nbits E = o := ⟨_, rfl⟩
 have Hnb := Lib.hid hnb
 clear ho1 hnb
 cases o1
 case false =>
  obtain rfl : res = none := by rw [← Hres.out, mulC, if_neg (by rw [Ho1.out]; decide)]
  go_enter Tryz.func35, Tryz.ntmps35
  go_upto_region 1 with fail
  rw [← hW0]
  have Hq := Lib.hid hq
  clear hW0 hq
  go_upto_region 2 with (go_at_call 64; refine (of_c HC.out _).mono ?_; rintro e wa ⟨k1, rfl, hk1, hE1⟩)
  obtain ⟨b2, hb2⟩ : ∃ b, wa.heap.size = b := ⟨_, rfl⟩
  have h2 := heap_alloc_new wa (.cells #[.pointer (some ⟨k1, 0, none⟩)] 105)
  have hA := Ext.alloc wa (.cells #[.pointer (some ⟨k1, 0, none⟩)] 105)
  rw [hb2] at h2
  have hz1 : (wa.alloc (.cells #[.pointer (some ⟨k1, 0, none⟩)] 105)).heap.size = b2 + 1 := by rw [World.size_alloc, hb2]
  generalize hW1 : wa.alloc (.cells #[.pointer (some ⟨k1, 0, none⟩)] 105) = W1 at *
  rw [hb2]
  have Hk1 := Lib.hid (hk1.ext hA)
  have HE1 := Lib.hid (hE1.trans hA)
  have Hz1 := Lib.hid hz1
  have HB2 := Lib.hid (show q + 2 ≤ b2 by have := hE1.bsize; have := Hz0.out; omega)
  replace h1 := HE1.out.at_ h1
  replace h3 := HE1.out.at_ h3
  have ck := blk_cell h2 0
  simp only [List.getElem?_toArray, List.getElem?_cons_zero] at ck
  clear hk1 hE1 hA hz1 hb2 hW1
  refine Par.region_txt 9 [0, 0, 3, 7, 15, 31, 63, 127, 255] [] (fun j f X => match j with
   | 0 => f 0 = .pointer (some ⟨k1, 0, none⟩)
   | 1 => f 1 = .agg #[.bool bi, .slice A a.length ca, .slice A' b.length cb]
   | 2 => f 2 = .bool false
   | 3 => f 3 = .bool true
   | 4 => f 4 = .bool true
   | 5 => f 5 = undef
   | 6 => f 6 = undef
   | 7 => f 7 = undef
   | 8 => f 8 = .bool true
   | _ => True) (by kernel_rfl) [(17, 0), (18, 1), (19, 2), (20, 3), (21, 4), (22, 5), (23, 6), (24, 7), (25, 8)] (by kernel_rfl) ?_
  refine Par.ld0 1 8 ck ?_
  refine lV0 2 7 h1 infoP ?_
  refine Par.c0 3 6 (fun f => #[f 0, f 1]) (F' := 72) (fun f X hX hR => ?_) ?_
  · have e0 : f 0 = _ := hR.out 0 rfl
    have e1 : f 1 = _ := hR.out 1 rfl
    simp only [e0, e1]
    refine (on_j (Hk1.out.ext hX) HC.out.fine (hp0.out.ext (HE1.out.trans hX))).mono ?_
    rw [Ho1.out]
    rintro e w2 ⟨rfl, hB⟩
    exact ⟨_, rfl, hB, fun _ _ => rfl⟩
  refine Par.v1 4 5 2 ?_
  refine Par.v1 5 4 3 ?_
  refine Par.sk 6 3 4 ?_
  refine Par.sk 7 2 4 ?_
  refine Par.sk 8 1 4 ?_
  refine Par.v2 9 0 4 7 ?_
  refine Par.AllOps.fin ⟨fun f X hX hR hal hap => ?_⟩
  have e8 : f 8 = _ := hR 8 (by decide)
  simp only [yA, yB, yD, yE, e8]
  clear hR hal hap e8
  refine Par.Chain.done ?_
  have hb1 := hX.at_ h3
  go_wp2_with (go_at_call 73; refine (none_any _).mono ?_; rintro e wb ⟨rfl, hE2⟩; have hrb2 := hE2.at_ hb1; obtain ⟨z0, z1, z2, f0, f1, f2⟩ := pt_facts hrb2)
  exact end_pt rfl rfl rfl rfl (pt_set hrb2 _ _ _) ⟨_, rfl, rfl, pt_ext (((HE0.out.trans HE1.out).trans hX).trans hE2) (by have := Hq.out; omega) _ _ _⟩
 case true =>
  by_cases hbits : nb ≤ 4096
  case neg =>
   obtain rfl : res = none := by rw [← Hres.out, mulC, if_pos Ho1.out, if_neg (by rw [Hnb.out]; exact hbits)]
   have Hgt := Lib.hid (show (4096 : Int) < (nb : Int) by omega)
   go_enter Tryz.func35, Tryz.ntmps35
   go_upto_region 1 with fail
   rw [← hW0]
   have Hq := Lib.hid hq
   clear hW0 hq
   go_upto_region 2 with (go_at_call 64; refine (of_c HC.out _).mono ?_; rintro e wa ⟨k1, rfl, hk1, hE1⟩)
   obtain ⟨b2, hb2⟩ : ∃ b, wa.heap.size = b := ⟨_, rfl⟩
   have h2 := heap_alloc_new wa (.cells #[.pointer (some ⟨k1, 0, none⟩)] 105)
   have hA := Ext.alloc wa (.cells #[.pointer (some ⟨k1, 0, none⟩)] 105)
   rw [hb2] at h2
   have hz1 : (wa.alloc (.cells #[.pointer (some ⟨k1, 0, none⟩)] 105)).heap.size = b2 + 1 := by rw [World.size_alloc, hb2]
   generalize hW1 : wa.alloc (.cells #[.pointer (some ⟨k1, 0, none⟩)] 105) = W1 at *
   rw [hb2]
   have Hk1 := Lib.hid (hk1.ext hA)
   have HE1 := Lib.hid (hE1.trans hA)
   have Hz1 := Lib.hid hz1
   have HB2 := Lib.hid (show q + 2 ≤ b2 by have := hE1.bsize; have := Hz0.out; omega)
   replace h1 := HE1.out.at_ h1
   replace h3 := HE1.out.at_ h3
   have ck := blk_cell h2 0
   simp only [List.getElem?_toArray, List.getElem?_cons_zero] at ck
   clear hk1 hE1 hA hz1 hb2 hW1
   refine Par.region_txt 9 [0, 0, 3, 7, 15, 31, 63, 127, 255] [] (fun j f X => match j with
    | 0 => f 0 = .pointer (some ⟨k1, 0, none⟩)
    | 1 => f 1 = .agg #[.bool bi, .slice A a.length ca, .slice A' b.length cb]
    | 2 => f 2 = .bool true
    | 3 => f 3 = .bool false
    | 4 => f 4 = .bool false
    | 5 => f 5 = .slice An n.length cn
    | 6 => f 6 = .int .i64 (nb : Int)
    | 7 => f 7 = .bool true
    | 8 => f 8 = .bool true
    | _ => True) (by kernel_rfl) [(17, 0), (18, 1), (19, 2), (20, 3), (21, 4), (22, 5), (23, 6), (24, 7), (25, 8)] (by kernel_rfl) ?_
   refine Par.ld0 1 8 ck ?_
   refine lV0 2 7 h1 infoP ?_
   refine Par.c0 3 6 (fun f => #[f 0, f 1]) (F' := 72) (fun f X hX hR => ?_) ?_
   · have e0 : f 0 = _ := hR.out 0 rfl
     have e1 : f 1 = _ := hR.out 1 rfl
     simp only [e0, e1]
     refine (on_j (Hk1.out.ext hX) HC.out.fine (hp0.out.ext (HE1.out.trans hX))).mono ?_
     rw [Ho1.out]
     rintro e w2 ⟨rfl, hB⟩
     exact ⟨_, rfl, hB, fun _ _ => rfl⟩
   refine Par.v1 4 5 2 ?_
   refine Par.v1 5 4 3 ?_
   refine Par.v1 6 3 4 ?_
   refine Par.c1 7 2 4 (fun f => #[f 5]) (F' := 62) (fun f X hX hR => ?_) ?_
   · have e5 : f 5 = _ := hR.out 5 rfl
     simp only [e5]
     refine (bits_any _ An cn n X (RN.up HN.out (HE1.out.trans hX))).mono ?_
     rw [HE.out, Hnb.out]
     rintro e w2 ⟨rfl, rfl⟩
     exact ⟨_, rfl, (Ext.refl _), fun _ _ => rfl⟩
   refine Par.S 8 1 [(17, 0), (18, 1), (19, 2), (20, 3), (21, 4), (22, 5), (23, 6)] (fun f X hX hR K hK => ?_) ?_
   · have e4 : f 4 = _ := hR.out 4 rfl
     have e6 : f 6 = _ := hR.out 6 rfl
     have hgt : decide ((4096 : Int) < (nb : Int)) = true := decide_eq_true (by have := Hgt.out; omega)
     have hgn : decide (4096 < nb) = true := decide_eq_true (by have := Hgt.out; omega)
     simp only [yA, yB, yC, yD, yE, e4, e6]
     refine ⟨Par.want (by kernel_rfl) ?_⟩
     go_simp
     exact Par.k hK (s := by simp only [yA, yB, yC, yD, yE, e4, e6])
   refine Par.v2 9 0 4 7 ?_
   refine Par.AllOps.fin ⟨fun f X hX hR hal hap => ?_⟩
   have e8 : f 8 = _ := hR 8 (by decide)
   simp only [yA, yB, yD, yE, e8]
   clear hR hal hap e8
   refine Par.Chain.done ?_
   have hb1 := hX.at_ h3
   go_wp2_with (go_at_call 73; refine (none_any _).mono ?_; rintro e wb ⟨rfl, hE2⟩; have hrb2 := hE2.at_ hb1; obtain ⟨z0, z1, z2, f0, f1, f2⟩ := pt_facts hrb2)
   exact end_pt rfl rfl rfl rfl (pt_set hrb2 _ _ _) ⟨_, rfl, rfl, pt_ext (((HE0.out.trans HE1.out).trans hX).trans hE2) (by have := Hq.out; omega) _ _ _⟩
  case pos =>
   obtain rfl : res = some (downT C.M (mulS C.M (upP bi x y) E nb).1) := by rw [← Hres.out, mulC, if_pos Ho1.out, if_pos (by rw [Hnb.out]; exact hbits), Hnb.out]
   have Hgt := Lib.hid (show ¬ (4096 : Int) < (nb : Int) by omega)
   refine (callsIn_wide (n := 6)).1 ?_
   refine callsIn_of_wp_marks Tryz.func35 rfl trivial ?_ rfl
   simp only [Tryz.ntmps35, List.size_toArray, List.length_cons, List.length_nil, Nat.reduceAdd, Nat.reduceSub, Array.replicate_succ, Array.replicate_zero, List.push_toArray, List.append_toArray, List.nil_append, List.cons_append]
   refine wpIn_wide.2 ?_
   go_upto_region 1 with fail
   rw [← hW0]
   have Hq := Lib.hid hq
   clear hW0 hq
   go_upto_region 2 with (go_at_call 64; refine (of_c HC.out _).mono ?_; rintro e wa ⟨k1, rfl, hk1, hE1⟩)
   obtain ⟨b2, hb2⟩ : ∃ b, wa.heap.size = b := ⟨_, rfl⟩
   have h2 := heap_alloc_new wa (.cells #[.pointer (some ⟨k1, 0, none⟩)] 105)
   have hA := Ext.alloc wa (.cells #[.pointer (some ⟨k1, 0, none⟩)] 105)
   rw [hb2] at h2
   have hz1 : (wa.alloc (.cells #[.pointer (some ⟨k1, 0, none⟩)] 105)).heap.size = b2 + 1 := by rw [World.size_alloc, hb2]
   generalize hW1 : wa.alloc (.cells #[.pointer (some ⟨k1, 0, none⟩)] 105) = W1 at *
   rw [hb2]
   have Hk1 := Lib.hid (hk1.ext hA)
   have HE1 := Lib.hid (hE1.trans hA)
   have Hz1 := Lib.hid hz1
   have HB2 := Lib.hid (show q + 2 ≤ b2 by have := hE1.bsize; have := Hz0.out; omega)
   replace h1 := HE1.out.at_ h1
   replace h3 := HE1.out.at_ h3
   have ck := blk_cell h2 0
   simp only [List.getElem?_toArray, List.getElem?_cons_zero] at ck
   clear hk1 hE1 hA hz1 hb2 hW1
   refine Par.region_txt 9 [0, 0, 3, 7, 15, 31, 63, 127, 255] [] (fun j f X => match j with
    | 0 => f 0 = .pointer (some ⟨k1, 0, none⟩)
    | 1 => f 1 = .agg #[.bool bi, .slice A a.length ca, .slice A' b.length cb]
    | 2 => f 2 = .bool true
    | 3 => f 3 = .bool false
    | 4 => f 4 = .bool false
    | 5 => f 5 = .slice An n.length cn
    | 6 => f 6 = .int .i64 (nb : Int)
    | 7 => f 7 = .bool false
    | 8 => f 8 = .bool false
    | _ => True) (by kernel_rfl) [(17, 0), (18, 1), (19, 2), (20, 3), (21, 4), (22, 5), (23, 6), (24, 7), (25, 8)] (by kernel_rfl) ?_
   refine Par.ld0 1 8 ck ?_
   refine lV0 2 7 h1 infoP ?_
   refine Par.c0 3 6 (fun f => #[f 0, f 1]) (F' := 72) (fun f X hX hR => ?_) ?_
   · have e0 : f 0 = _ := hR.out 0 rfl
     have e1 : f 1 = _ := hR.out 1 rfl
     simp only [e0, e1]
     refine (on_j (Hk1.out.ext hX) HC.out.fine (hp0.out.ext (HE1.out.trans hX))).mono ?_
     rw [Ho1.out]
     rintro e w2 ⟨rfl, hB⟩
     exact ⟨_, rfl, hB, fun _ _ => rfl⟩
   refine Par.v1 4 5 2 ?_
   refine Par.v1 5 4 3 ?_
   refine Par.v1 6 3 4 ?_
   refine Par.c1 7 2 4 (fun f => #[f 5]) (F' := 62) (fun f X hX hR => ?_) ?_
   · have e5 : f 5 = _ := hR.out 5 rfl
     simp only [e5]
     refine (bits_any _ An cn n X (RN.up HN.out (HE1.out.trans hX))).mono ?_
     rw [HE.out, Hnb.out]
     rintro e w2 ⟨rfl, rfl⟩
     exact ⟨_, rfl, (Ext.refl _), fun _ _ => rfl⟩
   refine Par.S 8 1 [(17, 0), (18, 1), (19, 2), (20, 3), (21, 4), (22, 5), (23, 6)] (fun f X hX hR K hK => ?_) ?_
   · have e4 : f 4 = _ := hR.out 4 rfl
     have e6 : f 6 = _ := hR.out 6 rfl
     have hgt : decide ((4096 : Int) < (nb : Int)) = false := decide_eq_false (by have := Hgt.out; omega)
     have hgn : decide (4096 < nb) = false := decide_eq_false (by have := Hgt.out; omega)
     simp only [yA, yB, yC, yD, yE, e4, e6]
     refine ⟨Par.want (by kernel_rfl) ?_⟩
     go_simp
     exact Par.k hK (s := by simp only [yA, yB, yC, yD, yE, e4, e6])
   refine Par.v2 9 0 4 7 ?_
   refine Par.AllOps.fin ⟨fun f X hX hR hal hap => ?_⟩
   have e8 : f 8 = _ := hR 8 (by decide)
   simp only [yA, yB, yD, yE, e8]
   clear hR hal hap e8
   refine Par.Chain.done ?_
   have HX := Lib.hid hX
   rename World => X2
   replace ck := hX.cell ck
   replace h1 := hX.at_ h1
   replace h3 := hX.at_ h3
   clear hX h2
   go_upto_region 4 with fail
   obtain ⟨pt, hpt⟩ : ∃ t, tabP C.M (upP bi x y) = t := ⟨_, rfl⟩
   have ht0 : pt 0 = (1, 1, 0) := by rw [← hpt]; rfl
   have ht1 : pt 1 = upP bi x y := by rw [← hpt]; rfl
   have hts : ∀ k, 1 ≤ k → pt (k + 1) = addT C.M (pt k) (pt 1) := by
    intro k hk
    obtain ⟨k, rfl⟩ : ∃ m, k = m + 1 := ⟨k - 1, by omega⟩
    rw [← hpt]
    rfl
   have Hpt := Lib.hid hpt
   have Ht0 := Lib.hid ht0
   have Ht1 := Lib.hid ht1
   have Hts := Lib.hid hts
   clear hpt ht0 ht1 hts
   refine Par.region_ext (by kernel_rfl) 4 [0, 0, 3, 0, 15] [3] (fun j f X => match j with
    | 0 => f 0 = .pointer (some ⟨k1, 0, none⟩)
    | 1 => f 1 = infV
    | 2 => ∃ v, f 2 = v ∧ JAt C v (1, 1, 0)
    | 3 => ∃ b, f 3 = .pointer (some ⟨b, 0, none⟩) ∧ X2.heap.size ≤ b ∧ X.heap[b]? = some (.cells #[.int .u64 0, .int .u64 0, .int .u64 0, .int .u64 0, .int .u64 0, .int .u64 0, .int .u64 0, .int .u64 0, .int .u64 0, .int .u64 0, .int .u64 0, .int .u64 0, .int .u64 0, .int .u64 0, .int .u64 0, .int .u64 0, .int .u64 0, .int .u64 0] 123 (0, 0))
    | _ => True) (by kernel_rfl) [(27, 0), (28, 1), (29, 2), (9, 3)] (by kernel_rfl) ?_
   refine Par.ld0 1 3 ck ?_
   refine Par.c0 2 2 (fun _ => #[]) (F' := 73) (fun f X hX hR => ?_) ?_
   · refine (none_any X).mono ?_
     rintro e w2 ⟨rfl, hB⟩
     exact ⟨infV, rfl, hB, fun _ _ => rfl⟩
   refine Par.c0 3 1 (fun f => #[f 0, f 1]) (F' := 74) (fun f X hX hR => ?_) ?_
   · have e0 : f 0 = _ := hR.out 0 rfl
     have e1 : f 1 = _ := hR.out 1 rfl
     simp only [e0, e1]
     refine (up_j (Hk1.out.ext (HX.out.trans hX)) (APt.inf_ X) rfl).mono ?_
     rintro e w2 ⟨o, rfl, hj, hB⟩
     exact ⟨_, rfl, hB, fun _ _ => ⟨_, rfl, hj⟩⟩
   refine Par.al 4 0 ?_
   refine Par.AllOps.fin ⟨fun f X hX hR hal hap => ?_⟩
   obtain ⟨v2, (e2 : f 2 = _), j2⟩ := hR 2 (by decide)
   obtain ⟨bo3, (e3 : f 3 = _), lo3, ho3⟩ := hR 3 (by decide)
   simp only [yA, yB, yD, yE, e2, e3]
   clear hR hal hap e2 e3
   obtain ⟨ox, oy, oz, ev, hf⟩ := j2
   subst ev
   refine Par.Chain.next (fun K hK => ⟨Par.want (by kernel_rfl) (wp_storeJ (x := ox) (y := oy) (z := oz) (.tmp 9) (.tmp 29) rfl rfl rfl rfl ho3 rfl hf.x.elt.six hf.y.elt.six hf.z.elt.six (fun Y hY1 hY2 hY3 => hK.out _ _ ?_))⟩)
   refine Par.Chain.done ?_
   have hXY := hY2.ext hX lo3
   have hbo : q + 2 ≤ bo3 := by have := HX.out.bsize; have := HE1.out.bsize; have := Hz0.out; omega
   have hJo : JBlk C Y bo3 (pt 0) := ⟨ox, oy, oz, hY1, by rw [Ht0.out]; exact hf⟩
   replace ck := hXY.cell ck
   replace h1 := hXY.at_ h1
   replace h3 := hXY.at_ h3
   have HXY := Lib.hid (HX.out.trans hXY)
   have lo := Nat.le_trans HX.out.bsize lo3
   have zY : bo3 < Y.heap.size := hY1.lt'
   clear hX hY1 hY2 hY3 ho3 lo3 hf hXY
   rename World => V4
   go_upto_region 5 with fail
   refine Par.region_ext (by kernel_rfl) 6 [0, 0, 0, 6, 15, 0, 63] [5] (fun j f X => match j with
    | 0 => ∃ v, f 0 = v ∧ JAt C v (pt 0)
    | 1 => f 1 = .pointer (some ⟨k1, 0, none⟩)
    | 2 => f 2 = .agg #[.bool bi, .slice A a.length ca, .slice A' b.length cb]
    | 3 => ∃ v, f 3 = v ∧ JAt C v (pt 1)
    | 4 => ∃ cs : Array Value, f 4 = .agg cs ∧ cs.size = 288 ∧ cs.all (·.oneCell') = true ∧ (∀ (W : World) (b : Nat), W.heap[b]? = some (.cells cs 125 (0, 0)) → TabAt C W b pt 2)
    | 5 => ∃ b, f 5 = .pointer (some ⟨b, 0, none⟩) ∧ V4.heap.size ≤ b ∧ X.heap[b]? = some (.cells z85 125 (0, 0))
    | _ => True) (by kernel_rfl) [(30, 0), (31, 1), (32, 2), (33, 3), (34, 4), (10, 5)] (by kernel_rfl) ?_
   refine Par.S 1 5 [(31, 1), (32, 2), (33, 3), (10, 5)] (fun f X hX hR K hK => ?_) ?_
   · obtain ⟨jx, jy, jz, hjb, hjf⟩ := hJo.ext hX
     simp only [yA, yB, yC, yD, yE]
     refine ⟨wp_loadV (v := JV jx jy jz) (t := 123) 123 (.tmp 9) rfl rfl hjb Tryz.underlying123 rfl (by rw [hjf.sz]; exact infoJ) rfl ?_⟩
     exact hK.out _ (JV jx jy jz) _ (by simp only [yA, yB, yC, yD, yE]) (Ext.refl _) trivial (fun _ _ => ⟨_, rfl, ⟨jx, jy, jz, rfl, hjf⟩⟩)
   refine Par.ld0 2 4 ck ?_
   refine lV0 3 3 h1 infoP ?_
   refine Par.c0 4 2 (fun f => #[f 1, f 2]) (F' := 74) (fun f X hX hR => ?_) ?_
   · have e1 : f 1 = _ := hR.out 1 rfl
     have e2 : f 2 = _ := hR.out 2 rfl
     simp only [e1, e2]
     refine (up_j (Hk1.out.ext (HXY.out.trans hX)) (hp0.out.ext ((HE1.out.trans HXY.out).trans hX)) Ho1.out).mono ?_
     rintro e w2 ⟨o, rfl, hj, hB⟩
     exact ⟨o, rfl, hB, fun _ _ => ⟨_, rfl, by rw [Ht1.out]; exact hj⟩⟩
   refine Par.S 5 1 [(30, 0), (31, 1), (32, 2), (33, 3), (10, 5)] (fun f X hX hR K hK => ?_) ?_
   · obtain ⟨v0, (e0 : f 0 = _), j0⟩ := hR.out 0 rfl
     obtain ⟨v3, (e3 : f 3 = _), j3⟩ := hR.out 3 rfl
     simp only [yA, yB, yC, yD, yE, e0, e3]
     refine ⟨wp_build85 (.tmp 30) (.tmp 33) rfl rfl rfl j0 j3 (fun cs h1 h2 h3 => ?_)⟩
     exact hK.out _ (.agg cs) _ (by simp only [yA, yB, yC, yD, yE, e0, e3]) (Ext.refl _) trivial (fun _ _ => ⟨cs, rfl, h1, h2, fun W b hb => h3 W b hb pt rfl rfl⟩)
   refine Par.al 6 0 ?_
   refine Par.AllOps.fin ⟨fun f X hX hR hal hap => ?_⟩
   obtain ⟨v0, (e0 : f 0 = _), j0⟩ := hR 0 (by decide)
   obtain ⟨v3, (e3 : f 3 = _), j3⟩ := hR 3 (by decide)
   obtain ⟨cs, (e4 : f 4 = _), hs4, ho4, ht4⟩ := hR 4 (by decide)
   obtain ⟨be5, (e5 : f 5 = _), le5, he5⟩ := hR 5 (by decide)
   simp only [yA, yB, yD, yE, e0, e3, e4, e5]
   clear hR hal hap e0 e3 e4 e5
   refine Par.Chain.next (fun K hK => ⟨Par.want (by kernel_rfl) (wp_storeV (cs' := cs) (t := 125) 125 (.tmp 10) (.tmp 34) rfl rfl rfl rfl he5 (by rw [hs4]; exact info85s) (by rw [hs4, z85_size]) ho4 (fun Y hY1 hY2 hY3 => hK.out _ _ ?_))⟩)
   refine Par.Chain.done ?_
   have hT2 : TabAt C Y be5 pt 2 := ht4 Y be5 hY1
   have hXZ := hY2.ext hX le5
   have zE : be5 < Y.heap.size := blk_lt hY1
   have zoe : bo3 < be5 := by omega
   have HXZ := Lib.hid (HXY.out.trans hXZ)
   replace ck := hXZ.cell ck
   replace hJo := hJo.ext hXZ
   replace h3 := hXZ.at_ h3
   clear hX hY1 hY2 hY3 he5 le5 hXZ j0 j3 ht4 hs4 ho4 h1 zY HXY
   rename World => V5
   have hb2o : b2 < bo3 := by have := Hz1.out; omega
   go_wp2
   go_loopw [11] (fun iv wr => ∃ k : Nat, iv = .int .i64 (k : Int) ∧ 2 ≤ k ∧ k ≤ 16 ∧ TabAt C wr be5 pt k ∧ Below be5 V5 wr) (fun iv _ => (16 - intOf iv).toNat)
   case atStart => exact ⟨2, by go_num, by omega, by omega, hT2, Below.refl _ _⟩
   case round =>
    obtain ⟨k, rfl, hk2, hk16, hT, hB⟩ := hrel
    by_cases hlt : k < 16
    · obtain ⟨m, hm⟩ : ∃ m, k = m + 1 := ⟨k - 1, by omega⟩
      have e1 : (k : Int) - 1 = (m : Int) := by omega
      have k1' : (k : Int) < 16 := by omega
      have k2' : (m : Int) < 16 := by omega
      have ckr := (hB.cell (p := ⟨b2, 0, none⟩) (by show b2 < be5; omega)).trans ck
      have HEr := Lib.hid (show Ext W1 wr from Below.trans HXZ.out (Below.mono hB (by have := Hz1.out; omega)))
      have hsz := hT.lt
      have Hpk := Lib.hid (show pt k = addT C.M (pt m) (pt 1) by rw [hm]; exact Hts.out m (by omega))
      clear hm
      go_upto_region 9 with fail
      refine Par.region_ext (by kernel_rfl) 10 [0, 0, 0, 4, 12, 28, 0, 64, 254, 511, 1023] [] (fun j f X => match j with
       | 0 => f 0 = .int .i64 (k : Int)
       | 1 => f 1 = .pointer (some ⟨k1, 0, none⟩)
       | 2 => f 2 = .int .i64 (k : Int)
       | 3 => f 3 = .int .i64 (m : Int)
       | 4 => f 4 = .pointer (some ⟨be5, m * 18, none⟩)
       | 5 => ∃ v, f 5 = v ∧ JAt C v (pt m)
       | 6 => f 6 = .pointer (some ⟨be5, 18, none⟩)
       | 7 => ∃ v, f 7 = v ∧ JAt C v (pt 1)
       | 8 => ∃ v, f 8 = v ∧ JAt C v (pt k)
       | 9 => f 9 = .pointer (some ⟨be5, k * 18, none⟩)
       | _ => True) (by kernel_rfl) [(39, 0), (40, 1), (41, 2), (42, 3), (43, 4), (44, 5), (45, 6), (46, 7), (47, 8), (48, 9)] (by kernel_rfl) ?_
      refine Par.v0 1 9 ?_
      refine Par.ld0 2 8 ckr ?_
      refine Par.v0 3 7 ?_
      refine Par.S 4 6 [(39, 0), (40, 1), (41, 2), (45, 6), (46, 7)] (fun f X hX hR K hK => ?_) ?_
      · have e2 : f 2 = _ := hR.out 2 rfl
        have ew : IntKind.i64.wrap (m : Int) = (m : Int) := IntWalk.i64_in _ (by omega)
        simp only [yA, yB, yC, yD, yE, e2]
        refine ⟨?_⟩
        go_simp
        exact Par.k hK (s := by simp only [yA, yB, yC, yD, yE, e2])
      refine Par.S 5 5 [(39, 0), (40, 1), (41, 2), (42, 3), (45, 6), (46, 7)] (fun f X hX hR K hK => ?_) ?_
      · have e3 : f 3 = _ := hR.out 3 rfl
        simp only [yA, yB, yC, yD, yE, e3]
        refine ⟨?_⟩
        go_simp
        exact Par.k hK (s := by simp only [yA, yB, yC, yD, yE, e3])
      refine Par.S 6 4 [(39, 0), (40, 1), (41, 2), (42, 3), (43, 4), (45, 6), (46, 7)] (fun f X hX hR K hK => ?_) ?_
      · have e4 : f 4 = _ := hR.out 4 rfl
        simp only [yA, yB, yC, yD, yE, e4]
        refine ⟨wp_loadT (.tmp 43) rfl (hT.ext hX) (i := m) (by omega) (Nat.mul_comm _ _) rfl (fun v hv => ?_)⟩
        exact hK.out _ v _ (by simp only [yA, yB, yC, yD, yE, e4]) (Ext.refl _) trivial (fun _ _ => ⟨_, rfl, hv⟩)
      refine Par.v0 7 3 ?_
      refine Par.S 8 2 [(39, 0), (40, 1), (41, 2), (42, 3), (43, 4), (44, 5), (45, 6)] (fun f X hX hR K hK => ?_) ?_
      · have e6 : f 6 = _ := hR.out 6 rfl
        simp only [yA, yB, yC, yD, yE, e6]
        refine ⟨wp_loadT (.tmp 45) rfl (hT.ext hX) (i := 1) (by omega) rfl rfl (fun v hv => ?_)⟩
        exact hK.out _ v _ (by simp only [yA, yB, yC, yD, yE, e6]) (Ext.refl _) trivial (fun _ _ => ⟨_, rfl, hv⟩)
      refine Par.c0 9 1 (fun f => #[f 1, f 5, f 7]) (F' := 75) (fun f X hX hR => ?_) ?_
      · have e1 : f 1 = _ := hR.out 1 rfl
        obtain ⟨v5, (e5 : f 5 = _), j5⟩ := hR.out 5 rfl
        obtain ⟨v7, (e7 : f 7 = _), j7⟩ := hR.out 7 rfl
        simp only [e1, e5, e7]
        refine (add_j (Hk1.out.ext (HEr.out.trans hX)) j5 j7).mono ?_
        rintro e w2 ⟨o, rfl, hj, hB⟩
        exact ⟨o, rfl, hB, fun _ _ => ⟨_, rfl, by rw [Hpk.out]; exact hj⟩⟩
      refine Par.S 10 0 [(39, 0), (40, 1), (41, 2), (42, 3), (43, 4), (44, 5), (45, 6), (46, 7), (47, 8)] (fun f X hX hR K hK => ?_) ?_
      · have e0 : f 0 = _ := hR.out 0 rfl
        simp only [yA, yB, yC, yD, yE, e0]
        refine ⟨?_⟩
        go_simp
        exact Par.k hK (s := by simp only [yA, yB, yC, yD, yE, e0])
      refine Par.AllOps.fin ⟨fun f X hX hR hal hap => ?_⟩
      obtain ⟨v5, (e5 : f 5 = _), j5⟩ := hR 5 (by decide)
      obtain ⟨v7, (e7 : f 7 = _), j7⟩ := hR 7 (by decide)
      obtain ⟨v8, (e8 : f 8 = _), j8⟩ := hR 8 (by decide)
      have e9 : f 9 = _ := hR 9 (by decide)
      simp only [yA, yB, yD, yE, e5, e7, e8, e9]
      clear hR hal hap e5 e7 e8 e9
      refine Par.Chain.next (fun K hK => ⟨wp_storeT (.tmp 48) (.tmp 47) rfl rfl (hT.ext hX) hlt j8 (Nat.mul_comm _ _) rfl rfl (fun Y hY1 hY2 hY3 => hK.out _ _ ?_)⟩)
      refine Par.Chain.done ?_
      have hBY : Below be5 V5 Y := (hB.trans (Below.mono hX (by omega))).trans (hY2.below (Nat.le_refl _) (by have := hX.bsize; omega))
      have HBY := Lib.hid hBY
      have HTY := Lib.hid hY1
      have hkw : IntKind.i64.wrap ((k : Int) + 1) = (k : Int) + 1 := IntWalk.i64_in _ (by omega)
      clear hX hY1 hY2 hY3 j5 j7 j8 hBY hT hB ckr
      go_wp2
      go_roundw
      case rel => exact ⟨k + 1, by go_num, by omega, by omega, HTY.out, HBY.out⟩
      case measure => simp [intOf]; omega
    · have hkk : k = 16 := by omega
      rw [show (k : Int) = 16 by omega]
      rw [hkk] at hT
      have k1' : ¬ (16 : Int) < 16 := by omega
      clear hlt hk2 hk16 hkk
      have HT := Lib.hid hT
      have HBr := Lib.hid hB
      have hJr : JBlk C wr bo3 (pt 0) := hJo.below hB zoe
      have h3r := (hB.block (q + 1) (by omega)).trans h3
      have ckr := (hB.cell (p := ⟨b2, 0, none⟩) (by show b2 < be5; omega)).trans ck
      clear hT hB hJo h3 ck
      have HEr := Lib.hid (show Ext W1 wr from Below.trans HXZ.out (Below.mono HBr.out (by have := Hz1.out; omega)))
      obtain ⟨bd, hbd⟩ : ∃ b, wr.heap.size = b := ⟨_, rfl⟩
      have d0 := heap_alloc_new wr (.cells #[.int .u64 0] 81)
      have hA6 := Ext.alloc wr (.cells #[.int .u64 0] 81)
      rw [hbd] at d0
      have hz6 : (wr.alloc (.cells #[.int .u64 0] 81)).heap.size = bd + 1 := by rw [World.size_alloc, hbd]
      have zbe : be5 < bd := by have := HT.out.lt; omega
      go_upto_region 11 with fail
      generalize hW6 : wr.alloc (.cells #[.int .u64 0] 81) = W6 at *
      replace ckr := hA6.cell ckr
      replace h3r := hA6.at_ h3r
      replace hJr := hJr.ext hA6
      have HT6 := Lib.hid (HT.out.ext hA6)
      have HE6 := Lib.hid (HEr.out.trans hA6)
      have heach := each_any _ An cn n W6 (RN.up HN.out (HE1.out.trans HE6.out)) (fun b hb => hb)
      rw [HE.out, hz6] at heach
      have Heach := Lib.hid heach
      have hW6z := Lib.hid hz6
      clear heach hA6 hbd hz6 hW6 HT HBr HEr
      go_wp2_with (go_at_call 76; refine Heach.out.mono ?_; rintro e' w3 ⟨Ae', ce', rfl, be, hOe, hB3⟩)
      obtain ⟨t, ht⟩ : ∃ t, bd + 1 = t := ⟨_, rfl⟩
      rw [ht] at be hOe hB3
      rw [ht]
      have hbdt : bd < t := by omega
      have hbot : bo3 < t := by omega
      have zn : t < w3.heap.size := blk_lt be
      have hbe := blk_cell be 0
      simp only [List.getElem?_toArray, List.getElem?_cons_zero] at hbe
      have hseq := each_seq t t w3.heap.size (In t w3.heap.size) Ae' ce' (digs 18446744073709551616 E) w3 (fun b hb => hb) (Nat.le_refl _) zn (Nat.le_refl _) hbe hOe.rn
      rw [val_digs (by omega), Hnb.out] at hseq
      have Hseq := Lib.hid hseq
      have hE3 : Ext W6 w3 := by rw [← ht, ← hW6z.out] at hB3; exact hB3
      have HE3 := Lib.hid (HE6.out.trans hE3)
      have c3 := hE3.cell ckr
      have hJ3 := hJr.ext hE3
      have hT3 := HT6.out.ext hE3
      have hd3 := hE3.at_ d0
      have h33 := hE3.at_ h3r
      clear hseq Heach hbe be hOe hB3 hE3 ckr hJr d0 h3r HT6 ht
      have hI0 : JBlk C w3 bo3 (mulS C.M (upP bi x y) E 0).1 := by rw [show (mulS C.M (upP bi x y) E 0).1 = pt 0 by rw [Ht0.out]; rfl]; exact hJ3
      have hInv : OwnFrom w3.heap.size (fun (k : Nat) X => JBlk C X bo3 (mulS C.M (upP bi x y) E k).1 ∧ X.heap[bd]? = some (.cells #[.int .u64 ((mulS C.M (upP bi x y) E k).2 : Int)] 81 (0, 0)) ∧ TabAt C X be5 pt 16 ∧ Below bo3 w3 X) := by
       rintro k X X' row ⟨⟨jx, jy, jz, g1, g2⟩, g3, g4, g5⟩ hg' hr
       have hr' := fun r e => (hr r e).2
       obtain ⟨cs', g6, g7⟩ := g4.blk
       exact ⟨⟨jx, jy, jz, (grownBy_keeps_cells hg' hr' g1 rfl).trans g1, g2⟩, (grownBy_keeps_cells hg' hr' g3 rfl).trans g3, g4.same (grownBy_keeps_cells hg' hr' g6 rfl), ownFrom_below (by omega) (by omega) k X X' row g5 hg' hr⟩
      refine (wpIn_wide (n := 6)).1 ?_
      refine' wpIn_iter (by omega) (gf := 106) (lb := #[.pointer (some ⟨t, 0, none⟩)]) rfl (enters_of Tryz.func106 (by kernel_rfl) rfl)
       Hseq.out (fun h k => Stay.trans h k) (fun X l o o' hl ho _ _ => ⟨by simp, fun i _ hi => World.putObj_heap_other (by omega)⟩) tplain_keeps (Below.refl _ _) (fun _ => rfl)
       (fun k X => JBlk C X bo3 (mulS C.M (upP bi x y) E k).1 ∧ X.heap[bd]? = some (.cells #[.int .u64 ((mulS C.M (upP bi x y) E k).2 : Int)] 81 (0, 0)) ∧ TabAt C X be5 pt 16 ∧ Below bo3 w3 X) (fun k X => JBlk C X bo3 (mulS C.M (upP bi x y) E k).1 ∧ X.heap[bd]? = some (.cells #[.int .u64 ((mulS C.M (upP bi x y) E k).2 : Int)] 81 (0, 0)) ∧ TabAt C X be5 pt 16 ∧ Below bo3 w3 X) (fun _ _ _ => False)
       hInv hInv (fun _ _ _ _ _ h => h.elim) (fun _ _ _ _ => trivial) (fun B k A C' _ _ hi ht => ?hIT) (fun h => by cases h) ⟨hI0, hd3, hT3, Below.refl _ _⟩ _ ?assign ?body ?done ?stop
      case hIT => exact ownFrom_plain (I := fun k X => JBlk C X bo3 (mulS C.M (upP bi x y) E k).1 ∧ X.heap[bd]? = some (.cells #[.int .u64 ((mulS C.M (upP bi x y) E k).2 : Int)] 81 (0, 0)) ∧ TabAt C X be5 pt 16 ∧ Below bo3 w3 X) (B := w3.heap.size) hInv hi ht
      case assign =>
       intro l k X K hK
       gi_wp2
       exact hK
      case body =>
       rintro l k V ⟨⟨jx, jy, jz, hjb, hjf⟩, hdV, hTV, h5⟩ hlt _
       have zV := h5.size
       have hd8 := dig_lt8 (M := C.M) (p := upP bi x y) (E := E) (k := k) (by rw [Hnb.out]; exact hlt)
       have hstep : mulS C.M (upP bi x y) E (k + 1) = if (bitAt E k).1 % 4 = 0 then (addT C.M (dblT C.M (mulS C.M (upP bi x y) E k).1) (tabP C.M (upP bi x y) (2 * (mulS C.M (upP bi x y) E k).2 + (bitAt E k).2)), 0) else (dblT C.M (mulS C.M (upP bi x y) E k).1, 2 * (mulS C.M (upP bi x y) E k).2 + (bitAt E k).2) := rfl
       rw [Hpt.out] at hstep
       have hb2' : (bitAt E k).2 < 2 := Nat.mod_lt _ (by omega)
       have hi1 : (bitAt E k).1 ≤ 4096 := by show nbits E - 1 - k ≤ 4096; rw [Hnb.out]; omega
       obtain ⟨so, hso⟩ : ∃ s, (mulS C.M (upP bi x y) E k).1 = s := ⟨_, rfl⟩
       obtain ⟨d, hd⟩ : ∃ s, (mulS C.M (upP bi x y) E k).2 = s := ⟨_, rfl⟩
       obtain ⟨bt, hbt⟩ : ∃ s, (bitAt E k).2 = s := ⟨_, rfl⟩
       obtain ⟨ii, hii⟩ : ∃ s, (bitAt E k).1 = s := ⟨_, rfl⟩
       obtain ⟨d2, hd2⟩ : ∃ s, 2 * d + bt = s := ⟨_, rfl⟩
       rw [hso, hd, hbt, hii, hd2] at hstep
       rw [hso] at hjf
       rw [hd] at hdV hd8
       rw [hbt] at hb2'
       rw [hii] at hi1
       rw [hbt, hii]
       have Hstep := Lib.hid hstep
       have Hd2 := Lib.hid hd2
       have HEV := Lib.hid (show Ext W1 V from Below.trans HE3.out (Below.mono h5 lo))
       have hd16 : d2 < 16 := by omega
       have hM0 : MK w3.heap.size t bo3 be5 w3 V V := ⟨Keeps.refl _ _ _ _, Stay.refl _ _ _, h5, rfl, zV⟩
       have HM0 := Lib.hid hM0
       have Hjf := Lib.hid hjf
       have HTV := Lib.hid hTV
       have cV : V.cell? ⟨b2, 0, none⟩ = some (.pointer (some ⟨k1, 0, none⟩)) := (h5.cell (p := ⟨b2, 0, none⟩) (by show b2 < bo3; omega)).trans c3
       clear hstep hd2 hso hd hbt hii hM0 hjf hTV h5
       gi_upto_region 14 with fail
       refine Par.region_txt_in 3 [0, 0, 3, 7] [] (fun j f X => match j with
        | 0 => f 0 = .pointer (some ⟨k1, 0, none⟩)
        | 1 => f 1 = JV jx jy jz
        | 2 => ∃ v, f 2 = v ∧ JAt C v (dblT C.M so)
        | _ => True) (by kernel_rfl) [(53, 0), (54, 1), (55, 2)] (by kernel_rfl) (by kernel_rfl) ?_
       refine Par.S 1 2 [(54, 1)] (fun f X hX hR K hK => ?_) ?_
       · have x0 := hX.cell cV
         simp only [yA, yB, yC, yD, yE]
         refine ⟨?_⟩
         go_simp
         exact Par.k hK (s := by simp only [yA, yB, yC, yD, yE])
       refine Par.S 2 1 [(53, 0)] (fun f X hX hR K hK => ?_) ?_
       · simp only [yA, yB, yC, yD, yE]
         refine ⟨wp_loadV (v := JV jx jy jz) (t := 123) 123 (.tmp 9) rfl rfl (hX.at_ hjb) Tryz.underlying123 rfl (by rw [Hjf.out.sz]; exact infoJ) rfl ?_⟩
         exact hK.out _ (JV jx jy jz) _ (by simp only [yA, yB, yC, yD, yE]) (Ext.refl _) trivial (fun _ _ => rfl)
       refine Par.S 3 0 [(53, 0), (54, 1)] (fun f X hX hR K hK => ?_) ?_
       · have e0 : f 0 = _ := hR.out 0 rfl
         have e1 : f 1 = _ := hR.out 1 rfl
         simp only [yA, yB, yC, yD, yE, e0, e1]
         refine ⟨?_⟩
         go_simp
         refine (double_j (Hk1.out.ext (HEV.out.trans hX)) ⟨jx, jy, jz, rfl, Hjf.out⟩).mono ?_
         rintro e w2 ⟨o, rfl, hj, hB⟩
         exact hK.out _ o _ (by simp only [yA, yB, yC, yD, yE, e0, e1]) hB trivial (fun _ _ => ⟨_, rfl, hj⟩)
       refine Par.AllOps.fin ⟨fun f X hX hR hal hap => ?_⟩
       have e0 : f 0 = _ := hR 0 (by decide)
       have e1 : f 1 = _ := hR 1 (by decide)
       obtain ⟨v2, (e2 : f 2 = _), j2⟩ := hR 2 (by decide)
       simp only [yA, yB, yD, yE, e0, e1, e2]
       clear hR hal hap e0 e1 e2
       obtain ⟨ox, oy, oz, ev, hf⟩ := j2
       subst ev
       refine Par.Chain.next (fun K hK => ⟨Par.want (by kernel_rfl) (wp_storeJ (x := ox) (y := oy) (z := oz) (.tmp 9) (.tmp 55) rfl rfl rfl rfl (hX.at_ hjb) Hjf.out.sz hf.x.elt.six hf.y.elt.six hf.z.elt.six (fun Y hY1 hY2 hY3 => hK.out _ _ ?_))⟩)
       refine Par.Chain.done ?_
       refine ⟨nofun, ?_⟩
       have hM1 := (HM0.out.ext hX (by omega) (by omega)).just hY2 (hX.at_ hjb) (by omega) (Nat.le_refl _) (by omega) (by omega) (by omega)
       have hdY := hY2.at_ (by omega) (hX.at_ hdV)
       have HM1 := Lib.hid hM1
       have HJ1 := Lib.hid (show JBlk C Y bo3 (dblT C.M so) from ⟨ox, oy, oz, hY1, hf⟩)
       have HdY := Lib.hid hdY
       have cd := blk_cell hdY 0
       have fd := blk_free hdY 0
       simp only [List.getElem?_toArray, List.getElem?_cons_zero] at cd
       have hw1 : IntKind.u64.wrap (2 * (d : Int)) = 2 * (d : Int) := IntWalk.u64_in _ (by omega)
       have hw2 : IntKind.u64.wrap (2 * (d : Int) + (bt : Int)) = (d2 : Int) := by rw [IntWalk.u64_in _ (by omega)]; have := Hd2.out; omega
       clear hM1 hdY hX hY1 hY2 hY3 hf hjb hdV cV
       gi_upto_region 16 with fail
       obtain ⟨hdV2, hj2⟩ := one_set HdY.out (.int .u64 (d2 : Int))
       have hM2 := HM1.out.just hj2 HdY.out (by omega) (by omega) (by omega) (by omega) (by omega)
       have hJ2 := HJ1.out.just hj2 (by omega)
       generalize hV2 : Y.setCell ⟨bd, 0, none⟩ (.int .u64 (d2 : Int)) = V2 at *
       have HM2 := Lib.hid hM2
       have HJ2 := Lib.hid hJ2
       have HdV2 := Lib.hid hdV2
       clear hM2 hJ2 hj2 hV2 cd fd hw1 hw2
       by_cases hi4 : ii % 4 = 0
       · have hst : mulS C.M (upP bi x y) E (k + 1) = (addT C.M (dblT C.M so) (pt d2), 0) := by rw [Hstep.out, if_pos hi4]
         have Hst := Lib.hid hst
         have hr4 : (ii : Int) % 4 = 0 := by omega
         have hr5 : (ii : Int).tmod 4 = 0 := by rw [IntWalk.rem_in _ _ (by omega)]; exact hr4
         have hTV2 := Lib.hid (HTV.out.same HM2.out.tab)
         have cV2 : V2.cell? ⟨b2, 0, none⟩ = some (.pointer (some ⟨k1, 0, none⟩)) := (HM2.out.below.cell (p := ⟨b2, 0, none⟩) (by show b2 < bo3; omega)).trans c3
         have cd2 := blk_cell hdV2 0
         simp only [List.getElem?_toArray, List.getElem?_cons_zero] at cd2
         have HE2 := Lib.hid (show Ext W1 V2 from Below.trans HE3.out (Below.mono HM2.out.below lo))
         obtain ⟨mx, my, mz, hmb, hmf⟩ := HJ2.out
         have Hmf := Lib.hid hmf
         clear hst hmf
         gi_upto_region 17 with fail
         clear hr4 hr5
         refine Par.region_ext_in (by kernel_rfl) 6 [0, 0, 0, 4, 12, 31, 63] [] (fun j f X => match j with
          | 0 => f 0 = .pointer (some ⟨k1, 0, none⟩)
          | 1 => f 1 = JV mx my mz
          | 2 => f 2 = .int .u64 (d2 : Int)
          | 3 => f 3 = .pointer (some ⟨be5, d2 * 18, none⟩)
          | 4 => ∃ v, f 4 = v ∧ JAt C v (pt d2)
          | 5 => ∃ v, f 5 = v ∧ JAt C v (addT C.M (dblT C.M so) (pt d2))
          | _ => True) (by kernel_rfl) [(63, 0), (64, 1), (65, 2), (66, 3), (67, 4), (68, 5)] (by kernel_rfl) (by kernel_rfl) ?_
         refine Par.S 1 5 [(64, 1), (65, 2), (66, 3), (67, 4)] (fun f X hX hR K hK => ?_) ?_
         · have x0 := hX.cell cV2
           simp only [yA, yB, yC, yD, yE]
           refine ⟨?_⟩
           go_simp
           exact Par.k hK (s := by simp only [yA, yB, yC, yD, yE])
         refine Par.S 2 4 [(63, 0), (65, 2), (66, 3), (67, 4)] (fun f X hX hR K hK => ?_) ?_
         · simp only [yA, yB, yC, yD, yE]
           refine ⟨wp_loadV (v := JV mx my mz) (t := 123) 123 (.tmp 9) rfl rfl (hX.at_ hmb) Tryz.underlying123 rfl (by rw [Hmf.out.sz]; exact infoJ) rfl ?_⟩
           exact hK.out _ (JV mx my mz) _ (by simp only [yA, yB, yC, yD, yE]) (Ext.refl _) trivial (fun _ _ => rfl)
         refine Par.S 3 3 [(63, 0), (64, 1)] (fun f X hX hR K hK => ?_) ?_
         · have x0 := hX.cell cd2
           simp only [yA, yB, yC, yD, yE]
           refine ⟨?_⟩
           go_simp
           exact Par.k hK (s := by simp only [yA, yB, yC, yD, yE])
         refine Par.S 4 2 [(63, 0), (64, 1), (65, 2)] (fun f X hX hR K hK => ?_) ?_
         · have e2 : f 2 = _ := hR.out 2 rfl
           have hd17 : (d2 : Int) < 16 := by omega
           simp only [yA, yB, yC, yD, yE, e2]
           refine ⟨?_⟩
           go_simp
           exact Par.k hK (s := by simp only [yA, yB, yC, yD, yE, e2])
         refine Par.S 5 1 [(63, 0), (64, 1), (65, 2), (66, 3)] (fun f X hX hR K hK => ?_) ?_
         · have e3 : f 3 = _ := hR.out 3 rfl
           simp only [yA, yB, yC, yD, yE, e3]
           refine ⟨wp_loadT (.tmp 66) rfl (hTV2.out.ext hX) (i := d2) hd16 (Nat.mul_comm _ _) rfl (fun v hv => ?_)⟩
           exact hK.out _ v _ (by simp only [yA, yB, yC, yD, yE, e3]) (Ext.refl _) trivial (fun _ _ => ⟨_, rfl, hv⟩)
         refine Par.S 6 0 [(63, 0), (64, 1), (65, 2), (66, 3), (67, 4)] (fun f X hX hR K hK => ?_) ?_
         · have e0 : f 0 = _ := hR.out 0 rfl
           have e1 : f 1 = _ := hR.out 1 rfl
           obtain ⟨v4, (e4 : f 4 = _), j4⟩ := hR.out 4 rfl
           simp only [yA, yB, yC, yD, yE, e0, e1, e4]
           refine ⟨?_⟩
           go_simp
           refine (add_j (Hk1.out.ext (HE2.out.trans hX)) ⟨mx, my, mz, rfl, Hmf.out⟩ j4).mono ?_
           rintro e w2 ⟨o, rfl, hj, hB⟩
           exact hK.out _ o _ (by simp only [yA, yB, yC, yD, yE, e0, e1, e4]) hB trivial (fun _ _ => ⟨_, rfl, hj⟩)
         refine Par.AllOps.fin ⟨fun f X hX hR hal hap => ?_⟩
         have e0 : f 0 = _ := hR 0 (by decide)
         have e1 : f 1 = _ := hR 1 (by decide)
         have e2 : f 2 = _ := hR 2 (by decide)
         have e3 : f 3 = _ := hR 3 (by decide)
         obtain ⟨v4, (e4 : f 4 = _), j4⟩ := hR 4 (by decide)
         obtain ⟨v5, (e5 : f 5 = _), j5⟩ := hR 5 (by decide)
         simp only [yA, yB, yD, yE, e0, e1, e2, e3, e4, e5]
         clear hR hal hap e0 e1 e2 e3 e4 e5
         obtain ⟨ux, uy, uz, ev, hf⟩ := j5
         subst ev
         refine Par.Chain.next (fun K hK => ⟨Par.want (by kernel_rfl) (wp_storeJ (x := ux) (y := uy) (z := uz) (.tmp 9) (.tmp 68) rfl rfl rfl rfl (hX.at_ hmb) Hmf.out.sz hf.x.elt.six hf.y.elt.six hf.z.elt.six (fun Y hY1 hY2 hY3 => hK.out _ _ ?_))⟩)
         refine Par.Chain.done ?_
         refine ⟨nofun, ?_⟩
         have hM3 := (HM2.out.ext hX (by omega) (by omega)).just hY2 (hX.at_ hmb) (by omega) (Nat.le_refl _) (by omega) (by omega) (by omega)
         have hd3' := hY2.at_ (by omega) (hX.at_ hdV2)
         have hJ3' : JBlk C Y bo3 (addT C.M (dblT C.M so) (pt d2)) := ⟨ux, uy, uz, hY1, hf⟩
         obtain ⟨hd4, hj4⟩ := one_set hd3' (.int .u64 0)
         have hM4 := hM3.just hj4 hd3' (by omega) (by omega) (by omega) (by omega) (by omega)
         have hJ4 := hJ3'.just hj4 (by omega)
         have cd := blk_cell hd3' 0
         have fd := blk_free hd3' 0
         simp only [List.getElem?_toArray, List.getElem?_cons_zero] at cd
         have HM4 := Lib.hid hM4
         have HJ4 := Lib.hid hJ4
         have Hd4 := Lib.hid hd4
         clear hM3 hM4 hJ3' hJ4 hd3' hd4 hj4 hX hY1 hY2 hY3 hf hmb cV2 cd2 hdV2
         gi_wp2
         exact ⟨HM4.out.keeps, HM4.out.stay, by rw [Hst.out]; exact HJ4.out, by rw [Hst.out]; exact Hd4.out, HTV.out.same HM4.out.tab, HM4.out.below⟩
       · have hst : mulS C.M (upP bi x y) E (k + 1) = (dblT C.M so, d2) := by rw [Hstep.out, if_neg hi4]
         have Hst := Lib.hid hst
         have hr4 : ¬ (ii : Int) % 4 = 0 := by omega
         have hr5 : ¬ (ii : Int).tmod 4 = 0 := by rw [IntWalk.rem_in _ _ (by omega)]; exact hr4
         clear hst hdV2
         gi_wp2
         exact ⟨HM2.out.keeps, HM2.out.stay, by rw [Hst.out]; exact HJ2.out, by rw [Hst.out]; exact HdV2.out, HTV.out.same HM2.out.tab, HM2.out.below⟩
      case done =>
       rintro D V hD ⟨⟨jx, jy, jz, hjb, hjf⟩, hdV, hTV, h5⟩ hKD
       have HEV := Lib.hid (show Ext W1 V from Below.trans HE3.out (Below.mono h5 lo))
       have cV : V.cell? ⟨b2, 0, none⟩ = some (.pointer (some ⟨k1, 0, none⟩)) := (h5.cell (p := ⟨b2, 0, none⟩) (by show b2 < bo3; omega)).trans c3
       have hrV := (h5.block (q + 1) (by omega)).trans h33
       have Hjf := Lib.hid hjf
       have HEX := Lib.hid ((HE0.out.trans HE1.out).trans HEV.out)
       obtain ⟨rs, hrs⟩ : ∃ r, (mulS C.M (upP bi x y) E nb).1 = r := ⟨_, rfl⟩
       rw [hrs] at Hjf
       have Hrs := Lib.hid hrs
       clear hjf hTV hdV hrs h5
       go_upto_region 19 with fail
       refine Par.region_txt 3 [0, 0, 3, 7, 15] [] (fun j f X => match j with
        | 0 => f 0 = .pointer (some ⟨k1, 0, none⟩)
        | 1 => f 1 = JV jx jy jz
        | 2 => ∃ v, f 2 = v ∧ PtV X q v (downT C.M rs)
        | _ => True) (by kernel_rfl) [(69, 0), (70, 1), (71, 2)] (by kernel_rfl) ?_
       refine Par.ld0 1 2 cV ?_
       refine Par.S 2 1 [(69, 0)] (fun f X hX hR K hK => ?_) ?_
       · simp only [yA, yB, yC, yD, yE]
         refine ⟨wp_loadV (v := JV jx jy jz) (t := 123) 123 (.tmp 9) rfl rfl (hX.at_ hjb) Tryz.underlying123 rfl (by rw [Hjf.out.sz]; exact infoJ) rfl ?_⟩
         exact hK.out _ (JV jx jy jz) _ (by simp only [yA, yB, yC, yD, yE]) (Ext.refl _) trivial (fun _ _ => rfl)
       refine Par.c0 3 0 (fun f => #[f 0, f 1]) (F' := 78) (fun f X hX hR => ?_) ?_
       · have e0 : f 0 = _ := hR.out 0 rfl
         have e1 : f 1 = _ := hR.out 1 rfl
         simp only [e0, e1]
         refine (down_j (Hk1.out.ext (HEV.out.trans hX)) HC.out.plen ⟨jx, jy, jz, rfl, Hjf.out⟩).mono ?_
         rintro e w2 ⟨o, rfl, hj, hB⟩
         exact ⟨o, rfl, hB, fun Y hY => ⟨_, rfl, (hj.mono (by have := HEX.out.bsize; have := hX.bsize; have := Hq.out; omega)).ext hY⟩⟩
       refine Par.AllOps.fin ⟨fun f X hX hR hal hap => ?_⟩
       obtain ⟨v2, (e2 : f 2 = _), j2⟩ := hR 2 (by decide)
       simp only [yA, yB, yD, yE, e2]
       clear hR hal hap e2
       obtain ⟨x0, x1, x2, ev, hone, hst⟩ := ptv_store (b := q + 1) j2
       subst ev
       refine Par.Chain.next (fun K hK => ⟨Par.want (by kernel_rfl) (wp_storeV (cs' := #[x0, x1, x2]) (t := 33) 33 (.tmp 6) (.tmp 71) rfl rfl rfl rfl (hX.at_ hrV) infoP rfl hone (fun Y hY1 hY2 hY3 => hK.out _ _ ?_))⟩)
       refine Par.Chain.next (fun K hK => ⟨Par.want (by kernel_rfl) ?_⟩)
       go_simp
       refine hK.out _ _ ?_
       refine Par.Chain.done ?_
       go_wp2
       have hKY : Y.heap[D]? = some (.deferred (some [])) := hY2.at_ (by omega) (hX.at_ hKD)
       have hrY : (Y.putObj D (.deferred none)).heap[q + 1]? = some (.cells #[x0, x1, x2] 33 (0, 0)) := (World.putObj_heap_other (by omega)).trans hY1
       have hEY : Ext w Y := hY2.ext (HEX.out.trans hX) (by have := Hq.out; omega)
       have hst' : PtV Y q (.agg #[x0, x1, x2]) (downT C.M rs) := hst Y hY2 ⟨_, hX.at_ hrV⟩
       have hpo : PtV (Y.putObj D (.deferred none)) q (.agg #[x0, x1, x2]) (downT C.M rs) := hst'.put hKY
       refine ⟨by simp, .inl ⟨_, _, rfl, run_takeDeferred hKY, _, res_pt rfl rfl rfl hrY, ⟨_, rfl, by rw [Hrs.out]; exact hpo, Below.trans hEY (belowK_b (w := w) (Nat.le_refl _) Y D _ _ (by have := Hq.out; omega) hKY rfl rfl)⟩⟩⟩
      case stop => exact fun _ _ _ _ _ _ _ h _ => h.elim
end Go.Proofs.YtaemogcomplhiaaGreatDoor

namespace Go.Proofs.YtaemogcomplhiaaGreatDoor.Ec
open Go.RowKit

def mayE (C : Crv) (x : Nat) : Bool := decide (0 < x) && decide (x < val 18446744073709551616 C.nl)
theorem nbits_pos {x : Nat} : (0 : Int) < (nbits x : Int) ↔ 0 < x := by
 by_cases h : x = 0
 · subst h; simp [nbits_zero]
 · have := (nbits_bounds h).2.2
   omega
theorem emay_any {c : Int} {C : Crv} (hC : IsU c C) (P : Nat → Prop) (A : Option Addr) (cap : Nat) (l : List Nat) (w : World) (h : RN w P A cap l) (hP : ∀ b, P b → b < w.heap.size) :
 Calls Tryz.prog 34 #[.int .i64 c, .slice A l.length cap] w fun e w' => e = .returned (.bool (mayE C (val 18446744073709551616 l))) ∧ Ext w w' := by
 have HB := Lib.hid (bits_any P A cap l w h)
 have HO := Lib.hid (order_u hC w)
 have HC := Lib.hid (fun X (hX : Ext w X) A' c' => fun (h2 : RU X A' c' C.nl) => cmp_any P (fun b => b < X.heap.size) A A' cap c' l C.nl X (h.below hX hP) h2)
 unfold mayE
 obtain ⟨x, hx⟩ : ∃ x, val 18446744073709551616 l = x := ⟨_, rfl⟩
 rw [hx] at HB HC ⊢
 obtain ⟨n, hn⟩ : ∃ n, val 18446744073709551616 C.nl = n := ⟨_, rfl⟩
 simp only [hn] at HC
 rw [hn]
 clear hx hn h hP
 by_cases h0 : 0 < x
 · have k0 : (0 : Int) < (nbits x : Int) := nbits_pos.2 h0
   have Hx := Lib.hid h0
   clear h0
   go_enter Tryz.func34, Tryz.ntmps34
   go_wp2_with fail
   refine HB.out.mono ?_
   rintro e w1 ⟨rfl, rfl⟩
   go_wp2_with fail
   refine HO.out.mono ?_
   rintro e w1 ⟨A', c', rfl, h2, hE⟩
   have HC2 := Lib.hid (HC.out w1 hE A' c' h2)
   have HE := Lib.hid hE
   clear h2 hE
   go_wp2_with fail
   refine HC2.out.mono ?_
   rintro e w2 ⟨rfl, d, rfl⟩
   obtain ⟨z, hz⟩ : ∃ z, cmpV x n = z := ⟨_, rfl⟩
   have Hz := Lib.hid (show (decide (0 < x) && decide (x < n)) = decide (z < 0) by
    rw [← hz, decide_eq_true Hx.out, Bool.true_and]
    unfold cmpV
    by_cases h1 : x < n
    · rw [if_pos h1, decide_eq_true h1]; rfl
    · rw [if_neg h1, decide_eq_false h1]; split <;> rfl)
   rw [hz]
   clear hz
   go_wp2
   go_ret
   exact ⟨by rw [Hz.out]; rfl, HE.out.trans (Ext.drewN _ _)⟩
 · obtain rfl : x = 0 := by omega
   have k0 : ¬ (0 : Int) < (nbits 0 : Int) := by simp [nbits_zero]
   clear h0
   go_enter Tryz.func34, Tryz.ntmps34
   go_wp2_with fail
   refine HB.out.mono ?_
   rintro e w1 ⟨rfl, rfl⟩
   go_wp2
   go_ret
   exact ⟨rfl, Ext.refl _⟩
end Go.Proofs.YtaemogcomplhiaaGreatDoor.Ec

namespace Go.Proofs.YtaemogcomplhiaaGreatDoor.Ec
open Go.RowKit

def pubE (C : Crv) (x : Nat) : Option (Option (Nat × Nat)) := if mayE C x = true then mulC C false (val 18446744073709551616 C.xl) (val 18446744073709551616 C.yl) x else none
theorem nowhere_any (w : World) : Calls Tryz.prog 30 #[] w fun e w' => e = .returned infV ∧ Ext w w' := by
 go_enter Tryz.func30, Tryz.ntmps30
 go_wp2
 exact end_p rfl rfl rfl (heap_alloc_new w _) ⟨rfl, Ext.alloc _ _⟩
theorem PtV.mono {w : World} {base base' : Nat} {v : Value} {o : Option (Nat × Nat)} (h : PtV w base v o) (hb : base' ≤ base) : PtV w base' v o := by
 cases o with
 | none => exact h
 | some p => obtain ⟨A, c, A', c', h0, h1, h2⟩ := h; exact ⟨A, c, A', c', h0, h1.mono hb, h2.mono hb⟩
set_option maxRecDepth 100000 in
set_option maxHeartbeats 4000000 in
theorem public_any {c : Int} {C : Crv} (hC : IsU c C) (P : Nat → Prop) (A : Option Addr) (cap : Nat) (l : List Nat) (w : World) (h : RN w P A cap l) (hP : ∀ b, P b → b < w.heap.size) :
    Calls Tryz.prog 12 #[.int .i64 c, .slice A l.length cap] w fun e w' => ∃ o, e = .returned (.tuple #[o, .bool (pubE C (val 18446744073709551616 l)).isSome]) ∧ PtV w' w.heap.size o (pubE C (val 18446744073709551616 l)).join ∧ Ext w w' := by
  obtain ⟨W0, hW0⟩ : ∃ W0, W0 = w.alloc (.cells #[.bool false, .slice none 0 0, .slice none 0 0] 33) := ⟨_, rfl⟩
  have hr := heap_alloc_new w (.cells #[.bool false, .slice none 0 0, .slice none 0 0] 33)
  have hE0 := Ext.alloc w (.cells #[.bool false, .slice none 0 0, .slice none 0 0] 33)
  have hz : W0.heap.size = w.heap.size + 1 := by rw [hW0]; simp
  rw [← hW0] at hr hE0
  have HM := Lib.hid (emay_any hC P A cap l W0 (h.below hE0 hP) (fun b hb => Nat.lt_of_lt_of_le (hP b hb) hE0.bsize))
  have HU := Lib.hid (fun X (hX : Ext w X) => (show RU X A cap l from (h.below hX hP).ru (fun b hb => Nat.lt_of_lt_of_le (hP b hb) hX.bsize)))
  obtain ⟨x, hx⟩ : ∃ x, val 18446744073709551616 l = x := ⟨_, rfl⟩
  rw [hx] at HM ⊢
  have Hx := Lib.hid hx
  have hp0 : mayE C x = false → pubE C x = none := fun h => by unfold pubE; rw [h]; rfl
  have hp1 : mayE C x = true → pubE C x = mulC C false (val 18446744073709551616 C.xl) (val 18446744073709551616 C.yl) x := fun h => by unfold pubE; rw [h]; rfl
  have hcu : mayE C x = true → IsC c C := fun h => by
    rcases hC with h1 | ⟨_, _, rfl⟩
    · exact h1
    · simp [mayE, c0] at h
  obtain ⟨m, hm⟩ : ∃ m, mayE C x = m := ⟨_, rfl⟩
  rw [hm] at HM hp0 hp1 hcu
  obtain ⟨q, hq⟩ : ∃ q, w.heap.size = q := ⟨_, rfl⟩
  rw [hq] at hr hz ⊢
  have Hq := Lib.hid hq
  have HE0 := Lib.hid hE0
  have Hz := Lib.hid hz
  clear h hP hx hm hq hE0 hz
  cases m
  · rw [hp0 rfl]
    clear hp0 hp1 hcu HU
    go_enter Tryz.func12, Tryz.ntmps12
    go_upto_region 1 with fail
    rw [← hW0, Hq.out]
    clear hW0
    go_wp2_with fail
    refine HM.out.mono ?_
    rintro e w1 ⟨rfl, hE1⟩
    have hr1 := hE1.at_ hr
    have HE1 := Lib.hid (HE0.out.trans hE1)
    clear hr hE1
    go_wp2_with fail
    refine (nowhere_any _).mono ?_
    rintro e w2 ⟨rfl, hE2⟩
    have hr2 := hE2.at_ hr1
    obtain ⟨z0, z1, z2, f0, f1, f2⟩ := pt_facts hr2
    have HE2 := Lib.hid (HE1.out.trans hE2)
    clear hr1 hE2
    unfold infV
    go_wp2
    exact end_pt rfl rfl rfl rfl (pt_set hr2 _ _ _) ⟨_, rfl, rfl, pt_ext HE2.out (by rw [Hq.out]; exact Nat.le_refl _) _ _ _⟩
  · rw [hp1 rfl]
    have hC := hcu rfl
    have HBa := Lib.hid (fun X => base_c hC X)
    have HMu := Lib.hid (fun X (hX : Ext w X) v (hv : APt X v false (val 18446744073709551616 C.xl) (val 18446744073709551616 C.yl)) => mul_c hC X hv (HU.out X hX) Hx.out)
    obtain ⟨R, hRR⟩ : ∃ R, mulC C false (val 18446744073709551616 C.xl) (val 18446744073709551616 C.yl) x = R := ⟨_, rfl⟩
    simp only [hRR] at HMu
    rw [hRR]
    clear hp0 hp1 hcu hC HU hRR
    go_enter Tryz.func12, Tryz.ntmps12
    go_upto_region 1 with fail
    rw [← hW0, Hq.out]
    clear hW0
    go_wp2_with fail
    refine HM.out.mono ?_
    rintro e w1 ⟨rfl, hE1⟩
    have hr1 := hE1.at_ hr
    have HE1 := Lib.hid (HE0.out.trans hE1)
    clear hr hE1
    go_wp2_with fail
    refine (HBa.out _).mono ?_
    rintro e w2 ⟨A2, c2, A3, c3, rfl, h2, h3, hE2⟩
    have hr2 := hE2.at_ hr1
    have HE2 := Lib.hid (HE1.out.trans hE2)
    have HM2 := Lib.hid (HMu.out w2 HE2.out _ ⟨A2, A3, c2, c3, C.xl, C.yl, rfl, h2, h3, rfl, rfl⟩)
    clear hr1 hE2 h2 h3
    go_wp2_with fail
    refine HM2.out.mono ?_
    rintro e w3 ⟨o, rfl, hv, hE3⟩
    have hr3 := hE3.at_ hr2
    have hq2 : q ≤ w2.heap.size := by have := HE2.out.bsize; have := Hq.out; omega
    obtain ⟨z0, z1, z2, f0, f1, f2⟩ := pt_facts hr3
    have HE3 := Lib.hid (HE2.out.trans hE3)
    have hv := PtV.mono hv hq2
    clear hr2 hE3 HM2 hq2
    obtain ⟨b, hb⟩ : ∃ b, R.isSome = b := ⟨_, rfl⟩
    obtain ⟨J, hJ⟩ : ∃ J, R.join = J := ⟨_, rfl⟩
    rw [hb]
    rw [hJ] at hv
    have Hbb := Lib.hid hb
    have HJ := Lib.hid hJ
    clear hb hJ
    cases J with
    | none =>
      obtain rfl : o = infV := hv
      unfold infV
      go_wp2
      exact end_pt rfl rfl rfl rfl (pt_set hr3 _ _ _) ⟨_, by rw [Hbb.out]; rfl, by rw [HJ.out]; rfl, pt_ext HE3.out (by rw [Hq.out]; exact Nat.le_refl _) _ _ _⟩
    | some p =>
      obtain ⟨A5, c5, A6, c6, rfl, h5, h6⟩ := hv
      have H5 := Lib.hid h5
      have H6 := Lib.hid h6
      clear h5 h6
      go_wp2
      exact end_pt rfl rfl rfl rfl (pt_set hr3 _ _ _) ⟨_, by rw [Hbb.out]; rfl, by rw [HJ.out]; exact ⟨A5, c5, A6, c6, rfl, H5.out.just (pt_just _ _ _ _ _) hr3 (by decide), H6.out.just (pt_just _ _ _ _ _) hr3 (by decide)⟩, pt_ext HE3.out (by rw [Hq.out]; exact Nat.le_refl _) _ _ _⟩
end Go.Proofs.YtaemogcomplhiaaGreatDoor.Ec

namespace Go.Proofs.YtaemogcomplhiaaGreatDoor.Sha
abbrev W := BitVec 32
def rr (n : Nat) (x : W) : W := (x <<< (32 - n)) ||| (x >>> n)
def g0 (x : W) : W := rr 7 x ^^^ rr 18 x ^^^ (x >>> 3)
def g1 (x : W) : W := rr 17 x ^^^ rr 19 x ^^^ (x >>> 10)
def S1 (x : W) : W := rr 6 x ^^^ rr 11 x ^^^ rr 25 x
def S0 (x : W) : W := rr 2 x ^^^ rr 13 x ^^^ rr 22 x
def ch (x y z : W) : W := (x &&& y) ^^^ (~~~x &&& z)
def mj (x y z : W) : W := (x &&& y) ^^^ (x &&& z) ^^^ (y &&& z)
def wd (l : List W) (i : Nat) : W := l.getD i 0
def o (n : Nat) : W := BitVec.ofNat 32 n
def be (l : List Nat) (i : Nat) : W := (o (l.getD i 0) <<< 24) ||| (o (l.getD (i + 1) 0) <<< 16) ||| (o (l.getD (i + 2) 0) <<< 8) ||| o (l.getD (i + 3) 0)
def nxt (l : List W) : W := wd l (l.length - 16) + g0 (wd l (l.length - 15)) + wd l (l.length - 7) + g1 (wd l (l.length - 2))
def sch (p : List Nat) : Nat → List W
 | 0 => []
 | k + 1 => sch p k ++ [if k < 16 then be p (4 * k) else nxt (sch p k)]
def kk : List W := [
 0x428a2f98, 0x71374491, 0xb5c0fbcf, 0xe9b5dba5, 0x3956c25b, 0x59f111f1, 0x923f82a4, 0xab1c5ed5,
 0xd807aa98, 0x12835b01, 0x243185be, 0x550c7dc3, 0x72be5d74, 0x80deb1fe, 0x9bdc06a7, 0xc19bf174,
 0xe49b69c1, 0xefbe4786, 0x0fc19dc6, 0x240ca1cc, 0x2de92c6f, 0x4a7484aa, 0x5cb0a9dc, 0x76f988da,
 0x983e5152, 0xa831c66d, 0xb00327c8, 0xbf597fc7, 0xc6e00bf3, 0xd5a79147, 0x06ca6351, 0x14292967,
 0x27b70a85, 0x2e1b2138, 0x4d2c6dfc, 0x53380d13, 0x650a7354, 0x766a0abb, 0x81c2c92e, 0x92722c85,
 0xa2bfe8a1, 0xa81a664b, 0xc24b8b70, 0xc76c51a3, 0xd192e819, 0xd6990624, 0xf40e3585, 0x106aa070,
 0x19a4c116, 0x1e376c08, 0x2748774c, 0x34b0bcb5, 0x391c0cb3, 0x4ed8aa4a, 0x5b9cca4f, 0x682e6ff3,
 0x748f82ee, 0x78a5636f, 0x84c87814, 0x8cc70208, 0x90befffa, 0xa4506ceb, 0xbef9a3f7, 0xc67178f2]
structure St where
 (a b c d e f g h : W)
def rnd (s : St) (k w : W) : St :=
 let t := s.h + S1 s.e + ch s.e s.f s.g + k + w
 ⟨t + (S0 s.a + mj s.a s.b s.c), s.a, s.b, s.c, s.d + t, s.e, s.f, s.g⟩
def rnds (L : List W) (s : St) : Nat → St
 | 0 => s
 | k + 1 => rnd (rnds L s k) (wd kk k) (wd L k)
def St.add (s t : St) : St := ⟨s.a + t.a, s.b + t.b, s.c + t.c, s.d + t.d, s.e + t.e, s.f + t.f, s.g + t.g, s.h + t.h⟩
def comp (s : St) (p : List Nat) : St := s.add (rnds (sch p 64) s 64)
def taken (s : St) (m : List Nat) : Nat → St
 | 0 => s
 | k + 1 => comp (taken s m k) ((m.drop (64 * k)).take 64)
def s256 : St := ⟨0x6a09e667, 0xbb67ae85, 0x3c6ef372, 0xa54ff53a, 0x510e527f, 0x9b05688c, 0x1f83d9ab, 0x5be0cd19⟩
def byt (n : Nat) : List Nat := [n / 16777216 % 256, n / 65536 % 256, n / 256 % 256, n % 256]
def St.list (s : St) : List W := [s.a, s.b, s.c, s.d, s.e, s.f, s.g, s.h]
def St.out (s : St) : List Nat := s.list.flatMap fun x => byt x.toNat
def tail (n : Nat) : List Nat := [128] ++ List.replicate ((119 - n % 64) % 64) 0 ++ byt (n * 8 / 4294967296) ++ byt (n * 8 % 4294967296)
def pad (m : List Nat) : List Nat := m ++ tail m.length
def sha (m : List Nat) : List Nat := (taken s256 (pad m) ((pad m).length / 64)).out
def mask (k : List Nat) (c : Nat) : List Nat := (List.range 64).map fun i => k.getD i 0 ^^^ c
def hmac (k m : List Nat) : List Nat := sha (mask k 92 ++ sha (mask k 54 ++ m))

theorem sch_length (p : List Nat) : ∀ k, (sch p k).length = k
 | 0 => rfl
 | k + 1 => by simp [sch, sch_length p k]
theorem sch_get (p : List Nat) : ∀ (k j : Nat), j < k → wd (sch p k) j = if j < 16 then be p (4 * j) else nxt (sch p j)
  | 0, j, h => by omega
  | k + 1, j, h => by
    have hl := sch_length p k
    unfold wd
    rw [sch, List.getD_eq_getElem?_getD]
    rcases Nat.lt_or_ge j k with h1 | h1
    · rw [List.getElem?_append_left (by omega), ← List.getD_eq_getElem?_getD]; exact sch_get p k j h1
    · obtain rfl : j = k := by omega
      rw [List.getElem?_append_right (by omega), hl, Nat.sub_self]; rfl
theorem sch_same (p : List Nat) {k k' j : Nat} (h : j < k) (h' : j < k') : wd (sch p k) j = wd (sch p k') j := by rw [sch_get p k j h, sch_get p k' j h']
theorem sch_next (p : List Nat) {n j : Nat} (h16 : 16 ≤ j) (hn : j < n) :
 wd (sch p n) j = wd (sch p n) (j - 16) + g0 (wd (sch p n) (j - 15)) + wd (sch p n) (j - 7) + g1 (wd (sch p n) (j - 2)) := by
 rw [sch_get p n j hn, if_neg (by omega)]
 unfold nxt
 rw [sch_length]
 rw [sch_same p (show j - 16 < j by omega) (show j - 16 < n by omega), sch_same p (show j - 15 < j by omega) (show j - 15 < n by omega), sch_same p (show j - 7 < j by omega) (show j - 7 < n by omega), sch_same p (show j - 2 < j by omega) (show j - 2 < n by omega)]
theorem byt_length (n : Nat) : (byt n).length = 4 := rfl
theorem byt_lt (n : Nat) : ∀ x ∈ byt n, x < 256 := by
 intro x hx
 simp only [byt, List.mem_cons, List.not_mem_nil, or_false] at hx
 omega
theorem out_lt (s : St) : ∀ x ∈ s.out, x < 256 := by
 intro x hx
 obtain ⟨y, _, hy⟩ := List.mem_flatMap.1 hx
 exact byt_lt _ x hy
theorem sha_length (m : List Nat) : (sha m).length = 32 := rfl
theorem sha_lt (m : List Nat) : ∀ x ∈ sha m, x < 256 := out_lt _
theorem tail_length (n : Nat) : (tail n).length = 9 + (119 - n % 64) % 64 := by simp [tail, byt]; omega
theorem taken_congr (s : St) (m m' : List Nat) : ∀ k, (∀ j, j < k → (m.drop (64 * j)).take 64 = (m'.drop (64 * j)).take 64) → taken s m k = taken s m' k
  | 0, _ => rfl
  | k + 1, h => by
    rw [taken, taken, taken_congr s m m' k (fun j hj => h j (by omega)), h k (by omega)]
theorem taken_append (s : St) (m t : List Nat) (k : Nat) (hk : 64 * k ≤ m.length) : taken s (m ++ t) k = taken s m k :=
 taken_congr s _ _ k fun j hj => by
  rw [List.drop_append_of_le_length (by omega), List.take_append_of_le_length (by rw [List.length_drop]; omega)]
end Go.Proofs.YtaemogcomplhiaaGreatDoor.Sha

namespace Go.Proofs.YtaemogcomplhiaaGreatDoor
open Go.RowKit
namespace Par
section
variable {P : Program} {ops : Array Oper} {Q : Exit → Act → World → Prop}

theorem act_go {M : Nat → Nat} {n : Nat} (hF : Form ops M n) {D : Nat → Bool} {f : Nat → Value} {a : Act} {i : Nat} (hnd : ∀ j, j < n → D j = true → nd M i j = true) :
    ∃ g, (∀ j, D j = true → g j = f j) ∧ put ops D f (List.range n) a = put ops (nd M i) g (List.range n) a ∧
      (i < n → ∀ v, (put ops (nd M i) g (List.range n) a).put (dst ops i) v = put ops (fun j => D j || j == i) (upd g i v) (List.range n) a) := by
  refine ⟨fun j => if D j = true then f j else ((dst ops j).map fun t => a.tmps.getD t undef).getD undef, fun j hj => by simp only [hj, if_true], ?_, fun hi v => ?_⟩
  · exact put_wide a List.nodup_range (fun p hp q hq => hF.own p q (List.mem_range.1 hp) (List.mem_range.1 hq)) (fun j hj hd => ⟨hnd j (List.mem_range.1 hj) hd, by simp only [hd, if_true]⟩) a
      (fun j _ hd t ht => by simp only [hd, Bool.false_eq_true, if_false, ht, Option.map_some, Option.getD_some])
  · rw [put_more (List.mem_range.2 hi) List.nodup_range (fun j hj hne => hF.own i j hi (List.mem_range.1 hj) (Ne.symm hne)) (by simp [nd])]
    refine (put_wide a List.nodup_range (fun p hp q hq => hF.own p q (List.mem_range.1 hp) (List.mem_range.1 hq)) (fun j hj hd => ⟨?_, rfl⟩) a (fun j hj hd t ht => ?_)).symm
    · rw [Bool.or_eq_true, beq_iff_eq] at hd
      rw [Bool.or_eq_true, beq_iff_eq]
      exact hd.imp (hnd j (List.mem_range.1 hj)) id
    · rw [Bool.or_eq_false_iff] at hd
      have hne : j ≠ i := by simpa using hd.2
      simp only [upd, hne, if_false, hd.1, Bool.false_eq_true, ht, Option.map_some, Option.getD_some]
theorem mask_eq {M : Nat → Nat} {j : Nat} {f g : Nat → Value} (h : ∀ k, (k = j ∨ (M j).testBit k = true) → f k = g k) : mask M j f = mask M j g := by
 funext k
 unfold mask
 split
 · rename_i hk
   rw [Bool.or_eq_true, beq_iff_eq] at hk
   exact h k hk
 · rfl
theorem ready_some {M : Nat → Nat} {n : Nat} (hF : Form ops M n) {listed : Array Bool} (hsz : listed.size = ops.size) {j : Nat} (hj : j < n) (hn : listed.getD j false = false) : Region.ready .any ops listed ≠ [] := by
  intro h
  have : ∀ k, k ≤ n → (∀ i, i < k → listed.getD i false = true) := by
    intro k
    induction k with
    | zero => intro _ i hi; omega
    | succ k ihk =>
      intro hk i hi
      by_cases hik : i < k
      · exact ihk (by omega) i hik
      · obtain rfl : i = k := by omega
        cases hd : listed.getD i false
        · exfalso
          have his : i < ops.size := by have := hF.le; omega
          have hmem : i ∈ Region.ready .any ops listed := by
            rw [mem_ready]
            have hil : i < listed.size := by omega
            exact ⟨by simpa [hil] using hd, _, Array.getElem?_eq_getElem his, fun e he hb => ihk (by omega) _ (hF.up i _ (Array.getElem?_eq_getElem his) e he hb)⟩
          rw [h] at hmem
          cases hmem
        · rfl
  rw [this n (Nat.le_refl _) j hj] at hn
  cases hn
theorem listed_all {n : Nat} {listed : Array Bool} (hsz : listed.size = ops.size) (hall : ∀ j, j < n → listed.getD j false = true) (hlt : ∀ j, listed.getD j false = true → j < n) : listed = upto ops.size n := by
 apply Array.ext
 · simp [upto, hsz]
 · intro k h1 h2
   simp only [upto, List.getElem_toArray, List.getElem_map, List.getElem_range]
   by_cases hk : k < n
   · have := hall k hk
     simpa [h1, hk] using this
   · cases hd : listed[k]
     · simp [hk]
     · exact absurd (hlt k (by simp [h1, hd])) hk
theorem set_new {listed : Array Bool} {i : Nat} (hil : i < listed.size) (j : Nat) : (listed.setIfInBounds i true).getD j false = (listed.getD j false || j == i) := by
 by_cases hji : j = i
 · subst hji; simp [hil]
 · rw [Go.getD_set_ne false (fun e => hji e.symm)]; simp [hji]

theorem hup' (f : Nat → Value) (i : Nat) (v : Value) (j : Nat) (hne : j ≠ i) : upd f i v j = f j := by simp only [upd, hne, if_false]
theorem parB {E : World → World → Prop} {n s u : Nat} {M : Nat → Nat} {R : Nat → (Nat → Value) → World → Prop} {S : (Nat → Value) → World → Prop} {cv : Value} {a : Act} {w : World} (hF : Form ops M n) (hu : u < n) (hus : u ≠ s)
    (hleaf : ∀ j, j < n → (M j).testBit u = false)
    (hpu : ∀ f X0 X, E w X0 → (∀ j, (M u).testBit j = true → R j (mask M j f) X0) → ∀ K : Act → World → Prop, K ((put ops (nd M u) f (List.range n) a).put (dst ops u) cv) X → wpOp P ops Q u K (put ops (nd M u) f (List.range n) a) X)
    (htail : ∀ f Y, f u = cv → S (mask M s f) Y → wpAny P .any ops Q (ops.size - n) (upto ops.size n) (put ops (fun _ => true) f (List.range n) a) Y) (hs : s < n) :
    ∀ (fuel : Nat) (listed : Array Bool) (f : Nat → Value) (a' : Act) (X0 Y : World), listed.size = ops.size →
      (∀ j o, ops[j]? = some o → listed.getD j false = true → ∀ e ∈ o.after, binds e = true → listed.getD e.on false = true) →
      (∀ j, listed.getD j false = true → j < n) → (∀ j, j < n → j ≠ u → listed.getD j false = true) → fuel + cnt (fun j => listed.getD j false) n = ops.size →
      E w X0 → (∀ j, j < s → j ≠ u → R j (mask M j f) X0) → (listed.getD u false = true → f u = cv) → S (mask M s f) Y → a' = put ops (fun j => listed.getD j false) f (List.range n) a →
      (∀ j, (M u).testBit j = true → j < s) → wpAny P .any ops Q fuel listed a' Y := by
  intro fuel
  induction fuel with
  | zero =>
    intro listed f a' X0 Y hsz hcl hlt hall hc hE hR hfu hS ha hlow
    have hcm : cnt (fun j => listed.getD j false) n ≤ n := cnt_le _ _
    have hnn : n = ops.size := by have := hF.le; omega
    have hlu : listed.getD u false = true := by
      cases h : listed.getD u false
      · have := cnt_lt (D := fun j => listed.getD j false) (i := u) h hu; omega
      · rfl
    have h1 := listed_all (ops := ops) hsz (fun j hj => by by_cases h : j = u; (rw [h]; exact hlu); exact hall j hj h) hlt
    have h2 := htail f Y (hfu hlu) hS
    have e0 : ops.size - n = 0 := by omega
    rw [e0] at h2
    rw [h1, ha]
    have e1 : put ops (fun j => listed.getD j false) f (List.range n) a = put ops (fun _ => true) f (List.range n) a := put_congr (fun j hj => ⟨by by_cases h : j = u; (rw [h]; exact hlu); exact hall j (List.mem_range.1 hj) h, rfl⟩) _
    rw [e1]
    exact h2
  | succ fuel ih =>
    intro listed f a' X0 Y hsz hcl hlt hall hc hE hR hfu hS ha hlow
    cases hlu : listed.getD u false
    · refine ⟨fun h => absurd h (ready_some hF hsz hu hlu), fun i hi => ?_⟩
      obtain ⟨hi0, o, ho, hdep⟩ := mem_ready.1 hi
      have his : i < ops.size := (Array.getElem?_eq_some_iff.1 ho).1
      have hil : i < listed.size := by omega
      have hid : listed.getD i false = false := by simpa [hil] using hi0
      have anc := fun i o ho hd k hk hb => anc hF hcl i i o (Nat.le_refl _) ho hd k hk hb
      have hiu : i = u := by
        rcases Nat.lt_or_ge i n with h | h
        · exact Decidable.byContradiction fun hne => by rw [hall i h hne] at hid; cases hid
        · have := anc i o ho hdep u (by have := hF.le; omega) (hF.late i h his u (by omega))
          rw [hlu] at this; cases this
      subst hiu
      have hnd : ∀ j, j < n → listed.getD j false = true → nd M i j = true := fun j hj hd => by
        have h1 : j ≠ i := fun e => by rw [e, hid] at hd; cases hd
        simp [nd, h1, hleaf j hj]
      obtain ⟨g, hg1, hg2, hg3⟩ := act_go (M := M) (a := a) (f := f) (D := fun j => listed.getD j false) hF hnd
      rw [ha, hg2]
      have hgf : ∀ j, j < n → j ≠ i → g j = f j := fun j hj hne => hg1 j (hall j hj hne)
      have hms : ∀ h : Nat → Value, (∀ j, j < n → j ≠ i → h j = f j) → ∀ j, j < n → j ≠ i → mask M j h = mask M j f := fun h hh j hj hne => mask_eq fun k hk => by
        rcases hk with rfl | hk
        · exact hh k hj hne
        · have hjs : j < ops.size := by have := hF.le; omega
          have := hF.bit j hjs k hk
          exact hh k (by omega) (fun e => by rw [e, hleaf j hj] at hk; cases hk)
      refine hpu g X0 Y hE (fun j hb => ?_) _ ?_
      · have hj := hlow j hb
        have hne : j ≠ i := fun e => by rw [e, hleaf i hu] at hb; cases hb
        rw [hms g hgf j (by omega) hne]
        exact hR j hj hne
      · rw [hg3 hu]
        have hnew := set_new hil
        have hup : ∀ j, j < n → j ≠ i → upd g i cv j = f j := fun j hj hne => by simp only [upd, hne, if_false]; exact hgf j hj hne
        refine ih _ (upd g i cv) _ X0 Y (by simpa using hsz) (fun j oj hoj hd e he hb => ?_) (fun j hd => ?_) (fun j hj hne => ?_) ?_ hE (fun j hj hne => ?_) (fun _ => by simp [upd]) ?_ ?_ hlow
        · rw [hnew] at hd ⊢
          rw [Bool.or_eq_true, beq_iff_eq] at hd ⊢
          rcases hd with hd | rfl
          · exact .inl (hcl j oj hoj hd e he hb)
          · rw [ho] at hoj; cases hoj; exact .inl (hdep e he hb)
        · rw [hnew, Bool.or_eq_true, beq_iff_eq] at hd
          rcases hd with hd | rfl
          · exact hlt j hd
          · exact hu
        · rw [hnew, hall j hj hne]; rfl
        · rw [cnt_more (D := fun j => listed.getD j false) (D' := fun j => (listed.setIfInBounds i true).getD j false) hid (by rw [hnew]; simp) (fun j hj => by show (listed.setIfInBounds i true).getD j false = listed.getD j false; rw [hnew]; simp [hj]) hu]
          omega
        · rw [hms _ hup j (by omega) hne]
          exact hR j hj hne
        · rw [hms _ hup s hs (Ne.symm hus)]
          exact hS
        · exact put_congr (fun j _ => ⟨(hnew j).symm, rfl⟩) _
    · have h1 := listed_all (ops := ops) hsz (fun j hj => by by_cases h : j = u; (rw [h]; exact hlu); exact hall j hj h) hlt
      have e1 : put ops (fun j => listed.getD j false) f (List.range n) a = put ops (fun _ => true) f (List.range n) a := put_congr (fun j hj => ⟨by by_cases h : j = u; (rw [h]; exact hlu); exact hall j (List.mem_range.1 hj) h, rfl⟩) _
      have hcm := cnt_full (D := fun j => listed.getD j false) (m := n) (fun j hj => by by_cases h : j = u; (rw [h]; exact hlu); exact hall j hj h)
      have h2 := htail f Y (hfu hlu) hS
      have e0 : ops.size - n = fuel + 1 := by omega
      rw [e0] at h2
      rw [h1, ha, e1]
      exact h2

theorem parS {E : World → World → Prop} (hE0 : ∀ w, E w w) (hE1 : ∀ a b c, E a b → E b c → E a c) (hE2 : ∀ a b, E a b → a.heap.size ≤ b.heap.size)
    {n s u : Nat} {M : Nat → Nat} {AL : Nat → Bool} {R : Nat → (Nat → Value) → World → Prop} {S : (Nat → Value) → World → Prop} {cv : Value} {a : Act} {w : World} (hF : Form ops M n) (hsn : s + 1 = n) (hds : dst ops s = none) (hu : u < s)
    (hleaf : ∀ j, j < n → (M j).testBit u = false) (hsto : ∀ k, k < s → k ≠ u → (M s).testBit k = true)
    (hR : ∀ j, j < n → ∀ f X, R j (mask M j f) X → ∀ Y, E X Y → R j (mask M j f) Y)
    (hstep : ∀ i, i < s → Step P ops Q E n M AL (fun j f X => R j (mask M j f) X) a w i)
    (hpu : ∀ f X0 X, E w X0 → (∀ j, (M u).testBit j = true → R j (mask M j f) X0) → ∀ K : Act → World → Prop, K ((put ops (nd M u) f (List.range n) a).put (dst ops u) cv) X → wpOp P ops Q u K (put ops (nd M u) f (List.range n) a) X)
    (hRc : ∀ f X, R u (mask M u f) X → f u = cv)
    (hst : ∀ f X, E w X → (∀ j, (M s).testBit j = true → R j (mask M j f) X) → (∀ j, (M s).testBit j = true → AL j = true → ∃ b, f j = .pointer (some ⟨b, 0, none⟩) ∧ b < X.heap.size) → ∀ K : Act → World → Prop, (∀ Y, S (mask M s f) Y → K (put ops (nd M s) f (List.range n) a) Y) → wpOp P ops Q s K (put ops (nd M s) f (List.range n) a) X)
    (htail : ∀ f Y, f u = cv → S (mask M s f) Y → wpAny P .any ops Q (ops.size - n) (upto ops.size n) (put ops (fun _ => true) f (List.range n) a) Y) :
    ∀ (fuel : Nat) (listed : Array Bool) (f : Nat → Value) (a' : Act) (X : World), listed.size = ops.size →
      (∀ j o, ops[j]? = some o → listed.getD j false = true → ∀ e ∈ o.after, binds e = true → listed.getD e.on false = true) →
      (∀ j, listed.getD j false = true → j < s) → fuel + cnt (fun j => listed.getD j false) n = ops.size →
      Inv ops E n M AL R a w (fun j => listed.getD j false) f a' X → wpAny P .any ops Q fuel listed a' X := by
  intro fuel
  induction fuel with
  | zero =>
    intro listed f a' X hsz hcl hlt hc hI
    exfalso
    have h1 : listed.getD s false = false := by
      cases h : listed.getD s false
      · rfl
      · have := hlt s h; omega
    have := cnt_lt (D := fun j => listed.getD j false) (i := s) h1 (m := n) (by omega)
    have := hF.le
    omega
  | succ fuel ih =>
    intro listed f a' X hsz hcl hlt hc hI
    have hsf : listed.getD s false = false := by
      cases h : listed.getD s false
      · rfl
      · have := hlt s h; omega
    refine ⟨fun h => absurd h (ready_some hF hsz (by omega) hsf), fun i hi => ?_⟩
    obtain ⟨hi0, o, ho, hdep⟩ := mem_ready.1 hi
    have his : i < ops.size := (Array.getElem?_eq_some_iff.1 ho).1
    have hil : i < listed.size := by omega
    have hid : listed.getD i false = false := by simpa [hil] using hi0
    have anc := fun i o ho hd k hk hb => anc hF hcl i i o (Nat.le_refl _) ho hd k (Nat.lt_of_lt_of_le hk hF.le) hb
    have him : i < n := by
      rcases Nat.lt_or_ge i n with h | h
      · exact h
      · have := anc i o ho hdep s (by omega) (hF.late i h his s (by omega))
        rw [hsf] at this; cases this
    have hnd : ∀ j, j < n → listed.getD j false = true → nd M i j = true := fun j hj hd => by
      have h1 : j ≠ i := fun e => by rw [e, hid] at hd; cases hd
      have hjs : j < ops.size := by have := hF.le; omega
      have h2 : (M j).testBit i = false := by
        cases hb : (M j).testBit i
        · rfl
        · have := anc j _ (Array.getElem?_eq_getElem hjs) (hcl j _ (Array.getElem?_eq_getElem hjs) hd) i him hb
          rw [hid] at this; cases this
      simp [nd, h1, h2]
    obtain ⟨g, hg1, hg2, hg3⟩ := act_go (M := M) (a := a) (f := f) (D := fun j => listed.getD j false) hF hnd
    have hmask : ∀ j, j < n → listed.getD j false = true → mask M j g = mask M j f := fun j hj hd => mask_eq fun k hk => by
      rcases hk with rfl | hk
      · exact hg1 k hd
      · have hjs : j < ops.size := by have := hF.le; omega
        have hkj := hF.bit j hjs k hk
        exact hg1 k (anc j _ (Array.getElem?_eq_getElem hjs) (hcl j _ (Array.getElem?_eq_getElem hjs) hd) k (by omega) hk)
    have hnew := set_new hil
    have hcl' : ∀ j oj, ops[j]? = some oj → (listed.setIfInBounds i true).getD j false = true → ∀ e ∈ oj.after, binds e = true → (listed.setIfInBounds i true).getD e.on false = true := fun j oj hoj hd e he hb => by
      rw [hnew] at hd ⊢
      rw [Bool.or_eq_true, beq_iff_eq] at hd ⊢
      rcases hd with hd | rfl
      · exact .inl (hcl j oj hoj hd e he hb)
      · rw [ho] at hoj; cases hoj; exact .inl (hdep e he hb)
    have hcnt : fuel + cnt (fun j => (listed.setIfInBounds i true).getD j false) n = ops.size := by
      rw [cnt_more (D := fun j => listed.getD j false) (D' := fun j => (listed.setIfInBounds i true).getD j false) hid (by rw [hnew]; simp) (fun j hj => by show (listed.setIfInBounds i true).getD j false = listed.getD j false; rw [hnew]; simp [hj]) him]
      omega
    rw [hI.act, hg2]
    by_cases hisx : i = s
    · subst hisx
      have hdone : ∀ j, j < i → j ≠ u → listed.getD j false = true := fun j hj hne => anc i o ho hdep j (by omega) (hsto j hj hne)
      refine hst g X hI.ext (fun j hb => ?_) (fun j hb hal => ?_) _ (fun Y hS => ?_)
      · have hj : j < i := hF.bit i his j hb
        have hd := anc i o ho hdep j (by omega) hb
        rw [hmask j (by omega) hd]
        exact hI.said j (by omega) hd
      · have hj : j < i := hF.bit i his j hb
        have hd := anc i o ho hdep j (by omega) hb
        obtain ⟨b, h1, h2⟩ := hI.at_ j (by omega) hd hal
        exact ⟨b, (hg1 j hd).trans h1, h2⟩
      · have ha := hg3 him undef
        rw [hds] at ha
        have ha' : put ops (nd M i) g (List.range n) a = put ops (fun j => (listed.setIfInBounds i true).getD j false) (upd g i undef) (List.range n) a := by
          refine Eq.trans ha (put_congr (fun j _ => ⟨(hnew j).symm, rfl⟩) _)
        have hup : ∀ j, j ≠ i → upd g i undef j = g j := fun j hne => by simp only [upd, hne, if_false]
        refine parB hF (by omega) (by omega) hleaf hpu (S := fun f Y => S (mask M i (upd f i (g i))) Y) (fun f Y hfu hS' => ?_) (s := i) him fuel _ (upd g i undef) _ X Y (by simpa using hsz) hcl' (fun j hd => ?_) (fun j hj hne => ?_) hcnt hI.ext (fun j hj hne => ?_) (fun hd => ?_) ?_ ha' (fun j hb => ?_)
        · have h1 : put ops (fun _ => true) f (List.range n) a = put ops (fun _ => true) (upd f i (g i)) (List.range n) a := by
            have : ∀ (l : List Nat) (a : Act), put ops (fun _ => true) f l a = put ops (fun _ => true) (upd f i (g i)) l a := fun l => by
              induction l with
              | nil => intro a; rfl
              | cons j l ih =>
                intro a
                simp only [put, if_true]
                by_cases hji : j = i
                · subst hji
                  rw [hds]
                  exact ih _
                · rw [hup' f i (g i) j hji]
                  exact ih _
            exact this _ _
          rw [h1]
          refine htail (upd f i (g i)) Y (by rw [hup' f i (g i) u (by omega)]; exact hfu) ?_
          have : mask M i (upd f i (g i)) = mask M i (upd (mask M i f) i (g i)) := mask_eq fun k hk => by
            by_cases hki : k = i
            · subst hki; simp [upd]
            · rw [hup' _ _ _ _ hki, hup' _ _ _ _ hki]
              have hb := hk.resolve_left hki
              simp [mask, hb]
          rw [this]
          exact hS'
        · rw [hnew, Bool.or_eq_true, beq_iff_eq] at hd
          rcases hd with hd | rfl
          · have := hlt j hd; omega
          · exact him
        · rw [hnew]
          by_cases hji : j = i
          · simp [hji]
          · rw [hdone j (by omega) hne]; rfl
        · have hd := hdone j hj hne
          have : mask M j (upd g i undef) = mask M j f := by
            rw [← hmask j (by omega) hd]
            refine mask_eq fun k hk => hup k fun e => ?_
            rcases hk with rfl | hk
            · omega
            · have hjs : j < ops.size := by have := hF.le; omega
              have := hF.bit j hjs k hk
              omega
          rw [this]
          exact hI.said j (by omega) hd
        · rw [hnew, Bool.or_eq_true, beq_iff_eq] at hd
          have hd' := hd.resolve_right (by omega)
          rw [hup u (by omega), hg1 u hd']
          exact hRc f X (hI.said u (by omega) hd')
        · have : mask M i (upd (mask M i (upd g i undef)) i (g i)) = mask M i g := mask_eq fun k hk => by
            by_cases hki : k = i
            · subst hki; simp [upd]
            · have hb := hk.resolve_left hki
              rw [hup' _ _ _ _ hki]
              simp [mask, hb, upd, hki]
          show S (mask M i (upd (mask M i (upd g i undef)) i (g i))) Y
          rw [this]
          exact hS
        · have hub : u < ops.size := by have := hF.le; omega
          have := hF.bit u hub j hb
          omega
    · have hi' : i < s := by omega
      refine hstep i hi' g X hI.ext (fun j hb => ?_) _ (fun a'' v X' ha hE hA hR' => ?_)
      · have hj : j < n := by have := hF.bit i his j hb; omega
        have hd := anc i o ho hdep j hj hb
        show R j (mask M j g) X
        rw [hmask j hj hd]
        exact hI.said j hj hd
      · have hnin : ∀ j, j < n → listed.getD j false = true → j ≠ i := fun j _ hd e => by rw [e, hid] at hd; cases hd
        have hupd : ∀ j, listed.getD j false = true → upd g i v j = f j := fun j hd => by
          have hne : j ≠ i := fun e => by rw [e, hid] at hd; cases hd
          simp only [upd, hne, if_false]; exact hg1 j hd
        have hupi : upd g i v i = v := by simp [upd]
        have hmk : ∀ j, j < n → listed.getD j false = true → mask M j (upd g i v) = mask M j f := fun j hj hd => by
          rw [← hmask j hj hd]
          refine mask_eq fun k hk => ?_
          have hne : k ≠ i := by
            rintro rfl
            rcases hk with rfl | hk
            · exact hnin _ hj hd rfl
            · have := hnd j hj hd
              simp [nd, hk] at this
          simp [upd, hne]
        refine ih _ (upd g i v) a'' X' (by simpa using hsz) hcl' (fun j hd => ?_) hcnt ⟨?_, hE1 _ _ _ hI.ext hE, fun j hj hd => ?_, fun j hj hd hal => ?_, fun j k hj hk hd hd' hal hal' hne => ?_⟩
        · rw [hnew, Bool.or_eq_true, beq_iff_eq] at hd
          rcases hd with hd | rfl
          · exact hlt j hd
          · exact hi'
        · rw [ha, hg3 him]
          exact put_congr (fun j _ => ⟨(hnew j).symm, rfl⟩) _
        · rw [hnew, Bool.or_eq_true, beq_iff_eq] at hd
          by_cases hold : listed.getD j false = true
          · rw [hmk j hj hold]
            exact hR j hj f X (hI.said j hj hold) X' hE
          · obtain rfl : j = i := hd.resolve_left hold
            exact hR' X' (hE0 _)
        · rw [hnew, Bool.or_eq_true, beq_iff_eq] at hd
          by_cases hold : listed.getD j false = true
          · obtain ⟨b, h1, h2⟩ := hI.at_ j hj hold hal
            exact ⟨b, (hupd j hold).trans h1, Nat.lt_of_lt_of_le h2 (hE2 _ _ hE)⟩
          · obtain rfl : j = i := hd.resolve_left hold
            rw [if_pos hal] at hA
            exact ⟨X.heap.size, hupi.trans hA.1, hA.2⟩
        · rw [hnew, Bool.or_eq_true, beq_iff_eq] at hd hd'
          have key : ∀ j k, j < n → listed.getD j false = true → AL j = true → AL k = true → k = i → upd g i v j ≠ upd g i v k := fun j k hj hold hal hal' hki heq => by
            subst hki
            rw [if_pos hal'] at hA
            obtain ⟨b, h1, h2⟩ := hI.at_ j hj hold hal
            rw [hupd j hold, hupi, h1, hA.1] at heq
            injection heq with heq
            injection heq with heq
            injection heq with heq
            omega
          by_cases hold : listed.getD j false = true
          · by_cases hold' : listed.getD k false = true
            · rw [hupd j hold, hupd k hold']
              exact hI.apart j k hj hk hold hold' hal hal' hne
            · exact key j k hj hold hal hal' (hd'.resolve_left hold')
          · have hji := hd.resolve_left hold
            by_cases hold' : listed.getD k false = true
            · exact fun e => key k j hk hold' hal' hal hji e.symm
            · exact absurd (hji.trans (hd'.resolve_left hold').symm) hne
end
section
variable {P : Program} {Q : Exit → Act → World → Prop}
def okS (ops : Array Oper) (M : Nat → Nat) (s u : Nat) (AL : List Nat) : Bool :=
 (dst ops s).isNone && decide (u < s) && !(AL.contains u) && ((List.range (s + 1)).all fun j => !(M j).testBit u) && ((List.range s).all fun k => k == u || (M s).testBit k)
structure PuO (P : Program) (ol : List Oper) (Q : Exit → Act → World → Prop) (E : World → World → Prop) (n : Nat) (L : List Nat) (R : Nat → (Nat → Value) → World → Prop) (a : Act) (w : World) (u : Nat) (cv : Value) (o : Oper) : Prop where
 out : ol[u]? = some o → ∀ f X0 X, E w X0 → (∀ j, (L.getD u 0).testBit j = true → R j (mask (fun i => L.getD i 0) j f) X0) → ∀ K : Act → World → Prop, K ((put ol.toArray (nd (fun i => L.getD i 0) u) f (List.range n) a).put (dst ol.toArray u) cv) X → wpOp P ol.toArray Q u K (put ol.toArray (nd (fun i => L.getD i 0) u) f (List.range n) a) X
theorem PuO.intro {ol : List Oper} {E : World → World → Prop} {n : Nat} {L : List Nat} {R : Nat → (Nat → Value) → World → Prop} {a : Act} {w : World} {u : Nat} {cv : Value} {o : Oper} (pl : List (Nat × Nat)) (hpl : sel ol.toArray (nd (fun i => L.getD i 0) u) (List.range n) = pl)
 (h : ∀ f X0 X, E w X0 → Way (∀ j, (L.getD u 0).testBit j = true → R j (mask (fun i => L.getD i 0) j f) X0) → ∀ K : Act → World → Prop, Way (K ((putL f pl a).put o.dst cv) X) →
  Way (if Region.wanted o (yielded ol.toArray (putL f pl a).tmps) = true then Oper.wp P o (putL f pl a) X K Q else K ((putL f pl a).put o.dst undef) X)) : PuO P ol Q E n L R a w u cv o := by
 refine ⟨fun ho f X0 X hX hR K hK => ?_⟩
 have ho' : ol.toArray[u]? = some o := by simpa using ho
 refine wpOp_step ho' fun K' hK' => ?_
 have h1 := h f X0 X hX ⟨hR⟩ K'
 rw [← hpl, ← put_sel] at h1
 refine (h1 ⟨hK' _ _ ?_⟩).out
 have : o.dst = dst ol.toArray u := by rw [dst, ho']; rfl
 rw [this]
 exact hK
inductive StepX (P : Program) (ol : List Oper) (Q : Exit → Act → World → Prop) (E : World → World → Prop) (n : Nat) (L AL : List Nat) (R : Nat → (Nat → Value) → World → Prop) (a : Act) (w : World) (u : Nat) (cv : Value) : Nat → Oper → Prop
 | step {i : Nat} {o : Oper} (hne : (i == u) = false) (h : StepO P ol Q E n L AL R a w i o) : StepX P ol Q E n L AL R a w u cv i o
 | pure {o : Oper} (h : PuO P ol Q E n L R a w u cv o) : StepX P ol Q E n L AL R a w u cv u o
inductive FinS (P : Program) (ol : List Oper) (Q : Exit → Act → World → Prop) (E : World → World → Prop) (s u : Nat) (cv : Value) (L AL : List Nat) (R : Nat → (Nat → Value) → World → Prop) (S : (Nat → Value) → World → Prop) (pl : List (Nat × Nat)) (a : Act) (w : World) : List Oper → Prop
  | intro {o : Oper} {l : List Oper}
    (hst : ∀ f X, E w X → Way (∀ j, (L.getD s 0).testBit j = true → R j (mask (fun i => L.getD i 0) j f) X) → Way (∀ j, (L.getD s 0).testBit j = true → AL.contains j = true → ∃ b, f j = .pointer (some ⟨b, 0, none⟩) ∧ b < X.heap.size) → ∀ K : Act → World → Prop, Way (∀ Y, S (mask (fun i => L.getD i 0) s f) Y → K (putL f pl a) Y) →
      Way (if Region.wanted o (yielded ol.toArray (putL f pl a).tmps) = true then Oper.wp P o (putL f pl a) X K Q else K ((putL f pl a).put o.dst undef) X))
    (htail : ∀ f Y, f u = cv → S (mask (fun i => L.getD i 0) s f) Y → Way (Chain P ol Q l (putL f pl a) Y)) : FinS P ol Q E s u cv L AL R S pl a w (o :: l)
theorem any_sto {E : World → World → Prop} (hE0 : ∀ w, E w w) (hE1 : ∀ a b c, E a b → E b c → E a c) (hE2 : ∀ a b, E a b → a.heap.size ≤ b.heap.size)
    {ol : List Oper} {a : Act} {w X0 : World} (hX0 : E w X0) (s u : Nat) (cv : Value) (L AL : List Nat) (R : Nat → (Nat → Value) → World → Prop) (S : (Nat → Value) → World → Prop) (hok : ok ol.toArray (fun i => L.getD i 0) (s + 1) = true) (hokS : okS ol.toArray (fun i => L.getD i 0) s u AL = true)
    (hRc : ∀ f X, R u f X ↔ f u = cv) (pl : List (Nat × Nat)) (hpl : sel ol.toArray (fun _ => true) (List.range (s + 1)) = pl) (hpl2 : sel ol.toArray (nd (fun i => L.getD i 0) s) (List.range (s + 1)) = pl)
    (hstep : AllOps (StepX P ol Q E (s + 1) L AL R a w u cv) (FinS P ol Q E s u cv L AL R S pl a w) 0 s ol) : wpAny P .any ol.toArray Q ol.toArray.size (Array.replicate ol.toArray.size false) a X0 := by
  have hF := ok.form hok
  unfold okS at hokS
  simp only [Bool.and_eq_true, decide_eq_true_eq, List.all_eq_true, List.mem_range, Bool.not_eq_true', Bool.or_eq_true, beq_iff_eq, Option.isNone_iff_eq_none] at hokS
  obtain ⟨⟨⟨⟨h1, h2⟩, h3⟩, h4⟩, h5⟩ := hokS
  have hss : s < ol.toArray.size := by have := hF.le; omega
  have hus : u < ol.length := by simp at hss; omega
  have hpure : PuO P ol Q E (s + 1) L R a w u cv ol[u] := by
    obtain ⟨o, g1, g2⟩ := hstep.out u h2
    rw [Nat.zero_add] at g2
    cases g2 with
    | step hne _ => simp at hne
    | pure h => rw [List.getElem?_eq_getElem hus] at g1; injection g1 with g1; rw [g1]; exact h
  have hpu := hpure.out (List.getElem?_eq_getElem hus)
  obtain ⟨o, l, hol, hst, htail⟩ : ∃ o l, ol.drop s = o :: l ∧ (∀ f X, E w X → Way (∀ j, (L.getD s 0).testBit j = true → R j (mask (fun i => L.getD i 0) j f) X) → Way (∀ j, (L.getD s 0).testBit j = true → AL.contains j = true → ∃ b, f j = .pointer (some ⟨b, 0, none⟩) ∧ b < X.heap.size) → ∀ K : Act → World → Prop, Way (∀ Y, S (mask (fun i => L.getD i 0) s f) Y → K (putL f pl a) Y) →
      Way (if Region.wanted o (yielded ol.toArray (putL f pl a).tmps) = true then Oper.wp P o (putL f pl a) X K Q else K ((putL f pl a).put o.dst undef) X)) ∧
    (∀ f Y, f u = cv → S (mask (fun i => L.getD i 0) s f) Y → Way (Chain P ol Q l (putL f pl a) Y)) := by
    have := hstep.end_
    generalize ol.drop s = d at this
    cases this with
    | intro hst htail => exact ⟨_, _, rfl, hst, htail⟩
  have hosl : s < ol.length := by simpa using hss
  rw [List.drop_eq_getElem_cons hosl] at hol
  injection hol with ho1 ho2
  subst ho1 ho2
  refine parS hE0 hE1 hE2 (R := fun j f X => ∀ Y, E X Y → R j f Y) (S := S) (cv := cv) (M := fun i => L.getD i 0) (AL := fun i => AL.contains i) (n := s + 1) (s := s) (u := u) (a := a) (w := w) hF rfl h1 h2 (fun j hj => h4 j hj) (fun k hk hne => (h5 k hk).resolve_left hne) (fun j _ f X h Y hY Z hZ => h Z (hE1 _ _ _ hY hZ))
    (fun i hi => ?_) (fun f X1 X hX hR K hK => hpu f X1 X hX (fun j hj => hR j hj X1 (hE0 _)) K hK) (fun f X h => (hRc _ _).1 (h X (hE0 _)) |> fun h => by simpa [mask] using h) (fun f X hX hR hal K hK => ?_) (fun f Y hfu hS => ?_) ol.toArray.size _ (fun _ => undef) a X0 (by simp) (fun j o _ h => (by rw [none_] at h; cases h)) (fun j h => (by rw [none_] at h; cases h)) ?_ ⟨?_, hX0, fun j _ h => (by rw [none_] at h; cases h), fun j _ h => (by rw [none_] at h; cases h), fun j k _ _ h => (by rw [none_] at h; cases h)⟩
  · by_cases hiu : i = u
    · subst hiu
      intro f X hX hR K hK
      refine hpu f X X hX (fun j hj => hR j hj X (hE0 _)) K (hK _ cv X rfl (hE0 _) (by show (if AL.contains i = true then _ else True); rw [if_neg (by rw [h3]; decide)]; trivial) (fun Y _ Z _ => (hRc _ _).2 (by simp [mask, upd])))
    · obtain ⟨o, g1, g2⟩ := hstep.out i hi
      rw [Nat.zero_add] at g2
      cases g2 with
      | step hne h =>
        intro f X hX hR K hK
        exact h.out g1 f X hX (fun j hj => hR j hj X (hE0 _)) K (fun a' v X' ha hE hA hR' => hK a' v X' ha hE hA (fun Y hY Z hZ => hR' Z (hE1 _ _ _ hY hZ)))
      | pure h => exact absurd rfl hiu
  · have ho' : ol.toArray[s]? = some ol[s] := by simp [hosl]
    refine wpOp_step ho' fun K' hK' => ?_
    rw [put_sel, hpl2] at hK ⊢
    exact (hst f X hX ⟨fun j hj => hR j hj X (hE0 _)⟩ ⟨hal⟩ K' ⟨fun Y hS => hK' _ _ (hK Y hS)⟩).out
  · rw [put_sel, hpl]
    exact Chain.sound hF (ol.toArray.size - (s + 1)) (s + 1) _ Y (Nat.le_refl _) (by omega) (htail f Y hfu hS).out
  · have : ∀ n, cnt (fun j => (Array.replicate ol.toArray.size false).getD j false) n = 0 := fun n => by
      induction n with
      | zero => rfl
      | succ n ih => rw [cnt, ih, none_]; rfl
    rw [this]; rfl
  · have : ∀ (l : List Nat) (a : Act), put ol.toArray (fun j => (Array.replicate ol.toArray.size false).getD j false) (fun _ => undef) l a = a := fun l => by
      induction l with
      | nil => intro a; rfl
      | cons j l ih => intro a; rw [put, none_]; exact ih _
    exact (this _ _).symm
theorem sto_end {K : Act → World → Prop} {S : World → Prop} {A b : Act} {Y : World} (hK : Way (∀ Y, S Y → K A Y)) (he : b = A) (hS : S Y) : K b Y := he ▸ hK.out Y hS
theorem pu_end {K : Act → World → Prop} {A b : Act} {X : World} (hK : Way (K A X)) (he : b = A) : K b X := he ▸ hK.out
theorem region_sto {ol : List Oper} {id : Nat} {a : Act} {w : World} (hm : P.follows .mixedOrders = true) (s u : Nat) (cv : Value) (L AL : List Nat) (R : Nat → (Nat → Value) → World → Prop) (S : (Nat → Value) → World → Prop) (hok : ok ol.toArray (fun i => L.getD i 0) (s + 1) = true) (hokS : okS ol.toArray (fun i => L.getD i 0) s u AL = true)
 (hRc : ∀ f X, R u f X ↔ f u = cv) (pl : List (Nat × Nat)) (hpl : sel ol.toArray (fun _ => true) (List.range (s + 1)) = pl) (hpl2 : sel ol.toArray (nd (fun i => L.getD i 0) s) (List.range (s + 1)) = pl)
 (hstep : AllOps (StepX P ol Q Ext (s + 1) L AL R a w u cv) (FinS P ol Q Ext s u cv L AL R S pl a w) 0 s ol) : (Code.region id ol.toArray true).wp P Q a w :=
 wp_region_any hm (any_sto Ext.refl (fun _ _ _ => Ext.trans) (fun _ _ => Ext.bsize) (Ext.drew w) s u cv L AL R S hok hokS hRc pl hpl hpl2 hstep)
end
end Par
end Go.Proofs.YtaemogcomplhiaaGreatDoor
