/- zfield: an element is raised to a power. curve.Decode. -/
import Derived.Test.YtldhmjfjbalakaaKAq
import Derived.Test.YtldhmjfjbalakaaKAu
import Derived.ControlIn
import Derived.Sort.CutIn
import Derived.Sort.AtCallIn
import Derived.TacticsInMore
import Derived.Deep.DeepCutAuto
namespace Go.Proofs.Ytldhmjfjbalakaa
open Go.RowKit Go.Shelf

attribute [local go_sem] Oper.semAt_some

/-- What of the exponent's bits has come behind k of them. -/
def topOf (E k : Nat) : Nat := E / 2 ^ (nbits E - k)
theorem topOf_zero (E : Nat) : topOf E 0 = 0 := by rw [topOf, Nat.sub_zero]; exact Nat.div_eq_of_lt (lt_of_nbits (Nat.le_refl _))
theorem topOf_all (E : Nat) : topOf E (nbits E) = E := by rw [topOf, Nat.sub_self, Nat.pow_zero, Nat.div_one]
theorem topOf_succ {E k : Nat} (hk : k < nbits E) : topOf E (k + 1) = 2 * topOf E k + (bitAt E k).2 := by
 rw [topOf, topOf, bitAt, show nbits E - k = (nbits E - (k + 1)) + 1 by omega, show nbits E - 1 - k = nbits E - (k + 1) by omega, Nat.pow_succ, ← Nat.div_div_eq_div_mul]
 have := Nat.div_add_mod (E / 2 ^ (nbits E - (k + 1))) 2
 omega
theorem pow_top {x E k : Nat} (hk : k < nbits E) (hb : (bitAt E k).2 = 0) : x ^ topOf E (k + 1) = x ^ topOf E k * x ^ topOf E k := by
 rw [topOf_succ hk, hb, Nat.add_zero, Nat.two_mul, Nat.pow_add]
theorem pow_top1 {x E k : Nat} (hk : k < nbits E) (hb : (bitAt E k).2 = 1) : x ^ topOf E (k + 1) = x ^ topOf E k * x ^ topOf E k * x := by
 rw [topOf_succ hk, hb, Nat.pow_succ, Nat.two_mul, Nat.pow_add]
theorem Keeps.just {B C g : Nat} {X Y : World} {cs : Array Value} {t : TypeId} {fr : Nat × Nat} (h : Just g X Y) (hg : X.heap[g]? = some (.cells cs t fr)) : Keeps B C 0 X Y :=
 ⟨h.size, fun k o _ hk ho => by
  by_cases hkg : k = g
  · subst hkg
    rw [hg] at hk
    cases hk
    cases ho
  · exact (h.block k (blk_lt hk) hkg).trans hk, fun k h1 h2 => absurd h2 (by omega)⟩
theorem Just.stay {g lo hi : Nat} {X Y : World} (h : Just g X Y) (hg : g < lo) (hi' : hi ≤ X.heap.size) : Stay lo hi X Y := ⟨h.size, fun k h1 h2 => h.block k (by omega) (by omega)⟩
theorem Ext.stay {lo hi : Nat} {X Y : World} (h : Ext X Y) (hi' : hi ≤ X.heap.size) : Stay lo hi X Y := ⟨h.bsize, fun k _ h2 => Below.block h k (by omega)⟩

theorem three_z (w : World) (o1 o2 o3 : Obj) : (((w.alloc o1).alloc o2).alloc o3).heap[w.heap.size]? = some o1 ∧ (((w.alloc o1).alloc o2).alloc o3).heap[w.heap.size + 1]? = some o2 ∧ (((w.alloc o1).alloc o2).alloc o3).heap[w.heap.size + 2]? = some o3 ∧ (((w.alloc o1).alloc o2).alloc o3).heap.size = w.heap.size + 3 := by
 have h1 := heap_alloc_new (w.alloc o1) o2
 have h2 := heap_alloc_new ((w.alloc o1).alloc o2) o3
 rw [World.size_alloc] at h1 h2
 rw [World.size_alloc] at h2
 exact ⟨(Ext.alloc _ _).at_ ((Ext.alloc _ _).at_ (heap_alloc_new w o1)), (Ext.alloc _ _).at_ h1, h2, by simp⟩
set_option maxRecDepth 100000 in
set_option maxHeartbeats 8000000 in
theorem zexp_any {g n inv M : Nat} {ml ol rl la : List Nat} (w : World) (hF : FR w g n inv M ml ol rl) (hone : FE M n ol 1) (x E : Nat) (ha : FE M n la x) (Pe : Nat → Prop) (Ae : Option Addr) (ce : Nat) (e : List Nat) (he : RN w Pe Ae ce e) (hPe : ∀ b, Pe b → b < w.heap.size) (hE : val 18446744073709551616 e = E) :
 Calls Try.prog 83 #[.pointer (some ⟨g, 0, none⟩), EV la, .slice Ae e.length ce] w fun e w' => ∃ o, e = .returned (EV o) ∧ FE M n o (x ^ E) ∧ Ext w w' := by
 obtain ⟨W0, hW0⟩ : ∃ W0, W0 = ((w.alloc (.cells #[.pointer (some ⟨g, 0, none⟩)] 103)).alloc (.cells (nts la).toArray 81)).alloc (.cells #[.int .u64 0, .int .u64 0, .int .u64 0, .int .u64 0, .int .u64 0, .int .u64 0] 81) := ⟨_, rfl⟩
 obtain ⟨s, hs⟩ : ∃ s, w.heap.size = s := ⟨_, rfl⟩
 have hE0 : Ext w W0 := by rw [hW0]; exact ((Ext.alloc _ _).trans (Ext.alloc _ _)).trans (Ext.alloc _ _)
 obtain ⟨m0, m1, m2, hz0⟩ := three_z w (.cells #[.pointer (some ⟨g, 0, none⟩)] 103) (.cells (nts la).toArray 81) (.cells #[.int .u64 0, .int .u64 0, .int .u64 0, .int .u64 0, .int .u64 0, .int .u64 0] 81)
 rw [← hW0, hs] at m0 m1 m2 hz0
 have hg := hF.ff.fld.lt
 have c0 : W0.cell? ⟨s, 0, none⟩ = some (.pointer (some ⟨g, 0, none⟩)) := blk_cell m0 0
 have hFR := Lib.hid (fun X (h : Ext w X) => hF.below h hg)
 have HE0 := Lib.hid hE0
 have Hz0 := Lib.hid hz0
 have Hs := Lib.hid hs
 obtain ⟨cs, hcs⟩ : ∃ cs, (nts la).toArray = cs := ⟨_, rfl⟩
 have hA : BlkE W0 (s + 1) la := m1
 rw [show EV la = .agg cs by rw [EV, hcs]]
 rw [hcs] at hW0
 have Hcs := Lib.hid hcs
 clear hcs m0 m1 hE0 hz0
 refine (callsIn_wide (n := 6)).1 ?_
 refine callsIn_of_wp_marks Try.func83 rfl trivial ?_ rfl
 simp only [Try.ntmps83, List.size_toArray, List.length_cons, List.length_nil, Nat.reduceAdd, Nat.reduceSub, Array.replicate_succ, Array.replicate_zero, List.push_toArray, List.append_toArray, List.nil_append, List.cons_append]
 refine wpIn_wide.2 ?_
 go_upto_region 1 with fail
 rw [← hW0]
 have HW0 := Lib.hid hW0
 clear hW0 hs
 refine Par.region_txt 5 [0, 1, 3, 7, 0, 31] [4] (fun j f X => match j with
  | 0 => f 0 = .pointer (some ⟨g, 0, none⟩)
  | 1 => f 1 = .pointer (some ⟨g, 0, none⟩)
  | 2 => f 2 = .pointer (some ⟨g, 8, none⟩)
  | 3 => f 3 = EV ol
  | 4 => ∃ b, f 4 = .pointer (some ⟨b, 0, none⟩) ∧ W0.heap.size ≤ b ∧ X.heap[b]? = some (.cells #[.int .u64 0, .int .u64 0, .int .u64 0, .int .u64 0, .int .u64 0, .int .u64 0] 81 (0, 0))
  | _ => True) (by kernel_rfl) [(10, 0), (11, 1), (12, 2), (13, 3), (7, 4)] (by kernel_rfl) ?_
 refine Par.S 1 4 [(7, 4)] (fun f X hX hR K hK => ?_) ?_
 · have x0 := hX.cell c0
   simp only [yA, yB, yC, yD, yE]
   refine ⟨?_⟩
   go_simp
   exact Par.k hK (s := by simp only [yA, yB, yC, yD, yE])
 refine Par.S 2 3 [(10, 0), (7, 4)] (fun f X hX hR K hK => ?_) ?_
 · have e0 : f 0 = _ := hR.out 0 rfl
   simp only [yA, yB, yC, yD, yE, e0]
   refine ⟨?_⟩
   go_simp
   exact Par.k hK (s := by simp only [yA, yB, yC, yD, yE, e0])
 refine Par.S 3 2 [(10, 0), (11, 1), (7, 4)] (fun f X hX hR K hK => ?_) ?_
 · have e1 : f 1 = _ := hR.out 1 rfl
   simp only [yA, yB, yC, yD, yE, e1]
   refine ⟨?_⟩
   go_simp
   exact Par.k hK (s := by simp only [yA, yB, yC, yD, yE, e1])
 refine Par.S 4 1 [(10, 0), (11, 1), (12, 2), (7, 4)] (fun f X hX hR K hK => ?_) ?_
 · have e2 : f 2 = _ := hR.out 2 rfl
   simp only [yA, yB, yC, yD, yE, e2]
   refine ⟨Par.want (by kernel_rfl) (wp_loadE (.tmp 12) rfl rfl (hFR.out X (HE0.out.trans hX)).r_one hone.elt.six ?_)⟩
   exact hK.out _ (EV ol) _ (by simp only [yA, yB, yC, yD, yE, e2]) (Ext.refl _) trivial (fun _ _ => rfl)
 refine Par.S 5 0 [(10, 0), (11, 1), (12, 2), (13, 3)] (fun f X hX hR K hK => ?_) ?_
 · simp only [yA, yB, yC, yD, yE]
   refine ⟨?_⟩
   go_simp
   exact hK.out _ _ _ (by simp only [yA, yB, yC, yD, yE]) (Ext.alloc _ _) ⟨rfl, by simp⟩ (fun Y hY => ⟨_, rfl, hX.bsize, hY.at_ (heap_alloc_new _ _)⟩)
 refine Par.AllOps.fin ⟨fun f X hX hR hal hap => ?_⟩
 have e0 : f 0 = _ := hR 0 (by decide)
 have e1 : f 1 = _ := hR 1 (by decide)
 have e2 : f 2 = _ := hR 2 (by decide)
 have e3 : f 3 = _ := hR 3 (by decide)
 obtain ⟨b4, (e4 : f 4 = _), l4, h4⟩ := hR 4 (by decide)
 simp only [yA, yB, yC, yD, yE, e0, e1, e2, e3, e4]
 clear hR hal hap e0 e1 e2 e3 e4
 refine Par.Chain.next (fun K hK => ⟨Par.want (by kernel_rfl) (wp_storeE (.tmp 7) (.tmp 13) rfl rfl rfl rfl h4 zero6 hone.elt.six (fun Y1 hl1 => hK.out _ _ ?_))⟩)
 refine Par.Chain.done ?_
 have hEq : Ext W0 Y1 := hl1.ext hX (by have := l4; omega)
 have zq : s + 3 ≤ b4 := by have := Hz0.out; omega
 have zq2 : b4 < Y1.heap.size := hl1.blk.lt
 have c1 := hEq.cell c0
 have hA1 : BlkE Y1 (s + 1) la := hEq.at_ hA
 have hq0 : BlkE Y1 b4 ol := hl1.blk
 have m3 := hEq.at_ m2
 have hEw := HE0.out.trans hEq
 have heach := each_any Pe Ae ce e Y1 (he.below hEw hPe) (fun b hb => Nat.lt_of_lt_of_le (hPe b hb) hEw.bsize)
 rw [hE] at heach
 have Heach := Lib.hid heach
 clear heach hl1 l4 h4 hX m2 hA c0
 go_wp2_with (go_at_call 48; refine Heach.out.mono ?_; rintro e' w3 ⟨Ae', ce', rfl, be, hOe, hB3⟩)
 obtain ⟨t, ht⟩ : ∃ t, Y1.heap.size = t := ⟨_, rfl⟩
 rw [ht] at be hOe hB3 zq2
 have zn : t < w3.heap.size := blk_lt be
 have hbe := blk_cell be 0
 simp only [List.getElem?_toArray, List.getElem?_cons_zero] at hbe
 have hseq := each_seq t t w3.heap.size (In t w3.heap.size) Ae' ce' (digs 18446744073709551616 E) w3 (fun b hb => hb) (Nat.le_refl _) zn (Nat.le_refl _) hbe hOe.rn
 rw [val_digs (by omega)] at hseq
 have Hseq := Lib.hid hseq
 have hE3 : Ext Y1 w3 := by rw [← ht] at hB3; exact hB3
 have hEw3 := hEw.trans hE3
 have c3 := hE3.cell c1
 have hA3 : BlkE w3 (s + 1) la := hE3.at_ hA1
 have hq3 : BlkE w3 b4 ol := hE3.at_ hq0
 have m4 := hE3.at_ m3
 have hI0 : VE w3 M n b4 (x ^ topOf E 0) := ⟨ol, hq3, by rw [topOf_zero, Nat.pow_zero]; exact hone⟩
 have hFR3 := Lib.hid (fun X (h : Below b4 w3 X) => (hFR.out w3 hEw3).below h (by have := Hs.out; omega))
 clear hseq Heach hbe be hOe hB3 hE3 c1 hA1 hq0 m3 hEq
 have hInv : OwnFrom w3.heap.size (fun (k : Nat) X => VE X M n b4 (x ^ topOf E k) ∧ Below b4 w3 X) := by
  rintro k X X' row ⟨⟨l, h1, h2⟩, h5⟩ hg' hr
  have hr' := fun r e => (hr r e).2
  exact ⟨⟨l, (grownBy_keeps_cells hg' hr' h1 rfl).trans h1, h2⟩, ownFrom_below (by omega) (by omega) k X X' row h5 hg' hr⟩
 refine (wpIn_wide (n := 6)).1 ?_
 refine' wpIn_iter (by omega) (gf := 81) (lb := #[.pointer (some ⟨t, 0, none⟩)]) (by rw [← ht]; rfl) (enters_of Try.func81 (by kernel_rfl) rfl)
  Hseq.out (fun h k => Stay.trans h k) (fun X l o o' hl ho _ _ => ⟨by simp, fun i _ hi => World.putObj_heap_other (by omega)⟩) tplain_keeps (Below.refl _ _) (fun _ => rfl)
  (fun k X => VE X M n b4 (x ^ topOf E k) ∧ Below b4 w3 X) (fun k X => VE X M n b4 (x ^ topOf E k) ∧ Below b4 w3 X) (fun _ _ _ => False)
  hInv hInv (fun _ _ _ _ _ h => h.elim) (fun _ _ _ _ => trivial) (fun B k A C _ _ hi ht => ?hIT) (fun h => by cases h) ⟨hI0, Below.refl _ _⟩ _ ?assign ?body ?done ?stop
 case hIT => exact ownFrom_plain (I := fun k X => VE X M n b4 (x ^ topOf E k) ∧ Below b4 w3 X) (B := w3.heap.size) hInv hi ht
 case assign =>
  intro l k X K hK
  gi_wp2
  exact hK
 case body =>
  rintro l k V ⟨⟨lo, hl, hf⟩, h5⟩ hlt _
  have zV := h5.size
  have hq : b4 < V.heap.size := hl.lt
  have cV : V.cell? ⟨s, 0, none⟩ = some (.pointer (some ⟨g, 0, none⟩)) := (h5.cell (p := ⟨s, 0, none⟩) (by show s < b4; omega)).trans c3
  have hAV : BlkE V (s + 1) la := (h5.block (s + 1) (by omega)).trans hA3
  have hH := Lib.hid hf
  have hbit : (bitAt E k).2 = 0 ∨ (bitAt E k).2 = 1 := by
   have : (bitAt E k).2 < 2 := Nat.mod_lt _ (by omega)
   omega
  obtain ⟨bt, hbt⟩ : ∃ b, (bitAt E k).2 = b := ⟨_, rfl⟩
  rw [hbt] at hbit ⊢
  have Hbt := Lib.hid hbt
  have Hbit := Lib.hid hbit
  have H5 := Lib.hid h5
  obtain ⟨v, hv⟩ : ∃ v, x ^ topOf E k = v := ⟨_, rfl⟩
  rw [hv] at hH hf
  have Hv := Lib.hid hv
  have HlV := Lib.hid hl
  clear hv hbt hbit hf h5
  gi_upto_region 4 with fail
  refine Par.region_txt_in 4 [0, 0, 0, 7, 15] [] (fun j f X => match j with
   | 0 => f 0 = .pointer (some ⟨g, 0, none⟩)
   | 1 => f 1 = EV lo
   | 2 => f 2 = EV lo
   | 3 => ∃ o, f 3 = EV o ∧ FE M n o (v * v)
   | _ => True) (by kernel_rfl) [(18, 0), (19, 1), (20, 2), (21, 3)] (by kernel_rfl) (by kernel_rfl) ?_
  refine Par.S 1 3 [(19, 1), (20, 2)] (fun f X hX hR K hK => ?_) ?_
  · have x0 := hX.cell cV
    simp only [yA, yB, yC, yD, yE]
    refine ⟨?_⟩
    go_simp
    exact Par.k hK (s := by simp only [yA, yB, yC, yD, yE])
  refine Par.S 2 2 [(18, 0), (20, 2)] (fun f X hX hR K hK => ?_) ?_
  · simp only [yA, yB, yC, yD, yE]
    refine ⟨Par.want (by kernel_rfl) (wp_loadE (.tmp 7) rfl rfl (BlkE.range (hX.at_ hl)) hH.out.elt.six ?_)⟩
    exact hK.out _ (EV lo) _ (by simp only [yA, yB, yC, yD, yE]) (Ext.refl _) trivial (fun _ _ => rfl)
  refine Par.S 3 1 [(18, 0), (19, 1)] (fun f X hX hR K hK => ?_) ?_
  · simp only [yA, yB, yC, yD, yE]
    refine ⟨Par.want (by kernel_rfl) (wp_loadE (.tmp 7) rfl rfl (BlkE.range (hX.at_ hl)) hH.out.elt.six ?_)⟩
    exact hK.out _ (EV lo) _ (by simp only [yA, yB, yC, yD, yE]) (Ext.refl _) trivial (fun _ _ => rfl)
  refine Par.S 4 0 [(18, 0), (19, 1), (20, 2)] (fun f X hX hR K hK => ?_) ?_
  · have e0 : f 0 = _ := hR.out 0 rfl
    have e1 : f 1 = _ := hR.out 1 rfl
    have e2 : f 2 = _ := hR.out 2 rfl
    simp only [yA, yB, yC, yD, yE, e0, e1, e2]
    refine ⟨?_⟩
    go_simp
    refine (fmul_any X (hFR3.out X (H5.out.trans (Below.mono hX (by omega)))).ff hH.out hH.out).mono ?_
    rintro e w2 ⟨o, rfl, ho, hB⟩
    exact hK.out _ (EV o) _ (by simp only [yA, yB, yC, yD, yE, e0, e1, e2]) hB trivial (fun Y hY => ⟨o, rfl, ho⟩)
  refine Par.AllOps.fin ⟨fun f X hX hR hal hap => ?_⟩
  have e0 : f 0 = _ := hR 0 (by decide)
  have e1 : f 1 = _ := hR 1 (by decide)
  have e2 : f 2 = _ := hR 2 (by decide)
  obtain ⟨o3, (e3 : f 3 = _), h3⟩ := hR 3 (by decide)
  simp only [yA, yB, yC, yD, yE, e0, e1, e2, e3]
  clear hR hal hap e0 e1 e2 e3
  refine Par.Chain.next (fun K hK => ⟨Par.want (by kernel_rfl) (wp_storeE (.tmp 7) (.tmp 21) rfl rfl rfl rfl (hX.at_ hl) (by rw [nts_length]; exact hH.out.elt.six) h3.elt.six (fun Y1 hl1 => hK.out _ _ ?_))⟩)
  refine Par.Chain.done ?_
  refine ⟨nofun, ?_⟩
  have hK1 : Keeps w3.heap.size (w3.heap.size + 2) 0 V Y1 := (Keeps.below hX (Nat.le_refl _)).trans (Keeps.just hl1.just (hX.at_ hl))
  have hS1 : Stay t w3.heap.size V Y1 := Stay.trans (hX.stay zV) (hl1.just.stay zq2 (Nat.le_trans zV hX.bsize))
  have hB1 : Below b4 w3 Y1 := (H5.out.trans (Below.mono hX (by omega))).trans (hl1.just.below (Nat.le_refl _) (by have := hX.bsize; omega))
  have hy1 : BlkE Y1 b4 o3 := hl1.blk
  have zY := hB1.size
  have hq1 : b4 < Y1.heap.size := hy1.lt
  have HK1 := Lib.hid hK1
  have HS1 := Lib.hid hS1
  have HB1 := Lib.hid hB1
  have Hy1 := Lib.hid hy1
  have H3 := Lib.hid h3
  have cY : Y1.cell? ⟨s, 0, none⟩ = some (.pointer (some ⟨g, 0, none⟩)) := (hB1.cell (p := ⟨s, 0, none⟩) (by show s < b4; omega)).trans c3
  have hAY : BlkE Y1 (s + 1) la := (hB1.block (s + 1) (by omega)).trans hA3
  clear hK1 hS1 hB1 hy1 hl1 hX h3 hl cV hAV hH
  rcases Hbit.out with hb0 | hb1
  · have hp := Lib.hid (pow_top (x := x) hlt (Hbt.out.trans hb0))
    subst hb0
    gi_wp2
    exact ⟨HK1.out, HS1.out, ⟨o3, Hy1.out, by rw [hp.out, Hv.out]; exact H3.out⟩, HB1.out⟩
  · have hp := Lib.hid (pow_top1 (x := x) hlt (Hbt.out.trans hb1))
    rw [hb1, show ((1 : Nat) : Int) = 1 from rfl]
    gi_upto_region 6 with fail
    rename World => V1
    have hl := Hy1.out
    have zV1 := HB1.out.size
    refine Par.region_txt_in 4 [0, 0, 0, 7, 15] [] (fun j f X => match j with
     | 0 => f 0 = .pointer (some ⟨g, 0, none⟩)
     | 1 => f 1 = EV o3
     | 2 => f 2 = EV la
     | 3 => ∃ o, f 3 = EV o ∧ FE M n o (v * v * x)
     | _ => True) (by kernel_rfl) [(24, 0), (25, 1), (26, 2), (27, 3)] (by kernel_rfl) (by kernel_rfl) ?_
    refine Par.S 1 3 [(25, 1), (26, 2)] (fun f X hX hR K hK => ?_) ?_
    · have x0 := hX.cell cY
      simp only [yA, yB, yC, yD, yE]
      refine ⟨?_⟩
      go_simp
      exact Par.k hK (s := by simp only [yA, yB, yC, yD, yE])
    refine Par.S 2 2 [(24, 0), (26, 2)] (fun f X hX hR K hK => ?_) ?_
    · simp only [yA, yB, yC, yD, yE]
      refine ⟨Par.want (by kernel_rfl) (wp_loadE (.tmp 7) rfl rfl (BlkE.range (hX.at_ hl)) H3.out.elt.six ?_)⟩
      exact hK.out _ (EV o3) _ (by simp only [yA, yB, yC, yD, yE]) (Ext.refl _) trivial (fun _ _ => rfl)
    refine Par.S 3 1 [(24, 0), (25, 1)] (fun f X hX hR K hK => ?_) ?_
    · simp only [yA, yB, yC, yD, yE]
      refine ⟨Par.want (by kernel_rfl) (wp_loadE (.tmp 4) rfl rfl (BlkE.range (hX.at_ hAY)) ha.elt.six ?_)⟩
      exact hK.out _ (EV la) _ (by simp only [yA, yB, yC, yD, yE]) (Ext.refl _) trivial (fun _ _ => rfl)
    refine Par.S 4 0 [(24, 0), (25, 1), (26, 2)] (fun f X hX hR K hK => ?_) ?_
    · have e0 : f 0 = _ := hR.out 0 rfl
      have e1 : f 1 = _ := hR.out 1 rfl
      have e2 : f 2 = _ := hR.out 2 rfl
      simp only [yA, yB, yC, yD, yE, e0, e1, e2]
      refine ⟨?_⟩
      go_simp
      refine (fmul_any X (hFR3.out X (HB1.out.trans (Below.mono hX (by omega)))).ff H3.out ha).mono ?_
      rintro e w2 ⟨o, rfl, ho, hB⟩
      exact hK.out _ (EV o) _ (by simp only [yA, yB, yC, yD, yE, e0, e1, e2]) hB trivial (fun Y hY => ⟨o, rfl, ho⟩)
    refine Par.AllOps.fin ⟨fun f X hX hR hal hap => ?_⟩
    have e0 : f 0 = _ := hR 0 (by decide)
    have e1 : f 1 = _ := hR 1 (by decide)
    have e2 : f 2 = _ := hR 2 (by decide)
    obtain ⟨o5, (e3 : f 3 = _), h3⟩ := hR 3 (by decide)
    simp only [yA, yB, yC, yD, yE, e0, e1, e2, e3]
    clear hR hal hap e0 e1 e2 e3
    refine Par.Chain.next (fun K hK => ⟨Par.want (by kernel_rfl) (wp_storeE (.tmp 7) (.tmp 27) rfl rfl rfl rfl (hX.at_ hl) (by rw [nts_length]; exact H3.out.elt.six) h3.elt.six (fun Y2 hl1 => hK.out _ _ ?_))⟩)
    refine Par.Chain.done ?_
    refine ⟨nofun, ?_⟩
    have hK2 : Keeps w3.heap.size (w3.heap.size + 2) 0 V1 Y2 := (Keeps.below hX (Nat.le_refl _)).trans (Keeps.just hl1.just (hX.at_ hl))
    have hS2 : Stay t w3.heap.size V1 Y2 := Stay.trans (hX.stay zV1) (hl1.just.stay zq2 (Nat.le_trans zV1 hX.bsize))
    have hB2 : Below b4 w3 Y2 := (HB1.out.trans (Below.mono hX (by omega))).trans (hl1.just.below (Nat.le_refl _) (by have := hX.bsize; omega))
    have HK2 := Lib.hid (HK1.out.trans hK2)
    have HS2 := Lib.hid (Stay.trans HS1.out hS2)
    have HB2 := Lib.hid hB2
    have Hy2 := Lib.hid hl1.blk
    have H4 := Lib.hid h3
    clear hK2 hS2 hB2 hl1 h3
    gi_wp2
    exact ⟨HK2.out, HS2.out, ⟨o5, Hy2.out, by rw [hp.out, Hv.out]; exact H4.out⟩, HB2.out⟩
 case done =>
  rintro D V hD ⟨⟨lo, hl, hf⟩, h5⟩ hKD
  rw [topOf_all] at hf
  have hmV := (h5.block (s + 2) (by omega)).trans m4
  go_upto_region 7 with fail
  refine Par.region_txt 1 [0, 1] [] (fun j f X => match j with
   | 0 => f 0 = EV lo
   | _ => True) (by kernel_rfl) [(28, 0)] (by kernel_rfl) ?_
  refine Par.S 1 0 [] (fun f X hX hR K hK => ?_) ?_
  · simp only [yA, yB, yC, yD, yE]
    refine ⟨Par.want (by kernel_rfl) (wp_loadE (.tmp 7) rfl rfl (BlkE.range (hX.at_ hl)) hf.elt.six ?_)⟩
    exact hK.out _ (EV lo) _ (by simp only [yA, yB, yC, yD, yE]) (Ext.refl _) trivial (fun _ _ => rfl)
  refine Par.AllOps.fin ⟨fun f X hX hR hal hap => ?_⟩
  have e0 : f 0 = _ := hR 0 (by decide)
  simp only [yA, yB, yC, yD, yE, e0]
  clear hR hal hap e0
  refine Par.Chain.next (fun K hK => ⟨Par.want (by kernel_rfl) (wp_storeE (.tmp 6) (.tmp 28) rfl rfl rfl rfl (hX.at_ hmV) zero6 hf.elt.six (fun Y2 hl1 => hK.out _ _ ?_))⟩)
  refine Par.Chain.done ?_
  go_wp2
  have hKY : Y2.heap[D]? = some (.deferred (some [])) := hl1.other (by omega) (hX.at_ hKD)
  have hrY : (Y2.putObj D (.deferred none)).heap[s + 1 + 1]? = some (.cells (nts lo).toArray 81 (0, 0)) := (World.putObj_heap_other (by omega)).trans hl1.blk
  have hEY : Ext w Y2 := hl1.ext (Below.trans hEw3 (Below.mono (h5.trans (Below.mono hX (by have := h5.size; omega))) (by have := Hs.out; omega))) (by have := Hs.out; omega)
  refine ⟨by simp, .inl ⟨_, _, rfl, run_takeDeferred hKY, _, results_cell_row rfl _ _ (s + 1 + 1) _ _ _ (.array 6 72) rfl hrY Try.underlying81 rfl (by rw [List.size_toArray, nts_length, hf.elt.six]; exact infoE), ⟨lo, rfl, hf, Below.trans hEY (belowK_b (w := w) (Nat.le_refl _) Y2 D _ _ (by have := Hs.out; omega) hKY rfl rfl)⟩⟩⟩
 case stop => exact fun _ _ _ _ _ _ _ h _ => h.elim
end Go.Proofs.Ytldhmjfjbalakaa

namespace Go.Proofs.Ytldhmjfjbalakaa
open Go.RowKit

/-- What bytes stand for: nothing; a point, that may be nowhere. -/
def decC (C : Crv) (bs : List Nat) : Option (Option (Nat × Nat)) :=
 if bs = [0] then some none
 else if bs.length = 1 + 2 * C.size ∧ dg bs 0 = 4 then
  if onB C.M C.bb (numOf ((bs.drop 1).take C.size)) (numOf (bs.drop (1 + C.size))) = true then some (some (numOf ((bs.drop 1).take C.size), numOf (bs.drop (1 + C.size)))) else none
 else none
/-- The value is that point. -/
def PtV (w : World) (base : Nat) (v : Value) : Option (Nat × Nat) → Prop
 | none => v = infV
 | some p => ∃ A c A' c', v = .agg #[.bool false, .slice A (digs 18446744073709551616 p.1).length c, .slice A' (digs 18446744073709551616 p.2).length c'] ∧ OB w base A c (digs 18446744073709551616 p.1) ∧ OB w base A' c' (digs 18446744073709551616 p.2)

set_option maxRecDepth 100000 in
set_option maxHeartbeats 8000000 in
theorem decode_c {c : Int} {C : Crv} (hC : IsC c C) (P : Nat → Prop) (A : Option Addr) (cap : Nat) (bs : List Nat) (w : World) (h : RB w P A cap bs) (hP : ∀ b, P b → b < w.heap.size) :
 Calls Try.prog 27 #[.int .i64 c, .slice A bs.length cap] w fun e w' => ∃ v, e = .returned (.tuple #[v, .bool (decC C bs).isSome]) ∧ PtV w' w.heap.size v ((decC C bs).getD none) ∧ Ext w w' := by
 have hF := hC.fine
 obtain ⟨s, hs⟩ : ∃ s, C.size = s := ⟨_, rfl⟩
 have s1 : 32 ≤ s := by rw [← hs]; exact hF.pos
 have s2 : s ≤ 48 := by rw [← hs]; exact hF.small
 obtain ⟨r, hr⟩ : ∃ r, decC C bs = r := ⟨_, rfl⟩
 rw [hr]
 have Hr := Lib.hid hr
 have Hs := Lib.hid hs
 have HF := Lib.hid hF
 obtain ⟨l1, l2, l3⟩ := h.cap
 obtain ⟨n, hn⟩ : ∃ n, bs.length = n := ⟨_, rfl⟩
 rw [hn] at l1 l3
 rw [hn]
 have Hn := Lib.hid hn
 have w1 : IntKind.i64.wrap (2 * (s : Int)) = 2 * s := IntWalk.i64_in _ (by omega)
 have w2 : IntKind.i64.wrap (1 + 2 * (s : Int)) = 1 + 2 * s := IntWalk.i64_in _ (by omega)
 clear hr hs hF hn
 by_cases h1 : n = 1
 · subst h1
   obtain ⟨x, rfl⟩ : ∃ x, bs = [x] := by
    have := Hn.out
    match bs, this with
    | [x], _ => exact ⟨x, rfl⟩
   obtain ⟨ad, rfl, hPb, hc, hx⟩ := h.at_ (i := 0) (by simp)
   have hc0 : w.cell? ad = some (.int .u8 (x : Int)) := by rwa [show ad.add 0 = ad by simp [Addr.add]] at hc
   by_cases hx0 : x = 0
   · subst hx0
     obtain rfl : r = some none := by rw [← Hr.out]; simp [decC]
     go_enter Try.func27, Try.ntmps27
     go_wp2_with (first
      | (go_at_call 42; refine (of_c hC _).mono ?_; rintro e wa ⟨k, rfl, hk, hE1⟩; have hca := hE1.cell ((Ext.alloc w _).cell hc0); have hrb := hE1.at_ (heap_alloc_new w _); have hks := hk.size; rw [Hs.out] at hks)
      | (go_at_call 45; refine (none_any _).mono ?_; rintro e wb ⟨rfl, hE2⟩; have hrb2 := hE2.at_ hrb; obtain ⟨z0, z1, z2, f0, f1, f2⟩ := pt_facts hrb2))
     exact end_pt rfl rfl rfl rfl (pt_set hrb2 _ _ _) ⟨infV, rfl, rfl, pt_ext (((Ext.alloc w _).trans hE1).trans hE2) (Nat.le_refl _) _ _ _⟩
   · have hx1 : ((x : Int) == 0) = false := by simp; omega
     have hx2 : ((1 : Int) != 1 + 2 * (s : Int)) = true := by simp; omega
     obtain rfl : r = none := by rw [← Hr.out]; simp [decC, hx0]; intro h; have := Hs.out; omega
     go_enter Try.func27, Try.ntmps27
     go_wp2_with (first
      | (go_at_call 42; refine (of_c hC _).mono ?_; rintro e wa ⟨k, rfl, hk, hE1⟩; have hca := hE1.cell ((Ext.alloc w _).cell hc0); have hrb := hE1.at_ (heap_alloc_new w _); have hks := hk.size; rw [Hs.out] at hks)
      | (go_at_call 45; refine (none_any _).mono ?_; rintro e wb ⟨rfl, hE2⟩; have hrb2 := hE2.at_ hrb; obtain ⟨z0, z1, z2, f0, f1, f2⟩ := pt_facts hrb2))
     exact end_pt rfl rfl rfl rfl (pt_set hrb2 _ _ _) ⟨infV, rfl, rfl, pt_ext (((Ext.alloc w _).trans hE1).trans hE2) (Nat.le_refl _) _ _ _⟩
 · have hn1 : ((n : Int) == 1) = false := by simp; omega
   by_cases h2 : n = 1 + 2 * s
   · obtain ⟨ad, rfl, hPb, hc, hx⟩ := h.at_ (i := 0) (by rw [Hn.out]; omega)
     have hn2 : ((n : Int) != 1 + 2 * (s : Int)) = false := by simp; omega
     have hn3 : 0 < n := by omega
     obtain ⟨x, hxe⟩ : ∃ x, bs[0]'(by rw [Hn.out]; omega) = x := ⟨_, rfl⟩
     rw [hxe] at hc hx
     have hdx : dg bs 0 = x := by rw [dg, getD_eq' (by rw [Hn.out]; omega)]; exact hxe
     have hc0 : w.cell? ad = some (.int .u8 (x : Int)) := by rwa [show ad.add 0 = ad by simp [Addr.add]] at hc
     have Hdx := Lib.hid hdx
     have H2 := Lib.hid h2
     clear hxe hdx h2 hc
     by_cases hx4 : x = 4
     · have hx1 : ((x : Int) != 4) = false := by simp; omega
       go_enter Try.func27, Try.ntmps27
       go_upto_region 8 with (first
       | (go_at_call 42; refine (of_c hC _).mono ?_; rintro e wa ⟨k, rfl, hk, hE1⟩; have hca := hE1.cell ((Ext.alloc w _).cell hc0); have hrb := hE1.at_ (heap_alloc_new w _); have hks := hk.size; rw [Hs.out] at hks)
       | (go_at_call 45; refine (none_any _).mono ?_; rintro e wb ⟨rfl, hE2⟩; have hrb2 := hE2.at_ hrb; obtain ⟨z0, z1, z2, f0, f1, f2⟩ := pt_facts hrb2))
       have hW : Ext w wa := (Ext.alloc w _).trans hE1
       obtain ⟨B1, hB1⟩ : ∃ B1, (bs.drop 1).take s = B1 := ⟨_, rfl⟩
       obtain ⟨B2, hB2⟩ : ∃ B2, bs.drop (1 + s) = B2 := ⟨_, rfl⟩
       have hlen1 : B1.length = s := by rw [← hB1, List.length_take, List.length_drop, Hn.out, H2.out]; omega
       have hlen2 : B2.length = s := by rw [← hB2, List.length_drop, Hn.out, H2.out]; omega
       have hr1 := Lib.hid (fun X (hX : Ext wa X) => show RB X P (some ⟨ad.block, ad.off + 1, none⟩) (cap - 1) B1 by
        have := (h.below (hW.trans hX) hP).mid (k := 1) (m := 1 + s) (c' := cap - 1) (A' := some ⟨ad.block, ad.off + 1, none⟩) (by omega) (by rw [Hn.out, H2.out]; omega) (by have := H2.out; omega) (by unfold maxLen; omega) (fun _ => by simp [Addr.add])
        rw [Nat.add_sub_cancel_left, hB1] at this
        exact this)
       have hr2 := Lib.hid (fun X (hX : Ext wa X) => show RB X P (some (ad.add (1 + s))) (cap - (1 + s)) B2 by
        have := (h.below (hW.trans hX) hP).mid (k := 1 + s) (m := bs.length) (c' := cap - (1 + s)) (A' := some (ad.add (1 + s))) (by rw [Hn.out, H2.out]; omega) (Nat.le_refl _) (by rw [Hn.out]; omega) (by unfold maxLen; omega) (fun _ => rfl)
        rw [List.take_of_length_le (by rw [List.length_drop]; omega), hB2] at this
        exact this)
       have hrr : decC C bs = if onB C.M C.bb (numOf B1) (numOf B2) = true then some (some (numOf B1, numOf B2)) else none := by
        rw [decC, if_neg (fun e => by have := Hn.out; rw [e] at this; simp at this; omega), if_pos ⟨by have := Hn.out; have := Hs.out; have := H2.out; omega, by have := Hdx.out; omega⟩, Hs.out, hB1, hB2]
       rw [Hr.out] at hrr
       have Hrr := Lib.hid hrr
       have L1 := Lib.hid hlen1
       have L2 := Lib.hid hlen2
       have HW := Lib.hid hW
       have w3 : IntKind.i64.wrap (1 + (s : Int)) = 1 + s := IntWalk.i64_in _ (by omega)
       have hPw : ∀ X : World, Ext wa X → ∀ b, P b → b < X.heap.size := fun X hX b hb => Nat.lt_of_lt_of_le (hP b hb) (HW.out.trans hX).bsize
       have HPw := Lib.hid hPw
       have c1i : 1 + (s : Int) ≤ cap := by have := H2.out; omega
       have c0i : (1 : Int) ≤ 1 + (s : Int) := by omega
       have c4i : 1 + (s : Int) ≤ n := by have := H2.out; omega
       have c5i : (0 : Int) ≤ 1 + (s : Int) := by omega
       have c6 : ¬ cap = 1 := by have := H2.out; omega
       have c7 : ¬ cap = 1 + s := by have := H2.out; omega
       have c1 : 1 + s ≤ cap := by have := H2.out; omega
       have c2 : (1 + (s : Int)).toNat = 1 + s := by omega
       have c3 : n - (1 + s) = s := by have := H2.out; omega
       have c4 : 1 + s ≤ n := by have := H2.out; omega
       clear hlen1 hlen2 hB1 hB2 hrr hW hPw
       refine Par.region_ext (by kernel_rfl) 18 [0, 0, 2, 6, 14, 30, 63, 127, 0, 0, 512, 1536, 3584, 7680, 16128, 32767, 65535, 0, 262143] [17] (fun j f X => match j with
        | 0 => f 0 = .slice (some ad) n cap
        | 1 => f 1 = .pointer (some ⟨k, 0, none⟩)
        | 2 => f 2 = .pointer (some ⟨k, 0, none⟩)
        | 3 => f 3 = .pointer (some ⟨k, 0, none⟩)
        | 4 => f 4 = .int .i64 (s : Int)
        | 5 => f 5 = .int .i64 (1 + (s : Int))
        | 6 => f 6 = .slice (some ⟨ad.block, ad.off + 1, none⟩) s (cap - 1)
        | 7 => ∃ A1 k1, f 7 = .slice A1 (digs 18446744073709551616 (numOf B1)).length k1 ∧ OB X w.heap.size A1 k1 (digs 18446744073709551616 (numOf B1))
        | 8 => f 8 = .slice (some ad) n cap
        | 9 => f 9 = .pointer (some ⟨k, 0, none⟩)
        | 10 => f 10 = .pointer (some ⟨k, 0, none⟩)
        | 11 => f 11 = .pointer (some ⟨k, 0, none⟩)
        | 12 => f 12 = .int .i64 (s : Int)
        | 13 => f 13 = .int .i64 (1 + (s : Int))
        | 14 => f 14 = .slice (some (ad.add (1 + s))) s (cap - (1 + s))
        | 15 => ∃ A1 k1, f 15 = .slice A1 (digs 18446744073709551616 (numOf B2)).length k1 ∧ OB X w.heap.size A1 k1 (digs 18446744073709551616 (numOf B2))
        | 16 => f 16 = .agg #[.bool false, f 7, f 15]
        | 17 => ∃ b, f 17 = .pointer (some ⟨b, 0, none⟩) ∧ wa.heap.size ≤ b ∧ X.heap[b]? = some (.cells #[.bool false, .slice none 0 0, .slice none 0 0] 27 (0, 0))
        | _ => True) (by kernel_rfl) [(42, 0), (43, 1), (44, 2), (45, 3), (46, 4), (47, 5), (48, 6), (49, 7), (50, 8), (51, 9), (52, 10), (53, 11), (54, 12), (55, 13), (56, 14), (57, 15), (58, 16), (7, 17)] (by kernel_rfl) ?_
       refine Par.S 1 17 [(43, 1), (44, 2), (45, 3), (46, 4), (47, 5), (50, 8), (51, 9), (52, 10), (53, 11), (54, 12), (55, 13), (56, 14), (7, 17)] (fun f X hX hR K hK => ?_) ?_
       · simp only [yA, yB, yC, yD, yE]
         refine ⟨?_⟩
         go_simp
         exact Par.k hK (s := by simp only [yA, yB, yC, yD, yE])
       refine Par.S 2 16 [(42, 0), (50, 8), (51, 9), (52, 10), (53, 11), (54, 12), (55, 13), (56, 14), (7, 17)] (fun f X hX hR K hK => ?_) ?_
       · simp only [yA, yB, yC, yD, yE]
         refine ⟨?_⟩
         go_simp
         exact Par.k hK (s := by simp only [yA, yB, yC, yD, yE])
       refine Par.S 3 15 [(42, 0), (43, 1), (50, 8), (51, 9), (52, 10), (53, 11), (54, 12), (55, 13), (56, 14), (7, 17)] (fun f X hX hR K hK => ?_) ?_
       · have e1 : f 1 = _ := hR.out 1 rfl
         simp only [yA, yB, yC, yD, yE, e1]
         refine ⟨?_⟩
         go_simp
         exact Par.k hK (s := by simp only [yA, yB, yC, yD, yE, e1])
       refine Par.S 4 14 [(42, 0), (43, 1), (44, 2), (50, 8), (51, 9), (52, 10), (53, 11), (54, 12), (55, 13), (56, 14), (7, 17)] (fun f X hX hR K hK => ?_) ?_
       · have e2 : f 2 = _ := hR.out 2 rfl
         simp only [yA, yB, yC, yD, yE, e2]
         refine ⟨?_⟩
         go_simp
         exact Par.k hK (s := by simp only [yA, yB, yC, yD, yE, e2])
       refine Par.S 5 13 [(42, 0), (43, 1), (44, 2), (45, 3), (50, 8), (51, 9), (52, 10), (53, 11), (54, 12), (55, 13), (56, 14), (7, 17)] (fun f X hX hR K hK => ?_) ?_
       · have e3 : f 3 = _ := hR.out 3 rfl
         have x0 := hX.cell hks
         simp only [yA, yB, yC, yD, yE, e3]
         refine ⟨?_⟩
         go_simp
         exact Par.k hK (s := by simp only [yA, yB, yC, yD, yE, e3])
       refine Par.S 6 12 [(42, 0), (43, 1), (44, 2), (45, 3), (46, 4), (50, 8), (51, 9), (52, 10), (53, 11), (54, 12), (55, 13), (56, 14), (7, 17)] (fun f X hX hR K hK => ?_) ?_
       · have e4 : f 4 = _ := hR.out 4 rfl
         simp only [yA, yB, yC, yD, yE, e4]
         refine ⟨?_⟩
         go_simp
         exact Par.k hK (s := by simp only [yA, yB, yC, yD, yE, e4])
       refine Par.S 7 11 [(42, 0), (43, 1), (44, 2), (45, 3), (46, 4), (47, 5), (50, 8), (51, 9), (52, 10), (53, 11), (54, 12), (55, 13), (56, 14), (7, 17)] (fun f X hX hR K hK => ?_) ?_
       · have e0 : f 0 = _ := hR.out 0 rfl
         have e5 : f 5 = _ := hR.out 5 rfl
         simp only [yA, yB, yC, yD, yE, e0, e5]
         refine ⟨?_⟩
         go_simp
         exact Par.k hK (s := by simp only [yA, yB, yC, yD, yE, e0, e5])
       refine Par.S 8 10 [(42, 0), (43, 1), (44, 2), (45, 3), (46, 4), (47, 5), (48, 6), (50, 8), (51, 9), (52, 10), (53, 11), (54, 12), (55, 13), (56, 14), (7, 17)] (fun f X hX hR K hK => ?_) ?_
       · have e6 : f 6 = _ := hR.out 6 rfl
         simp only [yA, yB, yC, yD, yE, e6]
         refine ⟨?_⟩
         go_simp
         have hf := fromBytes_any P _ _ B1 X (hr1.out X hX) (HPw.out X hX) (by rw [L1.out]; omega)
         rw [L1.out] at hf
         refine hf.mono ?_
         rintro e w2 ⟨A1, k1, rfl, hO, hB⟩
         exact hK.out _ _ _ (by simp only [yA, yB, yC, yD, yE, e6]) hB trivial (fun Y hY => ⟨A1, k1, rfl, (hO.mono (HW.out.trans hX).bsize).below hY (Nat.le_refl _)⟩)
       refine Par.S 9 9 [(42, 0), (43, 1), (44, 2), (45, 3), (46, 4), (47, 5), (48, 6), (49, 7), (51, 9), (52, 10), (53, 11), (54, 12), (55, 13), (7, 17)] (fun f X hX hR K hK => ?_) ?_
       · simp only [yA, yB, yC, yD, yE]
         refine ⟨?_⟩
         go_simp
         exact Par.k hK (s := by simp only [yA, yB, yC, yD, yE])
       refine Par.S 10 8 [(42, 0), (43, 1), (44, 2), (45, 3), (46, 4), (47, 5), (48, 6), (49, 7), (50, 8), (7, 17)] (fun f X hX hR K hK => ?_) ?_
       · simp only [yA, yB, yC, yD, yE]
         refine ⟨?_⟩
         go_simp
         exact Par.k hK (s := by simp only [yA, yB, yC, yD, yE])
       refine Par.S 11 7 [(42, 0), (43, 1), (44, 2), (45, 3), (46, 4), (47, 5), (48, 6), (49, 7), (50, 8), (51, 9), (7, 17)] (fun f X hX hR K hK => ?_) ?_
       · have e9 : f 9 = _ := hR.out 9 rfl
         simp only [yA, yB, yC, yD, yE, e9]
         refine ⟨?_⟩
         go_simp
         exact Par.k hK (s := by simp only [yA, yB, yC, yD, yE, e9])
       refine Par.S 12 6 [(42, 0), (43, 1), (44, 2), (45, 3), (46, 4), (47, 5), (48, 6), (49, 7), (50, 8), (51, 9), (52, 10), (7, 17)] (fun f X hX hR K hK => ?_) ?_
       · have e10 : f 10 = _ := hR.out 10 rfl
         simp only [yA, yB, yC, yD, yE, e10]
         refine ⟨?_⟩
         go_simp
         exact Par.k hK (s := by simp only [yA, yB, yC, yD, yE, e10])
       refine Par.S 13 5 [(42, 0), (43, 1), (44, 2), (45, 3), (46, 4), (47, 5), (48, 6), (49, 7), (50, 8), (51, 9), (52, 10), (53, 11), (7, 17)] (fun f X hX hR K hK => ?_) ?_
       · have e11 : f 11 = _ := hR.out 11 rfl
         have x0 := hX.cell hks
         simp only [yA, yB, yC, yD, yE, e11]
         refine ⟨?_⟩
         go_simp
         exact Par.k hK (s := by simp only [yA, yB, yC, yD, yE, e11])
       refine Par.S 14 4 [(42, 0), (43, 1), (44, 2), (45, 3), (46, 4), (47, 5), (48, 6), (49, 7), (50, 8), (51, 9), (52, 10), (53, 11), (54, 12), (7, 17)] (fun f X hX hR K hK => ?_) ?_
       · have e12 : f 12 = _ := hR.out 12 rfl
         simp only [yA, yB, yC, yD, yE, e12]
         refine ⟨?_⟩
         go_simp
         exact Par.k hK (s := by simp only [yA, yB, yC, yD, yE, e12])
       refine Par.S 15 3 [(42, 0), (43, 1), (44, 2), (45, 3), (46, 4), (47, 5), (48, 6), (49, 7), (50, 8), (51, 9), (52, 10), (53, 11), (54, 12), (55, 13), (7, 17)] (fun f X hX hR K hK => ?_) ?_
       · have e8 : f 8 = _ := hR.out 8 rfl
         have e13 : f 13 = _ := hR.out 13 rfl
         simp only [yA, yB, yC, yD, yE, e8, e13]
         refine ⟨?_⟩
         go_simp
         exact Par.k hK (s := by simp only [yA, yB, yC, yD, yE, e8, e13])
       refine Par.S 16 2 [(42, 0), (43, 1), (44, 2), (45, 3), (46, 4), (47, 5), (48, 6), (49, 7), (50, 8), (51, 9), (52, 10), (53, 11), (54, 12), (55, 13), (56, 14), (7, 17)] (fun f X hX hR K hK => ?_) ?_
       · have e14 : f 14 = _ := hR.out 14 rfl
         simp only [yA, yB, yC, yD, yE, e14]
         refine ⟨?_⟩
         go_simp
         have hf := fromBytes_any P _ _ B2 X (hr2.out X hX) (HPw.out X hX) (by rw [L2.out]; omega)
         rw [L2.out] at hf
         refine hf.mono ?_
         rintro e w2 ⟨A1, k1, rfl, hO, hB⟩
         exact hK.out _ _ _ (by simp only [yA, yB, yC, yD, yE, e14]) hB trivial (fun Y hY => ⟨A1, k1, rfl, (hO.mono (HW.out.trans hX).bsize).below hY (Nat.le_refl _)⟩)
       refine Par.S 17 1 [(42, 0), (43, 1), (44, 2), (45, 3), (46, 4), (47, 5), (48, 6), (49, 7), (50, 8), (51, 9), (52, 10), (53, 11), (54, 12), (55, 13), (56, 14), (57, 15), (7, 17)] (fun f X hX hR K hK => ?_) ?_
       · obtain ⟨A7, k7, (e7 : f 7 = _), o7⟩ := hR.out 7 rfl
         obtain ⟨A15, k15, (e15 : f 15 = _), o15⟩ := hR.out 15 rfl
         simp only [yA, yB, yC, yD, yE, e7, e15]
         refine ⟨?_⟩
         go_simp
         exact hK.out _ (.agg #[.bool false, f 7, f 15]) _ (by simp only [yA, yB, yC, yD, yE, e7, e15]) (Ext.refl _) trivial (fun _ _ => rfl)
       refine Par.S 18 0 [(42, 0), (43, 1), (44, 2), (45, 3), (46, 4), (47, 5), (48, 6), (49, 7), (50, 8), (51, 9), (52, 10), (53, 11), (54, 12), (55, 13), (56, 14), (57, 15), (58, 16)] (fun f X hX hR K hK => ?_) ?_
       · simp only [yA, yB, yC, yD, yE]
         refine ⟨?_⟩
         go_simp
         exact hK.out _ _ _ (by simp only [yA, yB, yC, yD, yE]) (Ext.alloc _ _) ⟨rfl, by simp⟩ (fun Y hY => ⟨_, rfl, hX.bsize, hY.at_ (heap_alloc_new _ _)⟩)
       refine Par.AllOps.fin ⟨fun f X hX hR hal hap => ?_⟩
       have e0 : f 0 = _ := hR 0 (by decide)
       have e1 : f 1 = _ := hR 1 (by decide)
       have e2 : f 2 = _ := hR 2 (by decide)
       have e3 : f 3 = _ := hR 3 (by decide)
       have e4 : f 4 = _ := hR 4 (by decide)
       have e5 : f 5 = _ := hR 5 (by decide)
       have e6 : f 6 = _ := hR 6 (by decide)
       obtain ⟨A7, k7, (e7 : f 7 = _), o7⟩ := hR 7 (by decide)
       have e8 : f 8 = _ := hR 8 (by decide)
       have e9 : f 9 = _ := hR 9 (by decide)
       have e10 : f 10 = _ := hR 10 (by decide)
       have e11 : f 11 = _ := hR 11 (by decide)
       have e12 : f 12 = _ := hR 12 (by decide)
       have e13 : f 13 = _ := hR 13 (by decide)
       have e14 : f 14 = _ := hR 14 (by decide)
       obtain ⟨A15, k15, (e15 : f 15 = _), o15⟩ := hR 15 (by decide)
       have e16 : f 16 = .agg #[.bool false, f 7, f 15] := hR 16 (by decide)
       obtain ⟨b17, (e17 : f 17 = _), l17, h17⟩ := hR 17 (by decide)
       simp only [yA, yB, yC, yD, yE, e0, e1, e2, e3, e4, e5, e6, e7, e8, e9, e10, e11, e12, e13, e14, e15, e16, e17]
       clear hR hal hap e0 e1 e2 e3 e4 e5 e6 e7 e8 e9 e10 e11 e12 e13 e14 e15 e16 e17
       refine Par.Chain.next (fun K hK => ⟨Par.want (by kernel_rfl) (wp_storeV 27 (.tmp 7) (.tmp 58) rfl rfl rfl rfl h17 infoP rfl (pt_one _ _ _ _ _ _ _) (fun Y1 g1 g2 g3 => hK.out _ _ ?_))⟩)
       refine Par.Chain.done ?_
       have hEY : Ext wa Y1 := g2.ext hX l17
       have p7 := o7.just g2 h17 (by decide)
       have p15 := o15.just g2 h17 (by decide)
       have hgl : w.heap.size < wa.heap.size := blk_lt hrb
       have hrY : Y1.heap[w.heap.size]? = some (.cells #[.bool false, .slice none 0 0, .slice none 0 0] 27 (0, 0)) := g2.at_ (by omega) (hX.at_ hrb)
       have hkY := hk.ext hEY
       obtain ⟨m, hm⟩ : ∃ m, onB C.M C.bb (numOf B1) (numOf B2) = m := ⟨_, rfl⟩
       have hon := on_c hkY HF.out _ _ A7 A15 k7 k15 _ _ false p7.rn p15.rn (fun b hb => hb.2) (fun b hb => hb.2)
       rw [val_digs (by omega), val_digs (by omega), hm, Bool.false_or] at hon
       have hrr := Hrr.out
       rw [hm] at hrr
       have Hon := Lib.hid hon
       have Hk7 := Lib.hid p7
       have Hk15 := Lib.hid p15
       have HEY := Lib.hid (HW.out.trans hEY)
       clear hm hon Hrr g2 g3 hX o7 o15 h17 l17 hEY p7 p15 hgl hkY w1 w2 w3 c0i c1i c4i c5i c1 c2 c3 c4 c6 c7 Hr
       obtain ⟨y0, y1, y2, q0, q1, q2⟩ := pt_facts g1
       have Harm := Lib.hid (fun wo (hEo : Ext Y1 wo) => (⟨pt_facts (hEo.at_ hrY), pt_facts (hEo.at_ g1)⟩ : _ ∧ _))
       cases m
       · rw [if_neg (by decide)] at hrr
         subst hrr
         go_wp2_with (first
          | (go_at_call 43; refine Hon.out.mono ?_; rintro e wo ⟨rfl, hEo⟩; have hro := hEo.at_ hrY)
          | (go_at_call 45; refine (none_any _).mono ?_; rintro e wb ⟨rfl, hE2⟩; have hrb2 := hE2.at_ hro; obtain ⟨z0, z1, z2, f0, f1, f2⟩ := pt_facts hrb2))
         exact end_pt rfl rfl rfl rfl (pt_set hrb2 _ _ _) ⟨infV, rfl, rfl, pt_ext ((HEY.out.trans hEo).trans hE2) (Nat.le_refl _) _ _ _⟩
       · rw [if_pos rfl] at hrr
         subst hrr
         go_wp2_with (go_at_call 43; refine Hon.out.mono ?_; rintro e wo ⟨rfl, hEo⟩; have hro := hEo.at_ hrY; obtain ⟨z0, z1, z2, f0, f1, f2⟩ := pt_facts hro; obtain ⟨v0, v1, v2, u0, u1, u2⟩ := pt_facts (hEo.at_ g1))
         exact end_pt rfl rfl rfl rfl (pt_set hro _ _ _) ⟨_, rfl, ⟨A7, k7, A15, k15, rfl, (Hk7.out.below hEo (Nat.le_refl _)).just (pt_just _ _ _ _ _) hro (by decide), (Hk15.out.below hEo (Nat.le_refl _)).just (pt_just _ _ _ _ _) hro (by decide)⟩, pt_ext (HEY.out.trans hEo) (Nat.le_refl _) _ _ _⟩
     · have hx1 : ((x : Int) != 4) = true := by simp; omega
       obtain rfl : r = none := by
        rw [← Hr.out, decC, if_neg (fun e => by have := Hn.out; rw [e] at this; simp at this; omega), if_neg (fun e => by have := Hdx.out; omega)]
       go_enter Try.func27, Try.ntmps27
       go_wp2_with (first
       | (go_at_call 42; refine (of_c hC _).mono ?_; rintro e wa ⟨k, rfl, hk, hE1⟩; have hca := hE1.cell ((Ext.alloc w _).cell hc0); have hrb := hE1.at_ (heap_alloc_new w _); have hks := hk.size; rw [Hs.out] at hks)
       | (go_at_call 45; refine (none_any _).mono ?_; rintro e wb ⟨rfl, hE2⟩; have hrb2 := hE2.at_ hrb; obtain ⟨z0, z1, z2, f0, f1, f2⟩ := pt_facts hrb2))
       exact end_pt rfl rfl rfl rfl (pt_set hrb2 _ _ _) ⟨infV, rfl, rfl, pt_ext (((Ext.alloc w _).trans hE1).trans hE2) (Nat.le_refl _) _ _ _⟩
   · have hn2 : ((n : Int) != 1 + 2 * (s : Int)) = true := by simp; omega
     obtain rfl : r = none := by
      rw [← Hr.out, decC, if_neg (fun e => by have := Hn.out; rw [e] at this; simp at this; omega), if_neg (fun e => by have := Hn.out; have := Hs.out; omega)]
     go_enter Try.func27, Try.ntmps27
     go_wp2_with (first
      | (go_at_call 42; refine (of_c hC _).mono ?_; rintro e wa ⟨k, rfl, hk, hE1⟩; have hrb := hE1.at_ (heap_alloc_new w _); have hks := hk.size; rw [Hs.out] at hks)
      | (go_at_call 45; refine (none_any _).mono ?_; rintro e wb ⟨rfl, hE2⟩; have hrb2 := hE2.at_ hrb; obtain ⟨z0, z1, z2, f0, f1, f2⟩ := pt_facts hrb2))
     exact end_pt rfl rfl rfl rfl (pt_set hrb2 _ _ _) ⟨infV, rfl, rfl, pt_ext (((Ext.alloc w _).trans hE1).trans hE2) (Nat.le_refl _) _ _ _⟩
end Go.Proofs.Ytldhmjfjbalakaa
