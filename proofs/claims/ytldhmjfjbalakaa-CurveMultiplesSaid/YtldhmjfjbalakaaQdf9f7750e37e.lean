/- The rule for regions (LPar) in the body of a range over a function. Nothing here speaks of the program. -/
import Derived.Test.YtldhmjfjbalakaaQac8d8924c8b4
import Derived.OrdersIn
import Derived.ControlIn
import Derived.Sort.CutIn
import Derived.Sort.AtCallIn
import Derived.TacticsInMore
import Derived.Deep.DeepCutAuto
set_option maxRecDepth 100000
set_option maxHeartbeats 16000000
namespace Go.Proofs.Ytldhmjfjbalakaa
open Go
namespace Par
def noDefer (o : Oper) : Bool := match o.op with | .defer _ => false | _ => true
theorem noDefer_spec {o : Oper} (h : noDefer o = true) (c : Call) : o.op ≠ .defer c := fun e => by simp [noDefer, e] at h
def noOut (Q : Exit → Act → World → Prop) : Exit → Act → World → Prop := fun e a w => e ≠ .outgrown ∧ Q e a w
section
variable {P : Program} {ops : Array Oper} {Q : Exit → Act → World → Prop} {md : Region.Mode} {l n : Nat}
theorem not_lets : ¬ LetsOut (noOut Q) := fun ⟨_, _, h, _⟩ => h rfl
theorem oper_round {o : Oper} {a : Act} {w : World} {K : Act → World → Prop} (hd : noDefer o = true) (hh : o.wp P a w K Q) : o.wpIn (Fence.wide.inRound l) n P a w K Q := by
  refine ⟨fun _ _ => trivial, ?_⟩
  rw [Oper.semAt_eq _ _ _ (noDefer_spec hd)]
  unfold Oper.wp at hh
  generalize (execOp a.eval o).run P w = r at *
  cases r with
  | ok x w' =>
    cases x <;> simp only [Oper.upon, Oper.uponIn] at hh ⊢
    case enter f args => exact ⟨(fun h => by cases h), (callsIn_wide (n := n - 1)).2 hh⟩
    case row r args => exact ⟨(fun h => by cases h), fun c cs _ => let ⟨v, w'', r, s⟩ := hh c cs; ⟨v, w'', r, stepsIn_wide.2 s⟩⟩
    all_goals first | exact hh | exact hh.elim
  | halt x w' => cases x <;> simp only [Oper.upon, Oper.uponIn] at hh ⊢ <;> exact hh
theorem op_round (hd : ∀ (i : Nat) o, ops[i]? = some o → noDefer o = true) (hq : ¬ LetsOut Q) {i : Nat} {K K' : Act → World → Prop} (hK : ∀ a w, K a w → K' a w) {a : Act} {w : World} (hh : wpOp P ops Q i K a w) :
 wpOpIn (Fence.wide.inRound l) n P ops Q i K' a w := by
 unfold wpOp at hh
 unfold wpOpIn
 split
 · rename_i h
   simp only [h] at hh
   exact hK _ _ hh
 · rename_i o h
   simp only [h] at hh
   split
   · rename_i hw
     simp only [hw, if_true] at hh
     rcases hh with hh | hh
     · exact Oper.wpIn_mono hK (oper_round (hd _ _ h) hh)
     · exact absurd hh.2 hq
   · rename_i hw
     simp only [hw] at hh
     exact ⟨fun _ _ => trivial, hK _ _ hh⟩
theorem any_round (hd : ∀ (i : Nat) o, ops[i]? = some o → noDefer o = true) (hq : ¬ LetsOut Q) : ∀ (fuel : Nat) (listed : Array Bool) (a : Act) (w : World), wpAny P md ops Q fuel listed a w → wpAnyIn (Fence.wide.inRound l) n P md ops Q fuel listed a w
 | 0, _, _, _, h => h
 | fuel + 1, _, _, _, h => ⟨h.1, fun i hi => op_round hd hq (fun a' w' h' => any_round hd hq fuel _ a' w' h') (h.2 i hi)⟩
theorem ops_round (hd : ∀ (i : Nat) o, ops[i]? = some o → noDefer o = true) (hq : ¬ LetsOut Q) : ∀ (k : List Nat) (a : Act) (w : World), wpOps P ops Q k a w → wpOpsIn (Fence.wide.inRound l) n P ops Q k a w
  | [], _, _, h => h
  | i :: k, a, w, h => by
    rw [wpOpsIn_cons]
    refine op_round (K := wpOps P ops Q k) hd hq (fun a' w' h' => ops_round hd hq k a' w' h') ?_
    unfold wpOps at h
    unfold wpOp
    exact h
theorem all_noDefer {ol : List Oper} (h : ol.all noDefer = true) (i : Nat) (o : Oper) (ho : ol.toArray[i]? = some o) : noDefer o = true := by
 rw [List.getElem?_toArray] at ho
 exact List.all_eq_true.1 h o (List.mem_of_getElem? ho)
theorem drop_out {c : Code} {a : Act} {w : World} (h : c.wpIn (Fence.wide.inRound l) n P (noOut Q) a w) : c.wpIn (Fence.wide.inRound l) n P Q a w := wpIn_mono h fun _ _ _ h => h.2
theorem region_ext_in {ol : List Oper} {id : Nat} {a : Act} {w : World} (hm : P.follows .mixedOrders = true) (m : Nat) (L AL : List Nat) (R : Nat → (Nat → Value) → World → Prop) (hok : ok ol.toArray (fun i => L.getD i 0) m = true) (pl : List (Nat × Nat)) (hpl : sel ol.toArray (fun _ => true) (List.range m) = pl) (hd : ol.all noDefer = true)
 (hstep : AllOps (StepO P ol (noOut Q) Ext m L AL R a w) (Fin P ol (noOut Q) Ext m L AL R pl a w) 0 m ol) : (Code.region id ol.toArray true).wpIn (Fence.wide.inRound l) n P Q a w :=
 drop_out (wpIn_region_any hm (any_round (all_noDefer hd) not_lets _ _ _ _ (any_all Ext.refl (fun _ _ _ => Ext.trans) (fun _ _ => Ext.bsize) (Ext.drew w) m L AL R hok pl hpl hstep)))
theorem region_txt_in {ol : List Oper} {id : Nat} {a : Act} {w : World} (m : Nat) (L AL : List Nat) (R : Nat → (Nat → Value) → World → Prop) (hok : ok ol.toArray (fun i => L.getD i 0) m = true) (pl : List (Nat × Nat)) (hpl : sel ol.toArray (fun _ => true) (List.range m) = pl) (hd : ol.all noDefer = true)
 (hstep : AllOps (StepO P ol (noOut Q) Ext m L AL R a w) (Fin P ol (noOut Q) Ext m L AL R pl a w) 0 m ol) : (Code.region id ol.toArray false).wpIn (Fence.wide.inRound l) n P Q a w := by
 refine drop_out (wpIn_region (ops_round (all_noDefer hd) not_lets _ _ _ ?_))
 have h := any_all Ext.refl (fun _ _ _ => Ext.trans) (fun _ _ => Ext.bsize) (Ext.refl w) m L AL R hok pl hpl hstep
 rw [upto_zero] at h
 rw [List.range_eq_range']
 exact any_text (ok.form hok) _ 0 a w (by omega) h
end
end Par
end Go.Proofs.Ytldhmjfjbalakaa

namespace Go.Proofs.Ytldhmjfjbalakaa
open Go.RowKit Go.Shelf
attribute [local go_sem] Oper.semAt_some
def topOf (E k : Nat) : Nat := E / 2 ^ (nbits E - k)
theorem topOf_zero (E : Nat) : topOf E 0 = 0 := by rw [topOf, Nat.sub_zero]; exact Nat.div_eq_of_lt (lt_of_nbits (Nat.le_refl _))
theorem topOf_all (E : Nat) : topOf E (nbits E) = E := by rw [topOf, Nat.sub_self, Nat.pow_zero, Nat.div_one]
theorem topOf_succ {E k : Nat} (hk : k < nbits E) : topOf E (k + 1) = 2 * topOf E k + (bitAt E k).2 := by
 rw [topOf, topOf, bitAt, show nbits E - k = (nbits E - (k + 1)) + 1 by omega, show nbits E - 1 - k = nbits E - (k + 1) by omega, Nat.pow_succ, ← Nat.div_div_eq_div_mul]
 have := Nat.div_add_mod (E / 2 ^ (nbits E - (k + 1))) 2
 omega
theorem pow_top {x E k : Nat} (hk : k < nbits E) (hb : (bitAt E k).2 = 0) : x ^ topOf E (k + 1) = x ^ topOf E k * x ^ topOf E k := by
 rw [topOf_succ hk, hb, Nat.add_zero, Nat.two_mul, Nat.pow_add]
theorem pow_top1 {x E k : Nat} (hk : k < nbits E) (hb : (bitAt E k).2 = 1) : x ^ topOf E (k + 1) = x ^ topOf E k * x ^ topOf E k * x := by
 rw [topOf_succ hk, hb, Nat.pow_succ, Nat.two_mul, Nat.pow_add]
theorem Keeps.just {B C g : Nat} {X Y : World} {cs : Array Value} {t : TypeId} {fr : Nat × Nat} (h : Just g X Y) (hg : X.heap[g]? = some (.cells cs t fr)) : Keeps B C 0 X Y :=
 ⟨h.size, fun k o _ hk ho => by
  by_cases hkg : k = g
  · subst hkg
    rw [hg] at hk
    cases hk
    cases ho
  · exact (h.block k (blk_lt hk) hkg).trans hk, fun k h1 h2 => absurd h2 (by omega)⟩
theorem Just.stay {g lo hi : Nat} {X Y : World} (h : Just g X Y) (hg : g < lo) (hi' : hi ≤ X.heap.size) : Stay lo hi X Y := ⟨h.size, fun k h1 h2 => h.block k (by omega) (by omega)⟩
theorem Ext.stay {lo hi : Nat} {X Y : World} (h : Ext X Y) (hi' : hi ≤ X.heap.size) : Stay lo hi X Y := ⟨h.bsize, fun k _ h2 => Below.block h k (by omega)⟩
theorem three_z (w : World) (o1 o2 o3 : Obj) : (((w.alloc o1).alloc o2).alloc o3).heap[w.heap.size]? = some o1 ∧ (((w.alloc o1).alloc o2).alloc o3).heap[w.heap.size + 1]? = some o2 ∧ (((w.alloc o1).alloc o2).alloc o3).heap[w.heap.size + 2]? = some o3 ∧ (((w.alloc o1).alloc o2).alloc o3).heap.size = w.heap.size + 3 := by
 have h1 := heap_alloc_new (w.alloc o1) o2
 have h2 := heap_alloc_new ((w.alloc o1).alloc o2) o3
 rw [World.size_alloc] at h1 h2
 rw [World.size_alloc] at h2
 exact ⟨(Ext.alloc _ _).at_ ((Ext.alloc _ _).at_ (heap_alloc_new w o1)), (Ext.alloc _ _).at_ h1, h2, by simp⟩
theorem zexp_any {g n inv M : Nat} {ml ol rl la : List Nat} (w : World) (hF : FR w g n inv M ml ol rl) (hone : FE M n ol 1) (x E : Nat) (ha : FE M n la x) (Pe : Nat → Prop) (Ae : Option Addr) (ce : Nat) (e : List Nat) (he : RN w Pe Ae ce e) (hPe : ∀ b, Pe b → b < w.heap.size) (hE : val 18446744073709551616 e = E) :
 Calls Try.prog 83 #[.pointer (some ⟨g, 0, none⟩), EV la, .slice Ae e.length ce] w fun e w' => ∃ o, e = .returned (EV o) ∧ FE M n o (x ^ E) ∧ Ext w w' := by
 obtain ⟨W0, hW0⟩ : ∃ W0, W0 = ((w.alloc (.cells #[.pointer (some ⟨g, 0, none⟩)] 103)).alloc (.cells (nts la).toArray 81)).alloc (.cells #[.int .u64 0, .int .u64 0, .int .u64 0, .int .u64 0, .int .u64 0, .int .u64 0] 81) := ⟨_, rfl⟩
 obtain ⟨s, hs⟩ : ∃ s, w.heap.size = s := ⟨_, rfl⟩
 have hE0 : Ext w W0 := by rw [hW0]; exact ((Ext.alloc _ _).trans (Ext.alloc _ _)).trans (Ext.alloc _ _)
 obtain ⟨m0, m1, m2, hz0⟩ := three_z w (.cells #[.pointer (some ⟨g, 0, none⟩)] 103) (.cells (nts la).toArray 81) (.cells #[.int .u64 0, .int .u64 0, .int .u64 0, .int .u64 0, .int .u64 0, .int .u64 0] 81)
 rw [← hW0, hs] at m0 m1 m2 hz0
 have hg := hF.ff.fld.lt
 have c0 : W0.cell? ⟨s, 0, none⟩ = some (.pointer (some ⟨g, 0, none⟩)) := blk_cell m0 0
 have hFR := Lib.hid (fun X (h : Ext w X) => hF.below h hg)
 have HE0 := Lib.hid hE0
 have Hz0 := Lib.hid hz0
 have Hs := Lib.hid hs
 obtain ⟨cs, hcs⟩ : ∃ cs, (nts la).toArray = cs := ⟨_, rfl⟩
 have hA : BlkE W0 (s + 1) la := m1
 rw [show EV la = .agg cs by rw [EV, hcs]]
 rw [hcs] at hW0
 have Hcs := Lib.hid hcs
 clear hcs m0 m1 hE0 hz0
 refine (callsIn_wide (n := 6)).1 ?_
 refine callsIn_of_wp_marks Try.func83 rfl trivial ?_ rfl
 simp only [Try.ntmps83, List.size_toArray, List.length_cons, List.length_nil, Nat.reduceAdd, Nat.reduceSub, Array.replicate_succ, Array.replicate_zero, List.push_toArray, List.append_toArray, List.nil_append, List.cons_append]
 refine wpIn_wide.2 ?_
 go_upto_region 1 with fail
 rw [← hW0]
 have HW0 := Lib.hid hW0
 clear hW0 hs
 refine Par.region_txt 5 [0, 1, 3, 7, 0, 31] [4] (fun j f X => match j with
  | 0 => f 0 = .pointer (some ⟨g, 0, none⟩)
  | 1 => f 1 = .pointer (some ⟨g, 0, none⟩)
  | 2 => f 2 = .pointer (some ⟨g, 8, none⟩)
  | 3 => f 3 = EV ol
  | 4 => ∃ b, f 4 = .pointer (some ⟨b, 0, none⟩) ∧ W0.heap.size ≤ b ∧ X.heap[b]? = some (.cells #[.int .u64 0, .int .u64 0, .int .u64 0, .int .u64 0, .int .u64 0, .int .u64 0] 81 (0, 0))
  | _ => True) (by kernel_rfl) [(10, 0), (11, 1), (12, 2), (13, 3), (7, 4)] (by kernel_rfl) ?_
 refine Par.ld0 1 4 c0 ?_
 refine Par.v1 2 3 0 ?_
 refine Par.v1 3 2 1 ?_
 refine Par.S 4 1 [(10, 0), (11, 1), (12, 2), (7, 4)] (fun f X hX hR K hK => ?_) ?_
 · have e2 : f 2 = _ := hR.out 2 rfl
   simp only [yA, yB, yC, yD, yE, e2]
   refine ⟨Par.want (by kernel_rfl) (wp_loadE (.tmp 12) rfl rfl (hFR.out X (HE0.out.trans hX)).r_one hone.elt.six ?_)⟩
   exact hK.out _ (EV ol) _ (by simp only [yA, yB, yC, yD, yE, e2]) (Ext.refl _) trivial (fun _ _ => rfl)
 refine Par.al 5 0 ?_
 refine Par.AllOps.fin ⟨fun f X hX hR hal hap => ?_⟩
 have e3 : f 3 = _ := hR 3 (by decide)
 obtain ⟨b4, (e4 : f 4 = _), l4, h4⟩ := hR 4 (by decide)
 simp only [yA, yB, yD, yE, e3, e4]
 clear hR hal hap e3 e4
 refine Par.Chain.next (fun K hK => ⟨Par.want (by kernel_rfl) (wp_storeE (.tmp 7) (.tmp 13) rfl rfl rfl rfl h4 zero6 hone.elt.six (fun Y1 hl1 => hK.out _ _ ?_))⟩)
 refine Par.Chain.done ?_
 have hEq : Ext W0 Y1 := hl1.ext hX (by have := l4; omega)
 have zq : s + 3 ≤ b4 := by have := Hz0.out; omega
 have zq2 : b4 < Y1.heap.size := hl1.blk.lt
 have c1 := hEq.cell c0
 have hA1 : BlkE Y1 (s + 1) la := hEq.at_ hA
 have hq0 : BlkE Y1 b4 ol := hl1.blk
 have m3 := hEq.at_ m2
 have hEw := HE0.out.trans hEq
 have heach := each_any Pe Ae ce e Y1 (he.below hEw hPe) (fun b hb => Nat.lt_of_lt_of_le (hPe b hb) hEw.bsize)
 rw [hE] at heach
 have Heach := Lib.hid heach
 clear heach hl1 l4 h4 hX m2 hA c0
 go_wp2_with (go_at_call 48; refine Heach.out.mono ?_; rintro e' w3 ⟨Ae', ce', rfl, be, hOe, hB3⟩)
 obtain ⟨t, ht⟩ : ∃ t, Y1.heap.size = t := ⟨_, rfl⟩
 rw [ht] at be hOe hB3 zq2
 have zn : t < w3.heap.size := blk_lt be
 have hbe := blk_cell be 0
 simp only [List.getElem?_toArray, List.getElem?_cons_zero] at hbe
 have hseq := each_seq t t w3.heap.size (In t w3.heap.size) Ae' ce' (digs 18446744073709551616 E) w3 (fun b hb => hb) (Nat.le_refl _) zn (Nat.le_refl _) hbe hOe.rn
 rw [val_digs (by omega)] at hseq
 have Hseq := Lib.hid hseq
 have hE3 : Ext Y1 w3 := by rw [← ht] at hB3; exact hB3
 have hEw3 := hEw.trans hE3
 have c3 := hE3.cell c1
 have hA3 : BlkE w3 (s + 1) la := hE3.at_ hA1
 have hq3 : BlkE w3 b4 ol := hE3.at_ hq0
 have m4 := hE3.at_ m3
 have hI0 : VE w3 M n b4 (x ^ topOf E 0) := ⟨ol, hq3, by rw [topOf_zero, Nat.pow_zero]; exact hone⟩
 have hFR3 := Lib.hid (fun X (h : Below b4 w3 X) => (hFR.out w3 hEw3).below h (by have := Hs.out; omega))
 clear hseq Heach hbe be hOe hB3 hE3 c1 hA1 hq0 m3 hEq
 have hInv : OwnFrom w3.heap.size (fun (k : Nat) X => VE X M n b4 (x ^ topOf E k) ∧ Below b4 w3 X) := by
  rintro k X X' row ⟨⟨l, h1, h2⟩, h5⟩ hg' hr
  have hr' := fun r e => (hr r e).2
  exact ⟨⟨l, (grownBy_keeps_cells hg' hr' h1 rfl).trans h1, h2⟩, ownFrom_below (by omega) (by omega) k X X' row h5 hg' hr⟩
 refine (wpIn_wide (n := 6)).1 ?_
 refine' wpIn_iter (by omega) (gf := 81) (lb := #[.pointer (some ⟨t, 0, none⟩)]) (by rw [← ht]; rfl) (enters_of Try.func81 (by kernel_rfl) rfl)
  Hseq.out (fun h k => Stay.trans h k) (fun X l o o' hl ho _ _ => ⟨by simp, fun i _ hi => World.putObj_heap_other (by omega)⟩) tplain_keeps (Below.refl _ _) (fun _ => rfl)
  (fun k X => VE X M n b4 (x ^ topOf E k) ∧ Below b4 w3 X) (fun k X => VE X M n b4 (x ^ topOf E k) ∧ Below b4 w3 X) (fun _ _ _ => False)
  hInv hInv (fun _ _ _ _ _ h => h.elim) (fun _ _ _ _ => trivial) (fun B k A C _ _ hi ht => ?hIT) (fun h => by cases h) ⟨hI0, Below.refl _ _⟩ _ ?assign ?body ?done ?stop
 case hIT => exact ownFrom_plain (I := fun k X => VE X M n b4 (x ^ topOf E k) ∧ Below b4 w3 X) (B := w3.heap.size) hInv hi ht
 case assign =>
  intro l k X K hK
  gi_wp2
  exact hK
 case body =>
  rintro l k V ⟨⟨lo, hl, hf⟩, h5⟩ hlt _
  have zV := h5.size
  have hq : b4 < V.heap.size := hl.lt
  have cV : V.cell? ⟨s, 0, none⟩ = some (.pointer (some ⟨g, 0, none⟩)) := (h5.cell (p := ⟨s, 0, none⟩) (by show s < b4; omega)).trans c3
  have hAV : BlkE V (s + 1) la := (h5.block (s + 1) (by omega)).trans hA3
  have hH := Lib.hid hf
  have hbit : (bitAt E k).2 = 0 ∨ (bitAt E k).2 = 1 := by
   have : (bitAt E k).2 < 2 := Nat.mod_lt _ (by omega)
   omega
  obtain ⟨bt, hbt⟩ : ∃ b, (bitAt E k).2 = b := ⟨_, rfl⟩
  rw [hbt] at hbit ⊢
  have Hbt := Lib.hid hbt
  have Hbit := Lib.hid hbit
  have H5 := Lib.hid h5
  obtain ⟨v, hv⟩ : ∃ v, x ^ topOf E k = v := ⟨_, rfl⟩
  rw [hv] at hH hf
  have Hv := Lib.hid hv
  have HlV := Lib.hid hl
  clear hv hbt hbit hf h5
  gi_upto_region 4 with fail
  refine Par.region_txt_in 4 [0, 0, 0, 7, 15] [] (fun j f X => match j with
   | 0 => f 0 = .pointer (some ⟨g, 0, none⟩)
   | 1 => f 1 = EV lo
   | 2 => f 2 = EV lo
   | 3 => ∃ o, f 3 = EV o ∧ FE M n o (v * v)
   | _ => True) (by kernel_rfl) [(18, 0), (19, 1), (20, 2), (21, 3)] (by kernel_rfl) (by kernel_rfl) ?_
  refine Par.S 1 3 [(19, 1), (20, 2)] (fun f X hX hR K hK => ?_) ?_
  · have x0 := hX.cell cV
    simp only [yA, yB, yC, yD, yE]
    refine ⟨?_⟩
    go_simp
    exact Par.k hK (s := by simp only [yA, yB, yC, yD, yE])
  refine Par.S 2 2 [(18, 0), (20, 2)] (fun f X hX hR K hK => ?_) ?_
  · simp only [yA, yB, yC, yD, yE]
    refine ⟨Par.want (by kernel_rfl) (wp_loadE (.tmp 7) rfl rfl (BlkE.range (hX.at_ hl)) hH.out.elt.six ?_)⟩
    exact hK.out _ (EV lo) _ (by simp only [yA, yB, yC, yD, yE]) (Ext.refl _) trivial (fun _ _ => rfl)
  refine Par.S 3 1 [(18, 0), (19, 1)] (fun f X hX hR K hK => ?_) ?_
  · simp only [yA, yB, yC, yD, yE]
    refine ⟨Par.want (by kernel_rfl) (wp_loadE (.tmp 7) rfl rfl (BlkE.range (hX.at_ hl)) hH.out.elt.six ?_)⟩
    exact hK.out _ (EV lo) _ (by simp only [yA, yB, yC, yD, yE]) (Ext.refl _) trivial (fun _ _ => rfl)
  refine Par.S 4 0 [(18, 0), (19, 1), (20, 2)] (fun f X hX hR K hK => ?_) ?_
  · have e0 : f 0 = _ := hR.out 0 rfl
    have e1 : f 1 = _ := hR.out 1 rfl
    have e2 : f 2 = _ := hR.out 2 rfl
    simp only [yA, yB, yC, yD, yE, e0, e1, e2]
    refine ⟨?_⟩
    go_simp
    refine (fmul_any X (hFR3.out X (H5.out.trans (Below.mono hX (by omega)))).ff hH.out hH.out).mono ?_
    rintro e w2 ⟨o, rfl, ho, hB⟩
    exact hK.out _ (EV o) _ (by simp only [yA, yB, yC, yD, yE, e0, e1, e2]) hB trivial (fun Y hY => ⟨o, rfl, ho⟩)
  refine Par.AllOps.fin ⟨fun f X hX hR hal hap => ?_⟩
  have e0 : f 0 = _ := hR 0 (by decide)
  have e1 : f 1 = _ := hR 1 (by decide)
  have e2 : f 2 = _ := hR 2 (by decide)
  obtain ⟨o3, (e3 : f 3 = _), h3⟩ := hR 3 (by decide)
  simp only [yA, yB, yD, yE, e0, e1, e2, e3]
  clear hR hal hap e0 e1 e2 e3
  refine Par.Chain.next (fun K hK => ⟨Par.want (by kernel_rfl) (wp_storeE (.tmp 7) (.tmp 21) rfl rfl rfl rfl (hX.at_ hl) (by rw [nts_length]; exact hH.out.elt.six) h3.elt.six (fun Y1 hl1 => hK.out _ _ ?_))⟩)
  refine Par.Chain.done ?_
  refine ⟨nofun, ?_⟩
  have hK1 : Keeps w3.heap.size (w3.heap.size + 2) 0 V Y1 := (Keeps.below hX (Nat.le_refl _)).trans (Keeps.just hl1.just (hX.at_ hl))
  have hS1 : Stay t w3.heap.size V Y1 := Stay.trans (hX.stay zV) (hl1.just.stay zq2 (Nat.le_trans zV hX.bsize))
  have hB1 : Below b4 w3 Y1 := (H5.out.trans (Below.mono hX (by omega))).trans (hl1.just.below (Nat.le_refl _) (by have := hX.bsize; omega))
  have hy1 : BlkE Y1 b4 o3 := hl1.blk
  have zY := hB1.size
  have hq1 : b4 < Y1.heap.size := hy1.lt
  have HK1 := Lib.hid hK1
  have HS1 := Lib.hid hS1
  have HB1 := Lib.hid hB1
  have Hy1 := Lib.hid hy1
  have H3 := Lib.hid h3
  have cY : Y1.cell? ⟨s, 0, none⟩ = some (.pointer (some ⟨g, 0, none⟩)) := (hB1.cell (p := ⟨s, 0, none⟩) (by show s < b4; omega)).trans c3
  have hAY : BlkE Y1 (s + 1) la := (hB1.block (s + 1) (by omega)).trans hA3
  clear hK1 hS1 hB1 hy1 hl1 hX h3 hl cV hAV hH
  rcases Hbit.out with hb0 | hb1
  · have hp := Lib.hid (pow_top (x := x) hlt (Hbt.out.trans hb0))
    subst hb0
    gi_wp2
    exact ⟨HK1.out, HS1.out, ⟨o3, Hy1.out, by rw [hp.out, Hv.out]; exact H3.out⟩, HB1.out⟩
  · have hp := Lib.hid (pow_top1 (x := x) hlt (Hbt.out.trans hb1))
    rw [hb1, show ((1 : Nat) : Int) = 1 from rfl]
    gi_upto_region 6 with fail
    rename World => V1
    have hl := Hy1.out
    have zV1 := HB1.out.size
    refine Par.region_txt_in 4 [0, 0, 0, 7, 15] [] (fun j f X => match j with
     | 0 => f 0 = .pointer (some ⟨g, 0, none⟩)
     | 1 => f 1 = EV o3
     | 2 => f 2 = EV la
     | 3 => ∃ o, f 3 = EV o ∧ FE M n o (v * v * x)
     | _ => True) (by kernel_rfl) [(24, 0), (25, 1), (26, 2), (27, 3)] (by kernel_rfl) (by kernel_rfl) ?_
    refine Par.S 1 3 [(25, 1), (26, 2)] (fun f X hX hR K hK => ?_) ?_
    · have x0 := hX.cell cY
      simp only [yA, yB, yC, yD, yE]
      refine ⟨?_⟩
      go_simp
      exact Par.k hK (s := by simp only [yA, yB, yC, yD, yE])
    refine Par.S 2 2 [(24, 0), (26, 2)] (fun f X hX hR K hK => ?_) ?_
    · simp only [yA, yB, yC, yD, yE]
      refine ⟨Par.want (by kernel_rfl) (wp_loadE (.tmp 7) rfl rfl (BlkE.range (hX.at_ hl)) H3.out.elt.six ?_)⟩
      exact hK.out _ (EV o3) _ (by simp only [yA, yB, yC, yD, yE]) (Ext.refl _) trivial (fun _ _ => rfl)
    refine Par.S 3 1 [(24, 0), (25, 1)] (fun f X hX hR K hK => ?_) ?_
    · simp only [yA, yB, yC, yD, yE]
      refine ⟨Par.want (by kernel_rfl) (wp_loadE (.tmp 4) rfl rfl (BlkE.range (hX.at_ hAY)) ha.elt.six ?_)⟩
      exact hK.out _ (EV la) _ (by simp only [yA, yB, yC, yD, yE]) (Ext.refl _) trivial (fun _ _ => rfl)
    refine Par.S 4 0 [(24, 0), (25, 1), (26, 2)] (fun f X hX hR K hK => ?_) ?_
    · have e0 : f 0 = _ := hR.out 0 rfl
      have e1 : f 1 = _ := hR.out 1 rfl
      have e2 : f 2 = _ := hR.out 2 rfl
      simp only [yA, yB, yC, yD, yE, e0, e1, e2]
      refine ⟨?_⟩
      go_simp
      refine (fmul_any X (hFR3.out X (HB1.out.trans (Below.mono hX (by omega)))).ff H3.out ha).mono ?_
      rintro e w2 ⟨o, rfl, ho, hB⟩
      exact hK.out _ (EV o) _ (by simp only [yA, yB, yC, yD, yE, e0, e1, e2]) hB trivial (fun Y hY => ⟨o, rfl, ho⟩)
    refine Par.AllOps.fin ⟨fun f X hX hR hal hap => ?_⟩
    have e0 : f 0 = _ := hR 0 (by decide)
    have e1 : f 1 = _ := hR 1 (by decide)
    have e2 : f 2 = _ := hR 2 (by decide)
    obtain ⟨o5, (e3 : f 3 = _), h3⟩ := hR 3 (by decide)
    simp only [yA, yB, yD, yE, e0, e1, e2, e3]
    clear hR hal hap e0 e1 e2 e3
    refine Par.Chain.next (fun K hK => ⟨Par.want (by kernel_rfl) (wp_storeE (.tmp 7) (.tmp 27) rfl rfl rfl rfl (hX.at_ hl) (by rw [nts_length]; exact H3.out.elt.six) h3.elt.six (fun Y2 hl1 => hK.out _ _ ?_))⟩)
    refine Par.Chain.done ?_
    refine ⟨nofun, ?_⟩
    have hK2 : Keeps w3.heap.size (w3.heap.size + 2) 0 V1 Y2 := (Keeps.below hX (Nat.le_refl _)).trans (Keeps.just hl1.just (hX.at_ hl))
    have hS2 : Stay t w3.heap.size V1 Y2 := Stay.trans (hX.stay zV1) (hl1.just.stay zq2 (Nat.le_trans zV1 hX.bsize))
    have hB2 : Below b4 w3 Y2 := (HB1.out.trans (Below.mono hX (by omega))).trans (hl1.just.below (Nat.le_refl _) (by have := hX.bsize; omega))
    have HK2 := Lib.hid (HK1.out.trans hK2)
    have HS2 := Lib.hid (Stay.trans HS1.out hS2)
    have HB2 := Lib.hid hB2
    have Hy2 := Lib.hid hl1.blk
    have H4 := Lib.hid h3
    clear hK2 hS2 hB2 hl1 h3
    gi_wp2
    exact ⟨HK2.out, HS2.out, ⟨o5, Hy2.out, by rw [hp.out, Hv.out]; exact H4.out⟩, HB2.out⟩
 case done =>
  rintro D V hD ⟨⟨lo, hl, hf⟩, h5⟩ hKD
  rw [topOf_all] at hf
  have hmV := (h5.block (s + 2) (by omega)).trans m4
  go_upto_region 7 with fail
  refine Par.region_txt 1 [0, 1] [] (fun j f X => match j with
   | 0 => f 0 = EV lo
   | _ => True) (by kernel_rfl) [(28, 0)] (by kernel_rfl) ?_
  refine Par.S 1 0 [] (fun f X hX hR K hK => ?_) ?_
  · simp only [yB, yC, yD, yE]
    refine ⟨Par.want (by kernel_rfl) (wp_loadE (.tmp 7) rfl rfl (BlkE.range (hX.at_ hl)) hf.elt.six ?_)⟩
    exact hK.out _ (EV lo) _ (by simp only [yB, yC, yD, yE]) (Ext.refl _) trivial (fun _ _ => rfl)
  refine Par.AllOps.fin ⟨fun f X hX hR hal hap => ?_⟩
  have e0 : f 0 = _ := hR 0 (by decide)
  simp only [yA, yB, yD, yE, e0]
  clear hR hal hap e0
  refine Par.Chain.next (fun K hK => ⟨Par.want (by kernel_rfl) (wp_storeE (.tmp 6) (.tmp 28) rfl rfl rfl rfl (hX.at_ hmV) zero6 hf.elt.six (fun Y2 hl1 => hK.out _ _ ?_))⟩)
  refine Par.Chain.done ?_
  go_wp2
  have hKY : Y2.heap[D]? = some (.deferred (some [])) := hl1.other (by omega) (hX.at_ hKD)
  have hrY : (Y2.putObj D (.deferred none)).heap[s + 1 + 1]? = some (.cells (nts lo).toArray 81 (0, 0)) := (World.putObj_heap_other (by omega)).trans hl1.blk
  have hEY : Ext w Y2 := hl1.ext (Below.trans hEw3 (Below.mono (h5.trans (Below.mono hX (by have := h5.size; omega))) (by have := Hs.out; omega))) (by have := Hs.out; omega)
  refine ⟨by simp, .inl ⟨_, _, rfl, run_takeDeferred hKY, _, results_cell_row rfl _ _ (s + 1 + 1) _ _ _ (.array 6 72) rfl hrY Try.underlying81 rfl (by rw [List.size_toArray, nts_length, hf.elt.six]; exact infoE), ⟨lo, rfl, hf, Below.trans hEY (belowK_b (w := w) (Nat.le_refl _) Y2 D _ _ (by have := Hs.out; omega) hKY rfl rfl)⟩⟩⟩
 case stop => exact fun _ _ _ _ _ _ _ h _ => h.elim
end Go.Proofs.Ytldhmjfjbalakaa

namespace Go.Proofs.Ytldhmjfjbalakaa
open Go.RowKit
def decC (C : Crv) (bs : List Nat) : Option (Option (Nat × Nat)) :=
 if bs = [0] then some none
 else if bs.length = 1 + 2 * C.size ∧ dg bs 0 = 4 then
  if onB C.M C.bb (numOf ((bs.drop 1).take C.size)) (numOf (bs.drop (1 + C.size))) = true then some (some (numOf ((bs.drop 1).take C.size), numOf (bs.drop (1 + C.size)))) else none
 else none
def PtV (w : World) (base : Nat) (v : Value) : Option (Nat × Nat) → Prop
 | none => v = infV
 | some p => ∃ A c A' c', v = .agg #[.bool false, .slice A (digs 18446744073709551616 p.1).length c, .slice A' (digs 18446744073709551616 p.2).length c'] ∧ OB w base A c (digs 18446744073709551616 p.1) ∧ OB w base A' c' (digs 18446744073709551616 p.2)
theorem decode_c {c : Int} {C : Crv} (hC : IsC c C) (P : Nat → Prop) (A : Option Addr) (cap : Nat) (bs : List Nat) (w : World) (h : RB w P A cap bs) (hP : ∀ b, P b → b < w.heap.size) :
 Calls Try.prog 27 #[.int .i64 c, .slice A bs.length cap] w fun e w' => ∃ v, e = .returned (.tuple #[v, .bool (decC C bs).isSome]) ∧ PtV w' w.heap.size v ((decC C bs).getD none) ∧ Ext w w' := by
 have hF := hC.fine
 obtain ⟨s, hs⟩ : ∃ s, C.size = s := ⟨_, rfl⟩
 have s1 : 32 ≤ s := by rw [← hs]; exact hF.pos
 have s2 : s ≤ 48 := by rw [← hs]; exact hF.small
 obtain ⟨r, hr⟩ : ∃ r, decC C bs = r := ⟨_, rfl⟩
 rw [hr]
 have Hr := Lib.hid hr
 have Hs := Lib.hid hs
 have HF := Lib.hid hF
 obtain ⟨l1, l2, l3⟩ := h.cap
 obtain ⟨n, hn⟩ : ∃ n, bs.length = n := ⟨_, rfl⟩
 rw [hn] at l1 l3
 rw [hn]
 have Hn := Lib.hid hn
 have w1 : IntKind.i64.wrap (2 * (s : Int)) = 2 * s := IntWalk.i64_in _ (by omega)
 have w2 : IntKind.i64.wrap (1 + 2 * (s : Int)) = 1 + 2 * s := IntWalk.i64_in _ (by omega)
 clear hr hs hF hn
 by_cases h1 : n = 1
 · subst h1
   obtain ⟨x, rfl⟩ : ∃ x, bs = [x] := by
    have := Hn.out
    match bs, this with
    | [x], _ => exact ⟨x, rfl⟩
   obtain ⟨ad, rfl, hPb, hc, hx⟩ := h.at_ (i := 0) (by simp)
   have hc0 : w.cell? ad = some (.int .u8 (x : Int)) := by rwa [show ad.add 0 = ad by simp [Addr.add]] at hc
   by_cases hx0 : x = 0
   · subst hx0
     obtain rfl : r = some none := by rw [← Hr.out]; simp [decC]
     go_enter Try.func27, Try.ntmps27
     go_wp2_with (first
      | (go_at_call 42; refine (of_c hC _).mono ?_; rintro e wa ⟨k, rfl, hk, hE1⟩; have hca := hE1.cell ((Ext.alloc w _).cell hc0); have hrb := hE1.at_ (heap_alloc_new w _); have hks := hk.size; rw [Hs.out] at hks)
      | (go_at_call 45; refine (none_any _).mono ?_; rintro e wb ⟨rfl, hE2⟩; have hrb2 := hE2.at_ hrb; obtain ⟨z0, z1, z2, f0, f1, f2⟩ := pt_facts hrb2))
     exact end_pt rfl rfl rfl rfl (pt_set hrb2 _ _ _) ⟨infV, rfl, rfl, pt_ext (((Ext.alloc w _).trans hE1).trans hE2) (Nat.le_refl _) _ _ _⟩
   · have hx1 : ((x : Int) == 0) = false := by simp; omega
     have hx2 : ((1 : Int) != 1 + 2 * (s : Int)) = true := by simp; omega
     obtain rfl : r = none := by rw [← Hr.out]; simp [decC, hx0]; intro h; have := Hs.out; omega
     go_enter Try.func27, Try.ntmps27
     go_wp2_with (first
      | (go_at_call 42; refine (of_c hC _).mono ?_; rintro e wa ⟨k, rfl, hk, hE1⟩; have hca := hE1.cell ((Ext.alloc w _).cell hc0); have hrb := hE1.at_ (heap_alloc_new w _); have hks := hk.size; rw [Hs.out] at hks)
      | (go_at_call 45; refine (none_any _).mono ?_; rintro e wb ⟨rfl, hE2⟩; have hrb2 := hE2.at_ hrb; obtain ⟨z0, z1, z2, f0, f1, f2⟩ := pt_facts hrb2))
     exact end_pt rfl rfl rfl rfl (pt_set hrb2 _ _ _) ⟨infV, rfl, rfl, pt_ext (((Ext.alloc w _).trans hE1).trans hE2) (Nat.le_refl _) _ _ _⟩
 · have hn1 : ((n : Int) == 1) = false := by simp; omega
   by_cases h2 : n = 1 + 2 * s
   · obtain ⟨ad, rfl, hPb, hc, hx⟩ := h.at_ (i := 0) (by rw [Hn.out]; omega)
     have hn2 : ((n : Int) != 1 + 2 * (s : Int)) = false := by simp; omega
     have hn3 : 0 < n := by omega
     obtain ⟨x, hxe⟩ : ∃ x, bs[0]'(by rw [Hn.out]; omega) = x := ⟨_, rfl⟩
     rw [hxe] at hc hx
     have hdx : dg bs 0 = x := by rw [dg, getD_eq' (by rw [Hn.out]; omega)]; exact hxe
     have hc0 : w.cell? ad = some (.int .u8 (x : Int)) := by rwa [show ad.add 0 = ad by simp [Addr.add]] at hc
     have Hdx := Lib.hid hdx
     have H2 := Lib.hid h2
     clear hxe hdx h2 hc
     by_cases hx4 : x = 4
     · have hx1 : ((x : Int) != 4) = false := by simp; omega
       go_enter Try.func27, Try.ntmps27
       go_upto_region 8 with (first
       | (go_at_call 42; refine (of_c hC _).mono ?_; rintro e wa ⟨k, rfl, hk, hE1⟩; have hca := hE1.cell ((Ext.alloc w _).cell hc0); have hrb := hE1.at_ (heap_alloc_new w _); have hks := hk.size; rw [Hs.out] at hks)
       | (go_at_call 45; refine (none_any _).mono ?_; rintro e wb ⟨rfl, hE2⟩; have hrb2 := hE2.at_ hrb; obtain ⟨z0, z1, z2, f0, f1, f2⟩ := pt_facts hrb2))
       have hW : Ext w wa := (Ext.alloc w _).trans hE1
       obtain ⟨B1, hB1⟩ : ∃ B1, (bs.drop 1).take s = B1 := ⟨_, rfl⟩
       obtain ⟨B2, hB2⟩ : ∃ B2, bs.drop (1 + s) = B2 := ⟨_, rfl⟩
       have hlen1 : B1.length = s := by rw [← hB1, List.length_take, List.length_drop, Hn.out, H2.out]; omega
       have hlen2 : B2.length = s := by rw [← hB2, List.length_drop, Hn.out, H2.out]; omega
       have hr1 := Lib.hid (fun X (hX : Ext wa X) => show RB X P (some ⟨ad.block, ad.off + 1, none⟩) (cap - 1) B1 by
        have := (h.below (hW.trans hX) hP).mid (k := 1) (m := 1 + s) (c' := cap - 1) (A' := some ⟨ad.block, ad.off + 1, none⟩) (by omega) (by rw [Hn.out, H2.out]; omega) (by have := H2.out; omega) (by unfold maxLen; omega) (fun _ => by simp [Addr.add])
        rw [Nat.add_sub_cancel_left, hB1] at this
        exact this)
       have hr2 := Lib.hid (fun X (hX : Ext wa X) => show RB X P (some (ad.add (1 + s))) (cap - (1 + s)) B2 by
        have := (h.below (hW.trans hX) hP).mid (k := 1 + s) (m := bs.length) (c' := cap - (1 + s)) (A' := some (ad.add (1 + s))) (by rw [Hn.out, H2.out]; omega) (Nat.le_refl _) (by rw [Hn.out]; omega) (by unfold maxLen; omega) (fun _ => rfl)
        rw [List.take_of_length_le (by rw [List.length_drop]; omega), hB2] at this
        exact this)
       have hrr : decC C bs = if onB C.M C.bb (numOf B1) (numOf B2) = true then some (some (numOf B1, numOf B2)) else none := by
        rw [decC, if_neg (fun e => by have := Hn.out; rw [e] at this; simp at this; omega), if_pos ⟨by have := Hn.out; have := Hs.out; have := H2.out; omega, by have := Hdx.out; omega⟩, Hs.out, hB1, hB2]
       rw [Hr.out] at hrr
       have Hrr := Lib.hid hrr
       have L1 := Lib.hid hlen1
       have L2 := Lib.hid hlen2
       have HW := Lib.hid hW
       have w3 : IntKind.i64.wrap (1 + (s : Int)) = 1 + s := IntWalk.i64_in _ (by omega)
       have hPw : ∀ X : World, Ext wa X → ∀ b, P b → b < X.heap.size := fun X hX b hb => Nat.lt_of_lt_of_le (hP b hb) (HW.out.trans hX).bsize
       have HPw := Lib.hid hPw
       have c1i : 1 + (s : Int) ≤ cap := by have := H2.out; omega
       have c0i : (1 : Int) ≤ 1 + (s : Int) := by omega
       have c4i : 1 + (s : Int) ≤ n := by have := H2.out; omega
       have c5i : (0 : Int) ≤ 1 + (s : Int) := by omega
       have c6 : ¬ cap = 1 := by have := H2.out; omega
       have c7 : ¬ cap = 1 + s := by have := H2.out; omega
       have c1 : 1 + s ≤ cap := by have := H2.out; omega
       have c2 : (1 + (s : Int)).toNat = 1 + s := by omega
       have c3 : n - (1 + s) = s := by have := H2.out; omega
       have c4 : 1 + s ≤ n := by have := H2.out; omega
       clear hlen1 hlen2 hB1 hB2 hrr hW hPw
       refine Par.region_ext (by kernel_rfl) 18 [0, 0, 2, 6, 14, 30, 63, 127, 0, 0, 512, 1536, 3584, 7680, 16128, 32767, 65535, 0, 262143] [17] (fun j f X => match j with
        | 0 => f 0 = .slice (some ad) n cap
        | 1 => f 1 = .pointer (some ⟨k, 0, none⟩)
        | 2 => f 2 = .pointer (some ⟨k, 0, none⟩)
        | 3 => f 3 = .pointer (some ⟨k, 0, none⟩)
        | 4 => f 4 = .int .i64 (s : Int)
        | 5 => f 5 = .int .i64 (1 + (s : Int))
        | 6 => f 6 = .slice (some ⟨ad.block, ad.off + 1, none⟩) s (cap - 1)
        | 7 => ∃ A1 k1, f 7 = .slice A1 (digs 18446744073709551616 (numOf B1)).length k1 ∧ OB X w.heap.size A1 k1 (digs 18446744073709551616 (numOf B1))
        | 8 => f 8 = .slice (some ad) n cap
        | 9 => f 9 = .pointer (some ⟨k, 0, none⟩)
        | 10 => f 10 = .pointer (some ⟨k, 0, none⟩)
        | 11 => f 11 = .pointer (some ⟨k, 0, none⟩)
        | 12 => f 12 = .int .i64 (s : Int)
        | 13 => f 13 = .int .i64 (1 + (s : Int))
        | 14 => f 14 = .slice (some (ad.add (1 + s))) s (cap - (1 + s))
        | 15 => ∃ A1 k1, f 15 = .slice A1 (digs 18446744073709551616 (numOf B2)).length k1 ∧ OB X w.heap.size A1 k1 (digs 18446744073709551616 (numOf B2))
        | 16 => f 16 = .agg #[.bool false, f 7, f 15]
        | 17 => ∃ b, f 17 = .pointer (some ⟨b, 0, none⟩) ∧ wa.heap.size ≤ b ∧ X.heap[b]? = some (.cells #[.bool false, .slice none 0 0, .slice none 0 0] 27 (0, 0))
        | _ => True) (by kernel_rfl) [(42, 0), (43, 1), (44, 2), (45, 3), (46, 4), (47, 5), (48, 6), (49, 7), (50, 8), (51, 9), (52, 10), (53, 11), (54, 12), (55, 13), (56, 14), (57, 15), (58, 16), (7, 17)] (by kernel_rfl) ?_
       refine Par.v0 1 17 ?_
       refine Par.v0 2 16 ?_
       refine Par.v1 3 15 1 ?_
       refine Par.v1 4 14 2 ?_
       refine Par.ld1 5 13 3 hks ?_
       refine Par.S 6 12 [(42, 0), (43, 1), (44, 2), (45, 3), (46, 4), (50, 8), (51, 9), (52, 10), (53, 11), (54, 12), (55, 13), (56, 14), (7, 17)] (fun f X hX hR K hK => ?_) ?_
       · have e4 : f 4 = _ := hR.out 4 rfl
         simp only [yA, yB, yC, yD, yE, e4]
         refine ⟨?_⟩
         go_simp
         exact Par.k hK (s := by simp only [yA, yB, yC, yD, yE, e4])
       refine Par.S 7 11 [(42, 0), (43, 1), (44, 2), (45, 3), (46, 4), (47, 5), (50, 8), (51, 9), (52, 10), (53, 11), (54, 12), (55, 13), (56, 14), (7, 17)] (fun f X hX hR K hK => ?_) ?_
       · have e0 : f 0 = _ := hR.out 0 rfl
         have e5 : f 5 = _ := hR.out 5 rfl
         simp only [yA, yB, yC, yD, yE, e0, e5]
         refine ⟨?_⟩
         go_simp
         exact Par.k hK (s := by simp only [yA, yB, yC, yD, yE, e0, e5])
       refine Par.c0 8 10 (fun f => #[f 6]) (F' := 62) (fun f X hX hR => ?_) ?_
       · have e6 : f 6 = _ := hR.out 6 rfl
         simp only [e6]
         have hf := fromBytes_any P _ _ B1 X (hr1.out X hX) (HPw.out X hX) (by rw [L1.out]; omega)
         rw [L1.out] at hf
         refine hf.mono ?_
         rintro e w2 ⟨A1, k1, rfl, hO, hB⟩
         exact ⟨_, rfl, hB, fun Y hY => ⟨A1, k1, rfl, (hO.mono (HW.out.trans hX).bsize).below hY (Nat.le_refl _)⟩⟩
       refine Par.v0 9 9 ?_
       refine Par.v0 10 8 ?_
       refine Par.v1 11 7 9 ?_
       refine Par.v1 12 6 10 ?_
       refine Par.ld1 13 5 11 hks ?_
       refine Par.S 14 4 [(42, 0), (43, 1), (44, 2), (45, 3), (46, 4), (47, 5), (48, 6), (49, 7), (50, 8), (51, 9), (52, 10), (53, 11), (54, 12), (7, 17)] (fun f X hX hR K hK => ?_) ?_
       · have e12 : f 12 = _ := hR.out 12 rfl
         simp only [yA, yB, yC, yD, yE, e12]
         refine ⟨?_⟩
         go_simp
         exact Par.k hK (s := by simp only [yA, yB, yC, yD, yE, e12])
       refine Par.S 15 3 [(42, 0), (43, 1), (44, 2), (45, 3), (46, 4), (47, 5), (48, 6), (49, 7), (50, 8), (51, 9), (52, 10), (53, 11), (54, 12), (55, 13), (7, 17)] (fun f X hX hR K hK => ?_) ?_
       · have e8 : f 8 = _ := hR.out 8 rfl
         have e13 : f 13 = _ := hR.out 13 rfl
         simp only [yA, yB, yC, yD, yE, e8, e13]
         refine ⟨?_⟩
         go_simp
         exact Par.k hK (s := by simp only [yA, yB, yC, yD, yE, e8, e13])
       refine Par.c0 16 2 (fun f => #[f 14]) (F' := 62) (fun f X hX hR => ?_) ?_
       · have e14 : f 14 = _ := hR.out 14 rfl
         simp only [e14]
         have hf := fromBytes_any P _ _ B2 X (hr2.out X hX) (HPw.out X hX) (by rw [L2.out]; omega)
         rw [L2.out] at hf
         refine hf.mono ?_
         rintro e w2 ⟨A1, k1, rfl, hO, hB⟩
         exact ⟨_, rfl, hB, fun Y hY => ⟨A1, k1, rfl, (hO.mono (HW.out.trans hX).bsize).below hY (Nat.le_refl _)⟩⟩
       refine Par.S 17 1 [(42, 0), (43, 1), (44, 2), (45, 3), (46, 4), (47, 5), (48, 6), (49, 7), (50, 8), (51, 9), (52, 10), (53, 11), (54, 12), (55, 13), (56, 14), (57, 15), (7, 17)] (fun f X hX hR K hK => ?_) ?_
       · obtain ⟨A7, k7, (e7 : f 7 = _), o7⟩ := hR.out 7 rfl
         obtain ⟨A15, k15, (e15 : f 15 = _), o15⟩ := hR.out 15 rfl
         simp only [yA, yB, yC, yD, yE, e7, e15]
         refine ⟨?_⟩
         go_simp
         exact hK.out _ (.agg #[.bool false, f 7, f 15]) _ (by simp only [yA, yB, yC, yD, yE, e7, e15]) (Ext.refl _) trivial (fun _ _ => rfl)
       refine Par.al 18 0 ?_
       refine Par.AllOps.fin ⟨fun f X hX hR hal hap => ?_⟩
       obtain ⟨A7, k7, (e7 : f 7 = _), o7⟩ := hR 7 (by decide)
       obtain ⟨A15, k15, (e15 : f 15 = _), o15⟩ := hR 15 (by decide)
       have e16 : f 16 = .agg #[.bool false, f 7, f 15] := hR 16 (by decide)
       obtain ⟨b17, (e17 : f 17 = _), l17, h17⟩ := hR 17 (by decide)
       simp only [yA, yB, yD, yE, e7, e15, e16, e17]
       clear hR hal hap e7 e15 e16 e17
       refine Par.Chain.next (fun K hK => ⟨Par.want (by kernel_rfl) (wp_storeV 27 (.tmp 7) (.tmp 58) rfl rfl rfl rfl h17 infoP rfl (pt_one _ _ _ _ _ _ _) (fun Y1 g1 g2 g3 => hK.out _ _ ?_))⟩)
       refine Par.Chain.done ?_
       have hEY : Ext wa Y1 := g2.ext hX l17
       have p7 := o7.just g2 h17 (by decide)
       have p15 := o15.just g2 h17 (by decide)
       have hgl : w.heap.size < wa.heap.size := blk_lt hrb
       have hrY : Y1.heap[w.heap.size]? = some (.cells #[.bool false, .slice none 0 0, .slice none 0 0] 27 (0, 0)) := g2.at_ (by omega) (hX.at_ hrb)
       have hkY := hk.ext hEY
       obtain ⟨m, hm⟩ : ∃ m, onB C.M C.bb (numOf B1) (numOf B2) = m := ⟨_, rfl⟩
       have hon := on_c hkY HF.out _ _ A7 A15 k7 k15 _ _ false p7.rn p15.rn (fun b hb => hb.2) (fun b hb => hb.2)
       rw [val_digs (by omega), val_digs (by omega), hm, Bool.false_or] at hon
       have hrr := Hrr.out
       rw [hm] at hrr
       have Hon := Lib.hid hon
       have Hk7 := Lib.hid p7
       have Hk15 := Lib.hid p15
       have HEY := Lib.hid (HW.out.trans hEY)
       clear hm hon Hrr g2 g3 hX o7 o15 h17 l17 hEY p7 p15 hgl hkY w1 w2 w3 c0i c1i c4i c5i c1 c2 c3 c4 c6 c7 Hr
       obtain ⟨y0, y1, y2, q0, q1, q2⟩ := pt_facts g1
       have Harm := Lib.hid (fun wo (hEo : Ext Y1 wo) => (⟨pt_facts (hEo.at_ hrY), pt_facts (hEo.at_ g1)⟩ : _ ∧ _))
       cases m
       · rw [if_neg (by decide)] at hrr
         subst hrr
         go_wp2_with (first
          | (go_at_call 43; refine Hon.out.mono ?_; rintro e wo ⟨rfl, hEo⟩; have hro := hEo.at_ hrY)
          | (go_at_call 45; refine (none_any _).mono ?_; rintro e wb ⟨rfl, hE2⟩; have hrb2 := hE2.at_ hro; obtain ⟨z0, z1, z2, f0, f1, f2⟩ := pt_facts hrb2))
         exact end_pt rfl rfl rfl rfl (pt_set hrb2 _ _ _) ⟨infV, rfl, rfl, pt_ext ((HEY.out.trans hEo).trans hE2) (Nat.le_refl _) _ _ _⟩
       · rw [if_pos rfl] at hrr
         subst hrr
         go_wp2_with (go_at_call 43; refine Hon.out.mono ?_; rintro e wo ⟨rfl, hEo⟩; have hro := hEo.at_ hrY; obtain ⟨z0, z1, z2, f0, f1, f2⟩ := pt_facts hro; obtain ⟨v0, v1, v2, u0, u1, u2⟩ := pt_facts (hEo.at_ g1))
         exact end_pt rfl rfl rfl rfl (pt_set hro _ _ _) ⟨_, rfl, ⟨A7, k7, A15, k15, rfl, (Hk7.out.below hEo (Nat.le_refl _)).just (pt_just _ _ _ _ _) hro (by decide), (Hk15.out.below hEo (Nat.le_refl _)).just (pt_just _ _ _ _ _) hro (by decide)⟩, pt_ext (HEY.out.trans hEo) (Nat.le_refl _) _ _ _⟩
     · have hx1 : ((x : Int) != 4) = true := by simp; omega
       obtain rfl : r = none := by
        rw [← Hr.out, decC, if_neg (fun e => by have := Hn.out; rw [e] at this; simp at this; omega), if_neg (fun e => by have := Hdx.out; omega)]
       go_enter Try.func27, Try.ntmps27
       go_wp2_with (first
       | (go_at_call 42; refine (of_c hC _).mono ?_; rintro e wa ⟨k, rfl, hk, hE1⟩; have hca := hE1.cell ((Ext.alloc w _).cell hc0); have hrb := hE1.at_ (heap_alloc_new w _); have hks := hk.size; rw [Hs.out] at hks)
       | (go_at_call 45; refine (none_any _).mono ?_; rintro e wb ⟨rfl, hE2⟩; have hrb2 := hE2.at_ hrb; obtain ⟨z0, z1, z2, f0, f1, f2⟩ := pt_facts hrb2))
       exact end_pt rfl rfl rfl rfl (pt_set hrb2 _ _ _) ⟨infV, rfl, rfl, pt_ext (((Ext.alloc w _).trans hE1).trans hE2) (Nat.le_refl _) _ _ _⟩
   · have hn2 : ((n : Int) != 1 + 2 * (s : Int)) = true := by simp; omega
     obtain rfl : r = none := by
      rw [← Hr.out, decC, if_neg (fun e => by have := Hn.out; rw [e] at this; simp at this; omega), if_neg (fun e => by have := Hn.out; have := Hs.out; omega)]
     go_enter Try.func27, Try.ntmps27
     go_wp2_with (first
      | (go_at_call 42; refine (of_c hC _).mono ?_; rintro e wa ⟨k, rfl, hk, hE1⟩; have hrb := hE1.at_ (heap_alloc_new w _); have hks := hk.size; rw [Hs.out] at hks)
      | (go_at_call 45; refine (none_any _).mono ?_; rintro e wb ⟨rfl, hE2⟩; have hrb2 := hE2.at_ hrb; obtain ⟨z0, z1, z2, f0, f1, f2⟩ := pt_facts hrb2))
     exact end_pt rfl rfl rfl rfl (pt_set hrb2 _ _ _) ⟨infV, rfl, rfl, pt_ext (((Ext.alloc w _).trans hE1).trans hE2) (Nat.le_refl _) _ _ _⟩
def downP (M x y z : Nat) : Option (Nat × Nat) := if z % M = 0 then none else let u1 := z ^ (M - 2); let u2 := mm M u1 u1; let u3 := mm M x u2; let u4 := mm M u2 u1; let u5 := mm M y u4; some (u3 % M, u5 % M)
theorem down_any {P0 : Nat → Prop} {k g size n inv M bb : Nat} {pl nl bl xl yl ml ol rl tl fl lx ly lz : List Nat} {Ap An Ab Ax Ay : Option Addr} {cp cn cb cx cy x y z : Nat} (w : World)
 (hk : Num w P0 k g size n inv M bb pl nl bl xl yl ml ol rl tl fl Ap An Ab Ax Ay cp cn cb cx cy) (hP0 : ∀ b, P0 b → b < w.heap.size) (hpl : pl.length < 100000) (hj : FJ M n lx ly lz x y z) :
 Calls Try.prog 50 #[.pointer (some ⟨k, 0, none⟩), JV lx ly lz] w fun e w' => ∃ v, e = .returned v ∧ PtV w' w.heap.size v (downP M x y z) ∧ Ext w w' := by
 obtain ⟨cs, hcs⟩ : ∃ cs, (nts (lx ++ ly ++ lz)).toArray = cs := ⟨_, rfl⟩
 obtain ⟨W0, hW0⟩ : ∃ W0, W0 = (w.alloc (.cells cs 83)).alloc (.cells #[.bool false, .slice none 0 0, .slice none 0 0] 27) := ⟨_, rfl⟩
 obtain ⟨q, hq⟩ : ∃ q, w.heap.size = q := ⟨_, rfl⟩
 have hE0 : Ext w W0 := by rw [hW0]; exact (Ext.alloc _ _).trans (Ext.alloc _ _)
 obtain ⟨hpj, hrb, hz0⟩ := two_at2 w (.cells cs 83) (.cells #[.bool false, .slice none 0 0, .slice none 0 0] 27)
 rw [← hW0, hq] at hpj hrb hz0
 have hpj : BlkJ W0 q lx ly lz := by rw [BlkJ, hcs]; exact hpj
 have hn := Lib.hid (hk.ext hP0 hE0)
 have hP0' : ∀ b, P0 b → b < W0.heap.size := fun b hb => Nat.lt_of_lt_of_le (hP0 b hb) hE0.bsize
 have k6 := hn.out.c_f
 have k1 := hn.out.c_p
 have hJ := Lib.hid hj
 have HE0 := Lib.hid hE0
 have Hz0 := Lib.hid hz0
 have Hpv := Lib.hid hk.pv
 have Hpl := Lib.hid hpl
 have hM1 := hk.fr.ff.big
 have Hqs := Lib.hid (show q ≤ W0.heap.size by omega)
 rw [show JV lx ly lz = .agg cs by rw [JV, hcs], hq]
 clear hE0 hz0 hk hP0 hj hcs hpl
 by_cases hz : z % M = 0
 · have hzn := Lib.hid hz
   rw [downP, if_pos hz]
   clear hz k6 k1
   go_enter Try.func50, Try.ntmps50
   go_upto_region 1 with fail
   rw [← hW0]
   have Hq := Lib.hid hq
   have HW0 := Lib.hid hW0
   have hE := Ext.refl W0
   clear hq hW0
   refine Par.region_txt 3 [0, 1, 3] [] (fun j f X => match j with
    | 0 => f 0 = .pointer (some ⟨q, 12, none⟩)
    | 1 => ∃ o, f 1 = EV o ∧ FE M n o z
    | 2 => f 2 = .bool true
    | _ => True) (by kernel_rfl) [(10, 0), (11, 1), (12, 2)] (by kernel_rfl) ?_
   refine Par.v0 1 2 ?_
   refine lE 2 1 0 (fun _ hX => BlkJ.rz ((hE.trans hX).at_ hpj) hJ.out.x.elt.six hJ.out.y.elt.six) hJ.out.z ?_
   refine Par.c0 3 0 (fun f => #[f 1]) (F' := 76) (fun f X hX hR => ?_) ?_
   · obtain ⟨o1, (e1 : f 1 = _), h1⟩ := hR.out 1 rfl
     simp only [e1]
     refine (zero_any o1 X h1.elt.six).mono ?_
     rintro e w2 ⟨rfl, hB⟩
     rw [show decide (o1 = [0, 0, 0, 0, 0, 0]) = true by rw [decide_eq_decide.2 (h1.zero_iff (hn.out.ext hP0' (hE.trans hX)).fr.ff)]; exact decide_eq_true hzn.out]
     exact ⟨(.bool true), rfl, hB, fun _ _ => rfl⟩
   refine Par.AllOps.fin ⟨fun f X hX hR hal hap => ?_⟩
   obtain ⟨o1, (e1 : f 1 = _), h1⟩ := hR 1 (by decide)
   have e2 : f 2 = _ := hR 2 (by decide)
   simp only [yA, yB, yD, yE, e1, e2]
   clear hR hal hap e1 e2
   refine Par.Chain.done ?_
   replace hE := hE.trans hX
   clear hX
   rename World => X1_
   go_upto_region 2 with fail
   have hb1 := hE.at_ hrb
   refine Par.region_txt 1 [0, 1] [] (fun j f X => match j with
    | 0 => f 0 = infV
    | _ => True) (by kernel_rfl) [(13, 0)] (by kernel_rfl) ?_
   refine Par.c0 1 0 (fun _ => #[]) (F' := 45) (fun f X hX hR => ?_) ?_
   · refine (none_any X).mono ?_
     rintro e w2 ⟨rfl, hB⟩
     exact ⟨infV, rfl, hB, fun _ _ => rfl⟩
   refine Par.AllOps.fin ⟨fun f X hX hR hal hap => ?_⟩
   have e0 : f 0 = _ := hR 0 (by decide)
   simp only [yA, yB, yD, yE, e0]
   clear hR hal hap e0
   refine Par.Chain.next (fun K hK => ⟨Par.want (by kernel_rfl) (wp_storeV (cs' := #[.bool true, .slice none 0 0, .slice none 0 0]) (t := 27) 27 (.tmp 4) (.tmp 13) rfl rfl rfl rfl (hX.at_ hb1) infoP rfl (pt_one _ _ _ _ _ _ _) (fun Y hY1 hY2 hY3 => hK.out _ _ ?_))⟩)
   refine Par.Chain.done ?_
   go_wp2
   exact end_p rfl rfl rfl hY1 ⟨_, rfl, rfl, hY2.ext (HE0.out.trans (hE.trans hX)) (by have := Hq.out; omega)⟩
 · have hzn := Lib.hid hz
   obtain ⟨u1, e_u1⟩ : ∃ v, z ^ (M - 2) = v := ⟨_, rfl⟩
   have E_u1 := Lib.hid e_u1
   clear e_u1
   obtain ⟨u2, e_u2⟩ : ∃ v, mm M u1 u1 = v := ⟨_, rfl⟩
   have E_u2 := Lib.hid e_u2
   clear e_u2
   obtain ⟨u3, e_u3⟩ : ∃ v, mm M x u2 = v := ⟨_, rfl⟩
   have E_u3 := Lib.hid e_u3
   clear e_u3
   obtain ⟨u4, e_u4⟩ : ∃ v, mm M u2 u1 = v := ⟨_, rfl⟩
   have E_u4 := Lib.hid e_u4
   clear e_u4
   obtain ⟨u5, e_u5⟩ : ∃ v, mm M y u4 = v := ⟨_, rfl⟩
   have E_u5 := Lib.hid e_u5
   clear e_u5
   have hres : downP M x y z = some (u3 % M, u5 % M) := by rw [downP, if_neg hz]; simp only [E_u1.out, E_u2.out, E_u3.out, E_u4.out, E_u5.out]
   rw [hres]
   clear hres hz
   go_enter Try.func50, Try.ntmps50
   go_upto_region 1 with fail
   rw [← hW0]
   have Hq := Lib.hid hq
   have HW0 := Lib.hid hW0
   have hE := Ext.refl W0
   clear hq hW0
   refine Par.region_txt 3 [0, 1, 3] [] (fun j f X => match j with
    | 0 => f 0 = .pointer (some ⟨q, 12, none⟩)
    | 1 => ∃ o, f 1 = EV o ∧ FE M n o z
    | 2 => f 2 = .bool false
    | _ => True) (by kernel_rfl) [(10, 0), (11, 1), (12, 2)] (by kernel_rfl) ?_
   refine Par.v0 1 2 ?_
   refine lE 2 1 0 (fun _ hX => BlkJ.rz ((hE.trans hX).at_ hpj) hJ.out.x.elt.six hJ.out.y.elt.six) hJ.out.z ?_
   refine Par.c0 3 0 (fun f => #[f 1]) (F' := 76) (fun f X hX hR => ?_) ?_
   · obtain ⟨o1, (e1 : f 1 = _), h1⟩ := hR.out 1 rfl
     simp only [e1]
     refine (zero_any o1 X h1.elt.six).mono ?_
     rintro e w2 ⟨rfl, hB⟩
     rw [show decide (o1 = [0, 0, 0, 0, 0, 0]) = false by rw [decide_eq_decide.2 (h1.zero_iff (hn.out.ext hP0' (hE.trans hX)).fr.ff)]; exact decide_eq_false hzn.out]
     exact ⟨(.bool false), rfl, hB, fun _ _ => rfl⟩
   refine Par.AllOps.fin ⟨fun f X hX hR hal hap => ?_⟩
   obtain ⟨o1, (e1 : f 1 = _), h1⟩ := hR 1 (by decide)
   have e2 : f 2 = _ := hR 2 (by decide)
   simp only [yA, yB, yD, yE, e1, e2]
   clear hR hal hap e1 e2
   refine Par.Chain.done ?_
   replace hE := hE.trans hX
   clear hX
   rename World => X1_
   have k6' := hE.cell k6
   have k1' := hE.cell k1
   go_upto_region 4 with fail
   clear k6'
   refine Par.region_ext (by kernel_rfl) 11 [0, 1, 3, 7, 0, 31, 63, 127, 127, 255, 1023] [] (fun j f X => match j with
    | 0 => f 0 = .pointer (some ⟨k, 0, none⟩)
    | 1 => f 1 = .pointer (some ⟨k, 0, none⟩)
    | 2 => f 2 = .pointer (some ⟨k, 1, none⟩)
    | 3 => f 3 = .slice Ap pl.length cp
    | 4 => ∃ A1 c1, f 4 = .slice A1 (digs 18446744073709551616 2).length c1 ∧ OB X q A1 c1 (digs 18446744073709551616 2)
    | 5 => ∃ A1 c1, f 5 = .tuple #[.slice A1 (digs 18446744073709551616 (M - 2)).length c1, .bool true] ∧ OB X q A1 c1 (digs 18446744073709551616 (M - 2))
    | 6 => ∃ A1 c1, f 6 = .tuple #[.slice A1 (digs 18446744073709551616 (M - 2)).length c1, .bool true] ∧ OB X q A1 c1 (digs 18446744073709551616 (M - 2))
    | 7 => ∃ A1 c1, f 7 = .slice A1 (digs 18446744073709551616 (M - 2)).length c1 ∧ OB X q A1 c1 (digs 18446744073709551616 (M - 2))
    | 8 => f 8 = .bool true
    | 9 => ∃ A1 c1, f 9 = .slice A1 (digs 18446744073709551616 (M - 2)).length c1 ∧ OB X q A1 c1 (digs 18446744073709551616 (M - 2))
    | 10 => f 10 = .bool true
    | _ => True) (by kernel_rfl) [(19, 0), (20, 1), (21, 2), (22, 3), (23, 4), (24, 5), (18, 6), (25, 7), (26, 8), (6, 9), (7, 10)] (by kernel_rfl) ?_
   refine Par.v0 1 10 ?_
   refine Par.v1 2 9 0 ?_
   refine Par.v1 3 8 1 ?_
   refine Par.ld1 4 7 2 k1' ?_
   refine Par.c0 5 6 (fun _ => #[Value.int IntKind.u64 2]) (F' := 71) (fun f X hX hR => ?_) ?_
   · refine (of_any 2 X (by omega)).mono ?_
     rintro e w2 ⟨A1, c1, rfl, hO, hB⟩
     exact ⟨_, rfl, hB, fun Y hY => ⟨A1, c1, rfl, (hO.mono (Nat.le_trans Hqs.out (hE.trans hX).bsize)).below hY (Nat.le_refl _)⟩⟩
   refine Par.c0 6 5 (fun f => #[f 3, f 4]) (F' := 66) (fun f X hX hR => ?_) ?_
   · have e3 : f 3 = _ := hR.out 3 rfl
     obtain ⟨A4, c4, (e4 : f 4 = _), o4⟩ := hR.out 4 rfl
     simp only [e3, e4]
     refine (sub_yes P0 _ Ap A4 cp c4 pl _ X (hn.out.ext hP0' (hE.trans hX)).p o4.rn (fun b hb => Nat.lt_of_lt_of_le (hP0' b hb) (hE.trans hX).bsize) (fun b hb => hb.2) Hpl.out (by rw [Hpv.out, val_digs (by omega)]; omega)).mono ?_
     rw [Hpv.out, val_digs (by omega)]
     rintro e w2 ⟨A1, c1, rfl, hO, hB⟩
     exact ⟨_, rfl, hB, fun Y hY => ⟨A1, c1, rfl, (hO.mono (Nat.le_trans Hqs.out (hE.trans hX).bsize)).below hY (Nat.le_refl _)⟩⟩
   refine Par.S 7 4 [(19, 0), (20, 1), (21, 2), (22, 3), (23, 4), (24, 5)] (fun f X hX hR K hK => ?_) ?_
   · obtain ⟨A5, c5, (e5 : f 5 = _), o5⟩ := hR.out 5 rfl
     simp only [yA, yB, yC, yD, yE, e5]
     refine ⟨?_⟩
     go_simp
     exact hK.out _ _ _ (by simp only [yA, yB, yC, yD, yE, e5]) (Ext.refl _) trivial (fun Y hY => ⟨A5, c5, rfl, o5.below (hY) (Nat.le_refl _)⟩)
   refine Par.S 8 3 [(19, 0), (20, 1), (21, 2), (22, 3), (23, 4), (24, 5), (18, 6), (26, 8)] (fun f X hX hR K hK => ?_) ?_
   · obtain ⟨A6, c6, (e6 : f 6 = _), o6⟩ := hR.out 6 rfl
     simp only [yA, yB, yC, yD, yE, e6]
     refine ⟨?_⟩
     go_simp
     exact hK.out _ _ _ (by simp only [yA, yB, yC, yD, yE, e6]) (Ext.refl _) trivial (fun Y hY => ⟨A6, c6, rfl, o6.below (hY) (Nat.le_refl _)⟩)
   refine Par.S 9 2 [(19, 0), (20, 1), (21, 2), (22, 3), (23, 4), (24, 5), (18, 6), (25, 7), (6, 9)] (fun f X hX hR K hK => ?_) ?_
   · obtain ⟨A6, c6, (e6 : f 6 = _), o6⟩ := hR.out 6 rfl
     simp only [yA, yB, yC, yD, yE, e6]
     refine ⟨?_⟩
     go_simp
     exact Par.k hK (s := by simp only [yA, yB, yC, yD, yE, e6])
   refine Par.S 10 1 [(19, 0), (20, 1), (21, 2), (22, 3), (23, 4), (24, 5), (18, 6), (25, 7), (26, 8)] (fun f X hX hR K hK => ?_) ?_
   · obtain ⟨A7, c7, (e7 : f 7 = _), o7⟩ := hR.out 7 rfl
     simp only [yA, yB, yC, yD, yE, e7]
     refine ⟨?_⟩
     go_simp
     exact hK.out _ _ _ (by simp only [yA, yB, yC, yD, yE, e7]) (Ext.refl _) trivial (fun Y hY => ⟨A7, c7, rfl, o7.below (hY) (Nat.le_refl _)⟩)
   refine Par.v1 11 0 8 ?_
   refine Par.AllOps.fin ⟨fun f X hX hR hal hap => ?_⟩
   obtain ⟨A4, c4, (e4 : f 4 = _), o4⟩ := hR 4 (by decide)
   obtain ⟨A5, c5, (e5 : f 5 = _), o5⟩ := hR 5 (by decide)
   obtain ⟨A6, c6, (e6 : f 6 = _), o6⟩ := hR 6 (by decide)
   obtain ⟨A7, c7, (e7 : f 7 = _), o7⟩ := hR 7 (by decide)
   obtain ⟨A9, c9, (e9 : f 9 = _), o9⟩ := hR 9 (by decide)
   simp only [yA, yB, yD, yE, e4, e5, e6, e7, e9]
   clear hR hal hap e4 e5 e6 e7 e9
   refine Par.Chain.done ?_
   replace hE := hE.trans hX
   have hL := o9
   rename World => X4_
   clear hX k1' o4 o5 o6 o7 o9
   go_upto_region 5 with fail
   refine Par.region_txt 6 [0, 0, 2, 0, 15, 0, 63] [5] (fun j f X => match j with
    | 0 => f 0 = .pointer (some ⟨g, 0, none⟩)
    | 1 => f 1 = .pointer (some ⟨q, 12, none⟩)
    | 2 => ∃ o, f 2 = EV o ∧ FE M n o z
    | 3 => f 3 = .slice A9 (digs 18446744073709551616 (M - 2)).length c9
    | 4 => ∃ o, f 4 = EV o ∧ FE M n o u1
    | 5 => ∃ b, f 5 = .pointer (some ⟨b, 0, none⟩) ∧ X4_.heap.size ≤ b ∧ X.heap[b]? = some (.cells #[.int .u64 0, .int .u64 0, .int .u64 0, .int .u64 0, .int .u64 0, .int .u64 0] 81 (0, 0))
    | _ => True) (by kernel_rfl) [(27, 0), (28, 1), (29, 2), (30, 3), (31, 4), (8, 5)] (by kernel_rfl) ?_
   refine Par.v0 1 5 ?_
   refine Par.v0 2 4 ?_
   refine lE 3 3 1 (fun _ hX => BlkJ.rz ((hE.trans hX).at_ hpj) hJ.out.x.elt.six hJ.out.y.elt.six) hJ.out.z ?_
   refine Par.v0 4 2 ?_
   refine Par.c0 5 1 (fun f => #[f 0, f 2, f 3]) (F' := 83) (fun f X hX hR => ?_) ?_
   · have e0 : f 0 = _ := hR.out 0 rfl
     obtain ⟨o2, (e2 : f 2 = _), h2⟩ := hR.out 2 rfl
     have e3 : f 3 = _ := hR.out 3 rfl
     simp only [e0, e2, e3]
     refine (zexp_any X (hn.out.ext hP0' (hE.trans hX)).fr hn.out.fr.fone z (M - 2) h2 _ A9 c9 _ (hL.below hX (Nat.le_refl _)).rn (fun b hb => hb.2) (val_digs (by omega) _)).mono ?_
     rw [E_u1.out]
     rintro e w2 ⟨o, rfl, ho, hB⟩
     exact ⟨(EV o), rfl, hB, fun Y hY => ⟨o, rfl, ho⟩⟩
   refine Par.al 6 0 ?_
   refine Par.AllOps.fin ⟨fun f X hX hR hal hap => ?_⟩
   obtain ⟨o2, (e2 : f 2 = _), h2⟩ := hR 2 (by decide)
   obtain ⟨o4, (e4 : f 4 = _), h4⟩ := hR 4 (by decide)
   obtain ⟨br5_5, (e5 : f 5 = _), lr5_5, hr5_5⟩ := hR 5 (by decide)
   simp only [yA, yB, yD, yE, e2, e4, e5]
   clear hR hal hap e2 e4 e5
   refine Par.Chain.next (fun K hK => ⟨Par.want (by kernel_rfl) (wp_storeE (.tmp 8) (.tmp 31) rfl rfl rfl rfl (hr5_5) zero6 h4.elt.six (fun Y2_6 hl2_6 => hK.out _ _ ?_))⟩)
   refine Par.Chain.done ?_
   have vbr5_5 : VE Y2_6 M n br5_5 u1 := (hl2_6.mk' h4)
   have lb_vbr5_5 := Nat.le_trans hE.bsize lr5_5
   have hE' : Ext W0 Y2_6 := (hl2_6.ext (hE.trans hX) (Nat.le_trans hE.bsize lr5_5))
   clear hE hX hl2_6 h2 h4 
   have hE := hE'
   clear hE'
   go_upto_region 6 with fail
   refine Par.region_txt 5 [0, 0, 0, 7, 0, 31] [4] (fun j f X => match j with
    | 0 => f 0 = .pointer (some ⟨g, 0, none⟩)
    | 1 => ∃ o, f 1 = EV o ∧ FE M n o u1
    | 2 => ∃ o, f 2 = EV o ∧ FE M n o u1
    | 3 => ∃ o, f 3 = EV o ∧ FE M n o u2
    | 4 => ∃ b, f 4 = .pointer (some ⟨b, 0, none⟩) ∧ Y2_6.heap.size ≤ b ∧ X.heap[b]? = some (.cells #[.int .u64 0, .int .u64 0, .int .u64 0, .int .u64 0, .int .u64 0, .int .u64 0] 81 (0, 0))
    | _ => True) (by kernel_rfl) [(32, 0), (33, 1), (34, 2), (35, 3), (9, 4)] (by kernel_rfl) ?_
   refine Par.v0 1 4 ?_
   refine lX 2 3 (fun X hX => let ⟨o, hbl, ho⟩ := vbr5_5.ext hX; ⟨o, hbl.range, ho⟩) ?_
   refine lX 3 2 (fun X hX => let ⟨o, hbl, ho⟩ := vbr5_5.ext hX; ⟨o, hbl.range, ho⟩) ?_
   refine fc 4 1 0 1 2 (fun X hX _ _ h h' => fm_any X (hn.out.ext hP0' (hE.trans hX)).fr.ff h h') E_u2.out ?_
   refine Par.al 5 0 ?_
   refine Par.AllOps.fin ⟨fun f X hX hR hal hap => ?_⟩
   obtain ⟨o1, (e1 : f 1 = _), h1⟩ := hR 1 (by decide)
   obtain ⟨o2, (e2 : f 2 = _), h2⟩ := hR 2 (by decide)
   obtain ⟨o3, (e3 : f 3 = _), h3⟩ := hR 3 (by decide)
   obtain ⟨br6_4, (e4 : f 4 = _), lr6_4, hr6_4⟩ := hR 4 (by decide)
   simp only [yA, yB, yD, yE, e1, e2, e3, e4]
   clear hR hal hap e1 e2 e3 e4
   refine Par.Chain.next (fun K hK => ⟨Par.want (by kernel_rfl) (wp_storeE (.tmp 9) (.tmp 35) rfl rfl rfl rfl (hr6_4) zero6 h3.elt.six (fun Y3_5 hl3_5 => hK.out _ _ ?_))⟩)
   refine Par.Chain.done ?_
   have d_br5_5_br6_4 : br5_5 ≠ br6_4 := by have := (let ⟨_, h, _⟩ := vbr5_5; h.lt : br5_5 < Y2_6.heap.size); omega
   replace vbr5_5 := (hl3_5.ve d_br5_5_br6_4 (vbr5_5.ext hX))
   have vbr6_4 : VE Y3_5 M n br6_4 u2 := (hl3_5.mk' h3)
   have lb_vbr6_4 := Nat.le_trans hE.bsize lr6_4
   have hE' : Ext W0 Y3_5 := (hl3_5.ext (hE.trans hX) (Nat.le_trans hE.bsize lr6_4))
   clear hE hX hl3_5 h1 h2 h3
   have hE := hE'
   clear hE'
   have hb1 := hE.at_ hrb
   go_upto_region 7 with fail
   refine Par.region_ext (by kernel_rfl) 18 [0, 0, 0, 4, 0, 30, 63, 0, 0, 0, 512, 0, 0, 0, 14463, 32639, 65535, 131071, 262143] [] (fun j f X => match j with
    | 0 => f 0 = .pointer (some ⟨g, 0, none⟩)
    | 1 => f 1 = .pointer (some ⟨g, 0, none⟩)
    | 2 => f 2 = .pointer (some ⟨q, 0, none⟩)
    | 3 => ∃ o, f 3 = EV o ∧ FE M n o x
    | 4 => ∃ o, f 4 = EV o ∧ FE M n o u2
    | 5 => ∃ o, f 5 = EV o ∧ FE M n o u3
    | 6 => ∃ A1 c1, f 6 = .slice A1 (digs 18446744073709551616 (u3 % M)).length c1 ∧ OB X q A1 c1 (digs 18446744073709551616 (u3 % M))
    | 7 => f 7 = .pointer (some ⟨g, 0, none⟩)
    | 8 => f 8 = .pointer (some ⟨g, 0, none⟩)
    | 9 => f 9 = .pointer (some ⟨q, 6, none⟩)
    | 10 => ∃ o, f 10 = EV o ∧ FE M n o y
    | 11 => f 11 = .pointer (some ⟨g, 0, none⟩)
    | 12 => ∃ o, f 12 = EV o ∧ FE M n o u2
    | 13 => ∃ o, f 13 = EV o ∧ FE M n o u1
    | 14 => ∃ o, f 14 = EV o ∧ FE M n o u4
    | 15 => ∃ o, f 15 = EV o ∧ FE M n o u5
    | 16 => ∃ A1 c1, f 16 = .slice A1 (digs 18446744073709551616 (u5 % M)).length c1 ∧ OB X q A1 c1 (digs 18446744073709551616 (u5 % M))
    | 17 => ∃ A1 c1 A2 c2, f 17 = .agg #[.bool false, .slice A1 (digs 18446744073709551616 (u3 % M)).length c1, .slice A2 (digs 18446744073709551616 (u5 % M)).length c2] ∧ OB X q A1 c1 (digs 18446744073709551616 (u3 % M)) ∧ OB X q A2 c2 (digs 18446744073709551616 (u5 % M))
    | _ => True) (by kernel_rfl) [(36, 0), (37, 1), (38, 2), (39, 3), (40, 4), (41, 5), (42, 6), (43, 7), (44, 8), (45, 9), (46, 10), (47, 11), (48, 12), (49, 13), (50, 14), (51, 15), (52, 16), (53, 17)] (by kernel_rfl) ?_
   refine Par.v0 1 17 ?_
   refine Par.v0 2 16 ?_
   refine Par.v0 3 15 ?_
   refine lE 4 14 2 (fun _ hX => BlkJ.rx ((hE.trans hX).at_ hpj)) hJ.out.x ?_
   refine lX 5 13 (fun X hX => let ⟨o, hbl, ho⟩ := vbr6_4.ext hX; ⟨o, hbl.range, ho⟩) ?_
   refine fc 6 12 1 3 4 (fun X hX _ _ h h' => fm_any X (hn.out.ext hP0' (hE.trans hX)).fr.ff h h') E_u3.out ?_
   refine Par.c0 7 11 (fun f => #[f 0, f 5]) (F' := 84) (fun f X hX hR => ?_) ?_
   · have e0 : f 0 = _ := hR.out 0 rfl
     obtain ⟨o5, (e5 : f 5 = _), h5⟩ := hR.out 5 rfl
     simp only [e0, e5]
     refine (from_f X (hn.out.ext hP0' (hE.trans hX)).fr h5).mono ?_
     rintro e w2 ⟨A1, c1, rfl, hO, hB⟩
     exact ⟨_, rfl, hB, fun Y hY => ⟨A1, c1, rfl, (hO.mono (Nat.le_trans Hqs.out (hE.trans hX).bsize)).below hY (Nat.le_refl _)⟩⟩
   refine Par.v0 8 10 ?_
   refine Par.v0 9 9 ?_
   refine Par.v0 10 8 ?_
   refine lE 11 7 9 (fun _ hX => BlkJ.ry ((hE.trans hX).at_ hpj) hJ.out.x.elt.six) hJ.out.y ?_
   refine Par.v0 12 6 ?_
   refine lX 13 5 (fun X hX => let ⟨o, hbl, ho⟩ := vbr6_4.ext hX; ⟨o, hbl.range, ho⟩) ?_
   refine lX 14 4 (fun X hX => let ⟨o, hbl, ho⟩ := vbr5_5.ext hX; ⟨o, hbl.range, ho⟩) ?_
   refine fc 15 3 11 12 13 (fun X hX _ _ h h' => fm_any X (hn.out.ext hP0' (hE.trans hX)).fr.ff h h') E_u4.out ?_
   refine fc 16 2 8 10 14 (fun X hX _ _ h h' => fm_any X (hn.out.ext hP0' (hE.trans hX)).fr.ff h h') E_u5.out ?_
   refine Par.c0 17 1 (fun f => #[f 7, f 15]) (F' := 84) (fun f X hX hR => ?_) ?_
   · have e7 : f 7 = _ := hR.out 7 rfl
     obtain ⟨o15, (e15 : f 15 = _), h15⟩ := hR.out 15 rfl
     simp only [e7, e15]
     refine (from_f X (hn.out.ext hP0' (hE.trans hX)).fr h15).mono ?_
     rintro e w2 ⟨A1, c1, rfl, hO, hB⟩
     exact ⟨_, rfl, hB, fun Y hY => ⟨A1, c1, rfl, (hO.mono (Nat.le_trans Hqs.out (hE.trans hX).bsize)).below hY (Nat.le_refl _)⟩⟩
   refine Par.S 18 0 [(36, 0), (37, 1), (38, 2), (39, 3), (40, 4), (41, 5), (42, 6), (43, 7), (44, 8), (45, 9), (46, 10), (47, 11), (48, 12), (49, 13), (50, 14), (51, 15), (52, 16)] (fun f X hX hR K hK => ?_) ?_
   · obtain ⟨A6, c6, (e6 : f 6 = _), o6⟩ := hR.out 6 rfl
     obtain ⟨A16, c16, (e16 : f 16 = _), o16⟩ := hR.out 16 rfl
     simp only [yA, yB, yC, yD, yE, e6, e16]
     refine ⟨?_⟩
     go_simp
     exact hK.out _ _ _ (by simp only [yA, yB, yC, yD, yE, e6, e16]) (Ext.refl _) trivial (fun Y hY => ⟨A6, c6, A16, c16, rfl, o6.below hY (Nat.le_refl _), o16.below hY (Nat.le_refl _)⟩)
   refine Par.AllOps.fin ⟨fun f X hX hR hal hap => ?_⟩
   obtain ⟨o3, (e3 : f 3 = _), h3⟩ := hR 3 (by decide)
   obtain ⟨o4, (e4 : f 4 = _), h4⟩ := hR 4 (by decide)
   obtain ⟨o5, (e5 : f 5 = _), h5⟩ := hR 5 (by decide)
   obtain ⟨A6, c6, (e6 : f 6 = _), o6⟩ := hR 6 (by decide)
   obtain ⟨o10, (e10 : f 10 = _), h10⟩ := hR 10 (by decide)
   obtain ⟨o12, (e12 : f 12 = _), h12⟩ := hR 12 (by decide)
   obtain ⟨o13, (e13 : f 13 = _), h13⟩ := hR 13 (by decide)
   obtain ⟨o14, (e14 : f 14 = _), h14⟩ := hR 14 (by decide)
   obtain ⟨o15, (e15 : f 15 = _), h15⟩ := hR 15 (by decide)
   obtain ⟨A16, c16, (e16 : f 16 = _), o16⟩ := hR 16 (by decide)
   obtain ⟨A17, c17, B17, d17, (e17 : f 17 = _), o17, p17⟩ := hR 17 (by decide)
   simp only [yA, yB, yD, yE, e3, e4, e5, e6, e10, e12, e13, e14, e15, e16, e17]
   clear hR hal hap e3 e4 e5 e6 e10 e12 e13 e14 e15 e16 e17
   refine Par.Chain.next (fun K hK => ⟨Par.want (by kernel_rfl) (wp_storeV (cs' := #[.bool false, .slice A17 (digs 18446744073709551616 (u3 % M)).length c17, .slice B17 (digs 18446744073709551616 (u5 % M)).length d17]) (t := 27) 27 (.tmp 4) (.tmp 53) rfl rfl rfl rfl (hX.at_ hb1) infoP rfl (pt_one _ _ _ _ _ _ _) (fun Y hY1 hY2 hY3 => hK.out _ _ ?_))⟩)
   refine Par.Chain.done ?_
   go_wp2
   exact end_p rfl rfl rfl hY1 ⟨_, rfl, ⟨A17, c17, B17, d17, rfl, o17.just hY2 (hX.at_ hb1) (by decide), p17.just hY2 (hX.at_ hb1) (by decide)⟩, hY2.ext (HE0.out.trans (hE.trans hX)) (by have := Hq.out; omega)⟩
theorem RN.ru {w : World} {P : Nat → Prop} {A : Option Addr} {c : Nat} {l : List Nat} (h : RN w P A c l) (hP : ∀ b, P b → b < w.heap.size) : RU w A c l := h.mono fun b hb => hP b hb
theorem of_b {c : Int} {C : Crv} (h : IsC c C) (w : World) : Calls Try.prog 42 #[.int .i64 c] w fun e w' => ∃ k, e = .returned (.pointer (some ⟨k, 0, none⟩)) ∧ (∃ (P0 : Nat → Prop) (g inv : Nat) (ml ol rl tl fl : List Nat) (Ap An Ab Ax Ay : Option Addr) (cp cn cb cx cy : Nat), Num w' P0 k g C.size C.n inv C.M C.bb C.pl C.nl C.bl C.xl C.yl ml ol rl tl fl Ap An Ab Ax Ay cp cn cb cx cy ∧ ∀ b, P0 b → w.heap.size ≤ b ∧ b < w'.heap.size) ∧ Ext w w' := by
 rcases h with ⟨rfl, rfl⟩ | ⟨rfl, rfl⟩
 · refine (of_p256 w).mono ?_
   rintro e w' ⟨k, g, inv, ml, ol, rl, tl, fl, rfl, _, hn, hB⟩
   exact ⟨k, rfl, ⟨_, g, inv, ml, ol, rl, tl, fl, _, _, _, _, _, _, _, _, _, _, hn, fun b hb => hb⟩, hB⟩
 · refine (of_p384 w).mono ?_
   rintro e w' ⟨k, g, inv, ml, ol, rl, tl, fl, rfl, _, hn, hB⟩
   exact ⟨k, rfl, ⟨_, g, inv, ml, ol, rl, tl, fl, _, _, _, _, _, _, _, _, _, _, hn, fun b hb => hb⟩, hB⟩
set_option maxHeartbeats 2000000
theorem order_c {c : Int} {C : Crv} (hC : IsC c C) (w : World) : Calls Try.prog 24 #[.int .i64 c] w fun e w' => ∃ A cc, e = .returned (.slice A C.nl.length cc) ∧ RU w' A cc C.nl ∧ Ext w w' := by
 go_enter Try.func24, Try.ntmps24
 go_wp2_with (go_at_call 42; refine (of_c hC _).mono ?_; rintro e wa ⟨k, rfl, ⟨P0, g, inv, ml, ol, rl, tl, fl, Ap, An, Ab, Ax, Ay, cp, cn, cb, cx, cy, hn, hP0⟩, hE1⟩; have k1 := hn.c_p; have k2 := hn.c_n; have k0 := hn.c_size; have Hn := Lib.hid hn; have HP := Lib.hid hP0; clear hn hP0)
 go_ret
 exact ⟨_, _, rfl, Hn.out.nn.ru HP.out, hE1⟩
theorem size_c {c : Int} {C : Crv} (hC : IsC c C) (w : World) : Calls Try.prog 35 #[.int .i64 c] w fun e w' => e = .returned (.int .i64 (C.size : Int)) ∧ Ext w w' := by
 go_enter Try.func35, Try.ntmps35
 go_wp2_with (go_at_call 42; refine (of_c hC _).mono ?_; rintro e wa ⟨k, rfl, hk, hE1⟩; have k0 := hk.size)
 go_ret
 exact ⟨rfl, hE1⟩
theorem base_c {c : Int} {C : Crv} (hC : IsC c C) (w : World) : Calls Try.prog 20 #[.int .i64 c] w fun e w' => ∃ A cc A' cc', e = .returned (.agg #[.bool false, .slice A C.xl.length cc, .slice A' C.yl.length cc']) ∧ RU w' A cc C.xl ∧ RU w' A' cc' C.yl ∧ Ext w w' := by
 have hr := heap_alloc_new w (.cells #[.bool false, .slice none 0 0, .slice none 0 0] 27)
 go_enter Try.func20, Try.ntmps20
 go_wp2_with (go_at_call 42; refine (of_b hC _).mono ?_; rintro e wa ⟨k, rfl, ⟨P0, g, inv, ml, ol, rl, tl, fl, Ap, An, Ab, Ax, Ay, cp, cn, cb, cx, cy, hn, hP0⟩, hE1⟩; have k1 := hn.c_x; have k2 := hn.c_y; have k0 := hn.c_size; have Hn := Lib.hid hn; have HP := Lib.hid hP0; have hra := hE1.at_ hr; obtain ⟨z0, z1, z2, f0, f1, f2⟩ := pt_facts hra; clear hn hP0)
 obtain ⟨q, hq⟩ : ∃ q, w.heap.size = q := ⟨_, rfl⟩
 rw [hq] at hra
 clear z0 z1 z2 f0 f1 f2
 rw [hq]
 refine Par.region_ext (by kernel_rfl) 9 [0, 1, 3, 7, 0, 16, 48, 112, 255, 511] [] (fun j f X => match j with
  | 0 => f 0 = .pointer (some ⟨k, 0, none⟩)
  | 1 => f 1 = .pointer (some ⟨k, 0, none⟩)
  | 2 => f 2 = .pointer (some ⟨k, 4, none⟩)
  | 3 => f 3 = .slice Ax C.xl.length cx
  | 4 => f 4 = .pointer (some ⟨k, 0, none⟩)
  | 5 => f 5 = .pointer (some ⟨k, 0, none⟩)
  | 6 => f 6 = .pointer (some ⟨k, 5, none⟩)
  | 7 => f 7 = .slice Ay C.yl.length cy
  | 8 => f 8 = .agg #[.bool false, .slice Ax C.xl.length cx, .slice Ay C.yl.length cy]
  | _ => True) (by kernel_rfl) [(8, 0), (9, 1), (10, 2), (11, 3), (12, 4), (13, 5), (14, 6), (15, 7), (16, 8)] (by kernel_rfl) ?_
 refine Par.v0 1 8 ?_
 refine Par.v1 2 7 0 ?_
 refine Par.v1 3 6 1 ?_
 refine Par.ld1 4 5 2 k1 ?_
 refine Par.v0 5 4 ?_
 refine Par.v1 6 3 4 ?_
 refine Par.v1 7 2 5 ?_
 refine Par.ld1 8 1 6 k2 ?_
 refine Par.v2 9 0 3 7 ?_
 refine Par.AllOps.fin ⟨fun f X hX hR hal hap => ?_⟩
 have e8 : f 8 = .agg #[.bool false, .slice Ax C.xl.length cx, .slice Ay C.yl.length cy] := hR 8 (by decide)
 simp only [Par.putL, Act.put, List.setIfInBounds_toArray, List.set_cons_succ, List.set_cons_zero, e8]
 clear hR hal hap e8
 refine Par.Chain.next (fun K hK => ⟨Par.want (by kernel_rfl) (wp_storeV (cs' := #[.bool false, .slice Ax C.xl.length cx, .slice Ay C.yl.length cy]) (t := 27) 27 (.tmp 2) (.tmp 16) rfl rfl rfl rfl (hX.at_ hra) infoP rfl (pt_one _ _ _ _ _ _ _) (fun Y hY1 hY2 hY3 => hK.out _ _ ?_))⟩)
 refine Par.Chain.done ?_
 go_wp2
 have zA : q + 1 ≤ wa.heap.size := by have := hE1.bsize; simp only [World.size_alloc] at this; omega
 have hP1 : ∀ b, P0 b → q < b ∧ b < wa.heap.size := fun b hb => by have := HP.out b hb; simp only [World.size_alloc] at this; omega
 have hx : RN Y P0 Ax cx C.xl := (Hn.out.x.below hX (fun b hb => (hP1 b hb).2)).just hY2 (fun b hb => ⟨by have := hP1 b hb; have := hX.bsize; omega, by have := hP1 b hb; omega⟩)
 have hy : RN Y P0 Ay cy C.yl := (Hn.out.y.below hX (fun b hb => (hP1 b hb).2)).just hY2 (fun b hb => ⟨by have := hP1 b hb; have := hX.bsize; omega, by have := hP1 b hb; omega⟩)
 have hb : ∀ b, P0 b → b < Y.heap.size := fun b hb => by have := hP1 b hb; have := hX.bsize; omega
 exact end_p rfl rfl rfl hY1 ⟨_, _, _, _, rfl, hx.ru hb, hy.ru hb, hY2.ext (((Ext.alloc w _).trans hE1).trans hX) (by omega)⟩
def APt (w : World) (v : Value) (inf : Bool) (x y : Nat) : Prop := ∃ (A A' : Option Addr) (c c' : Nat) (a b : List Nat), v = .agg #[.bool inf, .slice A a.length c, .slice A' b.length c'] ∧ RU w A c a ∧ RU w A' c' b ∧ val 18446744073709551616 a = x ∧ val 18446744073709551616 b = y
theorem APt.ext {w X : World} {v : Value} {inf : Bool} {x y : Nat} (h : APt w v inf x y) (hE : Ext w X) : APt X v inf x y := by
 obtain ⟨A, A', c, c', a, b, rfl, ha, hb, hx, hy⟩ := h
 exact ⟨A, A', c, c', a, b, rfl, RN.up ha hE, RN.up hb hE, hx, hy⟩
theorem APt.inf_ (w : World) : APt w infV true 0 0 := ⟨none, none, 0, 0, [], [], rfl, RN.nil_ _ _, RN.nil_ _ _, rfl, rfl⟩
theorem PtV.pt {w : World} {base : Nat} {v : Value} {o : Option (Nat × Nat)} (h : PtV w base v o) : APt w v o.isNone (o.elim 0 (·.1)) (o.elim 0 (·.2)) := by
  cases o with
  | none => cases h; exact APt.inf_ w
  | some p =>
    obtain ⟨A, c, A', c', rfl, h1, h2⟩ := h
    exact ⟨A, A', c, c', _, _, rfl, h1.ru, h2.ru, val_digs (by omega) _, val_digs (by omega) _⟩
theorem PtV.ext {w X : World} {base : Nat} {v : Value} {o : Option (Nat × Nat)} (h : PtV w base v o) (hE : Ext w X) : PtV X base v o := by
  cases o with
  | none => exact h
  | some p =>
    obtain ⟨A, c, A', c', rfl, h1, h2⟩ := h
    exact ⟨A, c, A', c', rfl, h1.below hE (Nat.le_refl _), h2.below hE (Nat.le_refl _)⟩
theorem PtV.mono {w : World} {base base' : Nat} {v : Value} {o : Option (Nat × Nat)} (h : PtV w base v o) (hb : base' ≤ base) : PtV w base' v o := by
  cases o with
  | none => exact h
  | some p =>
    obtain ⟨A, c, A', c', rfl, h1, h2⟩ := h
    exact ⟨A, c, A', c', rfl, h1.mono hb, h2.mono hb⟩
def JAt (C : Crv) (v : Value) (p : Nat × Nat × Nat) : Prop := ∃ lx ly lz, v = JV lx ly lz ∧ FJ C.M C.n lx ly lz p.1 p.2.1 p.2.2
def upP (inf : Bool) (x y : Nat) : Nat × Nat × Nat := if inf then (1, 1, 0) else (x, y, 1)
def addT (M : Nat) (p q : Nat × Nat × Nat) : Nat × Nat × Nat := addP M p.1 p.2.1 p.2.2 q.1 q.2.1 q.2.2
def dblT (M : Nat) (p : Nat × Nat × Nat) : Nat × Nat × Nat := dblP M p.1 p.2.1 p.2.2
def downT (M : Nat) (p : Nat × Nat × Nat) : Option (Nat × Nat) := downP M p.1 p.2.1 p.2.2
def onQ (C : Crv) (inf : Bool) (x y : Nat) : Bool := inf || onB C.M C.bb x y
theorem onB_lt {M bb x y : Nat} (h : onB M bb x y = true) : x < M ∧ y < M := by
 simp only [onB, Bool.and_eq_true, decide_eq_true_eq] at h
 exact h.1
theorem onQ_lt {C : Crv} {inf : Bool} {x y : Nat} (h : onQ C inf x y = true) (hi : inf = false) : x < C.M ∧ y < C.M := by
 subst hi
 exact onB_lt h
section
variable {C : Crv} {w : World} {k : Nat} {v u : Value}
theorem on_j (h : OfC C w k) (hC : C.Fine) {inf : Bool} {x y : Nat} (hv : APt w v inf x y) : Calls Try.prog 43 #[.pointer (some ⟨k, 0, none⟩), v] w fun e w' => e = .returned (.bool (onQ C inf x y)) ∧ Ext w w' := by
 obtain ⟨A, A', c, c', a, b, rfl, ha, hb, rfl, rfl⟩ := hv
 exact on_c h hC _ _ A A' c c' a b inf ha hb (fun _ h => h) (fun _ h => h)
theorem up_j (h : OfC C w k) {inf : Bool} {x y : Nat} (hv : APt w v inf x y) (ho : onQ C inf x y = true) : Calls Try.prog 46 #[.pointer (some ⟨k, 0, none⟩), v] w fun e w' => ∃ o, e = .returned o ∧ JAt C o (upP inf x y) ∧ Ext w w' := by
 obtain ⟨A, A', c, c', a, b, rfl, ha, hb, rfl, rfl⟩ := hv
 obtain ⟨P0, g, inv, ml, ol, rl, tl, fl, Ap, An, Ab, Ax, Ay, cp, cn, cb, cx, cy, hn, hP⟩ := h
 refine (up_any _ _ A A' c c' a b inf w hn hP ha hb (fun _ h => h) (fun _ h => h) (fun hi => (onQ_lt ho hi).1) (fun hi => (onQ_lt ho hi).2)).mono ?_
 rintro e w' ⟨ox, oy, oz, rfl, hf, hE⟩
 refine ⟨_, rfl, ⟨ox, oy, oz, rfl, ?_⟩, hE⟩
 cases inf <;> exact hf
theorem double_j (h : OfC C w k) {p : Nat × Nat × Nat} (hv : JAt C v p) : Calls Try.prog 49 #[.pointer (some ⟨k, 0, none⟩), v] w fun e w' => ∃ o, e = .returned o ∧ JAt C o (dblT C.M p) ∧ Ext w w' := by
 obtain ⟨lx, ly, lz, rfl, hf⟩ := hv
 obtain ⟨P0, g, inv, ml, ol, rl, tl, fl, Ap, An, Ab, Ax, Ay, cp, cn, cb, cx, cy, hn, hP⟩ := h
 refine (double_any w hn hP hf).mono ?_
 rintro e w' ⟨ox, oy, oz, rfl, hf', hE⟩
 exact ⟨_, rfl, ⟨ox, oy, oz, rfl, hf'⟩, hE⟩
theorem add_j (h : OfC C w k) {p q : Nat × Nat × Nat} (hv : JAt C v p) (hu : JAt C u q) : Calls Try.prog 47 #[.pointer (some ⟨k, 0, none⟩), v, u] w fun e w' => ∃ o, e = .returned o ∧ JAt C o (addT C.M p q) ∧ Ext w w' := by
 obtain ⟨lx, ly, lz, rfl, hf⟩ := hv
 obtain ⟨mx, my, mz, rfl, hg⟩ := hu
 obtain ⟨P0, g, inv, ml, ol, rl, tl, fl, Ap, An, Ab, Ax, Ay, cp, cn, cb, cx, cy, hn, hP⟩ := h
 refine (add_any w hn hP hf hg).mono ?_
 rintro e w' ⟨ox, oy, oz, rfl, hf', hE⟩
 exact ⟨_, rfl, ⟨ox, oy, oz, rfl, hf'⟩, hE⟩
theorem down_j (h : OfC C w k) {p : Nat × Nat × Nat} (hpl : C.pl.length < 100000) (hv : JAt C v p) : Calls Try.prog 50 #[.pointer (some ⟨k, 0, none⟩), v] w fun e w' => ∃ o, e = .returned o ∧ PtV w' w.heap.size o (downT C.M p) ∧ Ext w w' := by
 obtain ⟨lx, ly, lz, rfl, hf⟩ := hv
 obtain ⟨P0, g, inv, ml, ol, rl, tl, fl, Ap, An, Ab, Ax, Ay, cp, cn, cb, cx, cy, hn, hP⟩ := h
 exact down_any w hn hP hpl hf
end
theorem IsC.plen {c : Int} {C : Crv} (h : IsC c C) : C.pl.length < 100000 := by
 rcases h with ⟨_, rfl⟩ | ⟨_, rfl⟩ <;> decide
def RPv (w : World) (v : Value) (bi : Bool) (x y : Nat) : Prop := ∃ (A A' : Option Addr) (c c' : Nat), v = .agg #[.bool bi, .slice A (digs 4294967296 x).length c, .slice A' (digs 4294967296 y).length c'] ∧ RU w A c (digs 4294967296 x) ∧ RU w A' c' (digs 4294967296 y)
theorem RPv.ext {w X : World} {v : Value} {bi : Bool} {x y : Nat} (h : RPv w v bi x y) (hE : Ext w X) : RPv X v bi x y := by
 obtain ⟨A, A', c, c', rfl, h1, h2⟩ := h
 exact ⟨A, A', c, c', rfl, RN.up h1 hE, RN.up h2 hE⟩
theorem RPv.inf_ (w : World) : RPv w infV true 0 0 := ⟨none, none, 0, 0, by rw [digs_zero]; rfl, RN.nil0 _, RN.nil0 _⟩
theorem RPU.pv {w : World} {v : Value} {o : Option (Nat × Nat)} (h : RPU w v o) : RPv w v o.isNone (o.elim 0 (·.1)) (o.elim 0 (·.2)) := by
 cases o with
 | none => cases h; exact RPv.inf_ w
 | some p =>
  obtain ⟨A, c, A', c', rfl, h1, h2⟩ := h
  exact ⟨A, A', c, c', rfl, h1, h2⟩
def APn (w : World) (v : Value) (bi : Bool) (a b : List Nat) : Prop := ∃ (A A' : Option Addr) (c c' : Nat), v = .agg #[.bool bi, .slice A a.length c, .slice A' b.length c'] ∧ RU w A c a ∧ RU w A' c' b
theorem APn.ext {w X : World} {v : Value} {bi : Bool} {a b : List Nat} (h : APn w v bi a b) (hE : Ext w X) : APn X v bi a b := by
 obtain ⟨A, A', c, c', rfl, h1, h2⟩ := h
 exact ⟨A, A', c, c', rfl, RN.up h1 hE, RN.up h2 hE⟩
theorem APn.pt {w : World} {v : Value} {bi : Bool} {a b : List Nat} (h : APn w v bi a b) : APt w v bi (val 18446744073709551616 a) (val 18446744073709551616 b) := by
 obtain ⟨A, A', c, c', rfl, h1, h2⟩ := h
 exact ⟨A, A', c, c', a, b, rfl, h1, h2, rfl, rfl⟩
theorem APt.pn {w : World} {v : Value} {bi : Bool} {x y : Nat} (h : APt w v bi x y) : ∃ a b, APn w v bi a b ∧ val 18446744073709551616 a = x ∧ val 18446744073709551616 b = y := by
 obtain ⟨A, A', c, c', a, b, rfl, h1, h2, h3, h4⟩ := h
 exact ⟨a, b, ⟨A, A', c, c', rfl, h1, h2⟩, h3, h4⟩
theorem PtV.pn {w : World} {base : Nat} {v : Value} {o : Option (Nat × Nat)} (h : PtV w base v o) : APn w v o.isNone (digs 18446744073709551616 (o.elim 0 (·.1))) (digs 18446744073709551616 (o.elim 0 (·.2))) := by
 cases o with
 | none =>
  cases h
  exact ⟨none, none, 0, 0, by show infV = .agg #[.bool true, .slice none (digs 18446744073709551616 0).length 0, .slice none (digs 18446744073709551616 0).length 0]; rw [digs_zero]; rfl, by show RU w none 0 (digs 18446744073709551616 0); rw [digs_zero]; exact RN.nil_ _ _, by show RU w none 0 (digs 18446744073709551616 0); rw [digs_zero]; exact RN.nil_ _ _⟩
 | some p =>
  obtain ⟨A, c, A', c', rfl, h1, h2⟩ := h
  exact ⟨A, A', c, c', rfl, h1.ru, h2.ru⟩
theorem rbase_n {C : Crv} {v : Value} (w : World) (hc : RC w C v) : Calls Try.prog 32 #[v] w fun e w' => ∃ o, e = .returned o ∧ RPv w' o false (val 18446744073709551616 C.xl) (val 18446744073709551616 C.yl) ∧ Ext w w' := by
 obtain ⟨Ap, An, Ab, Ax, Ay, cp, cn, cb, cx, cy, rfl, hP, hN, hB, hX1, hY1⟩ := hc
 obtain ⟨W0, hW0⟩ : ∃ W0, W0 = (w.alloc (.cells #[.slice Ap (digs 4294967296 C.M).length cp, .slice An (digs 4294967296 (val 18446744073709551616 C.nl)).length cn, .slice Ab (digs 4294967296 C.bb).length cb, .slice Ax (digs 4294967296 (val 18446744073709551616 C.xl)).length cx, .slice Ay (digs 4294967296 (val 18446744073709551616 C.yl)).length cy, .int .i64 (C.size : Int)] 31)).alloc (.cells #[.bool false, .slice none 0 0, .slice none 0 0] 34) := ⟨_, rfl⟩
 obtain ⟨q, hq⟩ : ∃ q, w.heap.size = q := ⟨_, rfl⟩
 have hE0 : Ext w W0 := by rw [hW0]; exact (Ext.alloc _ _).trans (Ext.alloc _ _)
 obtain ⟨hcb, hrb, hz0⟩ := two_at2 w (.cells #[.slice Ap (digs 4294967296 C.M).length cp, .slice An (digs 4294967296 (val 18446744073709551616 C.nl)).length cn, .slice Ab (digs 4294967296 C.bb).length cb, .slice Ax (digs 4294967296 (val 18446744073709551616 C.xl)).length cx, .slice Ay (digs 4294967296 (val 18446744073709551616 C.yl)).length cy, .int .i64 (C.size : Int)] 31) (.cells #[.bool false, .slice none 0 0, .slice none 0 0] 34)
 rw [← hW0, hq] at hcb hrb hz0
 have c3 := blk_cell hcb 3
 have c4 := blk_cell hcb 4
 simp only [List.getElem?_toArray, List.getElem?_cons_zero, List.getElem?_cons_succ] at c3 c4
 have HX := Lib.hid (RN.up hX1 hE0)
 have HY := Lib.hid (RN.up hY1 hE0)
 have HE0 := Lib.hid hE0
 clear hP hN hB hX1 hY1 hE0 hz0 hcb
 go_enter Try.func32, Try.ntmps32
 go_upto_region 1 with fail
 rw [← hW0]
 have Hq := Lib.hid hq
 clear hW0 hq
 refine Par.region_txt 5 [0, 1, 0, 4, 15, 31] [] (fun j f X => match j with
  | 0 => f 0 = .pointer (some ⟨q, 3, none⟩)
  | 1 => f 1 = .slice Ax (digs 4294967296 (val 18446744073709551616 C.xl)).length cx
  | 2 => f 2 = .pointer (some ⟨q, 4, none⟩)
  | 3 => f 3 = .slice Ay (digs 4294967296 (val 18446744073709551616 C.yl)).length cy
  | 4 => f 4 = .agg #[.bool false, .slice Ax (digs 4294967296 (val 18446744073709551616 C.xl)).length cx, .slice Ay (digs 4294967296 (val 18446744073709551616 C.yl)).length cy]
  | _ => True) (by kernel_rfl) [(3, 0), (4, 1), (5, 2), (6, 3), (7, 4)] (by kernel_rfl) ?_
 refine Par.v0 1 4 ?_
 refine Par.ld1 2 3 0 c3 ?_
 refine Par.v0 3 2 ?_
 refine Par.ld1 4 1 2 c4 ?_
 refine Par.v2 5 0 1 3 ?_
 refine Par.AllOps.fin ⟨fun f X hX hR hal hap => ?_⟩
 have e4 : f 4 = _ := hR 4 (by decide)
 simp only [yA, yB, yD, yE, e4]
 clear hR hal hap e4
 refine Par.Chain.next (fun K hK => ⟨Par.want (by kernel_rfl) (wp_storeV (cs' := #[.bool false, .slice Ax (digs 4294967296 (val 18446744073709551616 C.xl)).length cx, .slice Ay (digs 4294967296 (val 18446744073709551616 C.yl)).length cy]) (t := 34) 34 (.tmp 2) (.tmp 7) rfl rfl rfl rfl (hX.at_ hrb) infoRP rfl (pt_one _ _ _ _ _ _ _) (fun Y hY1 hY2 hY3 => hK.out _ _ ?_))⟩)
 refine Par.Chain.done ?_
 go_wp2
 exact end_rpt rfl rfl rfl hY1 ⟨_, rfl, ⟨_, _, _, _, rfl, (RN.up HX.out hX).offJ hY2 (hX.at_ hrb) (by kernel_rfl), (RN.up HY.out hX).offJ hY2 (hX.at_ hrb) (by kernel_rfl)⟩, hY2.ext (HE0.out.trans hX) (by have := Hq.out; omega)⟩
theorem ris_n {p r : Value} {bi bj : Bool} {a b : List Nat} {u v : Nat} (w : World) (hp : APn w p bi a b) (hr : RPv w r bj u v) : Calls Try.prog 17 #[p, r] w fun e w' => e = .returned (.bool (bi == bj && decide (a = digs 18446744073709551616 u) && decide (b = digs 18446744073709551616 v))) ∧ Ext w w' := by
 obtain ⟨A, A', c, c', rfl, ha, hb⟩ := hp
 obtain ⟨B, B', k, k', rfl, hu, hv⟩ := hr
 obtain ⟨W0, hW0⟩ : ∃ W0, W0 = (w.alloc (.cells #[.bool bi, .slice A a.length c, .slice A' b.length c'] 27)).alloc (.cells #[.bool bj, .slice B (digs 4294967296 u).length k, .slice B' (digs 4294967296 v).length k'] 34) := ⟨_, rfl⟩
 obtain ⟨q, hq⟩ : ∃ q, w.heap.size = q := ⟨_, rfl⟩
 have hE0 : Ext w W0 := by rw [hW0]; exact (Ext.alloc _ _).trans (Ext.alloc _ _)
 obtain ⟨h1, h2, hz0⟩ := two_at2 w (.cells #[.bool bi, .slice A a.length c, .slice A' b.length c'] 27) (.cells #[.bool bj, .slice B (digs 4294967296 u).length k, .slice B' (digs 4294967296 v).length k'] 34)
 rw [← hW0, hq] at h1 h2 hz0
 have p0 := blk_cell h1 0
 have p1 := blk_cell h1 1
 have p2 := blk_cell h1 2
 have r0 := blk_cell h2 0
 have r1 := blk_cell h2 1
 have r2 := blk_cell h2 2
 simp only [List.getElem?_toArray, List.getElem?_cons_zero, List.getElem?_cons_succ] at p0 p1 p2 r0 r1 r2
 have Ha := Lib.hid (RN.up ha hE0)
 have Hb := Lib.hid (RN.up hb hE0)
 have Hu := Lib.hid (RN.up hu hE0)
 have Hv := Lib.hid (RN.up hv hE0)
 have HE0 := Lib.hid hE0
 obtain ⟨z1, hz1⟩ : ∃ z, decide (a = digs 18446744073709551616 u) = z := ⟨_, rfl⟩
 obtain ⟨z2, hz2⟩ : ∃ z, decide (b = digs 18446744073709551616 v) = z := ⟨_, rfl⟩
 rw [hz1, hz2]
 have Hz1 := Lib.hid hz1
 have Hz2 := Lib.hid hz2
 obtain ⟨z0, hz⟩ : ∃ z, (bi == bj) = z := ⟨_, rfl⟩
 rw [hz]
 have hbeq : (bi == bj) = z0 := hz
 have Hz := Lib.hid hz
 clear ha hb hu hv hE0 hz0 h1 h2 hz1 hz2 hz
 cases z0
 case false =>
  go_enter Try.func17, Try.ntmps17
  go_upto_region 1 with fail
  rw [← hW0]
  have Hq := Lib.hid hq
  clear hW0 hq
  refine Par.region_txt 20 [0, 1, 0, 4, 15, 31, 63, 127, 63, 319, 1023, 2047, 4095, 8191, 16383, 8191, 40959, 131071, 262143, 524287] [] (fun j f X => match j with
   | 0 => f 0 = .pointer (some ⟨q, 0, none⟩)
   | 1 => f 1 = .bool bi
   | 2 => f 2 = .pointer (some ⟨q + 1, 0, none⟩)
   | 3 => f 3 = .bool bj
   | 4 => f 4 = .bool false
   | 5 => f 5 = .bool false
   | 6 => f 6 = undef
   | 7 => f 7 = undef
   | 8 => f 8 = undef
   | 9 => f 9 = undef
   | 10 => f 10 = undef
   | 11 => f 11 = .bool false
   | 12 => f 12 = .bool false
   | 13 => f 13 = undef
   | 14 => f 14 = undef
   | 15 => f 15 = undef
   | 16 => f 16 = undef
   | 17 => f 17 = undef
   | 18 => f 18 = .bool false
   | 19 => f 19 = .bool false
   | _ => True) (by kernel_rfl) [(5, 0), (6, 1), (7, 2), (8, 3), (9, 4), (10, 5), (11, 6), (12, 7), (13, 8), (14, 9), (15, 10), (16, 11), (17, 12), (18, 13), (19, 14), (20, 15), (21, 16), (22, 17), (23, 18), (4, 19)] (by kernel_rfl) ?_
  refine Par.v0 1 19 ?_
  refine Par.ld1 2 18 0 p0 ?_
  refine Par.v0 3 17 ?_
  refine Par.ld1 4 16 2 r0 ?_
  refine Par.S 5 15 [(5, 0), (6, 1), (7, 2), (8, 3)] (fun f X hX hR K hK => ?_) ?_
  · have e1 : f 1 = _ := hR.out 1 rfl
    have e3 : f 3 = _ := hR.out 3 rfl
    have hbe := Hz.out
    simp only [yA, yB, yC, yD, yE, e1, e3]
    refine ⟨?_⟩
    go_simp
    exact Par.k hK (s := by simp only [yA, yB, yC, yD, yE, e1, e3])
  refine Par.v1 6 14 4 ?_
  refine Par.sk 7 13 5 ?_
  refine Par.sk 8 12 5 ?_
  refine Par.sk 9 11 5 ?_
  refine Par.sk 10 10 5 ?_
  refine Par.sk 11 9 5 ?_
  refine Par.v2 12 8 5 10 ?_
  refine Par.v1 13 7 11 ?_
  refine Par.sk 14 6 12 ?_
  refine Par.sk 15 5 12 ?_
  refine Par.sk 16 4 12 ?_
  refine Par.sk 17 3 12 ?_
  refine Par.sk 18 2 12 ?_
  refine Par.v2 19 1 12 17 ?_
  refine Par.v1 20 0 18 ?_
  refine Par.AllOps.fin ⟨fun f X hX hR hal hap => ?_⟩
  have e19 : f 19 = _ := hR 19 (by decide)
  simp only [yA, yB, yD, yE, e19]
  clear hR hal hap e19
  refine Par.Chain.done ?_
  go_wp2
  go_ret
  exact ⟨rfl, HE0.out.trans hX⟩
 case true =>
  cases z1
  case false =>
   go_enter Try.func17, Try.ntmps17
   go_upto_region 1 with fail
   rw [← hW0]
   have Hq := Lib.hid hq
   clear hW0 hq
   refine Par.region_txt 20 [0, 1, 0, 4, 15, 31, 63, 127, 63, 319, 1023, 2047, 4095, 8191, 16383, 8191, 40959, 131071, 262143, 524287] [] (fun j f X => match j with
    | 0 => f 0 = .pointer (some ⟨q, 0, none⟩)
    | 1 => f 1 = .bool bi
    | 2 => f 2 = .pointer (some ⟨q + 1, 0, none⟩)
    | 3 => f 3 = .bool bj
    | 4 => f 4 = .bool true
    | 5 => f 5 = .bool true
    | 6 => f 6 = .pointer (some ⟨q, 1, none⟩)
    | 7 => f 7 = .slice A a.length c
    | 8 => f 8 = .pointer (some ⟨q + 1, 1, none⟩)
    | 9 => f 9 = .slice B (digs 4294967296 u).length k
    | 10 => f 10 = .bool false
    | 11 => f 11 = .bool false
    | 12 => f 12 = .bool false
    | 13 => f 13 = undef
    | 14 => f 14 = undef
    | 15 => f 15 = undef
    | 16 => f 16 = undef
    | 17 => f 17 = undef
    | 18 => f 18 = .bool false
    | 19 => f 19 = .bool false
    | _ => True) (by kernel_rfl) [(5, 0), (6, 1), (7, 2), (8, 3), (9, 4), (10, 5), (11, 6), (12, 7), (13, 8), (14, 9), (15, 10), (16, 11), (17, 12), (18, 13), (19, 14), (20, 15), (21, 16), (22, 17), (23, 18), (4, 19)] (by kernel_rfl) ?_
   refine Par.v0 1 19 ?_
   refine Par.ld1 2 18 0 p0 ?_
   refine Par.v0 3 17 ?_
   refine Par.ld1 4 16 2 r0 ?_
   refine Par.S 5 15 [(5, 0), (6, 1), (7, 2), (8, 3)] (fun f X hX hR K hK => ?_) ?_
   · have e1 : f 1 = _ := hR.out 1 rfl
     have e3 : f 3 = _ := hR.out 3 rfl
     have hbe := Hz.out
     simp only [yA, yB, yC, yD, yE, e1, e3]
     refine ⟨?_⟩
     go_simp
     exact Par.k hK (s := by simp only [yA, yB, yC, yD, yE, e1, e3])
   refine Par.v1 6 14 4 ?_
   refine Par.v1 7 13 5 ?_
   refine Par.S 8 12 [(5, 0), (6, 1), (7, 2), (8, 3), (9, 4), (10, 5), (11, 6), (13, 8), (14, 9)] (fun f X hX hR K hK => ?_) ?_
   · have e5 : f 5 = _ := hR.out 5 rfl
     have e6 : f 6 = _ := hR.out 6 rfl
     have x0 := hX.cell p1
     simp only [yA, yB, yC, yD, yE, e5, e6]
     refine ⟨Par.want (by kernel_rfl) ?_⟩
     go_simp
     exact Par.k hK (s := by simp only [yA, yB, yC, yD, yE, e5, e6])
   refine Par.v1 9 11 5 ?_
   refine Par.S 10 10 [(5, 0), (6, 1), (7, 2), (8, 3), (9, 4), (10, 5), (11, 6), (12, 7), (13, 8)] (fun f X hX hR K hK => ?_) ?_
   · have e5 : f 5 = _ := hR.out 5 rfl
     have e8 : f 8 = _ := hR.out 8 rfl
     have x0 := hX.cell r1
     simp only [yA, yB, yC, yD, yE, e5, e8]
     refine ⟨Par.want (by kernel_rfl) ?_⟩
     go_simp
     exact Par.k hK (s := by simp only [yA, yB, yC, yD, yE, e5, e8])
   refine Par.c1 11 9 5 (fun f => #[f 7, f 9]) (F' := 33) (fun f X hX hR => ?_) ?_
   · have e7 : f 7 = _ := hR.out 7 rfl
     have e9 : f 9 = _ := hR.out 9 rfl
     simp only [e7, e9]
     refine (is_bool _ _ A B c k a u X (RN.up Ha.out hX) (RN.up Hu.out hX) (fun _ h => h) (fun _ h => h)).mono ?_
     rw [Hz1.out]
     rintro e w2 ⟨rfl, hB⟩
     exact ⟨_, rfl, hB, fun _ _ => rfl⟩
   refine Par.v2 12 8 5 10 ?_
   refine Par.v1 13 7 11 ?_
   refine Par.sk 14 6 12 ?_
   refine Par.sk 15 5 12 ?_
   refine Par.sk 16 4 12 ?_
   refine Par.sk 17 3 12 ?_
   refine Par.sk 18 2 12 ?_
   refine Par.v2 19 1 12 17 ?_
   refine Par.v1 20 0 18 ?_
   refine Par.AllOps.fin ⟨fun f X hX hR hal hap => ?_⟩
   have e19 : f 19 = _ := hR 19 (by decide)
   simp only [yA, yB, yD, yE, e19]
   clear hR hal hap e19
   refine Par.Chain.done ?_
   go_wp2
   go_ret
   exact ⟨rfl, HE0.out.trans hX⟩
  case true =>
   go_enter Try.func17, Try.ntmps17
   go_upto_region 1 with fail
   rw [← hW0]
   have Hq := Lib.hid hq
   clear hW0 hq
   refine Par.region_txt 20 [0, 1, 0, 4, 15, 31, 63, 127, 63, 319, 1023, 2047, 4095, 8191, 16383, 8191, 40959, 131071, 262143, 524287] [] (fun j f X => match j with
    | 0 => f 0 = .pointer (some ⟨q, 0, none⟩)
    | 1 => f 1 = .bool bi
    | 2 => f 2 = .pointer (some ⟨q + 1, 0, none⟩)
    | 3 => f 3 = .bool bj
    | 4 => f 4 = .bool true
    | 5 => f 5 = .bool true
    | 6 => f 6 = .pointer (some ⟨q, 1, none⟩)
    | 7 => f 7 = .slice A a.length c
    | 8 => f 8 = .pointer (some ⟨q + 1, 1, none⟩)
    | 9 => f 9 = .slice B (digs 4294967296 u).length k
    | 10 => f 10 = .bool true
    | 11 => f 11 = .bool true
    | 12 => f 12 = .bool true
    | 13 => f 13 = .pointer (some ⟨q, 2, none⟩)
    | 14 => f 14 = .slice A' b.length c'
    | 15 => f 15 = .pointer (some ⟨q + 1, 2, none⟩)
    | 16 => f 16 = .slice B' (digs 4294967296 v).length k'
    | 17 => f 17 = .bool z2
    | 18 => f 18 = .bool z2
    | 19 => f 19 = .bool z2
    | _ => True) (by kernel_rfl) [(5, 0), (6, 1), (7, 2), (8, 3), (9, 4), (10, 5), (11, 6), (12, 7), (13, 8), (14, 9), (15, 10), (16, 11), (17, 12), (18, 13), (19, 14), (20, 15), (21, 16), (22, 17), (23, 18), (4, 19)] (by kernel_rfl) ?_
   refine Par.v0 1 19 ?_
   refine Par.ld1 2 18 0 p0 ?_
   refine Par.v0 3 17 ?_
   refine Par.ld1 4 16 2 r0 ?_
   refine Par.S 5 15 [(5, 0), (6, 1), (7, 2), (8, 3)] (fun f X hX hR K hK => ?_) ?_
   · have e1 : f 1 = _ := hR.out 1 rfl
     have e3 : f 3 = _ := hR.out 3 rfl
     have hbe := Hz.out
     simp only [yA, yB, yC, yD, yE, e1, e3]
     refine ⟨?_⟩
     go_simp
     exact Par.k hK (s := by simp only [yA, yB, yC, yD, yE, e1, e3])
   refine Par.v1 6 14 4 ?_
   refine Par.v1 7 13 5 ?_
   refine Par.S 8 12 [(5, 0), (6, 1), (7, 2), (8, 3), (9, 4), (10, 5), (11, 6), (13, 8), (14, 9)] (fun f X hX hR K hK => ?_) ?_
   · have e5 : f 5 = _ := hR.out 5 rfl
     have e6 : f 6 = _ := hR.out 6 rfl
     have x0 := hX.cell p1
     simp only [yA, yB, yC, yD, yE, e5, e6]
     refine ⟨Par.want (by kernel_rfl) ?_⟩
     go_simp
     exact Par.k hK (s := by simp only [yA, yB, yC, yD, yE, e5, e6])
   refine Par.v1 9 11 5 ?_
   refine Par.S 10 10 [(5, 0), (6, 1), (7, 2), (8, 3), (9, 4), (10, 5), (11, 6), (12, 7), (13, 8)] (fun f X hX hR K hK => ?_) ?_
   · have e5 : f 5 = _ := hR.out 5 rfl
     have e8 : f 8 = _ := hR.out 8 rfl
     have x0 := hX.cell r1
     simp only [yA, yB, yC, yD, yE, e5, e8]
     refine ⟨Par.want (by kernel_rfl) ?_⟩
     go_simp
     exact Par.k hK (s := by simp only [yA, yB, yC, yD, yE, e5, e8])
   refine Par.c1 11 9 5 (fun f => #[f 7, f 9]) (F' := 33) (fun f X hX hR => ?_) ?_
   · have e7 : f 7 = _ := hR.out 7 rfl
     have e9 : f 9 = _ := hR.out 9 rfl
     simp only [e7, e9]
     refine (is_bool _ _ A B c k a u X (RN.up Ha.out hX) (RN.up Hu.out hX) (fun _ h => h) (fun _ h => h)).mono ?_
     rw [Hz1.out]
     rintro e w2 ⟨rfl, hB⟩
     exact ⟨_, rfl, hB, fun _ _ => rfl⟩
   refine Par.v2 12 8 5 10 ?_
   refine Par.v1 13 7 11 ?_
   refine Par.v1 14 6 12 ?_
   refine Par.S 15 5 [(5, 0), (6, 1), (7, 2), (8, 3), (9, 4), (10, 5), (11, 6), (12, 7), (13, 8), (14, 9), (15, 10), (16, 11), (17, 12), (18, 13), (20, 15), (21, 16)] (fun f X hX hR K hK => ?_) ?_
   · have e12 : f 12 = _ := hR.out 12 rfl
     have e13 : f 13 = _ := hR.out 13 rfl
     have x0 := hX.cell p2
     simp only [yA, yB, yC, yD, yE, e12, e13]
     refine ⟨Par.want (by kernel_rfl) ?_⟩
     go_simp
     exact Par.k hK (s := by simp only [yA, yB, yC, yD, yE, e12, e13])
   refine Par.v1 16 4 12 ?_
   refine Par.S 17 3 [(5, 0), (6, 1), (7, 2), (8, 3), (9, 4), (10, 5), (11, 6), (12, 7), (13, 8), (14, 9), (15, 10), (16, 11), (17, 12), (18, 13), (19, 14), (20, 15)] (fun f X hX hR K hK => ?_) ?_
   · have e12 : f 12 = _ := hR.out 12 rfl
     have e15 : f 15 = _ := hR.out 15 rfl
     have x0 := hX.cell r2
     simp only [yA, yB, yC, yD, yE, e12, e15]
     refine ⟨Par.want (by kernel_rfl) ?_⟩
     go_simp
     exact Par.k hK (s := by simp only [yA, yB, yC, yD, yE, e12, e15])
   refine Par.c1 18 2 12 (fun f => #[f 14, f 16]) (F' := 33) (fun f X hX hR => ?_) ?_
   · have e14 : f 14 = _ := hR.out 14 rfl
     have e16 : f 16 = _ := hR.out 16 rfl
     simp only [e14, e16]
     refine (is_bool _ _ A' B' c' k' b v X (RN.up Hb.out hX) (RN.up Hv.out hX) (fun _ h => h) (fun _ h => h)).mono ?_
     rw [Hz2.out]
     rintro e w2 ⟨rfl, hB⟩
     exact ⟨_, rfl, hB, fun _ _ => rfl⟩
   refine Par.v2 19 1 12 17 ?_
   refine Par.v1 20 0 18 ?_
   refine Par.AllOps.fin ⟨fun f X hX hR hal hap => ?_⟩
   have e19 : f 19 = _ := hR 19 (by decide)
   simp only [yA, yB, yD, yE, e19]
   clear hR hal hap e19
   refine Par.Chain.done ?_
   go_wp2
   go_ret
   exact ⟨rfl, HE0.out.trans hX⟩
def Apart (A B : Option Addr) (m n : Nat) : Prop := ∀ a b, A = some a → B = some b → 0 < m → 0 < n → a.block < b.block
theorem OB.apart {X Y : World} {base : Nat} {A B : Option Addr} {c d : Nat} {l m : List Nat} (h : OB X base A c l) (k : OB Y X.heap.size B d m) : Apart A B l.length m.length := by
 intro a b e1 e2 h1 h2
 obtain ⟨g, cur, e, _, hg, _⟩ := h.2.2.2 h1
 obtain ⟨g', cur', e', hg', _, _⟩ := k.2.2.2 h2
 rw [e1] at e; rw [e2] at e'
 injection e with e; injection e' with e'
 subst e e'
 exact Nat.lt_of_lt_of_le (blk_lt hg) hg'
theorem OB.ext {X Y : World} {base : Nat} {A : Option Addr} {c : Nat} {l : List Nat} (h : OB X base A c l) (hE : Ext X Y) : OB Y base A c l := h.below hE (Nat.le_refl _)
theorem rto_n {p : Value} {bi : Bool} {x y : Nat} (w : World) (hp : RPv w p bi x y) : Calls Try.prog 41 #[p] w fun e w' => ∃ A B c d, e = .returned (.agg #[.bool bi, .slice A (digs 18446744073709551616 x).length c, .slice B (digs 18446744073709551616 y).length d]) ∧
 OB w' w.heap.size A c (digs 18446744073709551616 x) ∧ OB w' w.heap.size B d (digs 18446744073709551616 y) ∧ Apart A B (digs 18446744073709551616 x).length (digs 18446744073709551616 y).length ∧ Ext w w' := by
 obtain ⟨A1, A2, c1, c2, rfl, hx, hy⟩ := hp
 obtain ⟨W0, hW0⟩ : ∃ W0, W0 = (w.alloc (.cells #[.bool bi, .slice A1 (digs 4294967296 x).length c1, .slice A2 (digs 4294967296 y).length c2] 34)).alloc (.cells #[.bool false, .slice none 0 0, .slice none 0 0] 27) := ⟨_, rfl⟩
 obtain ⟨q, hq⟩ : ∃ q, w.heap.size = q := ⟨_, rfl⟩
 have hE0 : Ext w W0 := by rw [hW0]; exact (Ext.alloc _ _).trans (Ext.alloc _ _)
 obtain ⟨h1, h2, hz0⟩ := two_at2 w (.cells #[.bool bi, .slice A1 (digs 4294967296 x).length c1, .slice A2 (digs 4294967296 y).length c2] 34) (.cells #[.bool false, .slice none 0 0, .slice none 0 0] 27)
 rw [← hW0, hq] at h1 h2 hz0
 have p0 := blk_cell h1 0
 have p1 := blk_cell h1 1
 have p2 := blk_cell h1 2
 simp only [List.getElem?_toArray, List.getElem?_cons_zero, List.getElem?_cons_succ] at p0 p1 p2
 have Hx := Lib.hid (RN.up hx hE0)
 have Hy := Lib.hid (RN.up hy hE0)
 have HE0 := Lib.hid hE0
 clear hx hy hE0 hz0 h1
 go_enter Try.func41, Try.ntmps41
 go_upto_region 1 with fail
 rw [← hW0]
 have Hq := Lib.hid hq
 clear hW0 hq
 refine Par.region_ext (by kernel_rfl) 9 [0, 1, 0, 4, 12, 0, 32, 124, 255, 511] [] (fun j f X => match j with
  | 0 => f 0 = .pointer (some ⟨q, 0, none⟩)
  | 1 => f 1 = .bool bi
  | 2 => f 2 = .pointer (some ⟨q, 1, none⟩)
  | 3 => f 3 = .slice A1 (digs 4294967296 x).length c1
  | 4 => ∃ A c, f 4 = .slice A (digs 18446744073709551616 x).length c ∧ OB X W0.heap.size A c (digs 18446744073709551616 x)
  | 5 => f 5 = .pointer (some ⟨q, 2, none⟩)
  | 6 => f 6 = .slice A2 (digs 4294967296 y).length c2
  | 7 => ∃ A c, f 7 = .slice A (digs 18446744073709551616 y).length c ∧ OB X W0.heap.size A c (digs 18446744073709551616 y) ∧ ∀ B d, f 4 = .slice B (digs 18446744073709551616 x).length d → Apart B A (digs 18446744073709551616 x).length (digs 18446744073709551616 y).length
  | 8 => ∃ A B c d, f 8 = .agg #[.bool bi, .slice A (digs 18446744073709551616 x).length c, .slice B (digs 18446744073709551616 y).length d] ∧ OB X W0.heap.size A c (digs 18446744073709551616 x) ∧ OB X W0.heap.size B d (digs 18446744073709551616 y) ∧ Apart A B (digs 18446744073709551616 x).length (digs 18446744073709551616 y).length
  | _ => True) (by kernel_rfl) [(3, 0), (4, 1), (5, 2), (6, 3), (7, 4), (8, 5), (9, 6), (10, 7), (11, 8)] (by kernel_rfl) ?_
 refine Par.v0 1 8 ?_
 refine Par.ld1 2 7 0 p0 ?_
 refine Par.v0 3 6 ?_
 refine Par.ld1 4 5 2 p1 ?_
 refine Par.c0 5 4 (fun f => #[f 3]) (F' := 22) (fun f X hX hR => ?_) ?_
 · have e3 : f 3 = _ := hR.out 3 rfl
   simp only [e3]
   refine (to_any _ A1 c1 x X (RN.up Hx.out hX) (fun _ h => h)).mono ?_
   rintro e w2 ⟨A, c, rfl, h, hB⟩
   exact ⟨(.slice A (digs 18446744073709551616 x).length c), rfl, hB, fun Y hY => ⟨A, c, rfl, (h.mono hX.bsize).ext hY⟩⟩
 refine Par.v0 6 3 ?_
 refine Par.ld1 7 2 5 p2 ?_
 refine Par.S 8 1 [(3, 0), (4, 1), (5, 2), (6, 3), (7, 4), (8, 5), (9, 6)] (fun f X hX hR K hK => ?_) ?_
 · have e6 : f 6 = _ := hR.out 6 rfl
   obtain ⟨A4, c4, (e4 : f 4 = _), h4⟩ := hR.out 4 rfl
   have E4 := Lib.hid e4
   clear e4
   simp only [yA, yB, yC, yD, yE, e6]
   refine ⟨?_⟩
   go_simp
   refine (to_any _ A2 c2 y X (RN.up Hy.out hX) (fun _ h => h)).mono ?_
   rintro e w2 ⟨A, c, rfl, h, hB⟩
   refine hK.out _ (.slice A (digs 18446744073709551616 y).length c) _ (by simp only [yA, yB, yC, yD, yE, e6]) hB trivial (fun Y hY => ⟨A, c, rfl, (h.mono hX.bsize).ext hY, fun B d e => ?_⟩)
   obtain ⟨rfl, _⟩ : A4 = B ∧ c4 = d := by have e' : f 4 = .slice B (digs 18446744073709551616 x).length d := e; rw [E4.out] at e'; injection e' with a1 a2 a3; exact ⟨a1, a3⟩
   exact h4.apart h
 refine Par.S 9 0 [(3, 0), (4, 1), (5, 2), (6, 3), (7, 4), (8, 5), (9, 6), (10, 7)] (fun f X hX hR K hK => ?_) ?_
 · have e1 : f 1 = _ := hR.out 1 rfl
   obtain ⟨A4, c4, (e4 : f 4 = _), h4⟩ := hR.out 4 rfl
   obtain ⟨A7, c7, e7, h7, k7⟩ : ∃ A c, f 7 = .slice A (digs 18446744073709551616 y).length c ∧ OB X W0.heap.size A c (digs 18446744073709551616 y) ∧ ∀ B d, f 4 = .slice B (digs 18446744073709551616 x).length d → Apart B A (digs 18446744073709551616 x).length (digs 18446744073709551616 y).length := hR.out 7 rfl
   simp only [yA, yB, yC, yD, yE, e1, e4, e7]
   refine ⟨?_⟩
   go_simp
   exact hK.out _ (.agg #[.bool bi, .slice A4 (digs 18446744073709551616 x).length c4, .slice A7 (digs 18446744073709551616 y).length c7]) _ (by simp only [yA, yB, yC, yD, yE, e1, e4, e7]) (Ext.refl _) trivial (fun Y hY => ⟨A4, A7, c4, c7, rfl, h4.ext hY, h7.ext hY, k7 A4 c4 e4⟩)
 refine Par.AllOps.fin ⟨fun f X hX hR hal hap => ?_⟩
 obtain ⟨A4, c4, (e4 : f 4 = _), h4⟩ := hR 4 (by decide)
 obtain ⟨A7, c7, e7, h7, k7⟩ : ∃ A c, f 7 = .slice A (digs 18446744073709551616 y).length c ∧ OB X W0.heap.size A c (digs 18446744073709551616 y) ∧ ∀ B d, f 4 = .slice B (digs 18446744073709551616 x).length d → Apart B A (digs 18446744073709551616 x).length (digs 18446744073709551616 y).length := hR 7 (by decide)
 obtain ⟨A8, B8, c8, d8, (e8 : f 8 = _), h8, k8, K8⟩ := hR 8 (by decide)
 simp only [yA, yB, yD, yE, e4, e7, e8]
 clear hR hal hap e4 e7 e8
 refine Par.Chain.next (fun K hK => ⟨Par.want (by kernel_rfl) (wp_storeV (cs' := #[.bool bi, .slice A8 (digs 18446744073709551616 x).length c8, .slice B8 (digs 18446744073709551616 y).length d8]) (t := 27) 27 (.tmp 2) (.tmp 11) rfl rfl rfl rfl (hX.at_ h2) infoP rfl (pt_one _ _ _ _ _ _ _) (fun Y hY1 hY2 hY3 => hK.out _ _ ?_))⟩)
 refine Par.Chain.done ?_
 go_wp2
 exact end_p rfl rfl rfl hY1 ⟨_, _, _, _, rfl, (h8.just hY2 (hX.at_ h2) (by decide)).mono HE0.out.bsize, (k8.just hY2 (hX.at_ h2) (by decide)).mono HE0.out.bsize, K8, hY2.ext (HE0.out.trans hX) (by have := Hq.out; omega)⟩
end Go.Proofs.Ytldhmjfjbalakaa
