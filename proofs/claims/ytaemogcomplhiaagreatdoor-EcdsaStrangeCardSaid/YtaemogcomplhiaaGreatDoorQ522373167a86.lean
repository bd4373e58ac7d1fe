/- The rule for regions (LPar) in the body of a range over a function. Nothing here speaks of the program. zfield: an element is raised to a power. curve.Decode. curve: a point back from three elements. curve: the inner functions, for a curve's record and for points as numbers. The reference's points: Base, From, Is. curve: the numbers of a curve or of none, told by one law each. A table of sixteen points by three elements, in memory. curve: Add. -/
import Derived.Test.YtaemogcomplhiaaGreatDoorQc367ac5b98b0
import Derived.OrdersIn
import Derived.ControlIn
import Derived.Sort.CutIn
import Derived.Sort.AtCallIn
import Derived.TacticsInMore
import Derived.Deep.DeepCutAuto
namespace Go.Proofs.YtaemogcomplhiaaGreatDoor
open Go
namespace Par
def noDefer (o : Oper) : Bool := match o.op with | .defer _ => false | _ => true
theorem noDefer_spec {o : Oper} (h : noDefer o = true) (c : Call) : o.op ≠ .defer c := fun e => by simp [noDefer, e] at h
def noOut (Q : Exit → Act → World → Prop) : Exit → Act → World → Prop := fun e a w => e ≠ .outgrown ∧ Q e a w
section
variable {P : Program} {ops : Array Oper} {Q : Exit → Act → World → Prop} {md : Region.Mode} {l n : Nat}
theorem not_lets : ¬ LetsOut (noOut Q) := fun ⟨_, _, h, _⟩ => h rfl
theorem oper_round {o : Oper} {a : Act} {w : World} {K : Act → World → Prop} (hd : noDefer o = true) (hh : o.wp P a w K Q) : o.wpIn (Fence.wide.inRound l) n P a w K Q := by
  refine ⟨fun _ _ => trivial, ?_⟩
  rw [Oper.semAt_eq _ _ _ (noDefer_spec hd)]
  unfold Oper.wp at hh
  generalize (execOp a.eval o).run P w = r at *
  cases r with
  | ok x w' =>
    cases x <;> simp only [Oper.upon, Oper.uponIn] at hh ⊢
    case enter f args => exact ⟨(fun h => by cases h), (callsIn_wide (n := n - 1)).2 hh⟩
    case row r args => exact ⟨(fun h => by cases h), fun c cs _ => let ⟨v, w'', r, s⟩ := hh c cs; ⟨v, w'', r, stepsIn_wide.2 s⟩⟩
    all_goals first | exact hh | exact hh.elim
  | halt x w' => cases x <;> simp only [Oper.upon, Oper.uponIn] at hh ⊢ <;> exact hh
theorem op_round (hd : ∀ (i : Nat) o, ops[i]? = some o → noDefer o = true) (hq : ¬ LetsOut Q) {i : Nat} {K K' : Act → World → Prop} (hK : ∀ a w, K a w → K' a w) {a : Act} {w : World} (hh : wpOp P ops Q i K a w) :
 wpOpIn (Fence.wide.inRound l) n P ops Q i K' a w := by
 unfold wpOp at hh
 unfold wpOpIn
 split
 · rename_i h
   simp only [h] at hh
   exact hK _ _ hh
 · rename_i o h
   simp only [h] at hh
   split
   · rename_i hw
     simp only [hw, if_true] at hh
     rcases hh with hh | hh
     · exact Oper.wpIn_mono hK (oper_round (hd _ _ h) hh)
     · exact absurd hh.2 hq
   · rename_i hw
     simp only [hw] at hh
     exact ⟨fun _ _ => trivial, hK _ _ hh⟩
theorem any_round (hd : ∀ (i : Nat) o, ops[i]? = some o → noDefer o = true) (hq : ¬ LetsOut Q) : ∀ (fuel : Nat) (listed : Array Bool) (a : Act) (w : World), wpAny P md ops Q fuel listed a w → wpAnyIn (Fence.wide.inRound l) n P md ops Q fuel listed a w
 | 0, _, _, _, h => h
 | fuel + 1, _, _, _, h => ⟨h.1, fun i hi => op_round hd hq (fun a' w' h' => any_round hd hq fuel _ a' w' h') (h.2 i hi)⟩
theorem ops_round (hd : ∀ (i : Nat) o, ops[i]? = some o → noDefer o = true) (hq : ¬ LetsOut Q) : ∀ (k : List Nat) (a : Act) (w : World), wpOps P ops Q k a w → wpOpsIn (Fence.wide.inRound l) n P ops Q k a w
  | [], _, _, h => h
  | i :: k, a, w, h => by
    rw [wpOpsIn_cons]
    refine op_round (K := wpOps P ops Q k) hd hq (fun a' w' h' => ops_round hd hq k a' w' h') ?_
    unfold wpOps at h
    unfold wpOp
    exact h
theorem all_noDefer {ol : List Oper} (h : ol.all noDefer = true) (i : Nat) (o : Oper) (ho : ol.toArray[i]? = some o) : noDefer o = true := by
 rw [List.getElem?_toArray] at ho
 exact List.all_eq_true.1 h o (List.mem_of_getElem? ho)
theorem drop_out {c : Code} {a : Act} {w : World} (h : c.wpIn (Fence.wide.inRound l) n P (noOut Q) a w) : c.wpIn (Fence.wide.inRound l) n P Q a w := wpIn_mono h fun _ _ _ h => h.2
theorem region_ext_in {ol : List Oper} {id : Nat} {a : Act} {w : World} (hm : P.follows .mixedOrders = true) (m : Nat) (L AL : List Nat) (R : Nat → (Nat → Value) → World → Prop) (hok : ok ol.toArray (fun i => L.getD i 0) m = true) (pl : List (Nat × Nat)) (hpl : sel ol.toArray (fun _ => true) (List.range m) = pl) (hd : ol.all noDefer = true)
 (hstep : AllOps (StepO P ol (noOut Q) Ext m L AL R a w) (Fin P ol (noOut Q) Ext m L AL R pl a w) 0 m ol) : (Code.region id ol.toArray true).wpIn (Fence.wide.inRound l) n P Q a w :=
 drop_out (wpIn_region_any hm (any_round (all_noDefer hd) not_lets _ _ _ _ (any_all Ext.refl (fun _ _ _ => Ext.trans) (fun _ _ => Ext.bsize) (Ext.drew w) m L AL R hok pl hpl hstep)))
theorem region_txt_in {ol : List Oper} {id : Nat} {a : Act} {w : World} (m : Nat) (L AL : List Nat) (R : Nat → (Nat → Value) → World → Prop) (hok : ok ol.toArray (fun i => L.getD i 0) m = true) (pl : List (Nat × Nat)) (hpl : sel ol.toArray (fun _ => true) (List.range m) = pl) (hd : ol.all noDefer = true)
 (hstep : AllOps (StepO P ol (noOut Q) Ext m L AL R a w) (Fin P ol (noOut Q) Ext m L AL R pl a w) 0 m ol) : (Code.region id ol.toArray false).wpIn (Fence.wide.inRound l) n P Q a w := by
 refine drop_out (wpIn_region (ops_round (all_noDefer hd) not_lets _ _ _ ?_))
 have h := any_all Ext.refl (fun _ _ _ => Ext.trans) (fun _ _ => Ext.bsize) (Ext.refl w) m L AL R hok pl hpl hstep
 rw [upto_zero] at h
 rw [List.range_eq_range']
 exact any_text (ok.form hok) _ 0 a w (by omega) h
end
end Par
end Go.Proofs.YtaemogcomplhiaaGreatDoor

namespace Go.Proofs.YtaemogcomplhiaaGreatDoor
open Go.RowKit Go.Shelf

attribute [local go_sem] Oper.semAt_some

def ztopOf (E k : Nat) : Nat := E / 2 ^ (nbits E - k)
theorem ztopOf_zero (E : Nat) : ztopOf E 0 = 0 := by rw [ztopOf, Nat.sub_zero]; exact Nat.div_eq_of_lt (lt_of_nbits (Nat.le_refl _))
theorem ztopOf_all (E : Nat) : ztopOf E (nbits E) = E := by rw [ztopOf, Nat.sub_self, Nat.pow_zero, Nat.div_one]
theorem ztopOf_succ {E k : Nat} (hk : k < nbits E) : ztopOf E (k + 1) = 2 * ztopOf E k + (bitAt E k).2 := by
 rw [ztopOf, ztopOf, bitAt, show nbits E - k = (nbits E - (k + 1)) + 1 by omega, show nbits E - 1 - k = nbits E - (k + 1) by omega, Nat.pow_succ, ← Nat.div_div_eq_div_mul]
 have := Nat.div_add_mod (E / 2 ^ (nbits E - (k + 1))) 2
 omega
theorem zpow_top {x E k : Nat} (hk : k < nbits E) (hb : (bitAt E k).2 = 0) : x ^ ztopOf E (k + 1) = x ^ ztopOf E k * x ^ ztopOf E k := by
 rw [ztopOf_succ hk, hb, Nat.add_zero, Nat.two_mul, Nat.pow_add]
theorem zpow_top1 {x E k : Nat} (hk : k < nbits E) (hb : (bitAt E k).2 = 1) : x ^ ztopOf E (k + 1) = x ^ ztopOf E k * x ^ ztopOf E k * x := by
 rw [ztopOf_succ hk, hb, Nat.pow_succ, Nat.two_mul, Nat.pow_add]
theorem Keeps.just {B C g : Nat} {X Y : World} {cs : Array Value} {t : TypeId} {fr : Nat × Nat} (h : Just g X Y) (hg : X.heap[g]? = some (.cells cs t fr)) : Keeps B C 0 X Y :=
 ⟨h.size, fun k o _ hk ho => by
  by_cases hkg : k = g
  · subst hkg
    rw [hg] at hk
    cases hk
    cases ho
  · exact (h.block k (blk_lt hk) hkg).trans hk, fun k h1 h2 => absurd h2 (by omega)⟩
theorem Just.stay {g lo hi : Nat} {X Y : World} (h : Just g X Y) (hg : g < lo) (hi' : hi ≤ X.heap.size) : Stay lo hi X Y := ⟨h.size, fun k h1 h2 => h.block k (by omega) (by omega)⟩
theorem Ext.stay {lo hi : Nat} {X Y : World} (h : Ext X Y) (hi' : hi ≤ X.heap.size) : Stay lo hi X Y := ⟨h.bsize, fun k _ h2 => Below.block h k (by omega)⟩

theorem three_z (w : World) (o1 o2 o3 : Obj) : (((w.alloc o1).alloc o2).alloc o3).heap[w.heap.size]? = some o1 ∧ (((w.alloc o1).alloc o2).alloc o3).heap[w.heap.size + 1]? = some o2 ∧ (((w.alloc o1).alloc o2).alloc o3).heap[w.heap.size + 2]? = some o3 ∧ (((w.alloc o1).alloc o2).alloc o3).heap.size = w.heap.size + 3 := by
 have h1 := heap_alloc_new (w.alloc o1) o2
 have h2 := heap_alloc_new ((w.alloc o1).alloc o2) o3
 rw [World.size_alloc] at h1 h2
 rw [World.size_alloc] at h2
 exact ⟨(Ext.alloc _ _).at_ ((Ext.alloc _ _).at_ (heap_alloc_new w o1)), (Ext.alloc _ _).at_ h1, h2, by simp⟩
set_option maxRecDepth 100000 in
set_option maxHeartbeats 8000000 in
theorem zexp_any {g n inv M : Nat} {ml ol rl la : List Nat} (w : World) (hF : FR w g n inv M ml ol rl) (hone : FE M n ol 1) (x E : Nat) (ha : FE M n la x) (Pe : Nat → Prop) (Ae : Option Addr) (ce : Nat) (e : List Nat) (he : RN w Pe Ae ce e) (hPe : ∀ b, Pe b → b < w.heap.size) (hE : val 18446744073709551616 e = E) :
 Calls Tryz.prog 108 #[.pointer (some ⟨g, 0, none⟩), EV la, .slice Ae e.length ce] w fun e w' => ∃ o, e = .returned (EV o) ∧ FE M n o (x ^ E) ∧ Ext w w' := by
 obtain ⟨W0, hW0⟩ : ∃ W0, W0 = ((w.alloc (.cells #[.pointer (some ⟨g, 0, none⟩)] 107)).alloc (.cells (nts la).toArray 109)).alloc (.cells #[.int .u64 0, .int .u64 0, .int .u64 0, .int .u64 0, .int .u64 0, .int .u64 0] 109) := ⟨_, rfl⟩
 obtain ⟨s, hs⟩ : ∃ s, w.heap.size = s := ⟨_, rfl⟩
 have hE0 : Ext w W0 := by rw [hW0]; exact ((Ext.alloc _ _).trans (Ext.alloc _ _)).trans (Ext.alloc _ _)
 obtain ⟨m0, m1, m2, hz0⟩ := three_z w (.cells #[.pointer (some ⟨g, 0, none⟩)] 107) (.cells (nts la).toArray 109) (.cells #[.int .u64 0, .int .u64 0, .int .u64 0, .int .u64 0, .int .u64 0, .int .u64 0] 109)
 rw [← hW0, hs] at m0 m1 m2 hz0
 have hg := hF.ff.fld.lt
 have c0 : W0.cell? ⟨s, 0, none⟩ = some (.pointer (some ⟨g, 0, none⟩)) := blk_cell m0 0
 have hFR := Lib.hid (fun X (h : Ext w X) => hF.below h hg)
 have HE0 := Lib.hid hE0
 have Hz0 := Lib.hid hz0
 have Hs := Lib.hid hs
 obtain ⟨cs, hcs⟩ : ∃ cs, (nts la).toArray = cs := ⟨_, rfl⟩
 have hA : BlkE W0 (s + 1) la := m1
 rw [show EV la = .agg cs by rw [EV, hcs]]
 rw [hcs] at hW0
 have Hcs := Lib.hid hcs
 clear hcs m0 m1 hE0 hz0
 refine (callsIn_wide (n := 6)).1 ?_
 refine callsIn_of_wp_marks Tryz.func108 rfl trivial ?_ rfl
 simp only [Tryz.ntmps108, List.size_toArray, List.length_cons, List.length_nil, Nat.reduceAdd, Nat.reduceSub, Array.replicate_succ, Array.replicate_zero, List.push_toArray, List.append_toArray, List.nil_append, List.cons_append]
 refine wpIn_wide.2 ?_
 go_upto_region 1 with fail
 rw [← hW0]
 have HW0 := Lib.hid hW0
 clear hW0 hs
 refine Par.region_txt 5 [0, 1, 3, 7, 0, 31] [4] (fun j f X => match j with
  | 0 => f 0 = .pointer (some ⟨g, 0, none⟩)
  | 1 => f 1 = .pointer (some ⟨g, 0, none⟩)
  | 2 => f 2 = .pointer (some ⟨g, 8, none⟩)
  | 3 => f 3 = EV ol
  | 4 => ∃ b, f 4 = .pointer (some ⟨b, 0, none⟩) ∧ W0.heap.size ≤ b ∧ X.heap[b]? = some (.cells #[.int .u64 0, .int .u64 0, .int .u64 0, .int .u64 0, .int .u64 0, .int .u64 0] 109 (0, 0))
  | _ => True) (by kernel_rfl) [(10, 0), (11, 1), (12, 2), (13, 3), (7, 4)] (by kernel_rfl) ?_
 refine Par.ld0 1 4 c0 ?_
 refine Par.v1 2 3 0 ?_
 refine Par.v1 3 2 1 ?_
 refine Par.S 4 1 [(10, 0), (11, 1), (12, 2), (7, 4)] (fun f X hX hR K hK => ?_) ?_
 · have e2 : f 2 = _ := hR.out 2 rfl
   simp only [yA, yB, yC, yD, yE, e2]
   refine ⟨Par.want (by kernel_rfl) (wp_loadE (.tmp 12) rfl rfl (hFR.out X (HE0.out.trans hX)).r_one hone.elt.six ?_)⟩
   exact hK.out _ (EV ol) _ (by simp only [yA, yB, yC, yD, yE, e2]) (Ext.refl _) trivial (fun _ _ => rfl)
 refine Par.al 5 0 ?_
 refine Par.AllOps.fin ⟨fun f X hX hR hal hap => ?_⟩
 have e3 : f 3 = _ := hR 3 (by decide)
 obtain ⟨b4, (e4 : f 4 = _), l4, h4⟩ := hR 4 (by decide)
 simp only [yA, yB, yD, yE, e3, e4]
 clear hR hal hap e3 e4
 refine Par.Chain.next (fun K hK => ⟨Par.want (by kernel_rfl) (wp_storeE (.tmp 7) (.tmp 13) rfl rfl rfl rfl h4 zero6 hone.elt.six (fun Y1 hl1 => hK.out _ _ ?_))⟩)
 refine Par.Chain.done ?_
 have hEq : Ext W0 Y1 := hl1.ext hX (by have := l4; omega)
 have zq : s + 3 ≤ b4 := by have := Hz0.out; omega
 have zq2 : b4 < Y1.heap.size := hl1.blk.lt
 have c1 := hEq.cell c0
 have hA1 : BlkE Y1 (s + 1) la := hEq.at_ hA
 have hq0 : BlkE Y1 b4 ol := hl1.blk
 have m3 := hEq.at_ m2
 have hEw := HE0.out.trans hEq
 have heach := each_any Pe Ae ce e Y1 (he.below hEw hPe) (fun b hb => Nat.lt_of_lt_of_le (hPe b hb) hEw.bsize)
 rw [hE] at heach
 have Heach := Lib.hid heach
 clear heach hl1 l4 h4 hX m2 hA c0
 go_wp2_with (go_at_call 76; refine Heach.out.mono ?_; rintro e' w3 ⟨Ae', ce', rfl, be, hOe, hB3⟩)
 obtain ⟨t, ht⟩ : ∃ t, Y1.heap.size = t := ⟨_, rfl⟩
 rw [ht] at be hOe hB3 zq2
 have zn : t < w3.heap.size := blk_lt be
 have hbe := blk_cell be 0
 simp only [List.getElem?_toArray, List.getElem?_cons_zero] at hbe
 have hseq := each_seq t t w3.heap.size (In t w3.heap.size) Ae' ce' (digs 18446744073709551616 E) w3 (fun b hb => hb) (Nat.le_refl _) zn (Nat.le_refl _) hbe hOe.rn
 rw [val_digs (by omega)] at hseq
 have Hseq := Lib.hid hseq
 have hE3 : Ext Y1 w3 := by rw [← ht] at hB3; exact hB3
 have hEw3 := hEw.trans hE3
 have c3 := hE3.cell c1
 have hA3 : BlkE w3 (s + 1) la := hE3.at_ hA1
 have hq3 : BlkE w3 b4 ol := hE3.at_ hq0
 have m4 := hE3.at_ m3
 have hI0 : VE w3 M n b4 (x ^ ztopOf E 0) := ⟨ol, hq3, by rw [ztopOf_zero, Nat.pow_zero]; exact hone⟩
 have hFR3 := Lib.hid (fun X (h : Below b4 w3 X) => (hFR.out w3 hEw3).below h (by have := Hs.out; omega))
 clear hseq Heach hbe be hOe hB3 hE3 c1 hA1 hq0 m3 hEq
 have hInv : OwnFrom w3.heap.size (fun (k : Nat) X => VE X M n b4 (x ^ ztopOf E k) ∧ Below b4 w3 X) := by
  rintro k X X' row ⟨⟨l, h1, h2⟩, h5⟩ hg' hr
  have hr' := fun r e => (hr r e).2
  exact ⟨⟨l, (grownBy_keeps_cells hg' hr' h1 rfl).trans h1, h2⟩, ownFrom_below (by omega) (by omega) k X X' row h5 hg' hr⟩
 refine (wpIn_wide (n := 6)).1 ?_
 refine' wpIn_iter (by omega) (gf := 106) (lb := #[.pointer (some ⟨t, 0, none⟩)]) (by rw [← ht]; rfl) (enters_of Tryz.func106 (by kernel_rfl) rfl)
  Hseq.out (fun h k => Stay.trans h k) (fun X l o o' hl ho _ _ => ⟨by simp, fun i _ hi => World.putObj_heap_other (by omega)⟩) tplain_keeps (Below.refl _ _) (fun _ => rfl)
  (fun k X => VE X M n b4 (x ^ ztopOf E k) ∧ Below b4 w3 X) (fun k X => VE X M n b4 (x ^ ztopOf E k) ∧ Below b4 w3 X) (fun _ _ _ => False)
  hInv hInv (fun _ _ _ _ _ h => h.elim) (fun _ _ _ _ => trivial) (fun B k A C _ _ hi ht => ?hIT) (fun h => by cases h) ⟨hI0, Below.refl _ _⟩ _ ?assign ?body ?done ?stop
 case hIT => exact ownFrom_plain (I := fun k X => VE X M n b4 (x ^ ztopOf E k) ∧ Below b4 w3 X) (B := w3.heap.size) hInv hi ht
 case assign =>
  intro l k X K hK
  gi_wp2
  exact hK
 case body =>
  rintro l k V ⟨⟨lo, hl, hf⟩, h5⟩ hlt _
  have zV := h5.size
  have hq : b4 < V.heap.size := hl.lt
  have cV : V.cell? ⟨s, 0, none⟩ = some (.pointer (some ⟨g, 0, none⟩)) := (h5.cell (p := ⟨s, 0, none⟩) (by show s < b4; omega)).trans c3
  have hAV : BlkE V (s + 1) la := (h5.block (s + 1) (by omega)).trans hA3
  have hH := Lib.hid hf
  have hbit : (bitAt E k).2 = 0 ∨ (bitAt E k).2 = 1 := by
   have : (bitAt E k).2 < 2 := Nat.mod_lt _ (by omega)
   omega
  obtain ⟨bt, hbt⟩ : ∃ b, (bitAt E k).2 = b := ⟨_, rfl⟩
  rw [hbt] at hbit ⊢
  have Hbt := Lib.hid hbt
  have Hbit := Lib.hid hbit
  have H5 := Lib.hid h5
  obtain ⟨v, hv⟩ : ∃ v, x ^ ztopOf E k = v := ⟨_, rfl⟩
  rw [hv] at hH hf
  have Hv := Lib.hid hv
  have HlV := Lib.hid hl
  clear hv hbt hbit hf h5
  gi_upto_region 4 with fail
  refine Par.region_txt_in 4 [0, 0, 0, 7, 15] [] (fun j f X => match j with
   | 0 => f 0 = .pointer (some ⟨g, 0, none⟩)
   | 1 => f 1 = EV lo
   | 2 => f 2 = EV lo
   | 3 => ∃ o, f 3 = EV o ∧ FE M n o (v * v)
   | _ => True) (by kernel_rfl) [(18, 0), (19, 1), (20, 2), (21, 3)] (by kernel_rfl) (by kernel_rfl) ?_
  refine Par.S 1 3 [(19, 1), (20, 2)] (fun f X hX hR K hK => ?_) ?_
  · have x0 := hX.cell cV
    simp only [yA, yB, yC, yD, yE]
    refine ⟨?_⟩
    go_simp
    exact Par.k hK (s := by simp only [yA, yB, yC, yD, yE])
  refine Par.S 2 2 [(18, 0), (20, 2)] (fun f X hX hR K hK => ?_) ?_
  · simp only [yA, yB, yC, yD, yE]
    refine ⟨Par.want (by kernel_rfl) (wp_loadE (.tmp 7) rfl rfl (BlkE.range (hX.at_ hl)) hH.out.elt.six ?_)⟩
    exact hK.out _ (EV lo) _ (by simp only [yA, yB, yC, yD, yE]) (Ext.refl _) trivial (fun _ _ => rfl)
  refine Par.S 3 1 [(18, 0), (19, 1)] (fun f X hX hR K hK => ?_) ?_
  · simp only [yA, yB, yC, yD, yE]
    refine ⟨Par.want (by kernel_rfl) (wp_loadE (.tmp 7) rfl rfl (BlkE.range (hX.at_ hl)) hH.out.elt.six ?_)⟩
    exact hK.out _ (EV lo) _ (by simp only [yA, yB, yC, yD, yE]) (Ext.refl _) trivial (fun _ _ => rfl)
  refine Par.S 4 0 [(18, 0), (19, 1), (20, 2)] (fun f X hX hR K hK => ?_) ?_
  · have e0 : f 0 = _ := hR.out 0 rfl
    have e1 : f 1 = _ := hR.out 1 rfl
    have e2 : f 2 = _ := hR.out 2 rfl
    simp only [yA, yB, yC, yD, yE, e0, e1, e2]
    refine ⟨?_⟩
    go_simp
    refine (fmul_any X (hFR3.out X (H5.out.trans (Below.mono hX (by omega)))).ff hH.out hH.out).mono ?_
    rintro e w2 ⟨o, rfl, ho, hB⟩
    exact hK.out _ (EV o) _ (by simp only [yA, yB, yC, yD, yE, e0, e1, e2]) hB trivial (fun Y hY => ⟨o, rfl, ho⟩)
  refine Par.AllOps.fin ⟨fun f X hX hR hal hap => ?_⟩
  have e0 : f 0 = _ := hR 0 (by decide)
  have e1 : f 1 = _ := hR 1 (by decide)
  have e2 : f 2 = _ := hR 2 (by decide)
  obtain ⟨o3, (e3 : f 3 = _), h3⟩ := hR 3 (by decide)
  simp only [yA, yB, yD, yE, e0, e1, e2, e3]
  clear hR hal hap e0 e1 e2 e3
  refine Par.Chain.next (fun K hK => ⟨Par.want (by kernel_rfl) (wp_storeE (.tmp 7) (.tmp 21) rfl rfl rfl rfl (hX.at_ hl) (by rw [nts_length]; exact hH.out.elt.six) h3.elt.six (fun Y1 hl1 => hK.out _ _ ?_))⟩)
  refine Par.Chain.done ?_
  refine ⟨nofun, ?_⟩
  have hK1 : Keeps w3.heap.size (w3.heap.size + 2) 0 V Y1 := (Keeps.below hX (Nat.le_refl _)).trans (Keeps.just hl1.just (hX.at_ hl))
  have hS1 : Stay t w3.heap.size V Y1 := Stay.trans (hX.stay zV) (hl1.just.stay zq2 (Nat.le_trans zV hX.bsize))
  have hB1 : Below b4 w3 Y1 := (H5.out.trans (Below.mono hX (by omega))).trans (hl1.just.below (Nat.le_refl _) (by have := hX.bsize; omega))
  have hy1 : BlkE Y1 b4 o3 := hl1.blk
  have zY := hB1.size
  have hq1 : b4 < Y1.heap.size := hy1.lt
  have HK1 := Lib.hid hK1
  have HS1 := Lib.hid hS1
  have HB1 := Lib.hid hB1
  have Hy1 := Lib.hid hy1
  have H3 := Lib.hid h3
  have cY : Y1.cell? ⟨s, 0, none⟩ = some (.pointer (some ⟨g, 0, none⟩)) := (hB1.cell (p := ⟨s, 0, none⟩) (by show s < b4; omega)).trans c3
  have hAY : BlkE Y1 (s + 1) la := (hB1.block (s + 1) (by omega)).trans hA3
  clear hK1 hS1 hB1 hy1 hl1 hX h3 hl cV hAV hH
  rcases Hbit.out with hb0 | hb1
  · have hp := Lib.hid (zpow_top (x := x) hlt (Hbt.out.trans hb0))
    subst hb0
    gi_wp2
    exact ⟨HK1.out, HS1.out, ⟨o3, Hy1.out, by rw [hp.out, Hv.out]; exact H3.out⟩, HB1.out⟩
  · have hp := Lib.hid (zpow_top1 (x := x) hlt (Hbt.out.trans hb1))
    rw [hb1, show ((1 : Nat) : Int) = 1 from rfl]
    gi_upto_region 6 with fail
    rename World => V1
    have hl := Hy1.out
    have zV1 := HB1.out.size
    refine Par.region_txt_in 4 [0, 0, 0, 7, 15] [] (fun j f X => match j with
     | 0 => f 0 = .pointer (some ⟨g, 0, none⟩)
     | 1 => f 1 = EV o3
     | 2 => f 2 = EV la
     | 3 => ∃ o, f 3 = EV o ∧ FE M n o (v * v * x)
     | _ => True) (by kernel_rfl) [(24, 0), (25, 1), (26, 2), (27, 3)] (by kernel_rfl) (by kernel_rfl) ?_
    refine Par.S 1 3 [(25, 1), (26, 2)] (fun f X hX hR K hK => ?_) ?_
    · have x0 := hX.cell cY
      simp only [yA, yB, yC, yD, yE]
      refine ⟨?_⟩
      go_simp
      exact Par.k hK (s := by simp only [yA, yB, yC, yD, yE])
    refine Par.S 2 2 [(24, 0), (26, 2)] (fun f X hX hR K hK => ?_) ?_
    · simp only [yA, yB, yC, yD, yE]
      refine ⟨Par.want (by kernel_rfl) (wp_loadE (.tmp 7) rfl rfl (BlkE.range (hX.at_ hl)) H3.out.elt.six ?_)⟩
      exact hK.out _ (EV o3) _ (by simp only [yA, yB, yC, yD, yE]) (Ext.refl _) trivial (fun _ _ => rfl)
    refine Par.S 3 1 [(24, 0), (25, 1)] (fun f X hX hR K hK => ?_) ?_
    · simp only [yA, yB, yC, yD, yE]
      refine ⟨Par.want (by kernel_rfl) (wp_loadE (.tmp 4) rfl rfl (BlkE.range (hX.at_ hAY)) ha.elt.six ?_)⟩
      exact hK.out _ (EV la) _ (by simp only [yA, yB, yC, yD, yE]) (Ext.refl _) trivial (fun _ _ => rfl)
    refine Par.S 4 0 [(24, 0), (25, 1), (26, 2)] (fun f X hX hR K hK => ?_) ?_
    · have e0 : f 0 = _ := hR.out 0 rfl
      have e1 : f 1 = _ := hR.out 1 rfl
      have e2 : f 2 = _ := hR.out 2 rfl
      simp only [yA, yB, yC, yD, yE, e0, e1, e2]
      refine ⟨?_⟩
      go_simp
      refine (fmul_any X (hFR3.out X (HB1.out.trans (Below.mono hX (by omega)))).ff H3.out ha).mono ?_
      rintro e w2 ⟨o, rfl, ho, hB⟩
      exact hK.out _ (EV o) _ (by simp only [yA, yB, yC, yD, yE, e0, e1, e2]) hB trivial (fun Y hY => ⟨o, rfl, ho⟩)
    refine Par.AllOps.fin ⟨fun f X hX hR hal hap => ?_⟩
    have e0 : f 0 = _ := hR 0 (by decide)
    have e1 : f 1 = _ := hR 1 (by decide)
    have e2 : f 2 = _ := hR 2 (by decide)
    obtain ⟨o5, (e3 : f 3 = _), h3⟩ := hR 3 (by decide)
    simp only [yA, yB, yD, yE, e0, e1, e2, e3]
    clear hR hal hap e0 e1 e2 e3
    refine Par.Chain.next (fun K hK => ⟨Par.want (by kernel_rfl) (wp_storeE (.tmp 7) (.tmp 27) rfl rfl rfl rfl (hX.at_ hl) (by rw [nts_length]; exact H3.out.elt.six) h3.elt.six (fun Y2 hl1 => hK.out _ _ ?_))⟩)
    refine Par.Chain.done ?_
    refine ⟨nofun, ?_⟩
    have hK2 : Keeps w3.heap.size (w3.heap.size + 2) 0 V1 Y2 := (Keeps.below hX (Nat.le_refl _)).trans (Keeps.just hl1.just (hX.at_ hl))
    have hS2 : Stay t w3.heap.size V1 Y2 := Stay.trans (hX.stay zV1) (hl1.just.stay zq2 (Nat.le_trans zV1 hX.bsize))
    have hB2 : Below b4 w3 Y2 := (HB1.out.trans (Below.mono hX (by omega))).trans (hl1.just.below (Nat.le_refl _) (by have := hX.bsize; omega))
    have HK2 := Lib.hid (HK1.out.trans hK2)
    have HS2 := Lib.hid (Stay.trans HS1.out hS2)
    have HB2 := Lib.hid hB2
    have Hy2 := Lib.hid hl1.blk
    have H4 := Lib.hid h3
    clear hK2 hS2 hB2 hl1 h3
    gi_wp2
    exact ⟨HK2.out, HS2.out, ⟨o5, Hy2.out, by rw [hp.out, Hv.out]; exact H4.out⟩, HB2.out⟩
 case done =>
  rintro D V hD ⟨⟨lo, hl, hf⟩, h5⟩ hKD
  rw [ztopOf_all] at hf
  have hmV := (h5.block (s + 2) (by omega)).trans m4
  go_upto_region 7 with fail
  refine Par.region_txt 1 [0, 1] [] (fun j f X => match j with
   | 0 => f 0 = EV lo
   | _ => True) (by kernel_rfl) [(28, 0)] (by kernel_rfl) ?_
  refine Par.S 1 0 [] (fun f X hX hR K hK => ?_) ?_
  · simp only [yB, yC, yD, yE]
    refine ⟨Par.want (by kernel_rfl) (wp_loadE (.tmp 7) rfl rfl (BlkE.range (hX.at_ hl)) hf.elt.six ?_)⟩
    exact hK.out _ (EV lo) _ (by simp only [yB, yC, yD, yE]) (Ext.refl _) trivial (fun _ _ => rfl)
  refine Par.AllOps.fin ⟨fun f X hX hR hal hap => ?_⟩
  have e0 : f 0 = _ := hR 0 (by decide)
  simp only [yA, yB, yD, yE, e0]
  clear hR hal hap e0
  refine Par.Chain.next (fun K hK => ⟨Par.want (by kernel_rfl) (wp_storeE (.tmp 6) (.tmp 28) rfl rfl rfl rfl (hX.at_ hmV) zero6 hf.elt.six (fun Y2 hl1 => hK.out _ _ ?_))⟩)
  refine Par.Chain.done ?_
  go_wp2
  have hKY : Y2.heap[D]? = some (.deferred (some [])) := hl1.other (by omega) (hX.at_ hKD)
  have hrY : (Y2.putObj D (.deferred none)).heap[s + 1 + 1]? = some (.cells (nts lo).toArray 109 (0, 0)) := (World.putObj_heap_other (by omega)).trans hl1.blk
  have hEY : Ext w Y2 := hl1.ext (Below.trans hEw3 (Below.mono (h5.trans (Below.mono hX (by have := h5.size; omega))) (by have := Hs.out; omega))) (by have := Hs.out; omega)
  refine ⟨by simp, .inl ⟨_, _, rfl, run_takeDeferred hKY, _, results_cell_row rfl _ _ (s + 1 + 1) _ _ _ (.array 6 65) rfl hrY Tryz.underlying109 rfl (by rw [List.size_toArray, nts_length, hf.elt.six]; exact infoE), ⟨lo, rfl, hf, Below.trans hEY (belowK_b (w := w) (Nat.le_refl _) Y2 D _ _ (by have := Hs.out; omega) hKY rfl rfl)⟩⟩⟩
 case stop => exact fun _ _ _ _ _ _ _ h _ => h.elim
end Go.Proofs.YtaemogcomplhiaaGreatDoor

namespace Go.Proofs.YtaemogcomplhiaaGreatDoor
open Go.RowKit

def PtV (w : World) (base : Nat) (v : Value) : Option (Nat × Nat) → Prop
 | none => v = infV
 | some p => ∃ A c A' c', v = .agg #[.bool false, .slice A (digs 18446744073709551616 p.1).length c, .slice A' (digs 18446744073709551616 p.2).length c'] ∧ OB w base A c (digs 18446744073709551616 p.1) ∧ OB w base A' c' (digs 18446744073709551616 p.2)

end Go.Proofs.YtaemogcomplhiaaGreatDoor

namespace Go.Proofs.YtaemogcomplhiaaGreatDoor
open Go.RowKit

def downP (M x y z : Nat) : Option (Nat × Nat) := if z % M = 0 then none else let u1 := z ^ (M - 2); let u2 := mm M u1 u1; let u3 := mm M x u2; let u4 := mm M u2 u1; let u5 := mm M y u4; some (u3 % M, u5 % M)
set_option maxRecDepth 100000 in
set_option maxHeartbeats 16000000 in
theorem down_any {P0 : Nat → Prop} {k g size n inv M bb : Nat} {pl nl bl xl yl ml ol rl tl fl lx ly lz : List Nat} {Ap An Ab Ax Ay : Option Addr} {cp cn cb cx cy x y z : Nat} (w : World)
 (hk : Num w P0 k g size n inv M bb pl nl bl xl yl ml ol rl tl fl Ap An Ab Ax Ay cp cn cb cx cy) (hP0 : ∀ b, P0 b → b < w.heap.size) (hpl : pl.length < 100000) (hj : FJ M n lx ly lz x y z) :
 Calls Tryz.prog 78 #[.pointer (some ⟨k, 0, none⟩), JV lx ly lz] w fun e w' => ∃ v, e = .returned v ∧ PtV w' w.heap.size v (downP M x y z) ∧ Ext w w' := by
 obtain ⟨cs, hcs⟩ : ∃ cs, (nts (lx ++ ly ++ lz)).toArray = cs := ⟨_, rfl⟩
 obtain ⟨W0, hW0⟩ : ∃ W0, W0 = (w.alloc (.cells cs 123)).alloc (.cells #[.bool false, .slice none 0 0, .slice none 0 0] 33) := ⟨_, rfl⟩
 obtain ⟨q, hq⟩ : ∃ q, w.heap.size = q := ⟨_, rfl⟩
 have hE0 : Ext w W0 := by rw [hW0]; exact (Ext.alloc _ _).trans (Ext.alloc _ _)
 obtain ⟨hpj, hrb, hz0⟩ := two_at2 w (.cells cs 123) (.cells #[.bool false, .slice none 0 0, .slice none 0 0] 33)
 rw [← hW0, hq] at hpj hrb hz0
 have hpj : BlkJ W0 q lx ly lz := by rw [BlkJ, hcs]; exact hpj
 have hn := Lib.hid (hk.ext hP0 hE0)
 have hP0' : ∀ b, P0 b → b < W0.heap.size := fun b hb => Nat.lt_of_lt_of_le (hP0 b hb) hE0.bsize
 have k6 := hn.out.c_f
 have k1 := hn.out.c_p
 have hJ := Lib.hid hj
 have HE0 := Lib.hid hE0
 have Hz0 := Lib.hid hz0
 have Hpv := Lib.hid hk.pv
 have Hpl := Lib.hid hpl
 have hM1 := hk.fr.ff.big
 have Hqs := Lib.hid (show q ≤ W0.heap.size by omega)
 rw [show JV lx ly lz = .agg cs by rw [JV, hcs], hq]
 clear hE0 hz0 hk hP0 hj hcs hpl
 by_cases hz : z % M = 0
 · have hzn := Lib.hid hz
   rw [downP, if_pos hz]
   clear hz k6 k1
   go_enter Tryz.func78, Tryz.ntmps78
   go_upto_region 1 with fail
   rw [← hW0]
   have Hq := Lib.hid hq
   have HW0 := Lib.hid hW0
   have hE := Ext.refl W0
   clear hq hW0
   refine Par.region_txt 3 [0, 1, 3] [] (fun j f X => match j with
    | 0 => f 0 = .pointer (some ⟨q, 12, none⟩)
    | 1 => ∃ o, f 1 = EV o ∧ FE M n o z
    | 2 => f 2 = .bool true
    | _ => True) (by kernel_rfl) [(10, 0), (11, 1), (12, 2)] (by kernel_rfl) ?_
   refine Par.v0 1 2 ?_
   refine lE 2 1 0 (fun _ hX => BlkJ.rz ((hE.trans hX).at_ hpj) hJ.out.x.elt.six hJ.out.y.elt.six) hJ.out.z ?_
   refine Par.c0 3 0 (fun f => #[f 1]) (F' := 104) (fun f X hX hR => ?_) ?_
   · obtain ⟨o1, (e1 : f 1 = _), h1⟩ := hR.out 1 rfl
     simp only [e1]
     refine (zero_any o1 X h1.elt.six).mono ?_
     rintro e w2 ⟨rfl, hB⟩
     rw [show decide (o1 = [0, 0, 0, 0, 0, 0]) = true by rw [decide_eq_decide.2 (h1.zero_iff (hn.out.ext hP0' (hE.trans hX)).fr.ff)]; exact decide_eq_true hzn.out]
     exact ⟨(.bool true), rfl, hB, fun _ _ => rfl⟩
   refine Par.AllOps.fin ⟨fun f X hX hR hal hap => ?_⟩
   obtain ⟨o1, (e1 : f 1 = _), h1⟩ := hR 1 (by decide)
   have e2 : f 2 = _ := hR 2 (by decide)
   simp only [yA, yB, yD, yE, e1, e2]
   clear hR hal hap e1 e2
   refine Par.Chain.done ?_
   replace hE := hE.trans hX
   clear hX
   rename World => X1_
   go_upto_region 2 with fail
   have hb1 := hE.at_ hrb
   refine Par.region_txt 1 [0, 1] [] (fun j f X => match j with
    | 0 => f 0 = infV
    | _ => True) (by kernel_rfl) [(13, 0)] (by kernel_rfl) ?_
   refine Par.c0 1 0 (fun _ => #[]) (F' := 73) (fun f X hX hR => ?_) ?_
   · refine (none_any X).mono ?_
     rintro e w2 ⟨rfl, hB⟩
     exact ⟨infV, rfl, hB, fun _ _ => rfl⟩
   refine Par.AllOps.fin ⟨fun f X hX hR hal hap => ?_⟩
   have e0 : f 0 = _ := hR 0 (by decide)
   simp only [yA, yB, yD, yE, e0]
   clear hR hal hap e0
   refine Par.Chain.next (fun K hK => ⟨Par.want (by kernel_rfl) (wp_storeV (cs' := #[.bool true, .slice none 0 0, .slice none 0 0]) (t := 33) 33 (.tmp 4) (.tmp 13) rfl rfl rfl rfl (hX.at_ hb1) infoP rfl (pt_one _ _ _ _ _ _ _) (fun Y hY1 hY2 hY3 => hK.out _ _ ?_))⟩)
   refine Par.Chain.done ?_
   go_wp2
   exact end_p rfl rfl rfl hY1 ⟨_, rfl, rfl, hY2.ext (HE0.out.trans (hE.trans hX)) (by have := Hq.out; omega)⟩
 · have hzn := Lib.hid hz
   obtain ⟨u1, e_u1⟩ : ∃ v, z ^ (M - 2) = v := ⟨_, rfl⟩
   have E_u1 := Lib.hid e_u1
   clear e_u1
   obtain ⟨u2, e_u2⟩ : ∃ v, mm M u1 u1 = v := ⟨_, rfl⟩
   have E_u2 := Lib.hid e_u2
   clear e_u2
   obtain ⟨u3, e_u3⟩ : ∃ v, mm M x u2 = v := ⟨_, rfl⟩
   have E_u3 := Lib.hid e_u3
   clear e_u3
   obtain ⟨u4, e_u4⟩ : ∃ v, mm M u2 u1 = v := ⟨_, rfl⟩
   have E_u4 := Lib.hid e_u4
   clear e_u4
   obtain ⟨u5, e_u5⟩ : ∃ v, mm M y u4 = v := ⟨_, rfl⟩
   have E_u5 := Lib.hid e_u5
   clear e_u5
   have hres : downP M x y z = some (u3 % M, u5 % M) := by rw [downP, if_neg hz]; simp only [E_u1.out, E_u2.out, E_u3.out, E_u4.out, E_u5.out]
   rw [hres]
   clear hres hz
   go_enter Tryz.func78, Tryz.ntmps78
   go_upto_region 1 with fail
   rw [← hW0]
   have Hq := Lib.hid hq
   have HW0 := Lib.hid hW0
   have hE := Ext.refl W0
   clear hq hW0
   refine Par.region_txt 3 [0, 1, 3] [] (fun j f X => match j with
    | 0 => f 0 = .pointer (some ⟨q, 12, none⟩)
    | 1 => ∃ o, f 1 = EV o ∧ FE M n o z
    | 2 => f 2 = .bool false
    | _ => True) (by kernel_rfl) [(10, 0), (11, 1), (12, 2)] (by kernel_rfl) ?_
   refine Par.v0 1 2 ?_
   refine lE 2 1 0 (fun _ hX => BlkJ.rz ((hE.trans hX).at_ hpj) hJ.out.x.elt.six hJ.out.y.elt.six) hJ.out.z ?_
   refine Par.c0 3 0 (fun f => #[f 1]) (F' := 104) (fun f X hX hR => ?_) ?_
   · obtain ⟨o1, (e1 : f 1 = _), h1⟩ := hR.out 1 rfl
     simp only [e1]
     refine (zero_any o1 X h1.elt.six).mono ?_
     rintro e w2 ⟨rfl, hB⟩
     rw [show decide (o1 = [0, 0, 0, 0, 0, 0]) = false by rw [decide_eq_decide.2 (h1.zero_iff (hn.out.ext hP0' (hE.trans hX)).fr.ff)]; exact decide_eq_false hzn.out]
     exact ⟨(.bool false), rfl, hB, fun _ _ => rfl⟩
   refine Par.AllOps.fin ⟨fun f X hX hR hal hap => ?_⟩
   obtain ⟨o1, (e1 : f 1 = _), h1⟩ := hR 1 (by decide)
   have e2 : f 2 = _ := hR 2 (by decide)
   simp only [yA, yB, yD, yE, e1, e2]
   clear hR hal hap e1 e2
   refine Par.Chain.done ?_
   replace hE := hE.trans hX
   clear hX
   rename World => X1_
   have k6' := hE.cell k6
   have k1' := hE.cell k1
   go_upto_region 4 with fail
   clear k6'
   refine Par.region_ext (by kernel_rfl) 11 [0, 1, 3, 7, 0, 31, 63, 127, 127, 255, 1023] [] (fun j f X => match j with
    | 0 => f 0 = .pointer (some ⟨k, 0, none⟩)
    | 1 => f 1 = .pointer (some ⟨k, 0, none⟩)
    | 2 => f 2 = .pointer (some ⟨k, 1, none⟩)
    | 3 => f 3 = .slice Ap pl.length cp
    | 4 => ∃ A1 c1, f 4 = .slice A1 (digs 18446744073709551616 2).length c1 ∧ OB X q A1 c1 (digs 18446744073709551616 2)
    | 5 => ∃ A1 c1, f 5 = .tuple #[.slice A1 (digs 18446744073709551616 (M - 2)).length c1, .bool true] ∧ OB X q A1 c1 (digs 18446744073709551616 (M - 2))
    | 6 => ∃ A1 c1, f 6 = .tuple #[.slice A1 (digs 18446744073709551616 (M - 2)).length c1, .bool true] ∧ OB X q A1 c1 (digs 18446744073709551616 (M - 2))
    | 7 => ∃ A1 c1, f 7 = .slice A1 (digs 18446744073709551616 (M - 2)).length c1 ∧ OB X q A1 c1 (digs 18446744073709551616 (M - 2))
    | 8 => f 8 = .bool true
    | 9 => ∃ A1 c1, f 9 = .slice A1 (digs 18446744073709551616 (M - 2)).length c1 ∧ OB X q A1 c1 (digs 18446744073709551616 (M - 2))
    | 10 => f 10 = .bool true
    | _ => True) (by kernel_rfl) [(19, 0), (20, 1), (21, 2), (22, 3), (23, 4), (24, 5), (18, 6), (25, 7), (26, 8), (6, 9), (7, 10)] (by kernel_rfl) ?_
   refine Par.v0 1 10 ?_
   refine Par.v1 2 9 0 ?_
   refine Par.v1 3 8 1 ?_
   refine Par.ld1 4 7 2 k1' ?_
   refine Par.c0 5 6 (fun _ => #[Value.int IntKind.u64 2]) (F' := 67) (fun f X hX hR => ?_) ?_
   · refine (of_any 2 X (by omega)).mono ?_
     rintro e w2 ⟨A1, c1, rfl, hO, hB⟩
     exact ⟨_, rfl, hB, fun Y hY => ⟨A1, c1, rfl, (hO.mono (Nat.le_trans Hqs.out (hE.trans hX).bsize)).below hY (Nat.le_refl _)⟩⟩
   refine Par.c0 6 5 (fun f => #[f 3, f 4]) (F' := 65) (fun f X hX hR => ?_) ?_
   · have e3 : f 3 = _ := hR.out 3 rfl
     obtain ⟨A4, c4, (e4 : f 4 = _), o4⟩ := hR.out 4 rfl
     simp only [e3, e4]
     refine (sub_yes P0 _ Ap A4 cp c4 pl _ X (hn.out.ext hP0' (hE.trans hX)).p o4.rn (fun b hb => Nat.lt_of_lt_of_le (hP0' b hb) (hE.trans hX).bsize) (fun b hb => hb.2) Hpl.out (by rw [Hpv.out, val_digs (by omega)]; omega)).mono ?_
     rw [Hpv.out, val_digs (by omega)]
     rintro e w2 ⟨A1, c1, rfl, hO, hB⟩
     exact ⟨_, rfl, hB, fun Y hY => ⟨A1, c1, rfl, (hO.mono (Nat.le_trans Hqs.out (hE.trans hX).bsize)).below hY (Nat.le_refl _)⟩⟩
   refine Par.S 7 4 [(19, 0), (20, 1), (21, 2), (22, 3), (23, 4), (24, 5)] (fun f X hX hR K hK => ?_) ?_
   · obtain ⟨A5, c5, (e5 : f 5 = _), o5⟩ := hR.out 5 rfl
     simp only [yA, yB, yC, yD, yE, e5]
     refine ⟨?_⟩
     go_simp
     exact hK.out _ _ _ (by simp only [yA, yB, yC, yD, yE, e5]) (Ext.refl _) trivial (fun Y hY => ⟨A5, c5, rfl, o5.below (hY) (Nat.le_refl _)⟩)
   refine Par.S 8 3 [(19, 0), (20, 1), (21, 2), (22, 3), (23, 4), (24, 5), (18, 6), (26, 8)] (fun f X hX hR K hK => ?_) ?_
   · obtain ⟨A6, c6, (e6 : f 6 = _), o6⟩ := hR.out 6 rfl
     simp only [yA, yB, yC, yD, yE, e6]
     refine ⟨?_⟩
     go_simp
     exact hK.out _ _ _ (by simp only [yA, yB, yC, yD, yE, e6]) (Ext.refl _) trivial (fun Y hY => ⟨A6, c6, rfl, o6.below (hY) (Nat.le_refl _)⟩)
   refine Par.S 9 2 [(19, 0), (20, 1), (21, 2), (22, 3), (23, 4), (24, 5), (18, 6), (25, 7), (6, 9)] (fun f X hX hR K hK => ?_) ?_
   · obtain ⟨A6, c6, (e6 : f 6 = _), o6⟩ := hR.out 6 rfl
     simp only [yA, yB, yC, yD, yE, e6]
     refine ⟨?_⟩
     go_simp
     exact Par.k hK (s := by simp only [yA, yB, yC, yD, yE, e6])
   refine Par.S 10 1 [(19, 0), (20, 1), (21, 2), (22, 3), (23, 4), (24, 5), (18, 6), (25, 7), (26, 8)] (fun f X hX hR K hK => ?_) ?_
   · obtain ⟨A7, c7, (e7 : f 7 = _), o7⟩ := hR.out 7 rfl
     simp only [yA, yB, yC, yD, yE, e7]
     refine ⟨?_⟩
     go_simp
     exact hK.out _ _ _ (by simp only [yA, yB, yC, yD, yE, e7]) (Ext.refl _) trivial (fun Y hY => ⟨A7, c7, rfl, o7.below (hY) (Nat.le_refl _)⟩)
   refine Par.v1 11 0 8 ?_
   refine Par.AllOps.fin ⟨fun f X hX hR hal hap => ?_⟩
   obtain ⟨A4, c4, (e4 : f 4 = _), o4⟩ := hR 4 (by decide)
   obtain ⟨A5, c5, (e5 : f 5 = _), o5⟩ := hR 5 (by decide)
   obtain ⟨A6, c6, (e6 : f 6 = _), o6⟩ := hR 6 (by decide)
   obtain ⟨A7, c7, (e7 : f 7 = _), o7⟩ := hR 7 (by decide)
   obtain ⟨A9, c9, (e9 : f 9 = _), o9⟩ := hR 9 (by decide)
   simp only [yA, yB, yD, yE, e4, e5, e6, e7, e9]
   clear hR hal hap e4 e5 e6 e7 e9
   refine Par.Chain.done ?_
   replace hE := hE.trans hX
   have hL := o9
   rename World => X4_
   clear hX k1' o4 o5 o6 o7 o9
   go_upto_region 5 with fail
   refine Par.region_txt 6 [0, 0, 2, 0, 15, 0, 63] [5] (fun j f X => match j with
    | 0 => f 0 = .pointer (some ⟨g, 0, none⟩)
    | 1 => f 1 = .pointer (some ⟨q, 12, none⟩)
    | 2 => ∃ o, f 2 = EV o ∧ FE M n o z
    | 3 => f 3 = .slice A9 (digs 18446744073709551616 (M - 2)).length c9
    | 4 => ∃ o, f 4 = EV o ∧ FE M n o u1
    | 5 => ∃ b, f 5 = .pointer (some ⟨b, 0, none⟩) ∧ X4_.heap.size ≤ b ∧ X.heap[b]? = some (.cells #[.int .u64 0, .int .u64 0, .int .u64 0, .int .u64 0, .int .u64 0, .int .u64 0] 109 (0, 0))
    | _ => True) (by kernel_rfl) [(27, 0), (28, 1), (29, 2), (30, 3), (31, 4), (8, 5)] (by kernel_rfl) ?_
   refine Par.v0 1 5 ?_
   refine Par.v0 2 4 ?_
   refine lE 3 3 1 (fun _ hX => BlkJ.rz ((hE.trans hX).at_ hpj) hJ.out.x.elt.six hJ.out.y.elt.six) hJ.out.z ?_
   refine Par.v0 4 2 ?_
   refine Par.c0 5 1 (fun f => #[f 0, f 2, f 3]) (F' := 108) (fun f X hX hR => ?_) ?_
   · have e0 : f 0 = _ := hR.out 0 rfl
     obtain ⟨o2, (e2 : f 2 = _), h2⟩ := hR.out 2 rfl
     have e3 : f 3 = _ := hR.out 3 rfl
     simp only [e0, e2, e3]
     refine (zexp_any X (hn.out.ext hP0' (hE.trans hX)).fr hn.out.fr.fone z (M - 2) h2 _ A9 c9 _ (hL.below hX (Nat.le_refl _)).rn (fun b hb => hb.2) (val_digs (by omega) _)).mono ?_
     rw [E_u1.out]
     rintro e w2 ⟨o, rfl, ho, hB⟩
     exact ⟨(EV o), rfl, hB, fun Y hY => ⟨o, rfl, ho⟩⟩
   refine Par.al 6 0 ?_
   refine Par.AllOps.fin ⟨fun f X hX hR hal hap => ?_⟩
   obtain ⟨o2, (e2 : f 2 = _), h2⟩ := hR 2 (by decide)
   obtain ⟨o4, (e4 : f 4 = _), h4⟩ := hR 4 (by decide)
   obtain ⟨br5_5, (e5 : f 5 = _), lr5_5, hr5_5⟩ := hR 5 (by decide)
   simp only [yA, yB, yD, yE, e2, e4, e5]
   clear hR hal hap e2 e4 e5
   refine Par.Chain.next (fun K hK => ⟨Par.want (by kernel_rfl) (wp_storeE (.tmp 8) (.tmp 31) rfl rfl rfl rfl (hr5_5) zero6 h4.elt.six (fun Y2_6 hl2_6 => hK.out _ _ ?_))⟩)
   refine Par.Chain.done ?_
   have vbr5_5 : VE Y2_6 M n br5_5 u1 := (hl2_6.mk' h4)
   have lb_vbr5_5 := Nat.le_trans hE.bsize lr5_5
   have hE' : Ext W0 Y2_6 := (hl2_6.ext (hE.trans hX) (Nat.le_trans hE.bsize lr5_5))
   clear hE hX hl2_6 h2 h4 
   have hE := hE'
   clear hE'
   go_upto_region 6 with fail
   refine Par.region_txt 5 [0, 0, 0, 7, 0, 31] [4] (fun j f X => match j with
    | 0 => f 0 = .pointer (some ⟨g, 0, none⟩)
    | 1 => ∃ o, f 1 = EV o ∧ FE M n o u1
    | 2 => ∃ o, f 2 = EV o ∧ FE M n o u1
    | 3 => ∃ o, f 3 = EV o ∧ FE M n o u2
    | 4 => ∃ b, f 4 = .pointer (some ⟨b, 0, none⟩) ∧ Y2_6.heap.size ≤ b ∧ X.heap[b]? = some (.cells #[.int .u64 0, .int .u64 0, .int .u64 0, .int .u64 0, .int .u64 0, .int .u64 0] 109 (0, 0))
    | _ => True) (by kernel_rfl) [(32, 0), (33, 1), (34, 2), (35, 3), (9, 4)] (by kernel_rfl) ?_
   refine Par.v0 1 4 ?_
   refine lX 2 3 (fun X hX => let ⟨o, hbl, ho⟩ := vbr5_5.ext hX; ⟨o, hbl.range, ho⟩) ?_
   refine lX 3 2 (fun X hX => let ⟨o, hbl, ho⟩ := vbr5_5.ext hX; ⟨o, hbl.range, ho⟩) ?_
   refine fc 4 1 0 1 2 (fun X hX _ _ h h' => fm_any X (hn.out.ext hP0' (hE.trans hX)).fr.ff h h') E_u2.out ?_
   refine Par.al 5 0 ?_
   refine Par.AllOps.fin ⟨fun f X hX hR hal hap => ?_⟩
   obtain ⟨o1, (e1 : f 1 = _), h1⟩ := hR 1 (by decide)
   obtain ⟨o2, (e2 : f 2 = _), h2⟩ := hR 2 (by decide)
   obtain ⟨o3, (e3 : f 3 = _), h3⟩ := hR 3 (by decide)
   obtain ⟨br6_4, (e4 : f 4 = _), lr6_4, hr6_4⟩ := hR 4 (by decide)
   simp only [yA, yB, yD, yE, e1, e2, e3, e4]
   clear hR hal hap e1 e2 e3 e4
   refine Par.Chain.next (fun K hK => ⟨Par.want (by kernel_rfl) (wp_storeE (.tmp 9) (.tmp 35) rfl rfl rfl rfl (hr6_4) zero6 h3.elt.six (fun Y3_5 hl3_5 => hK.out _ _ ?_))⟩)
   refine Par.Chain.done ?_
   have d_br5_5_br6_4 : br5_5 ≠ br6_4 := by have := (let ⟨_, h, _⟩ := vbr5_5; h.lt : br5_5 < Y2_6.heap.size); omega
   replace vbr5_5 := (hl3_5.ve d_br5_5_br6_4 (vbr5_5.ext hX))
   have vbr6_4 : VE Y3_5 M n br6_4 u2 := (hl3_5.mk' h3)
   have lb_vbr6_4 := Nat.le_trans hE.bsize lr6_4
   have hE' : Ext W0 Y3_5 := (hl3_5.ext (hE.trans hX) (Nat.le_trans hE.bsize lr6_4))
   clear hE hX hl3_5 h1 h2 h3
   have hE := hE'
   clear hE'
   have hb1 := hE.at_ hrb
   go_upto_region 7 with fail
   refine Par.region_ext (by kernel_rfl) 18 [0, 0, 0, 4, 0, 30, 63, 0, 0, 0, 512, 0, 0, 0, 14463, 32639, 65535, 131071, 262143] [] (fun j f X => match j with
    | 0 => f 0 = .pointer (some ⟨g, 0, none⟩)
    | 1 => f 1 = .pointer (some ⟨g, 0, none⟩)
    | 2 => f 2 = .pointer (some ⟨q, 0, none⟩)
    | 3 => ∃ o, f 3 = EV o ∧ FE M n o x
    | 4 => ∃ o, f 4 = EV o ∧ FE M n o u2
    | 5 => ∃ o, f 5 = EV o ∧ FE M n o u3
    | 6 => ∃ A1 c1, f 6 = .slice A1 (digs 18446744073709551616 (u3 % M)).length c1 ∧ OB X q A1 c1 (digs 18446744073709551616 (u3 % M))
    | 7 => f 7 = .pointer (some ⟨g, 0, none⟩)
    | 8 => f 8 = .pointer (some ⟨g, 0, none⟩)
    | 9 => f 9 = .pointer (some ⟨q, 6, none⟩)
    | 10 => ∃ o, f 10 = EV o ∧ FE M n o y
    | 11 => f 11 = .pointer (some ⟨g, 0, none⟩)
    | 12 => ∃ o, f 12 = EV o ∧ FE M n o u2
    | 13 => ∃ o, f 13 = EV o ∧ FE M n o u1
    | 14 => ∃ o, f 14 = EV o ∧ FE M n o u4
    | 15 => ∃ o, f 15 = EV o ∧ FE M n o u5
    | 16 => ∃ A1 c1, f 16 = .slice A1 (digs 18446744073709551616 (u5 % M)).length c1 ∧ OB X q A1 c1 (digs 18446744073709551616 (u5 % M))
    | 17 => ∃ A1 c1 A2 c2, f 17 = .agg #[.bool false, .slice A1 (digs 18446744073709551616 (u3 % M)).length c1, .slice A2 (digs 18446744073709551616 (u5 % M)).length c2] ∧ OB X q A1 c1 (digs 18446744073709551616 (u3 % M)) ∧ OB X q A2 c2 (digs 18446744073709551616 (u5 % M))
    | _ => True) (by kernel_rfl) [(36, 0), (37, 1), (38, 2), (39, 3), (40, 4), (41, 5), (42, 6), (43, 7), (44, 8), (45, 9), (46, 10), (47, 11), (48, 12), (49, 13), (50, 14), (51, 15), (52, 16), (53, 17)] (by kernel_rfl) ?_
   refine Par.v0 1 17 ?_
   refine Par.v0 2 16 ?_
   refine Par.v0 3 15 ?_
   refine lE 4 14 2 (fun _ hX => BlkJ.rx ((hE.trans hX).at_ hpj)) hJ.out.x ?_
   refine lX 5 13 (fun X hX => let ⟨o, hbl, ho⟩ := vbr6_4.ext hX; ⟨o, hbl.range, ho⟩) ?_
   refine fc 6 12 1 3 4 (fun X hX _ _ h h' => fm_any X (hn.out.ext hP0' (hE.trans hX)).fr.ff h h') E_u3.out ?_
   refine Par.c0 7 11 (fun f => #[f 0, f 5]) (F' := 109) (fun f X hX hR => ?_) ?_
   · have e0 : f 0 = _ := hR.out 0 rfl
     obtain ⟨o5, (e5 : f 5 = _), h5⟩ := hR.out 5 rfl
     simp only [e0, e5]
     refine (from_f X (hn.out.ext hP0' (hE.trans hX)).fr h5).mono ?_
     rintro e w2 ⟨A1, c1, rfl, hO, hB⟩
     exact ⟨_, rfl, hB, fun Y hY => ⟨A1, c1, rfl, (hO.mono (Nat.le_trans Hqs.out (hE.trans hX).bsize)).below hY (Nat.le_refl _)⟩⟩
   refine Par.v0 8 10 ?_
   refine Par.v0 9 9 ?_
   refine Par.v0 10 8 ?_
   refine lE 11 7 9 (fun _ hX => BlkJ.ry ((hE.trans hX).at_ hpj) hJ.out.x.elt.six) hJ.out.y ?_
   refine Par.v0 12 6 ?_
   refine lX 13 5 (fun X hX => let ⟨o, hbl, ho⟩ := vbr6_4.ext hX; ⟨o, hbl.range, ho⟩) ?_
   refine lX 14 4 (fun X hX => let ⟨o, hbl, ho⟩ := vbr5_5.ext hX; ⟨o, hbl.range, ho⟩) ?_
   refine fc 15 3 11 12 13 (fun X hX _ _ h h' => fm_any X (hn.out.ext hP0' (hE.trans hX)).fr.ff h h') E_u4.out ?_
   refine fc 16 2 8 10 14 (fun X hX _ _ h h' => fm_any X (hn.out.ext hP0' (hE.trans hX)).fr.ff h h') E_u5.out ?_
   refine Par.c0 17 1 (fun f => #[f 7, f 15]) (F' := 109) (fun f X hX hR => ?_) ?_
   · have e7 : f 7 = _ := hR.out 7 rfl
     obtain ⟨o15, (e15 : f 15 = _), h15⟩ := hR.out 15 rfl
     simp only [e7, e15]
     refine (from_f X (hn.out.ext hP0' (hE.trans hX)).fr h15).mono ?_
     rintro e w2 ⟨A1, c1, rfl, hO, hB⟩
     exact ⟨_, rfl, hB, fun Y hY => ⟨A1, c1, rfl, (hO.mono (Nat.le_trans Hqs.out (hE.trans hX).bsize)).below hY (Nat.le_refl _)⟩⟩
   refine Par.S 18 0 [(36, 0), (37, 1), (38, 2), (39, 3), (40, 4), (41, 5), (42, 6), (43, 7), (44, 8), (45, 9), (46, 10), (47, 11), (48, 12), (49, 13), (50, 14), (51, 15), (52, 16)] (fun f X hX hR K hK => ?_) ?_
   · obtain ⟨A6, c6, (e6 : f 6 = _), o6⟩ := hR.out 6 rfl
     obtain ⟨A16, c16, (e16 : f 16 = _), o16⟩ := hR.out 16 rfl
     simp only [yA, yB, yC, yD, yE, e6, e16]
     refine ⟨?_⟩
     go_simp
     exact hK.out _ _ _ (by simp only [yA, yB, yC, yD, yE, e6, e16]) (Ext.refl _) trivial (fun Y hY => ⟨A6, c6, A16, c16, rfl, o6.below hY (Nat.le_refl _), o16.below hY (Nat.le_refl _)⟩)
   refine Par.AllOps.fin ⟨fun f X hX hR hal hap => ?_⟩
   obtain ⟨o3, (e3 : f 3 = _), h3⟩ := hR 3 (by decide)
   obtain ⟨o4, (e4 : f 4 = _), h4⟩ := hR 4 (by decide)
   obtain ⟨o5, (e5 : f 5 = _), h5⟩ := hR 5 (by decide)
   obtain ⟨A6, c6, (e6 : f 6 = _), o6⟩ := hR 6 (by decide)
   obtain ⟨o10, (e10 : f 10 = _), h10⟩ := hR 10 (by decide)
   obtain ⟨o12, (e12 : f 12 = _), h12⟩ := hR 12 (by decide)
   obtain ⟨o13, (e13 : f 13 = _), h13⟩ := hR 13 (by decide)
   obtain ⟨o14, (e14 : f 14 = _), h14⟩ := hR 14 (by decide)
   obtain ⟨o15, (e15 : f 15 = _), h15⟩ := hR 15 (by decide)
   obtain ⟨A16, c16, (e16 : f 16 = _), o16⟩ := hR 16 (by decide)
   obtain ⟨A17, c17, B17, d17, (e17 : f 17 = _), o17, p17⟩ := hR 17 (by decide)
   simp only [yA, yB, yD, yE, e3, e4, e5, e6, e10, e12, e13, e14, e15, e16, e17]
   clear hR hal hap e3 e4 e5 e6 e10 e12 e13 e14 e15 e16 e17
   refine Par.Chain.next (fun K hK => ⟨Par.want (by kernel_rfl) (wp_storeV (cs' := #[.bool false, .slice A17 (digs 18446744073709551616 (u3 % M)).length c17, .slice B17 (digs 18446744073709551616 (u5 % M)).length d17]) (t := 33) 33 (.tmp 4) (.tmp 53) rfl rfl rfl rfl (hX.at_ hb1) infoP rfl (pt_one _ _ _ _ _ _ _) (fun Y hY1 hY2 hY3 => hK.out _ _ ?_))⟩)
   refine Par.Chain.done ?_
   go_wp2
   exact end_p rfl rfl rfl hY1 ⟨_, rfl, ⟨A17, c17, B17, d17, rfl, o17.just hY2 (hX.at_ hb1) (by decide), p17.just hY2 (hX.at_ hb1) (by decide)⟩, hY2.ext (HE0.out.trans (hE.trans hX)) (by have := Hq.out; omega)⟩
end Go.Proofs.YtaemogcomplhiaaGreatDoor

namespace Go.Proofs.YtaemogcomplhiaaGreatDoor
open Go.RowKit

def APt (w : World) (v : Value) (inf : Bool) (x y : Nat) : Prop := ∃ (A A' : Option Addr) (c c' : Nat) (a b : List Nat), v = .agg #[.bool inf, .slice A a.length c, .slice A' b.length c'] ∧ RU w A c a ∧ RU w A' c' b ∧ val 18446744073709551616 a = x ∧ val 18446744073709551616 b = y
theorem APt.ext {w X : World} {v : Value} {inf : Bool} {x y : Nat} (h : APt w v inf x y) (hE : Ext w X) : APt X v inf x y := by
 obtain ⟨A, A', c, c', a, b, rfl, ha, hb, hx, hy⟩ := h
 exact ⟨A, A', c, c', a, b, rfl, RN.up ha hE, RN.up hb hE, hx, hy⟩
theorem APt.inf_ (w : World) : APt w infV true 0 0 := ⟨none, none, 0, 0, [], [], rfl, RN.nil_ _ _, RN.nil_ _ _, rfl, rfl⟩
theorem PtV.pt {w : World} {base : Nat} {v : Value} {o : Option (Nat × Nat)} (h : PtV w base v o) : APt w v o.isNone (o.elim 0 (·.1)) (o.elim 0 (·.2)) := by
  cases o with
  | none => cases h; exact APt.inf_ w
  | some p =>
    obtain ⟨A, c, A', c', rfl, h1, h2⟩ := h
    exact ⟨A, A', c, c', _, _, rfl, h1.ru, h2.ru, val_digs (by omega) _, val_digs (by omega) _⟩
theorem PtV.ext {w X : World} {base : Nat} {v : Value} {o : Option (Nat × Nat)} (h : PtV w base v o) (hE : Ext w X) : PtV X base v o := by
  cases o with
  | none => exact h
  | some p =>
    obtain ⟨A, c, A', c', rfl, h1, h2⟩ := h
    exact ⟨A, c, A', c', rfl, h1.below hE (Nat.le_refl _), h2.below hE (Nat.le_refl _)⟩
theorem PtV.mono {w : World} {base base' : Nat} {v : Value} {o : Option (Nat × Nat)} (h : PtV w base v o) (hb : base' ≤ base) : PtV w base' v o := by
  cases o with
  | none => exact h
  | some p =>
    obtain ⟨A, c, A', c', rfl, h1, h2⟩ := h
    exact ⟨A, c, A', c', rfl, h1.mono hb, h2.mono hb⟩
def JAt (C : Crv) (v : Value) (p : Nat × Nat × Nat) : Prop := ∃ lx ly lz, v = JV lx ly lz ∧ FJ C.M C.n lx ly lz p.1 p.2.1 p.2.2
def upP (inf : Bool) (x y : Nat) : Nat × Nat × Nat := if inf then (1, 1, 0) else (x, y, 1)
def addT (M : Nat) (p q : Nat × Nat × Nat) : Nat × Nat × Nat := addP M p.1 p.2.1 p.2.2 q.1 q.2.1 q.2.2
def dblT (M : Nat) (p : Nat × Nat × Nat) : Nat × Nat × Nat := dblP M p.1 p.2.1 p.2.2
def downT (M : Nat) (p : Nat × Nat × Nat) : Option (Nat × Nat) := downP M p.1 p.2.1 p.2.2
def onQ (C : Crv) (inf : Bool) (x y : Nat) : Bool := inf || onB C.M C.bb x y
theorem onB_lt {M bb x y : Nat} (h : onB M bb x y = true) : x < M ∧ y < M := by
 simp only [onB, Bool.and_eq_true, decide_eq_true_eq] at h
 exact h.1
theorem onQ_lt {C : Crv} {inf : Bool} {x y : Nat} (h : onQ C inf x y = true) (hi : inf = false) : x < C.M ∧ y < C.M := by
 subst hi
 exact onB_lt h
section
variable {C : Crv} {w : World} {k : Nat} {v u : Value}
theorem on_j (h : OfC C w k) (hC : C.Fine) {inf : Bool} {x y : Nat} (hv : APt w v inf x y) : Calls Tryz.prog 72 #[.pointer (some ⟨k, 0, none⟩), v] w fun e w' => e = .returned (.bool (onQ C inf x y)) ∧ Ext w w' := by
 obtain ⟨A, A', c, c', a, b, rfl, ha, hb, rfl, rfl⟩ := hv
 exact on_c h hC _ _ A A' c c' a b inf ha hb (fun _ h => h) (fun _ h => h)
theorem up_j (h : OfC C w k) {inf : Bool} {x y : Nat} (hv : APt w v inf x y) (ho : onQ C inf x y = true) : Calls Tryz.prog 74 #[.pointer (some ⟨k, 0, none⟩), v] w fun e w' => ∃ o, e = .returned o ∧ JAt C o (upP inf x y) ∧ Ext w w' := by
 obtain ⟨A, A', c, c', a, b, rfl, ha, hb, rfl, rfl⟩ := hv
 obtain ⟨P0, g, inv, ml, ol, rl, tl, fl, Ap, An, Ab, Ax, Ay, cp, cn, cb, cx, cy, hn, hP⟩ := h
 refine (up_any _ _ A A' c c' a b inf w hn hP ha hb (fun _ h => h) (fun _ h => h) (fun hi => (onQ_lt ho hi).1) (fun hi => (onQ_lt ho hi).2)).mono ?_
 rintro e w' ⟨ox, oy, oz, rfl, hf, hE⟩
 refine ⟨_, rfl, ⟨ox, oy, oz, rfl, ?_⟩, hE⟩
 cases inf <;> exact hf
theorem double_j (h : OfC C w k) {p : Nat × Nat × Nat} (hv : JAt C v p) : Calls Tryz.prog 77 #[.pointer (some ⟨k, 0, none⟩), v] w fun e w' => ∃ o, e = .returned o ∧ JAt C o (dblT C.M p) ∧ Ext w w' := by
 obtain ⟨lx, ly, lz, rfl, hf⟩ := hv
 obtain ⟨P0, g, inv, ml, ol, rl, tl, fl, Ap, An, Ab, Ax, Ay, cp, cn, cb, cx, cy, hn, hP⟩ := h
 refine (double_any w hn hP hf).mono ?_
 rintro e w' ⟨ox, oy, oz, rfl, hf', hE⟩
 exact ⟨_, rfl, ⟨ox, oy, oz, rfl, hf'⟩, hE⟩
theorem add_j (h : OfC C w k) {p q : Nat × Nat × Nat} (hv : JAt C v p) (hu : JAt C u q) : Calls Tryz.prog 75 #[.pointer (some ⟨k, 0, none⟩), v, u] w fun e w' => ∃ o, e = .returned o ∧ JAt C o (addT C.M p q) ∧ Ext w w' := by
 obtain ⟨lx, ly, lz, rfl, hf⟩ := hv
 obtain ⟨mx, my, mz, rfl, hg⟩ := hu
 obtain ⟨P0, g, inv, ml, ol, rl, tl, fl, Ap, An, Ab, Ax, Ay, cp, cn, cb, cx, cy, hn, hP⟩ := h
 refine (jadd_any w hn hP hf hg).mono ?_
 rintro e w' ⟨ox, oy, oz, rfl, hf', hE⟩
 exact ⟨_, rfl, ⟨ox, oy, oz, rfl, hf'⟩, hE⟩
theorem down_j (h : OfC C w k) {p : Nat × Nat × Nat} (hpl : C.pl.length < 100000) (hv : JAt C v p) : Calls Tryz.prog 78 #[.pointer (some ⟨k, 0, none⟩), v] w fun e w' => ∃ o, e = .returned o ∧ PtV w' w.heap.size o (downT C.M p) ∧ Ext w w' := by
 obtain ⟨lx, ly, lz, rfl, hf⟩ := hv
 obtain ⟨P0, g, inv, ml, ol, rl, tl, fl, Ap, An, Ab, Ax, Ay, cp, cn, cb, cx, cy, hn, hP⟩ := h
 exact down_any w hn hP hpl hf
end
theorem IsC.plen {c : Int} {C : Crv} (h : IsC c C) : C.pl.length < 100000 := by
 rcases h with ⟨_, rfl⟩ | ⟨_, rfl⟩ <;> decide
end Go.Proofs.YtaemogcomplhiaaGreatDoor

namespace Go.Proofs.YtaemogcomplhiaaGreatDoor
open Go.RowKit

def RPv (w : World) (v : Value) (bi : Bool) (x y : Nat) : Prop := ∃ (A A' : Option Addr) (c c' : Nat), v = .agg #[.bool bi, .slice A (digs 4294967296 x).length c, .slice A' (digs 4294967296 y).length c'] ∧ RU w A c (digs 4294967296 x) ∧ RU w A' c' (digs 4294967296 y)
theorem RPv.ext {w X : World} {v : Value} {bi : Bool} {x y : Nat} (h : RPv w v bi x y) (hE : Ext w X) : RPv X v bi x y := by
 obtain ⟨A, A', c, c', rfl, h1, h2⟩ := h
 exact ⟨A, A', c, c', rfl, RN.up h1 hE, RN.up h2 hE⟩
theorem RPv.inf_ (w : World) : RPv w infV true 0 0 := ⟨none, none, 0, 0, by rw [digs_zero]; rfl, RN.nil0 _, RN.nil0 _⟩
theorem RPU.pv {w : World} {v : Value} {o : Option (Nat × Nat)} (h : RPU w v o) : RPv w v o.isNone (o.elim 0 (·.1)) (o.elim 0 (·.2)) := by
 cases o with
 | none => cases h; exact RPv.inf_ w
 | some p =>
  obtain ⟨A, c, A', c', rfl, h1, h2⟩ := h
  exact ⟨A, A', c, c', rfl, h1, h2⟩
def APn (w : World) (v : Value) (bi : Bool) (a b : List Nat) : Prop := ∃ (A A' : Option Addr) (c c' : Nat), v = .agg #[.bool bi, .slice A a.length c, .slice A' b.length c'] ∧ RU w A c a ∧ RU w A' c' b
theorem APn.ext {w X : World} {v : Value} {bi : Bool} {a b : List Nat} (h : APn w v bi a b) (hE : Ext w X) : APn X v bi a b := by
 obtain ⟨A, A', c, c', rfl, h1, h2⟩ := h
 exact ⟨A, A', c, c', rfl, RN.up h1 hE, RN.up h2 hE⟩
theorem APn.pt {w : World} {v : Value} {bi : Bool} {a b : List Nat} (h : APn w v bi a b) : APt w v bi (val 18446744073709551616 a) (val 18446744073709551616 b) := by
 obtain ⟨A, A', c, c', rfl, h1, h2⟩ := h
 exact ⟨A, A', c, c', a, b, rfl, h1, h2, rfl, rfl⟩
set_option maxRecDepth 100000 in
set_option maxHeartbeats 4000000 in
theorem rbase_n {C : Crv} {v : Value} (w : World) (hc : RC w C v) : Calls Tryz.prog 17 #[v] w fun e w' => ∃ o, e = .returned o ∧ RPv w' o false (val 18446744073709551616 C.xl) (val 18446744073709551616 C.yl) ∧ Ext w w' := by
 obtain ⟨Ap, An, Ab, Ax, Ay, cp, cn, cb, cx, cy, rfl, hP, hN, hB, hX1, hY1⟩ := hc
 obtain ⟨W0, hW0⟩ : ∃ W0, W0 = (w.alloc (.cells #[.slice Ap (digs 4294967296 C.M).length cp, .slice An (digs 4294967296 (val 18446744073709551616 C.nl)).length cn, .slice Ab (digs 4294967296 C.bb).length cb, .slice Ax (digs 4294967296 (val 18446744073709551616 C.xl)).length cx, .slice Ay (digs 4294967296 (val 18446744073709551616 C.yl)).length cy, .int .i64 (C.size : Int)] 30)).alloc (.cells #[.bool false, .slice none 0 0, .slice none 0 0] 45) := ⟨_, rfl⟩
 obtain ⟨q, hq⟩ : ∃ q, w.heap.size = q := ⟨_, rfl⟩
 have hE0 : Ext w W0 := by rw [hW0]; exact (Ext.alloc _ _).trans (Ext.alloc _ _)
 obtain ⟨hcb, hrb, hz0⟩ := two_at2 w (.cells #[.slice Ap (digs 4294967296 C.M).length cp, .slice An (digs 4294967296 (val 18446744073709551616 C.nl)).length cn, .slice Ab (digs 4294967296 C.bb).length cb, .slice Ax (digs 4294967296 (val 18446744073709551616 C.xl)).length cx, .slice Ay (digs 4294967296 (val 18446744073709551616 C.yl)).length cy, .int .i64 (C.size : Int)] 30) (.cells #[.bool false, .slice none 0 0, .slice none 0 0] 45)
 rw [← hW0, hq] at hcb hrb hz0
 have c3 := blk_cell hcb 3
 have c4 := blk_cell hcb 4
 simp only [List.getElem?_toArray, List.getElem?_cons_zero, List.getElem?_cons_succ] at c3 c4
 have HX := Lib.hid (RN.up hX1 hE0)
 have HY := Lib.hid (RN.up hY1 hE0)
 have HE0 := Lib.hid hE0
 clear hP hN hB hX1 hY1 hE0 hz0 hcb
 go_enter Tryz.func17, Tryz.ntmps17
 go_upto_region 1 with fail
 rw [← hW0]
 have Hq := Lib.hid hq
 clear hW0 hq
 refine Par.region_txt 5 [0, 1, 0, 4, 15, 31] [] (fun j f X => match j with
  | 0 => f 0 = .pointer (some ⟨q, 3, none⟩)
  | 1 => f 1 = .slice Ax (digs 4294967296 (val 18446744073709551616 C.xl)).length cx
  | 2 => f 2 = .pointer (some ⟨q, 4, none⟩)
  | 3 => f 3 = .slice Ay (digs 4294967296 (val 18446744073709551616 C.yl)).length cy
  | 4 => f 4 = .agg #[.bool false, .slice Ax (digs 4294967296 (val 18446744073709551616 C.xl)).length cx, .slice Ay (digs 4294967296 (val 18446744073709551616 C.yl)).length cy]
  | _ => True) (by kernel_rfl) [(3, 0), (4, 1), (5, 2), (6, 3), (7, 4)] (by kernel_rfl) ?_
 refine Par.v0 1 4 ?_
 refine Par.ld1 2 3 0 c3 ?_
 refine Par.v0 3 2 ?_
 refine Par.ld1 4 1 2 c4 ?_
 refine Par.v2 5 0 1 3 ?_
 refine Par.AllOps.fin ⟨fun f X hX hR hal hap => ?_⟩
 have e4 : f 4 = _ := hR 4 (by decide)
 simp only [yA, yB, yD, yE, e4]
 clear hR hal hap e4
 refine Par.Chain.next (fun K hK => ⟨Par.want (by kernel_rfl) (wp_storeV (cs' := #[.bool false, .slice Ax (digs 4294967296 (val 18446744073709551616 C.xl)).length cx, .slice Ay (digs 4294967296 (val 18446744073709551616 C.yl)).length cy]) (t := 45) 45 (.tmp 2) (.tmp 7) rfl rfl rfl rfl (hX.at_ hrb) infoRP rfl (pt_one _ _ _ _ _ _ _) (fun Y hY1 hY2 hY3 => hK.out _ _ ?_))⟩)
 refine Par.Chain.done ?_
 go_wp2
 exact end_rpt rfl rfl rfl hY1 ⟨_, rfl, ⟨_, _, _, _, rfl, (RN.up HX.out hX).offJ hY2 (hX.at_ hrb) (by kernel_rfl), (RN.up HY.out hX).offJ hY2 (hX.at_ hrb) (by kernel_rfl)⟩, hY2.ext (HE0.out.trans hX) (by have := Hq.out; omega)⟩
end Go.Proofs.YtaemogcomplhiaaGreatDoor

namespace Go.Proofs.YtaemogcomplhiaaGreatDoor
open Go.RowKit

def IsU (c : Int) (C : Crv) : Prop := IsC c C ∨ (c ≠ 1 ∧ c ≠ 2 ∧ C = c0)
theorem isU (c : Int) : ∃ C, IsU c C := by
 by_cases h1 : c = 1
 · exact ⟨c256, Or.inl (Or.inl ⟨h1, rfl⟩)⟩
 · by_cases h2 : c = 2
   · exact ⟨c384, Or.inl (Or.inr ⟨h2, rfl⟩)⟩
   · exact ⟨c0, Or.inr ⟨h1, h2, rfl⟩⟩
structure Crv.Norm (C : Crv) : Prop where
 p : digs 18446744073709551616 C.M = C.pl
 n : digs 18446744073709551616 (val 18446744073709551616 C.nl) = C.nl
 x : digs 18446744073709551616 (val 18446744073709551616 C.xl) = C.xl
 y : digs 18446744073709551616 (val 18446744073709551616 C.yl) = C.yl
def Crv.inf (C : Crv) : Bool := C.size == 0
theorem IsC.inf {c : Int} {C : Crv} (h : IsC c C) : C.inf = false := by
 rcases h with ⟨_, rfl⟩ | ⟨_, rfl⟩ <;> rfl
theorem refOf_u {c : Int} {C : Crv} (h : IsU c C) (w : World) : Calls Tryz.prog 9 #[.int .i64 c] w fun e w' => ∃ v, e = .returned v ∧ RC w' C v ∧ Ext w w' := by
 rcases h with h | ⟨h1, h2, rfl⟩
 · exact refOf_c h w
 · exact refOf_none h1 h2 w
theorem order_u {c : Int} {C : Crv} (h : IsU c C) (w : World) : Calls Tryz.prog 66 #[.int .i64 c] w fun e w' => ∃ A cc, e = .returned (.slice A C.nl.length cc) ∧ RU w' A cc C.nl ∧ Ext w w' := by
 rcases h with h | ⟨h1, h2, rfl⟩
 · exact order_c h w
 · exact (order_nil h1 h2 w).mono fun e w' ⟨h, hE⟩ => ⟨none, 0, h, RN.nil_ _ _, hE⟩
theorem size_u {c : Int} {C : Crv} (h : IsU c C) (w : World) : Calls Tryz.prog 29 #[.int .i64 c] w fun e w' => e = .returned (.int .i64 (C.size : Int)) ∧ Ext w w' := by
 rcases h with h | ⟨h1, h2, rfl⟩
 · exact size_c h w
 · exact size_nil h1 h2 w
end Go.Proofs.YtaemogcomplhiaaGreatDoor

namespace Go.Proofs.YtaemogcomplhiaaGreatDoor
open Go.RowKit

def z85 : Array Value := Array.replicate 288 (.int .u64 0)
theorem info85s : (Tryz.prog.info? 125).map (·.size) = some 288 := by kernel_rfl
theorem z85_size : z85.size = 288 := by kernel_rfl
def JRow (C : Crv) (X : World) (b i : Nat) (p : Nat × Nat × Nat) : Prop := ∃ x y z, X.rangeAt b (18 * i) (nts (x ++ y ++ z)) ∧ FJ C.M C.n x y z p.1 p.2.1 p.2.2
structure TabAt (C : Crv) (X : World) (b : Nat) (t : Nat → Nat × Nat × Nat) (n : Nat) : Prop where
 blk : ∃ cs : Array Value, X.heap[b]? = some (.cells cs 125 (0, 0)) ∧ cs.size = 288
 row : ∀ i, i < n → JRow C X b i (t i)
section
variable {C : Crv} {X Y : World} {b n : Nat} {t : Nat → Nat × Nat × Nat}
theorem TabAt.lt (h : TabAt C X b t n) : b < X.heap.size := by
 obtain ⟨cs, hb, _⟩ := h.blk
 exact blk_lt hb
theorem TabAt.same (h : TabAt C X b t n) (hb : Y.heap[b]? = X.heap[b]?) : TabAt C Y b t n := by
 obtain ⟨cs, h1, h2⟩ := h.blk
 refine ⟨⟨cs, hb.trans h1, h2⟩, fun i hi => ?_⟩
 obtain ⟨x, y, z, hr, hf⟩ := h.row i hi
 exact ⟨x, y, z, fun j v hv => (World.cell?_of_block hb).trans (hr j v hv), hf⟩
theorem TabAt.ext (h : TabAt C X b t n) (hE : Ext X Y) : TabAt C Y b t n := h.same (Below.block hE b h.lt)
theorem TabAt.just {g : Nat} (h : TabAt C X b t n) (hj : Just g X Y) (hg : b ≠ g) : TabAt C Y b t n := h.same (hj.block b h.lt hg)
theorem len18 {x y z : List Nat} {M m : Nat} {p : Nat × Nat × Nat} (h : FJ M m x y z p.1 p.2.1 p.2.2) : (nts (x ++ y ++ z)).length = 18 := by
 rw [nts_length, List.length_append, List.length_append, h.x.elt.six, h.y.elt.six, h.z.elt.six]
theorem wp_loadT {op : Oper} {a : Act} {K : Act → World → Prop} {Q : Exit → Act → World → Prop} (x : Operand) (ho : op.op = .load 123 x) {i : Nat} (h : TabAt C X b t n) (hi : i < n) {o : Nat} (hoi : 18 * i = o) (hx : a.eval x = .pointer (some ⟨b, o, none⟩)) (hK : ∀ v, JAt C v (t i) → K (a.put op.dst v) X) : op.wp Tryz.prog a X K Q := by
 obtain ⟨lx, ly, lz, hr, hf⟩ := h.row i hi
 subst hoi
 exact wp_load_mid 123 x ho b (18 * i) hx _ _ hr Tryz.underlying123 rfl (by rw [len18 hf]; exact infoJ) (hK _ ⟨lx, ly, lz, rfl, hf⟩)
theorem set_blk {T : TypeId} (b : Nat) : ∀ (vs : List Value) (o : Nat) (X : World) (cs : Array Value), X.heap[b]? = some (.cells cs T (0, 0)) → ∃ ds : Array Value, (X.setCells b o vs).heap[b]? = some (.cells ds T (0, 0)) ∧ ds.size = cs.size
  | [], _, X, cs, h => ⟨cs, h, rfl⟩
  | v :: vs, o, X, cs, h => by
    obtain ⟨ds, h1, h2⟩ := set_blk b vs (o + 1) (X.setCell ⟨b, o, none⟩ v) _ (blk_set h o v)
    exact ⟨ds, h1, by rw [h2]; simp⟩
theorem setCells_just (b : Nat) : ∀ (vs : List Value) (o : Nat) (X : World), Just b X (X.setCells b o vs) ∧ (X.setCells b o vs).heap.size = X.heap.size
  | [], _, X => ⟨Just.refl b X, rfl⟩
  | v :: vs, o, X => by
    obtain ⟨h1, h2⟩ := setCells_just b vs (o + 1) (X.setCell ⟨b, o, none⟩ v)
    exact ⟨((Just.refl b X).set o v).trans h1, h2.trans (by simp [World.setCell])⟩
theorem wp_storeT {op : Oper} {a : Act} {K : Act → World → Prop} {Q : Exit → Act → World → Prop} (x y : Operand) (ho : op.op = .store 123 x y) (hd : op.dst = none) (h : TabAt C X b t n) (hn : n < 16) {v : Value} (hv : JAt C v (t n)) {o : Nat} (hoi : 18 * n = o) (hx : a.eval x = .pointer (some ⟨b, o, none⟩)) (hy : a.eval y = v)
 (hK : ∀ Y, TabAt C Y b t (n + 1) → Just b X Y → Y.heap.size = X.heap.size → K a Y) : op.wp Tryz.prog a X K Q := by
 obtain ⟨lx, ly, lz, rfl, hf⟩ := hv
 obtain ⟨cs, hb, hs⟩ := h.blk
 subst hoi
 have hl := len18 hf
 have ht : X.there b (18 * n) (nts (lx ++ ly ++ lz)).toArray.size := fun j hj => by
  rw [List.size_toArray, hl] at hj
  refine ⟨?_, blk_free hb _⟩
  rw [blk_cell hb]
  simp [hs]
  omega
 refine wp_store_mid 123 x y ho b (18 * n) _ hx hy ht (by rw [List.size_toArray, hl]; exact infoJ) (all_one _) ?_
 rw [hd]
 obtain ⟨h1, h2⟩ := setCells_just b (nts (lx ++ ly ++ lz)) (18 * n) X
 refine hK _ ⟨?_, fun i hi => ?_⟩ h1 h2
 · obtain ⟨ds, h3, h4⟩ := set_blk b (nts (lx ++ ly ++ lz)) (18 * n) X cs hb
   exact ⟨ds, h3, h4.trans hs⟩
 · rcases Nat.lt_or_ge i n with hlt | hge
   · obtain ⟨mx, my, mz, hr, hg⟩ := h.row i hlt
     exact ⟨mx, my, mz, World.rangeAt_setCells_apart hr _ _ _ (.inr (.inl (by rw [len18 hg]; omega))), hg⟩
   · obtain rfl : i = n := by omega
     exact ⟨lx, ly, lz, World.rangeAt_setCells_same _ _ _ _ (by rwa [List.size_toArray] at ht), hf⟩
end
theorem six3 {l : List Nat} (h : l.length = 18) : ∃ a0 a1 a2 a3 a4 a5 a6 a7 a8 a9 b0 b1 b2 b3 b4 b5 b6 b7, l = [a0, a1, a2, a3, a4, a5, a6, a7, a8, a9, b0, b1, b2, b3, b4, b5, b6, b7] := by
 match l, h with
 | [a0, a1, a2, a3, a4, a5, a6, a7, a8, a9, b0, b1, b2, b3, b4, b5, b6, b7], _ => exact ⟨_, _, _, _, _, _, _, _, _, _, _, _, _, _, _, _, _, _, rfl⟩
theorem built85 {x y : List Nat} (hx : x.length = 18) (hy : y.length = 18) : Tryz.prog.built 125 [(0, .agg (nts x).toArray), (1, .agg (nts y).toArray)] = some (nts (x ++ y ++ List.replicate 252 0)).toArray := by
 obtain ⟨a0, a1, a2, a3, a4, a5, a6, a7, a8, a9, b0, b1, b2, b3, b4, b5, b6, b7, rfl⟩ := six3 hx
 obtain ⟨c0, c1, c2, c3, c4, c5, c6, c7, c8, c9, d0, d1, d2, d3, d4, d5, d6, d7, rfl⟩ := six3 hy
 kernel_rfl
theorem wp_build85 {C : Crv} {op : Oper} {a : Act} {X : World} {K : Act → World → Prop} {Q : Exit → Act → World → Prop} (p q : Operand) (ho : op.op = .build 125 #[(0, p), (1, q)]) {v u : Value} {x y : Nat × Nat × Nat} (hp : a.eval p = v) (hq : a.eval q = u) (hv : JAt C v x) (hu : JAt C u y)
 (hK : ∀ cs : Array Value, cs.size = 288 → cs.all (·.oneCell') = true → (∀ W b, W.heap[b]? = some (.cells cs 125 (0, 0)) → ∀ t : Nat → Nat × Nat × Nat, t 0 = x → t 1 = y → TabAt C W b t 2) → K (a.put op.dst (.agg cs)) X) : op.wp Tryz.prog a X K Q := by
 obtain ⟨x1, x2, x3, rfl, hf⟩ := hv
 obtain ⟨y1, y2, y3, rfl, hg⟩ := hu
 have hlx : (x1 ++ x2 ++ x3).length = 18 := by have := len18 hf; rwa [nts_length] at this
 have hly : (y1 ++ y2 ++ y3).length = 18 := by have := len18 hg; rwa [nts_length] at this
 have hb : (#[(0, p), (1, q)].map fun (i, x) => (i, a.eval x)).toList = [(0, .agg (nts (x1 ++ x2 ++ x3)).toArray), (1, .agg (nts (y1 ++ y2 ++ y3)).toArray)] := by simp [hp, hq, JV]
 have hs : (x1 ++ x2 ++ x3 ++ (y1 ++ y2 ++ y3) ++ List.replicate 252 0).length = 288 := by rw [List.length_append, List.length_append, hlx, hly, List.length_replicate]
 refine wp_build 125 #[(0, p), (1, q)] ho (by rw [hb, built85 hlx hly]; rfl) ?_
 rw [hb, built85 hlx hly, Option.getD_some]
 refine hK _ (by rw [List.size_toArray, nts_length, hs]) (all_one _) fun W b h t h0 h1 => ⟨⟨_, h, by rw [List.size_toArray, nts_length, hs]⟩, fun i hi => ?_⟩
 have key : ∀ pre l post : List Nat, x1 ++ x2 ++ x3 ++ (y1 ++ y2 ++ y3) ++ List.replicate 252 0 = pre ++ l ++ post → W.rangeAt b pre.length (nts l) := fun pre l post e j v hv => by
  rw [blk_cell h, e, List.getElem?_toArray, nts_append, nts_append, List.append_assoc, List.getElem?_append_right (by rw [nts_length]; omega), nts_length, Nat.add_sub_cancel_left, List.getElem?_append_left, hv]
  exact (List.getElem?_eq_some_iff.1 hv).1
 rcases (show i = 0 ∨ i = 1 by omega) with rfl | rfl
 · rw [h0]
   exact ⟨x1, x2, x3, by have := key [] (x1 ++ x2 ++ x3) _ (by rw [List.nil_append, List.append_assoc]); simpa using this, hf⟩
 · rw [h1]
   exact ⟨y1, y2, y3, by have := key (x1 ++ x2 ++ x3) (y1 ++ y2 ++ y3) _ rfl; rwa [hlx] at this, hg⟩
end Go.Proofs.YtaemogcomplhiaaGreatDoor

namespace Go.Proofs.YtaemogcomplhiaaGreatDoor
open Go.RowKit

def addC (C : Crv) (bi : Bool) (x y : Nat) (bj : Bool) (u v : Nat) : Option (Option (Nat × Nat)) :=
 if onQ C bi x y = true then (if onQ C bj u v = true then some (downT C.M (addT C.M (upP bi x y) (upP bj u v))) else none) else none
theorem ptv_store {X : World} {base b : Nat} {v : Value} {o : Option (Nat × Nat)} (h : PtV X base v o) : ∃ x0 x1 x2, v = .agg #[x0, x1, x2] ∧ (#[x0, x1, x2] : Array Value).all (·.oneCell') = true ∧ ∀ Y, Just b X Y → (∃ cs, X.heap[b]? = some (.cells cs 33 (0, 0))) → PtV Y base v o := by
 cases o with
 | none => cases h; exact ⟨_, _, _, rfl, pt_one _ _ _ _ _ _ _, fun _ _ _ => rfl⟩
 | some p =>
  obtain ⟨A, c, A', c', rfl, h1, h2⟩ := h
  exact ⟨_, _, _, rfl, pt_one _ _ _ _ _ _ _, fun Y hj ⟨cs, hb⟩ => ⟨A, c, A', c', rfl, h1.just hj hb (by decide), h2.just hj hb (by decide)⟩⟩
theorem apt_agg {w : World} {v : Value} {i : Bool} {x y : Nat} (h : APt w v i x y) : ∃ x1 x2, v = .agg #[.bool i, x1, x2] := by
 obtain ⟨A, A', c, c', a, b, rfl, _⟩ := h
 exact ⟨_, _, rfl⟩
theorem three_p (w : World) (o1 o2 o3 : Obj) : (((w.alloc o1).alloc o2).alloc o3).heap[w.heap.size]? = some o1 ∧ (((w.alloc o1).alloc o2).alloc o3).heap[w.heap.size + 1]? = some o2 ∧ (((w.alloc o1).alloc o2).alloc o3).heap[w.heap.size + 2]? = some o3 ∧ (((w.alloc o1).alloc o2).alloc o3).heap.size = w.heap.size + 3 := three_at w o1 o2 o3
set_option maxRecDepth 100000 in
set_option maxHeartbeats 8000000 in
theorem add_c {c : Int} {C : Crv} (hC : IsC c C) {p r : Value} {bi bj : Bool} {x y u v : Nat} (w : World) (hp : APt w p bi x y) (hr : APt w r bj u v) :
 Calls Tryz.prog 57 #[.int .i64 c, p, r] w fun e w' => ∃ o, e = .returned (.tuple #[o, .bool (addC C bi x y bj u v).isSome]) ∧ PtV w' w.heap.size o (addC C bi x y bj u v).join ∧ Ext w w' := by
 obtain ⟨p1, p2, rfl⟩ := apt_agg hp
 obtain ⟨r1, r2, rfl⟩ := apt_agg hr
 obtain ⟨W0, hW0⟩ : ∃ W0, W0 = ((w.alloc (.cells #[.bool bi, p1, p2] 33)).alloc (.cells #[.bool bj, r1, r2] 33)).alloc (.cells #[.bool false, .slice none 0 0, .slice none 0 0] 33) := ⟨_, rfl⟩
 obtain ⟨q, hq⟩ : ∃ q, w.heap.size = q := ⟨_, rfl⟩
 have hE0 : Ext w W0 := by rw [hW0]; exact ((Ext.alloc _ _).trans (Ext.alloc _ _)).trans (Ext.alloc _ _)
 obtain ⟨h1, h2, h3, hz0⟩ := three_p w (.cells #[.bool bi, p1, p2] 33) (.cells #[.bool bj, r1, r2] 33) (.cells #[.bool false, .slice none 0 0, .slice none 0 0] 33)
 rw [← hW0, hq] at h1 h2 h3 hz0
 have hp0 := Lib.hid (hp.ext hE0)
 have hr0 := Lib.hid (hr.ext hE0)
 have HE0 := Lib.hid hE0
 have Hz0 := Lib.hid hz0
 have HC := Lib.hid hC
 rw [hq]
 obtain ⟨res, hres⟩ : ∃ o, addC C bi x y bj u v = o := ⟨_, rfl⟩
 rw [hres]
 have Hres := Lib.hid hres
 clear hp hr hE0 hz0 hC hres
 go_enter Tryz.func57, Tryz.ntmps57
 go_upto_region 1 with fail
 rw [← hW0]
 have Hq := Lib.hid hq
 clear hW0 hq
 obtain ⟨o1, ho1⟩ : ∃ o, onQ C bi x y = o := ⟨_, rfl⟩
 obtain ⟨o2, ho2⟩ : ∃ o, onQ C bj u v = o := ⟨_, rfl⟩
 have Ho1 := Lib.hid ho1
 have Ho2 := Lib.hid ho2
 clear ho1 ho2
 go_upto_region 2 with (go_at_call 64; refine (of_c HC.out _).mono ?_; rintro e wa ⟨k, rfl, hk, hE1⟩)
 have HE1 := Lib.hid hE1
 replace h1 := hE1.at_ h1
 replace h2 := hE1.at_ h2
 replace h3 := hE1.at_ h3
 clear hE1
 cases o1
 case false =>
  obtain rfl : res = none := by rw [← Hres.out, addC, if_neg (by rw [Ho1.out]; decide)]
  refine Par.region_txt 10 [0, 0, 3, 7, 15, 31, 31, 127, 255, 511] [] (fun j f X => match j with
   | 0 => f 0 = .pointer (some ⟨k, 0, none⟩)
   | 1 => f 1 = .agg #[.bool bi, p1, p2]
   | 2 => f 2 = .bool false
   | 3 => f 3 = .bool true
   | 4 => f 4 = .bool true
   | 5 => f 5 = undef
   | 6 => f 6 = undef
   | 7 => f 7 = undef
   | 8 => f 8 = undef
   | 9 => f 9 = .bool true
   | _ => True) (by kernel_rfl) [(11, 0), (12, 1), (13, 2), (14, 3), (15, 4), (16, 5), (17, 6), (18, 7), (19, 8), (20, 9)] (by kernel_rfl) ?_
  refine Par.v0 1 9 ?_
  refine lV0 2 8 h1 infoP ?_
  refine Par.c0 3 7 (fun f => #[f 0, f 1]) (F' := 72) (fun f X hX hR => ?_) ?_
  · have e0 : f 0 = _ := hR.out 0 rfl
    have e1 : f 1 = _ := hR.out 1 rfl
    simp only [e0, e1]
    refine (on_j (hk.ext hX) HC.out.fine (hp0.out.ext (HE1.out.trans hX))).mono ?_
    rw [Ho1.out]
    rintro e w2 ⟨rfl, hB⟩
    exact ⟨_, rfl, hB, fun _ _ => rfl⟩
  refine Par.v1 4 6 2 ?_
  refine Par.v1 5 5 3 ?_
  refine Par.sk 6 4 4 ?_
  refine Par.sk 7 3 4 ?_
  refine Par.sk 8 2 4 ?_
  refine Par.sk 9 1 4 ?_
  refine Par.v2 10 0 4 8 ?_
  refine Par.AllOps.fin ⟨fun f X hX hR hal hap => ?_⟩
  have e9 : f 9 = _ := hR 9 (by decide)
  simp only [yA, yB, yD, yE, e9]
  clear hR hal hap e9
  refine Par.Chain.done ?_
  have hb1 := hX.at_ h3
  go_wp2_with (go_at_call 73; refine (none_any _).mono ?_; rintro e wb ⟨rfl, hE2⟩; have hrb2 := hE2.at_ hb1; obtain ⟨z0, z1, z2, f0, f1, f2⟩ := pt_facts hrb2)
  exact end_pt rfl rfl rfl rfl (pt_set hrb2 _ _ _) ⟨_, by rfl, by rfl, pt_ext (((HE0.out.trans HE1.out).trans hX).trans hE2) (by have := Hq.out; omega) _ _ _⟩
 case true =>
  cases o2
  case false =>
   obtain rfl : res = none := by rw [← Hres.out, addC, if_pos Ho1.out, if_neg (by rw [Ho2.out]; decide)]
   refine Par.region_txt 10 [0, 0, 3, 7, 15, 31, 31, 127, 255, 511] [] (fun j f X => match j with
    | 0 => f 0 = .pointer (some ⟨k, 0, none⟩)
    | 1 => f 1 = .agg #[.bool bi, p1, p2]
    | 2 => f 2 = .bool true
    | 3 => f 3 = .bool false
    | 4 => f 4 = .bool false
    | 5 => f 5 = .pointer (some ⟨k, 0, none⟩)
    | 6 => f 6 = .agg #[.bool bj, r1, r2]
    | 7 => f 7 = .bool false
    | 8 => f 8 = .bool true
    | 9 => f 9 = .bool true
    | _ => True) (by kernel_rfl) [(11, 0), (12, 1), (13, 2), (14, 3), (15, 4), (16, 5), (17, 6), (18, 7), (19, 8), (20, 9)] (by kernel_rfl) ?_
   refine Par.v0 1 9 ?_
   refine lV0 2 8 h1 infoP ?_
   refine Par.c0 3 7 (fun f => #[f 0, f 1]) (F' := 72) (fun f X hX hR => ?_) ?_
   · have e0 : f 0 = _ := hR.out 0 rfl
     have e1 : f 1 = _ := hR.out 1 rfl
     simp only [e0, e1]
     refine (on_j (hk.ext hX) HC.out.fine (hp0.out.ext (HE1.out.trans hX))).mono ?_
     rw [Ho1.out]
     rintro e w2 ⟨rfl, hB⟩
     exact ⟨_, rfl, hB, fun _ _ => rfl⟩
   refine Par.v1 4 6 2 ?_
   refine Par.v1 5 5 3 ?_
   refine Par.v1 6 4 4 ?_
   refine lV1 7 3 4 h2 infoP ?_
   refine Par.c1 8 2 4 (fun f => #[f 5, f 6]) (F' := 72) (fun f X hX hR => ?_) ?_
   · have e5 : f 5 = _ := hR.out 5 rfl
     have e6 : f 6 = _ := hR.out 6 rfl
     simp only [e5, e6]
     refine (on_j (hk.ext hX) HC.out.fine (hr0.out.ext (HE1.out.trans hX))).mono ?_
     rw [Ho2.out]
     rintro e w2 ⟨rfl, hB⟩
     exact ⟨_, rfl, hB, fun _ _ => rfl⟩
   refine Par.v2 9 1 4 7 ?_
   refine Par.v2 10 0 4 8 ?_
   refine Par.AllOps.fin ⟨fun f X hX hR hal hap => ?_⟩
   have e9 : f 9 = _ := hR 9 (by decide)
   simp only [yA, yB, yD, yE, e9]
   clear hR hal hap e9
   refine Par.Chain.done ?_
   have hb1 := hX.at_ h3
   go_wp2_with (go_at_call 73; refine (none_any _).mono ?_; rintro e wb ⟨rfl, hE2⟩; have hrb2 := hE2.at_ hb1; obtain ⟨z0, z1, z2, f0, f1, f2⟩ := pt_facts hrb2)
   exact end_pt rfl rfl rfl rfl (pt_set hrb2 _ _ _) ⟨_, by rfl, by rfl, pt_ext (((HE0.out.trans HE1.out).trans hX).trans hE2) (by have := Hq.out; omega) _ _ _⟩
  case true =>
   obtain rfl : res = some (downT C.M (addT C.M (upP bi x y) (upP bj u v))) := by rw [← Hres.out, addC, if_pos Ho1.out, if_pos Ho2.out]
   refine Par.region_txt 10 [0, 0, 3, 7, 15, 31, 31, 127, 255, 511] [] (fun j f X => match j with
    | 0 => f 0 = .pointer (some ⟨k, 0, none⟩)
    | 1 => f 1 = .agg #[.bool bi, p1, p2]
    | 2 => f 2 = .bool true
    | 3 => f 3 = .bool false
    | 4 => f 4 = .bool false
    | 5 => f 5 = .pointer (some ⟨k, 0, none⟩)
    | 6 => f 6 = .agg #[.bool bj, r1, r2]
    | 7 => f 7 = .bool true
    | 8 => f 8 = .bool false
    | 9 => f 9 = .bool false
    | _ => True) (by kernel_rfl) [(11, 0), (12, 1), (13, 2), (14, 3), (15, 4), (16, 5), (17, 6), (18, 7), (19, 8), (20, 9)] (by kernel_rfl) ?_
   refine Par.v0 1 9 ?_
   refine lV0 2 8 h1 infoP ?_
   refine Par.c0 3 7 (fun f => #[f 0, f 1]) (F' := 72) (fun f X hX hR => ?_) ?_
   · have e0 : f 0 = _ := hR.out 0 rfl
     have e1 : f 1 = _ := hR.out 1 rfl
     simp only [e0, e1]
     refine (on_j (hk.ext hX) HC.out.fine (hp0.out.ext (HE1.out.trans hX))).mono ?_
     rw [Ho1.out]
     rintro e w2 ⟨rfl, hB⟩
     exact ⟨_, rfl, hB, fun _ _ => rfl⟩
   refine Par.v1 4 6 2 ?_
   refine Par.v1 5 5 3 ?_
   refine Par.v1 6 4 4 ?_
   refine lV1 7 3 4 h2 infoP ?_
   refine Par.c1 8 2 4 (fun f => #[f 5, f 6]) (F' := 72) (fun f X hX hR => ?_) ?_
   · have e5 : f 5 = _ := hR.out 5 rfl
     have e6 : f 6 = _ := hR.out 6 rfl
     simp only [e5, e6]
     refine (on_j (hk.ext hX) HC.out.fine (hr0.out.ext (HE1.out.trans hX))).mono ?_
     rw [Ho2.out]
     rintro e w2 ⟨rfl, hB⟩
     exact ⟨_, rfl, hB, fun _ _ => rfl⟩
   refine Par.v2 9 1 4 7 ?_
   refine Par.v2 10 0 4 8 ?_
   refine Par.AllOps.fin ⟨fun f X hX hR hal hap => ?_⟩
   have e9 : f 9 = _ := hR 9 (by decide)
   simp only [yA, yB, yD, yE, e9]
   clear hR hal hap e9
   refine Par.Chain.done ?_
   have HX := Lib.hid hX
   rename World => X2
   replace h1 := HX.out.at_ h1
   replace h2 := HX.out.at_ h2
   replace h3 := HX.out.at_ h3
   have HEX := Lib.hid ((HE0.out.trans HE1.out).trans HX.out)
   clear hX
   go_upto_region 4 with fail
   refine Par.region_ext (by kernel_rfl) 10 [0, 0, 0, 0, 12, 0, 0, 124, 254, 511, 1023, 2047] [] (fun j f X => match j with
    | 0 => f 0 = .pointer (some ⟨k, 0, none⟩)
    | 1 => f 1 = .pointer (some ⟨k, 0, none⟩)
    | 2 => f 2 = .pointer (some ⟨k, 0, none⟩)
    | 3 => f 3 = .agg #[.bool bi, p1, p2]
    | 4 => ∃ o, f 4 = o ∧ JAt C o (upP bi x y)
    | 5 => f 5 = .pointer (some ⟨k, 0, none⟩)
    | 6 => f 6 = .agg #[.bool bj, r1, r2]
    | 7 => ∃ o, f 7 = o ∧ JAt C o (upP bj u v)
    | 8 => ∃ o, f 8 = o ∧ JAt C o (addT C.M (upP bi x y) (upP bj u v))
    | 9 => ∃ o, f 9 = o ∧ PtV X q o (downT C.M (addT C.M (upP bi x y) (upP bj u v)))
    | _ => True) (by kernel_rfl) [(22, 0), (23, 1), (24, 2), (25, 3), (26, 4), (27, 5), (28, 6), (29, 7), (30, 8), (31, 9)] (by kernel_rfl) ?_
   refine Par.v0 1 9 ?_
   refine Par.v0 2 8 ?_
   refine Par.v0 3 7 ?_
   refine lV0 4 6 h1 infoP ?_
   refine Par.c0 5 5 (fun f => #[f 2, f 3]) (F' := 74) (fun f X hX hR => ?_) ?_
   · have e2 : f 2 = _ := hR.out 2 rfl
     have e3 : f 3 = _ := hR.out 3 rfl
     simp only [e2, e3]
     refine (up_j (hk.ext (HX.out.trans hX)) (hp0.out.ext ((HE1.out.trans HX.out).trans hX)) Ho1.out).mono ?_
     rintro e w2 ⟨o, rfl, hj, hB⟩
     exact ⟨_, rfl, hB, fun _ _ => ⟨_, rfl, hj⟩⟩
   refine Par.v0 6 4 ?_
   refine lV0 7 3 h2 infoP ?_
   refine Par.c0 8 2 (fun f => #[f 5, f 6]) (F' := 74) (fun f X hX hR => ?_) ?_
   · have e5 : f 5 = _ := hR.out 5 rfl
     have e6 : f 6 = _ := hR.out 6 rfl
     simp only [e5, e6]
     refine (up_j (hk.ext (HX.out.trans hX)) (hr0.out.ext ((HE1.out.trans HX.out).trans hX)) Ho2.out).mono ?_
     rintro e w2 ⟨o, rfl, hj, hB⟩
     exact ⟨_, rfl, hB, fun _ _ => ⟨_, rfl, hj⟩⟩
   refine Par.c0 9 1 (fun f => #[f 1, f 4, f 7]) (F' := 75) (fun f X hX hR => ?_) ?_
   · have e1 : f 1 = _ := hR.out 1 rfl
     obtain ⟨v4, (e4 : f 4 = _), j4⟩ := hR.out 4 rfl
     obtain ⟨v7, (e7 : f 7 = _), j7⟩ := hR.out 7 rfl
     simp only [e1, e4, e7]
     refine (add_j (hk.ext (HX.out.trans hX)) j4 j7).mono ?_
     rintro e w2 ⟨o, rfl, hj, hB⟩
     exact ⟨_, rfl, hB, fun _ _ => ⟨_, rfl, hj⟩⟩
   refine Par.c0 10 0 (fun f => #[f 0, f 8]) (F' := 78) (fun f X hX hR => ?_) ?_
   · have e0 : f 0 = _ := hR.out 0 rfl
     obtain ⟨v8, (e8 : f 8 = _), j8⟩ := hR.out 8 rfl
     simp only [e0, e8]
     refine (down_j (hk.ext (HX.out.trans hX)) HC.out.plen j8).mono ?_
     rintro e w2 ⟨o, rfl, hj, hB⟩
     exact ⟨_, rfl, hB, fun Y hY => ⟨_, rfl, (hj.mono (by have := HEX.out.bsize; have := hX.bsize; have := Hq.out; omega)).ext hY⟩⟩
   refine Par.AllOps.fin ⟨fun f X hX hR hal hap => ?_⟩
   obtain ⟨v4, (e4 : f 4 = _), j4⟩ := hR 4 (by decide)
   obtain ⟨v7, (e7 : f 7 = _), j7⟩ := hR 7 (by decide)
   obtain ⟨v8, (e8 : f 8 = _), j8⟩ := hR 8 (by decide)
   obtain ⟨v9, (e9 : f 9 = _), j9⟩ := hR 9 (by decide)
   simp only [yA, yB, yD, yE, e4, e7, e8, e9]
   clear hR hal hap e4 e7 e8 e9
   obtain ⟨x0, x1, x2, ev, hone, hst⟩ := ptv_store (b := q + 1 + 1) j9
   subst ev
   refine Par.Chain.next (fun K hK => ⟨Par.want (by kernel_rfl) (wp_storeV (cs' := #[x0, x1, x2]) (t := 33) 33 (.tmp 6) (.tmp 31) rfl rfl rfl rfl (hX.at_ h3) infoP rfl hone (fun Y hY1 hY2 hY3 => hK.out _ _ ?_))⟩)
   refine Par.Chain.next (fun K hK => ⟨Par.want (by kernel_rfl) ?_⟩)
   go_simp
   refine hK.out _ _ ?_
   refine Par.Chain.done ?_
   go_wp2
   exact end_pt rfl rfl rfl rfl hY1 ⟨_, rfl, hst Y hY2 ⟨_, hX.at_ h3⟩, hY2.ext (HEX.out.trans hX) (by have := Hq.out; omega)⟩
end Go.Proofs.YtaemogcomplhiaaGreatDoor
