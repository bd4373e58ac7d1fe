/- zmont's Exp. -/
import Derived.Test.YtnniellajmjmnaaMNew
import Derived.Test.YtnniellajmjmnaaEachSeq
import Derived.ControlIn
namespace Go.Proofs.Ytnniellajmjmnaa
open Go.RowKit Go.Shelf

attribute [local go_sem] Oper.semAt_some

/-- What of the exponent's bits has come behind k of them. -/
def topOf (E k : Nat) : Nat := E / 2 ^ (nbits E - k)
theorem topOf_zero (E : Nat) : topOf E 0 = 0 := by rw [topOf, Nat.sub_zero]; exact Nat.div_eq_of_lt (lt_of_nbits (Nat.le_refl _))
theorem topOf_all (E : Nat) : topOf E (nbits E) = E := by rw [topOf, Nat.sub_self, Nat.pow_zero, Nat.div_one]
theorem topOf_succ {E k : Nat} (hk : k < nbits E) : topOf E (k + 1) = 2 * topOf E k + (bitAt E k).2 := by
  rw [topOf, topOf, bitAt, show nbits E - k = (nbits E - (k + 1)) + 1 by omega, show nbits E - 1 - k = nbits E - (k + 1) by omega, Nat.pow_succ, ← Nat.div_div_eq_div_mul]
  have := Nat.div_add_mod (E / 2 ^ (nbits E - (k + 1))) 2
  omega
theorem pow_top {x E k : Nat} (hk : k < nbits E) (hb : (bitAt E k).2 = 0) : x ^ topOf E (k + 1) = x ^ topOf E k * x ^ topOf E k := by
  rw [topOf_succ hk, hb, Nat.add_zero, Nat.two_mul, Nat.pow_add]
theorem pow_top1 {x E k : Nat} (hk : k < nbits E) (hb : (bitAt E k).2 = 1) : x ^ topOf E (k + 1) = x ^ topOf E k * x ^ topOf E k * x := by
  rw [topOf_succ hk, hb, Nat.pow_succ, Nat.two_mul, Nat.pow_add]
theorem OB.same {w w' : World} {base : Nat} {A : Option Addr} {c : Nat} {l : List Nat} (h : OB w base A c l) (hs : ∀ (b : Nat) (o : Obj), w.heap[b]? = some o → o.isCells = true → w'.heap[b]? = some o) : OB w' base A c l := by
  obtain ⟨h1, h2, h3, h4⟩ := h
  refine ⟨h1, h2, h3, fun hn => ?_⟩
  obtain ⟨g, cur, e, hg, hh, hc⟩ := h4 hn
  exact ⟨g, cur, e, hg, hs g _ hh rfl, hc⟩
/-- A list of limbs abides where another cell is written that holds no limb. -/
theorem OB.put {w : World} {base q : Nat} {A : Option Addr} {c : Nat} {l : List Nat} {cs : Array Value} (h : OB w base A c l) (hq : w.heap[q]? = some (.cells cs 22 (0, 0))) (v : Value) : OB (w.setCell ⟨q, 0, none⟩ v) base A c l := by
  obtain ⟨h1, h2, h3, h4⟩ := h
  refine ⟨h1, h2, h3, fun hn => ?_⟩
  obtain ⟨g, cur, e, hg, hh, hc⟩ := h4 hn
  refine ⟨g, cur, e, hg, (Below.heap_setCell _ _ _ _ (show g ≠ q from fun e' => ?_)).trans hh, hc⟩
  subst e'
  rw [hh] at hq
  injection hq with hq
  injection hq with h1 h2
  exact absurd h2 (by decide)
/-- The variable holds x to what has come of the exponent, in Montgomery's form. -/
def OutAt (base q M x E n k : Nat) (X : World) : Prop := ∃ A c o, X.heap[q]? = some (.cells #[.slice A n c] 22 (0, 0)) ∧ o.length = n ∧ val 18446744073709551616 o = x ^ topOf E k * RM M % M ∧ OB X base A c o

set_option maxRecDepth 100000 in
set_option maxHeartbeats 4000000 in
theorem mexp_any {w : World} {P : Nat → Prop} {g M inv : Nat} {Am Ao Ar : Option Addr} {cm co cr : Nat} {ol rl : List Nat} (hZ : ZM w P g M inv Am Ao Ar cm co cr ol rl) (hP : ∀ b, P b → b < w.heap.size) (Pa Pe : Nat → Prop) (Aa Ae : Option Addr) (ca ce : Nat) (a e : List Nat) (x E : Nat)
    (ha : RN w Pa Aa ca a) (hPa : ∀ b, Pa b → b < w.heap.size) (hl : a.length = (digs 18446744073709551616 M).length) (hx : val 18446744073709551616 a = x * RM M % M) (he : RN w Pe Ae ce e) (hPe : ∀ b, Pe b → b < w.heap.size) (hE : val 18446744073709551616 e = E) :
    Calls Try.prog 82 #[.pointer (some ⟨g, 0, none⟩), .slice Aa a.length ca, .slice Ae e.length ce] w fun e w' => ∃ A' c' o, e = .returned (.slice A' (digs 18446744073709551616 M).length c') ∧ o.length = (digs 18446744073709551616 M).length ∧ OB w' w.heap.size A' c' o ∧
      val 18446744073709551616 o = x ^ E * RM M % M ∧ Below w.heap.size w w' := by
  obtain ⟨n, hn⟩ : ∃ n, (digs 18446744073709551616 M).length = n := ⟨_, rfl⟩
  obtain ⟨s, hs⟩ : ∃ s, w.heap.size = s := ⟨_, rfl⟩
  rw [hl, hn, hs]
  rw [hn] at hl
  have Hl := Lib.hid hl
  have Hn := Lib.hid hn
  clear hl hn
  have hg := blk_lt hZ.blk
  have m0 := heap_alloc_new w (.cells #[.pointer (some ⟨g, 0, none⟩)] 92)
  have m1 := heap_alloc_new (w.alloc (.cells #[.pointer (some ⟨g, 0, none⟩)] 92)) (.cells #[.slice Aa n ca] 22)
  replace m0 := (Below.heap_alloc (w.alloc (.cells #[.pointer (some ⟨g, 0, none⟩)] 92)) (.cells #[.slice Aa n ca] 22) w.heap.size (by simp)).trans m0
  have hB0 : Below w.heap.size w ((w.alloc (.cells #[.pointer (some ⟨g, 0, none⟩)] 92)).alloc (.cells #[.slice Aa n ca] 22)) := ((Below.refl _ w).alloc (Nat.le_refl _) _).alloc (by simp) _
  have hz0 : ((w.alloc (.cells #[.pointer (some ⟨g, 0, none⟩)] 92)).alloc (.cells #[.slice Aa n ca] 22)).heap.size = s + 2 := by simp [hs]
  rw [World.size_alloc] at m1
  rw [hs] at m0 m1 hB0 hg hP hPa hPe
  refine (callsIn_wide (n := 6)).1 ?_
  refine callsIn_of_wp_marks Try.func82 rfl trivial ?_ rfl
  simp only [Try.ntmps82, List.size_toArray, List.length_cons, List.length_nil, Nat.reduceAdd, Nat.reduceSub, Array.replicate_succ, Array.replicate_zero, List.push_toArray, List.append_toArray, List.nil_append, List.cons_append]
  gi_wp2
  generalize (w.alloc (.cells #[.pointer (some ⟨g, 0, none⟩)] 92)).alloc (.cells #[.slice Aa n ca] 22) = W0 at *
  have hZ0 := hZ.below hB0 hP hg
  have hone := mone_any hZ0
  rw [hZ0.oneLen, Hn.out] at hone
  refine ⟨trivial, (callsIn_wide.2 hone).mono ?_⟩
  rintro e' w1 ⟨A1, c1, rfl, hO1, hB1⟩
  rw [hz0] at hO1 hB1
  have hB01 := hB0.trans (hB1.mono (by omega))
  obtain ⟨q, hq⟩ : ∃ q, w1.heap.size = q := ⟨_, rfl⟩
  have zq : s + 2 ≤ q := by rw [← hq]; have := hB1.size; omega
  have b1 := heap_alloc_new w1 (.cells #[.slice A1 n c1] 22)
  have hB2 : Below q w1 (w1.alloc (.cells #[.slice A1 n c1] 22)) := by rw [← hq]; exact (Below.refl _ w1).alloc (Nat.le_refl _) _
  have hz2 : (w1.alloc (.cells #[.slice A1 n c1] 22)).heap.size = q + 1 := by simp [hq]
  rw [hq] at b1
  clear hone hZ0
  gi_wp2
  generalize w1.alloc (.cells #[.slice A1 n c1] 22) = W2 at *
  have hBw2 := hB01.trans (hB2.mono (by omega))
  have heach := each_any Pe Ae ce e W2 (he.below hBw2 hPe) (fun b hb => by have := hPe b hb; omega)
  rw [hE, hz2] at heach
  have Hq := Lib.hid hq
  clear hq
  refine ⟨trivial, (callsIn_wide.2 heach).mono ?_⟩
  rintro e' w3 ⟨Ae', ce', rfl, be, hOe, hB3⟩
  have zn : q + 1 < w3.heap.size := blk_lt be
  have hbe := blk_cell be 0
  simp only [List.getElem?_toArray, List.getElem?_cons_zero] at hbe
  have hseq := each_seq (q + 1) (q + 1) w3.heap.size (In (q + 1) w3.heap.size) Ae' ce' (digs 18446744073709551616 E) w3 (fun b hb => hb) (Nat.le_refl _) zn (Nat.le_refl _) hbe hOe.rn
  rw [val_digs (by omega)] at hseq
  have Hseq := Lib.hid hseq
  have hW23 : Below s w w3 := hBw2.trans (hB3.mono (by omega))
  have hB13 : Below q w1 w3 := hB2.trans (hB3.mono (by omega))
  have n0 := (hB13.block s (by omega)).trans ((hB1.block s (by omega)).trans m0)
  have n1 := (hB13.block (s + 1) (by omega)).trans ((hB1.block (s + 1) (by omega)).trans m1)
  have nq := (hB3.block q (by omega)).trans b1
  have hO3 : OB w3 (s + 2) A1 c1 ol := hO1.below hB13 (by have := Hq.out; omega)
  have hout0 : OutAt (s + 2) q M x E n 0 w3 := ⟨A1, c1, ol, nq, hZ.oneLen.trans Hn.out, by rw [hZ.oneV, topOf_zero, Nat.pow_zero, Nat.one_mul], hO3⟩
  have hZw := fun X (h : Below s w X) => hZ.below h hP hg
  have hmul := fun X (h : Below s w X) A2 c2 (o2 : List Nat) (hO : OB X (s + 2) A2 c2 o2) (hlo : o2.length = n) A4 c4 (P4 : Nat → Prop) (o4 : List Nat) (hR4 : RN X P4 A4 c4 o4) (hP4 : ∀ b, P4 b → b < X.heap.size) (hl4 : o4.length = n) (hv4 : val 18446744073709551616 o4 < M) =>
    mmul_any P _ P4 Am A2 A4 cm c2 c4 g inv (digs 18446744073709551616 M) o2 o4 X (by have := blk_cell (hZw X h).blk 0; simpa using this) (by have := blk_cell (hZw X h).blk 1; simpa using this) (blk_lt (hZw X h).blk) (hZw X h).m (fun b hb => by have := hP b hb; have := h.size; omega) hO.rn (fun b hb => hb.2) hR4 hP4 (hlo.trans Hn.out.symm) (hl4.trans Hn.out.symm)
      (by rw [val_digs (by omega)]; have := hZ.big; omega) (by rw [val_digs (by omega)]; exact hv4) hZ.invLt (by rw [val_digs (by omega)]; exact hZ.invV) hZ.small
  have Hmul := Lib.hid hmul
  have HZ := Lib.hid hZ
  clear hseq heach hmul hZw b1 m0 m1 nq hB2 hB1 hO1 hO3 hbe be hOe hB01 hBw2 hz2 hz0 hB13 hB3 hB0
  have hInv : OwnFrom w3.heap.size (fun (k : Nat) X => OutAt (s + 2) q M x E n k X ∧ Below q w3 X) := by
    rintro k X X' row ⟨⟨A, c, o, h1, h2, h3, h4⟩, h5⟩ hg' hr
    have hr' := fun r e => (hr r e).2
    exact ⟨⟨A, c, o, (grownBy_keeps_cells hg' hr' h1 rfl).trans h1, h2, h3, h4.same fun b o' ho hc => (grownBy_keeps_cells hg' hr' ho hc).trans ho⟩, ownFrom_below (by omega) (by omega) k X X' row h5 hg' hr⟩
  gi_wp2
  refine' wpIn_iter (by omega) (gf := 71) (lb := #[.pointer (some ⟨q + 1, 0, none⟩)]) rfl (enters_of Try.func71 (by kernel_rfl) rfl)
    Hseq.out (fun h k => Stay.trans h k) (fun X l o o' hl ho _ _ => ⟨by simp, fun i _ hi => World.putObj_heap_other (by omega)⟩) tplain_keeps (Below.refl _ _) (fun _ => rfl)
    (fun k X => OutAt (s + 2) q M x E n k X ∧ Below q w3 X) (fun k X => OutAt (s + 2) q M x E n k X ∧ Below q w3 X) (fun _ _ _ => False)
    hInv hInv (fun _ _ _ _ _ h => h.elim) (fun _ _ _ _ => trivial) (fun B k A C _ _ hi ht => ?hIT) (fun h => by cases h) ⟨hout0, Below.refl _ _⟩ _ ?assign ?body ?done ?stop
  case hIT => exact ownFrom_plain (I := fun k X => OutAt (s + 2) q M x E n k X ∧ Below q w3 X) (B := w3.heap.size) hInv hi ht
  case assign =>
    intro l k X K hK
    gi_wp2
    exact hK
  case body =>
    rintro l k X ⟨⟨A2, c2, o2, h1, h2, h3, h4⟩, h5⟩ hlt _
    have zX := h5.size
    have d0 := blk_cell ((h5.block s (by omega)).trans n0) 0
    have d1 := blk_cell ((h5.block (s + 1) (by omega)).trans n1) 0
    have d2 := blk_cell h1 0
    have d3 := blk_free h1 0
    simp only [List.getElem?_toArray, List.getElem?_cons_zero] at d0 d1 d2
    have hbw := hW23.trans (h5.mono (by omega))
    have hM1 := HZ.out.big
    have hcl := Hmul.out X hbw A2 c2 o2 h4 h2 A2 c2 _ o2 h4.rn (fun b hb => hb.2) h2 (by rw [h3]; exact Nat.mod_lt _ (by omega))
    rw [h2, Hn.out, val_digs (by omega)] at hcl
    have Hcl := Lib.hid hcl
    have H1 := Lib.hid h1
    have H3 := Lib.hid h3
    clear hcl h1 h3 h4
    gi_wp2
    refine ⟨trivial, (callsIn_wide.2 Hcl.out).mono ?_⟩
    rintro e' X1 ⟨A3, c3, o3, rfl, hl3, hO3, hlt3, hv3, hB3⟩
    have hf3 := mul_form HZ.out.invV hlt3 (by rw [nl, Hn.out]; exact hv3) H3.out H3.out
    have zX1 := hB3.size
    have y1 := (hB3.block q (blk_lt H1.out)).trans H1.out
    have y2 := blk_cell y1 0
    have y3 := blk_free y1 0
    have y4 := (hB3.cell (p := ⟨s, 0, none⟩) (by show s < X.heap.size; omega)).trans d0
    have y5 := (hB3.cell (p := ⟨s + 1, 0, none⟩) (by show s + 1 < X.heap.size; omega)).trans d1
    simp only [List.getElem?_toArray, List.getElem?_cons_zero] at y2
    have hO4 := (hO3.mono (base' := s + 2) (by omega)).put y1 (.slice A3 n c3)
    have hq4 : (X1.setCell ⟨q, 0, none⟩ (.slice A3 n c3)).heap[q]? = some (.cells #[.slice A3 n c3] 22 (0, 0)) := by simpa using blk_set y1 0 (.slice A3 n c3)
    have hB4 : Below q w3 (X1.setCell ⟨q, 0, none⟩ (.slice A3 n c3)) := (h5.trans (hB3.mono (by omega))).setCell (p := ⟨q, 0, none⟩) (Nat.le_refl _) _
    have hK4 : Keeps w3.heap.size (w3.heap.size + 2) 0 X (X1.setCell ⟨q, 0, none⟩ (.slice A3 n c3)) := (Keeps.below hB3 (Nat.le_refl _)).trans (Keeps.setCell _ _ _ _ (.inl (by show q < _; omega)) _)
    have hS4 : Stay (q + 1) w3.heap.size X (X1.setCell ⟨q, 0, none⟩ (.slice A3 n c3)) := ⟨by simpa [World.setCell] using zX1, fun b hb1 hb2 => (Below.heap_setCell _ _ _ _ (by show b ≠ q; omega)).trans (hB3.block b (by omega))⟩
    have e0 := (World.cell?_setCell_far X1 ⟨q, 0, none⟩ ⟨s, 0, none⟩ (.slice A3 n c3) (by show q ≠ s; omega)).trans y4
    have e1 := (World.cell?_setCell_far X1 ⟨q, 0, none⟩ ⟨s + 1, 0, none⟩ (.slice A3 n c3) (by show q ≠ s + 1; omega)).trans y5
    have e2 := blk_cell hq4 0
    have e3 := blk_free hq4 0
    simp only [List.getElem?_toArray, List.getElem?_cons_zero] at e2
    have hz4 : (X1.setCell ⟨q, 0, none⟩ (.slice A3 n c3)).heap.size = X1.heap.size := by simp [World.setCell]
    have hbw4 := hW23.trans (hB4.mono (by omega))
    have hcl2 := Hmul.out _ hbw4 A3 c3 o3 hO4 hl3 Aa ca Pa a (ha.below hbw4 hPa) (fun b hb => by have := hPa b hb; omega) Hl.out (by rw [hx]; exact Nat.mod_lt _ (by omega))
    rw [hl3, Hl.out, Hn.out, val_digs (by omega)] at hcl2
    have Hcl2 := Lib.hid hcl2
    have HO4 := Lib.hid hO4
    have HK4 := Lib.hid hK4
    have HS4 := Lib.hid hS4
    have HB4 := Lib.hid hB4
    have Hq4 := Lib.hid hq4
    have Hf3 := Lib.hid hf3
    have Hl3 := Lib.hid hl3
    have hbit : (bitAt E k).2 = 0 ∨ (bitAt E k).2 = 1 := by
      have : (bitAt E k).2 < 2 := Nat.mod_lt _ (by omega)
      omega
    clear hcl2 hO4 hK4 hS4 hB4 hq4 hf3 hv3 y1 hO3
    rcases hbit with hb0 | hb1
    · have hp := Lib.hid (pow_top (x := x) hlt hb0)
      rw [hb0]
      clear hb0
      gi_wp2
      exact ⟨HK4.out, HS4.out, ⟨A3, c3, o3, Hq4.out, Hl3.out, by rw [hp.out]; exact Hf3.out, HO4.out⟩, HB4.out⟩
    · have hp := Lib.hid (pow_top1 (x := x) hlt hb1)
      rw [hb1]
      clear hb1
      gi_wp2
      generalize X1.setCell ⟨q, 0, none⟩ (.slice A3 n c3) = X2 at *
      refine ⟨trivial, (callsIn_wide.2 Hcl2.out).mono ?_⟩
      rintro e' X3 ⟨A5, c5, o5, rfl, hl5, hO5, hlt5, hv5, hB5⟩
      have hf5 := mul_form HZ.out.invV hlt5 (by rw [nl, Hn.out]; exact hv5) Hf3.out hx
      have zX3 := hB5.size
      have x1 := (hB5.block q (blk_lt Hq4.out)).trans Hq4.out
      have x2 := blk_cell x1 0
      have x3 := blk_free x1 0
      simp only [List.getElem?_toArray, List.getElem?_cons_zero] at x2
      have hO6 := (hO5.mono (base' := s + 2) (by omega)).put x1 (.slice A5 n c5)
      have hq6 : (X3.setCell ⟨q, 0, none⟩ (.slice A5 n c5)).heap[q]? = some (.cells #[.slice A5 n c5] 22 (0, 0)) := by simpa using blk_set x1 0 (.slice A5 n c5)
      have hB6 : Below q w3 (X3.setCell ⟨q, 0, none⟩ (.slice A5 n c5)) := (HB4.out.trans (hB5.mono (by omega))).setCell (p := ⟨q, 0, none⟩) (Nat.le_refl _) _
      have hK6 : Keeps w3.heap.size (w3.heap.size + 2) 0 X (X3.setCell ⟨q, 0, none⟩ (.slice A5 n c5)) := HK4.out.trans ((Keeps.below hB5 (Nat.le_refl _)).trans (Keeps.setCell _ _ _ _ (.inl (by show q < _; omega)) _))
      have hS6 : Stay (q + 1) w3.heap.size X (X3.setCell ⟨q, 0, none⟩ (.slice A5 n c5)) := HS4.out.trans ⟨by simpa [World.setCell] using zX3, fun b hb1 hb2 => (Below.heap_setCell _ _ _ _ (by show b ≠ q; omega)).trans (hB5.block b (by omega))⟩
      have HO6 := Lib.hid hO6
      have HK6 := Lib.hid hK6
      have HS6 := Lib.hid hS6
      have HB6 := Lib.hid hB6
      have Hq6 := Lib.hid hq6
      have Hf5 := Lib.hid hf5
      have Hl5 := Lib.hid hl5
      clear hO6 hK6 hS6 hB6 hq6 hf5 hv5 x1 hO5
      gi_wp2
      exact ⟨HK6.out, HS6.out, ⟨A5, c5, o5, Hq6.out, Hl5.out, by rw [hp.out]; exact Hf5.out, HO6.out⟩, HB6.out⟩
  case done =>
    rintro D X hD ⟨⟨A2, c2, o2, h1, h2, h3, h4⟩, h5⟩ hK
    rw [topOf_all] at h3
    have d2 := blk_cell h1 0
    simp only [List.getElem?_toArray, List.getElem?_cons_zero] at d2
    have hbw := hW23.trans (h5.mono (by omega))
    have zD : s ≤ D := by omega
    have hO : OB (X.putObj D (.deferred none)) (s + 2) A2 c2 o2 := h4.same fun b o' ho hc => (World.putObj_heap_other (fun e => by subst e; rw [hK] at ho; cases ho; cases hc)).trans ho
    have HO := Lib.hid (hO.mono (base' := s) (by omega))
    have H3 := Lib.hid h3
    have H2 := Lib.hid h2
    clear h1 h3 h4 hO
    gi_wp2
    go_wp2
    refine ⟨by simp, .inl ⟨_, _, rfl, run_takeDeferred hK, _, results_tmp rfl _ _ _, ⟨A2, c2, o2, rfl, H2.out, HO.out, H3.out, hbw.trans (belowK_b (w := w) (Nat.le_of_eq hs.symm) _ D _ _ (by omega) hK rfl rfl)⟩⟩⟩
  case stop => exact fun _ _ _ _ _ _ _ h _ => h.elim
end Go.Proofs.Ytnniellajmjmnaa
