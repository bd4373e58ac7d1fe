/- Whether an attribute is secret, and hidden. Get: attributes are told, but for those that are hidden or not there. A rule for a region that draws its order: each of its first m operations is walked once, in whatever world that came of the first one by steps of a relation E (memory is made, and what stood stands), with what the operations before it gave; the order that is drawn makes no difference. Nothing here speaks of the program. The rule for regions (LPar) in the body of a range over a function. Nothing here speaks of the program. A template's class and key type; which types may not stand in one; which have to be there. What is amiss with a template's values. -/
import Derived.Test.YtendnkpiidhogaaGreatQd8c8b1dab89c
import Derived.RegionTactic
import Derived.WalkKit
import Derived.Below
import Derived.OrdersIn
import Derived.ControlIn
import Derived.BigQuiet
import Derived.WalkMore
import Derived.Deep.QuietTactic
namespace Go.Proofs.YtendnkpiidhogaaGreat.At
open Go.RowKit Go.Shelf

def hidF (cl : Nat) (b1 b2 : Bool) (t : Int) : Bool :=
 if t = 17 then (if cl ≠ 4 ∧ cl ≠ 3 then false else b1 || !b2)
 else if t = 291 ∨ t = 292 ∨ t = 293 then (if cl ≠ 3 then false else b1 || !b2)
 else false
theorem hidden_eq (l : Attrs) (t : Int) : hiddenOf l t = hidF ((intOf' l 0).getD 0) (flagOf l 259) (flagOf l 354) t := rfl

set_option maxRecDepth 100000 in
set_option maxHeartbeats 4000000 in
theorem hidden_any (P : Nat → Prop) (A : Option Addr) (c : Nat) (l : Attrs) (t : Int) (w : World) (hv : RA w P A c l) (hP : ∀ b, P b → b < w.heap.size) :
    Calls Tryz.prog 16 #[.slice A l.length c, .int .i64 t] w fun e w' => e = .returned (.bool (hiddenOf l t)) ∧ Below w.heap.size w w' := by
  rw [hidden_eq]
  have i1 := int_any P A c l 0 w hv hP
  have f1 := flag_any P A c l 259
  have f2 := flag_any P A c l 354
  obtain ⟨o, ho⟩ : ∃ o, intOf' l 0 = o := ⟨_, rfl⟩
  obtain ⟨cl, hcl⟩ : ∃ cl, o.getD 0 = cl := ⟨_, rfl⟩
  obtain ⟨b1, hb1⟩ : ∃ b, flagOf l 259 = b := ⟨_, rfl⟩
  obtain ⟨b2, hb2⟩ : ∃ b, flagOf l 354 = b := ⟨_, rfl⟩
  rw [ho, hcl] at i1
  rw [hb1] at f1
  rw [hb2] at f2
  rw [ho, hcl, hb1, hb2]
  obtain ⟨s, hs⟩ : ∃ s, o.isSome = s := ⟨_, rfl⟩
  rw [hs] at i1
  have I1 := Lib.hid i1
  have F1 := Lib.hid f1
  have F2 := Lib.hid f2
  clear ho hcl hb1 hb2 hs i1 f1 f2
  go_enter Tryz.func16, Tryz.ntmps16
  go_wp2_with fail
  refine I1.out.mono ?_
  rintro e w1 ⟨rfl, hB1⟩
  have hv1 := hv.below hB1 hP
  have hP1 : ∀ b, P b → b < w1.heap.size := fun b hb => Nat.lt_of_lt_of_le (hP b hb) hB1.size
  have hs1 := hB1.size
  have f1 := F1.out w1 hv1 hP1
  have F1' := Lib.hid f1
  have HV := Lib.hid hv1
  have HP := Lib.hid hP1
  have HB1 := Lib.hid hB1
  clear f1 hv1 hP1 hB1 hv hP I1 F1
  cases b1
  · go_wp2_with fail
    all_goals first
      | (go_ret; exact ⟨ret_bool (by first | (simp_all [hidF]; done) | (simp_all [hidF]; intros; omega)), HB1.out⟩)
      | (refine F1'.out.mono ?_
         rintro e w2 ⟨rfl, hB2⟩
         go_wp2_with fail
         refine (F2.out w2 (HV.out.below hB2 HP.out) (fun b hb => Nat.lt_of_lt_of_le (HP.out b hb) hB2.size)).mono ?_
         rintro e w3 ⟨rfl, hB3⟩
         have hB : Hid (Below w.heap.size w w3) := Lib.hid (HB1.out.trans ((hB2.mono hs1).trans (hB3.mono (Nat.le_trans hs1 hB2.size))))
         clear hB2 hB3
         go_wp2
         go_ret
         exact ⟨ret_bool (by first | (simp_all [hidF]; done) | (simp_all [hidF]; intros; omega)), hB.out⟩)
  · go_wp2_with fail
    all_goals first
      | (go_ret; exact ⟨ret_bool (by first | (simp_all [hidF]; done) | (simp_all [hidF]; intros; omega)), HB1.out⟩)
      | (refine F1'.out.mono ?_
         rintro e w2 ⟨rfl, hB2⟩
         have hB : Hid (Below w.heap.size w w2) := Lib.hid (HB1.out.trans (hB2.mono hs1))
         clear hB2
         go_wp2
         go_ret
         exact ⟨ret_bool (by first | (simp_all [hidF]; done) | (simp_all [hidF]; intros; omega)), hB.out⟩)
end Go.Proofs.YtendnkpiidhogaaGreat.At

namespace Go.Proofs.YtendnkpiidhogaaGreat.At
open Go.RowKit Go.Shelf

def rowF : Option (List Nat) → Bool → List Nat × Int
 | none, _ => ([], 18)
 | some _, true => ([], 17)
 | some b, false => (b, 0)
def getRow (o : Attrs) (t : Int) : List Nat × Int := rowF (seek o t) (hiddenOf o t)
def getOn (o : Attrs) : Attrs → Int → List Int → Attrs × Int
 | out, rv, [] => (out, rv)
 | out, rv, t :: r => getOn o (out ++ [(t, (getRow o t).1)]) (if rv = 0 then (getRow o t).2 else rv) r
def getOf (o : Attrs) (ts : List Int) : Attrs × Int := getOn o [] 0 ts

theorem OA.put0 {w : World} {base : Nat} {A : Option Addr} {c : Nat} {l : Attrs} {cs : List Value} {p : Addr} (h : OA w base A c l cs) (hp : p.block < base) (u : Value) : OA (w.setCell p u) base A c l cs :=
 ⟨ownsRow_setCell_below h.1 hp u, fun j x hx => let ⟨h1, A', c', h2, h3⟩ := h.2 j x hx; ⟨h1, A', c', h2, (h3.setCell (fun hb => by have := hb.1; omega) u).mono fun b hb => ⟨hb.1, by simpa using hb.2.1, hb.2.2⟩⟩⟩
theorem OA.snoc2 {W2 W3 : World} {base : Nat} {A A' : Option Addr} {c c' : Nat} {l : Attrs} {cs : List Value} {m : Nat} (h : OA W2 base A c l cs) (hm : l.length = m) {t : Int} {v : List Nat} {n : Nat} (hn : v.length = n) {Au : Option Addr} {cu : Nat}
 (hu : RB W2 (fun b => base ≤ b ∧ b < W2.heap.size ∧ (Value.slice A m c).ownBlock ≠ some b) Au cu v)
 (hown : W3.ownsRow base 37 2 (.slice A' (m + 1) c') (m + 1) (cs ++ [.int .i64 t, .slice Au n cu])) (hg : W2.grownBy W3 (Value.slice A m c).ownBlock)
 (hor : (Value.slice A' (m + 1) c').ownBlock = (Value.slice A m c).ownBlock ∨ (Value.slice A' (m + 1) c').ownBlock = some W2.heap.size) :
 OA W3 base A' c' (l ++ [(t, v)]) (cs ++ [.int .i64 t, .slice Au n cu]) := by
 subst hm hn
 have hl := h.1.1
 have hs' := hg.size
 have eown : (Value.slice A' (l.length + 1) c').ownBlock = (Value.slice A' (l ++ [(t, v)]).length c').ownBlock := by cases A' <;> rfl
 rw [eown] at hor
 have kept : ∀ (b : Nat), b < W2.heap.size → (Value.slice A l.length c).ownBlock ≠ some b → W3.heap[b]? = W2.heap[b]? := fun b h1 h2 => hg.block b h1 (fun e => h2 e.symm)
 have far : ∀ b, (base ≤ b ∧ b < W2.heap.size ∧ (Value.slice A l.length c).ownBlock ≠ some b) → base ≤ b ∧ b < W3.heap.size ∧ (Value.slice A' (l ++ [(t, v)]).length c').ownBlock ≠ some b := fun b hp => by
  refine ⟨hp.1, by omega, ?_⟩
  rcases hor with e | e
  · rw [e]; exact hp.2.2
  · rw [e]; intro e'; injection e' with e'; omega
 refine ⟨by simpa using hown, fun j y hy => ?_⟩
 rcases Nat.lt_or_ge j l.length with hj | hj
 · rw [List.getElem?_append_left hj] at hy
   obtain ⟨h1, A1, c1, h2, h3⟩ := h.2 j y hy
   rw [List.getElem?_append_left (by omega), List.getElem?_append_left (by omega)]
   exact ⟨h1, A1, c1, h2, (h3.keep fun p hp => World.cell?_of_block (kept _ hp.2.1 hp.2.2)).mono far⟩
 · have hjl : j = l.length := by
    have := (List.getElem?_eq_some_iff.1 hy).1
    simp at this
    omega
   subst hjl
   simp at hy
   subst hy
   rw [List.getElem?_append_right (by omega), List.getElem?_append_right (by omega), hl]
   exact ⟨by simp, Au, cu, by simp, (hu.keep fun p hp => World.cell?_of_block (kept _ hp.2.1 hp.2.2)).mono far⟩

set_option maxHeartbeats 1000000 in
theorem first_any (e rv : Int) (g : Nat) (w : World) (h : w.heap[g]? = some (.cells #[.int .i64 rv] 27 (0, 0))) :
 Calls Tryz.prog 41 #[.int .i64 e, .pointer (some ⟨g, 0, none⟩)] w fun en w' => (∃ v, en = .returned v) ∧ w'.heap[g]? = some (.cells #[.int .i64 (if rv = 0 then e else rv)] 27 (0, 0)) ∧ (w' = w ∨ ∃ u, w' = w.setCell ⟨g, 0, none⟩ u) := by
 have x0 := blk_cell h 0
 have f0 := blk_free h 0
 simp at x0
 by_cases h0 : rv = 0
 · subst h0
   have hb := bset h 0 (.int .i64 e)
   go_enter Tryz.func41, Tryz.ntmps41
   go_wp2
   refine bodyPost_end (results_none rfl _ _ _) rfl ?_
   exact ⟨⟨_, rfl⟩, by simpa using hb, .inr ⟨_, rfl⟩⟩
 · have h0' : (rv == 0) = false := by simpa using h0
   have hh := Lib.hid h
   go_enter Tryz.func41, Tryz.ntmps41
   go_wp2
   refine bodyPost_end (results_none rfl _ _ _) rfl ?_
   exact ⟨⟨_, rfl⟩, by simpa [h0] using hh.out, .inl rfl⟩

set_option maxRecDepth 100000 in
set_option maxHeartbeats 4000000 in
theorem rget_any (P P' : Nat → Prop) (A A' : Option Addr) (c c' : Nat) (l : Attrs) (ts : List Int) (w : World) (hv : RA w P A c l) (hP : ∀ b, P b → b < w.heap.size) (hv' : RI w P' A' c' ts) (hP' : ∀ b, P' b → b < w.heap.size) (hl : ts.length ≤ 1000) :
    Calls Tryz.prog 13 #[.slice A l.length c, .slice A' ts.length c'] w fun e w' => ∃ A1 c1, e = .returned (.tuple #[.slice A1 (getOf l ts).1.length c1, .int .i64 (getOf l ts).2]) ∧ RA w' (In w.heap.size w'.heap.size) A1 c1 (getOf l ts).1 ∧ Below w.heap.size w w' := by
  obtain ⟨G, hG⟩ : ∃ G, getOf l ts = G := ⟨_, rfl⟩
  rw [hG]
  have HG := Lib.hid hG
  clear hG
  obtain ⟨hlc, hc⟩ := hv.cap
  obtain ⟨hlc', hc'⟩ := hv'.cap
  have hb0 := heap_alloc_new w (.cells #[.int .i64 0] 27)
  have hB0 : Below w.heap.size w (w.alloc (.cells #[.int .i64 0] 27)) := (Below.refl _ w).alloc (Nat.le_refl _) _
  have HB0 := Lib.hid hB0
  have Hb0 := Lib.hid hb0
  clear hB0 hb0
  go_enter Tryz.func13, Tryz.ntmps13
  go_wp2
  go_loopw [6, 16] (fun v i wr => ∃ (k : Nat) (out : Attrs) (rv : Int) (A1 : Option Addr) (c1 : Nat) (cs : List Value), k ≤ ts.length ∧ i = .int .i64 k ∧ v = .slice A1 k c1 ∧ out.length = k ∧ getOn l out rv (ts.drop k) = G ∧ OA wr (w.heap.size + 1) A1 c1 out cs ∧ wr.heap[w.heap.size]? = some (.cells #[.int .i64 rv] 27 (0, 0)) ∧ Below w.heap.size w wr) (fun _ i _ => ts.length - (intOf i).toNat)
  case atStart => exact ⟨0, [], 0, none, 0, [], Nat.zero_le _, rfl, rfl, rfl, by simpa [getOf] using HG.out, OA.nil_ _ _, by simpa using Hb0.out, by simpa using HB0.out⟩
  case round =>
    clear HB0 Hb0 HG
    obtain ⟨k, out, rv, A1, c1, cs, hk, rfl, rfl, hol, hGk, hO, hbx, hB⟩ := hrel
    have hs := hB.size
    have hzr := blk_lt hbx
    by_cases hlt : k < ts.length
    · have hvr := hv.below hB hP
      obtain ⟨ad, rfl, hb, hx⟩ := (hv'.below hB hP').at_ hlt
      obtain ⟨t, ht⟩ : ∃ t, ts.getD k 0 = t := ⟨_, rfl⟩
      rw [ht] at hx
      have hst : getOn l out rv (ts.drop k) = getOn l (out ++ [(t, (getRow l t).1)]) (if rv = 0 then (getRow l t).2 else rv) (ts.drop (k + 1)) := by
        rw [List.drop_eq_getElem_cons hlt, show ts[k] = t by rw [← ht, List.getD_eq_getElem?_getD, List.getElem?_eq_getElem hlt]; rfl, getOn]
      rw [hst] at hGk
      obtain ⟨row, hrow⟩ : ∃ r, getRow l t = r := ⟨_, rfl⟩
      rw [hrow] at hGk
      have hP1 : ∀ b, P b → b < wr.heap.size := fun b hb => Nat.lt_of_lt_of_le (hP b hb) hs
      have hlt1 := fun g e => (hO.1.lt g e).2
      rw [hol] at hlt1
      have HLT := Lib.hid hlt1
      have hg := get_any P A c l t wr hvr hP1
      have hh := fun w => hidden_any P A c l t w
      obtain ⟨o, ho⟩ : ∃ o, seek l t = o := ⟨_, rfl⟩
      obtain ⟨hd, hhd⟩ : ∃ b, hiddenOf l t = b := ⟨_, rfl⟩
      rw [ho] at hg
      simp only [hhd] at hh
      have hrw : row = rowF o hd := by rw [← hrow, getRow, ho, hhd]
      have HR := Lib.hid hrw
      have HGK := Lib.hid hGk
      have HGE := Lib.hid hg
      have HH := Lib.hid hh
      have HO := Lib.hid hO
      have HV := Lib.hid hvr
      have HBX := Lib.hid hbx
      have HHB := Lib.hid hB
      have Hol := Lib.hid hol
      have hk1 : (k : Int) < 1000 := by omega
      clear ht hst hGk hrow hg hh ho hhd hrw hO hvr hbx hB hol hlt1
      go_wp2_with fail
      refine HGE.out.mono ?_
      rintro e w1 ⟨A3, c3, rfl, hr3, hB3⟩
      have hs3 := hB3.size
      have hbx3 : w1.heap[w.heap.size]? = some (.cells #[.int .i64 rv] 27 (0, 0)) := (hB3.block _ hzr).trans HBX.out
      have HB3 := Lib.hid (HHB.out.trans (hB3.mono hs))
      have HO3 := Lib.hid (HO.out.below hB3)
      have HV3 := Lib.hid (HV.out.below hB3 hP1)
      have Hr3 := Lib.hid hr3
      have Hb3 := Lib.hid hbx3
      clear hr3 hbx3 HGE HO HV HBX HHB hB3
      cases o with
      | none =>
        go_wp2_with fail
        refine (first_any 18 rv w.heap.size w1 Hb3.out).mono ?_
        rintro e w4 ⟨⟨u, rfl⟩, hb4, hw4⟩
        have hz4 : w4.heap.size = w1.heap.size := by rcases hw4 with rfl | ⟨u, rfl⟩ <;> simp
        have HB4 : Hid (Below w.heap.size w w4) := Lib.hid (by rcases hw4 with rfl | ⟨u, rfl⟩; exact HB3.out; exact HB3.out.setCell (p := ⟨w.heap.size, 0, none⟩) (by simp) u)
        have HO4 : Hid (OA w4 (w.heap.size + 1) A1 c1 out cs) := Lib.hid (by rcases hw4 with rfl | ⟨u, rfl⟩; exact HO3.out; exact HO3.out.put0 (p := ⟨w.heap.size, 0, none⟩) (by simp) u)
        have Hb4 := Lib.hid hb4
        have Hz4 := Lib.hid hz4
        clear hb4 hw4 hz4 HB3 HO3 Hb3
        have hzx : w.heap.size + 1 ≤ w4.heap.size := by have := Hz4.out; omega
        have hown := HO4.out.1
        rw [Hol.out] at hown
        have Hown := Lib.hid hown
        clear hown
        go_wp2_with (at_builtin; refine app48one (w0 := w4) rfl (.tmp 37) (.tmp 41) rfl (w.heap.size + 1) (.slice A1 k c1) k cs rfl Hown.out 0 rfl rfl ⟨rfl, rfl⟩ (by omega) hzx ?_; intro A9 c9 w9 hown9 hg9 hor9)
        have hB9 : Below w4.heap.size w4 (w4.alloc (.cells #[.int .i64 t, .slice none 0 0] 37)) := (Below.refl _ _).alloc (Nat.le_refl _) _
        have HO9 := Lib.hid (OA.snoc2 (t := t) (v := []) (n := 0) (HO4.out.below hB9) Hol.out rfl (RB.nil_ _ _) hown9 hg9 hor9)
        have hlt9 := fun g e => (Hown.out.lt g e).1
        have HB9 := Lib.hid ((HB4.out.alloc (by omega) (.cells #[.int .i64 t, .slice none 0 0] 37)).grown hg9 (by simp; omega) (fun g e => by have := hlt9 g e; omega))
        have Hb9 := Lib.hid ((hg9.block w.heap.size (by simp; omega) (fun e => by have := hlt9 _ e.symm; omega)).trans ((hB9.block _ (by omega)).trans Hb4.out))
        clear hown9 hg9 hor9 hB9 hlt9 Hown
        go_wp2
        go_roundw
        case rel => exact ⟨k + 1, out ++ [(t, [])], (if rv = 0 then 18 else rv), A9, c9, _, by omega, by go_num, rfl, by simp [Hol.out], by have := HGK.out; rw [HR.out] at this; have e0 : (if rv = 0 then (0 : Int) else rv) = rv := (by split <;> omega); simpa [rowF, e0] using this, HO9.out, Hb9.out, HB9.out⟩
        case measure => simp [intOf]; omega
      | some b =>
        go_wp2_with fail
        refine (HH.out w1 HV3.out (fun b hb => Nat.lt_of_lt_of_le (hP1 b hb) hs3)).mono ?_
        rintro e w2 ⟨rfl, hB2⟩
        have hs2 := hB2.size
        have Hb2 := Lib.hid ((hB2.block _ (by omega)).trans Hb3.out)
        have HB2 := Lib.hid (HB3.out.trans (hB2.mono (by omega)))
        have HO2 := Lib.hid (HO3.out.below hB2)
        have Hr2 := Lib.hid (Hr3.out.below hB2 fun b hb => hb.2)
        clear hB2 HO3 HB3 Hb3 Hr3 HV3 HH
        cases hd
        · skip
          have hzx : w.heap.size + 1 ≤ w2.heap.size := by omega
          have hown := HO2.out.1
          rw [Hol.out] at hown
          have Hown := Lib.hid hown
          clear hown
          go_wp2_with (at_builtin; refine app48one (w0 := w2) rfl (.tmp 37) (.tmp 41) rfl (w.heap.size + 1) (.slice A1 k c1) k cs rfl Hown.out 0 rfl rfl ⟨rfl, rfl⟩ (by omega) hzx ?_; intro A9 c9 w9 hown9 hg9 hor9)
          have hB9 : Below w2.heap.size w2 (w2.alloc (.cells #[.int .i64 t, .slice A3 b.length c3] 37)) := (Below.refl _ _).alloc (Nat.le_refl _) _
          have HO9 := Lib.hid (OA.snoc2 (t := t) (v := b) (n := b.length) (HO2.out.below hB9) Hol.out rfl ((Hr2.out.below hB9 (fun q hq => by have := hq.2; omega)).mono (fun q hq => ⟨by have := hq.1; omega, by have := hq.2; simp; omega, fun e => by have := HLT.out _ e; have := hq.1; omega⟩)) hown9 hg9 hor9)
          have hlt9 := fun g e => (Hown.out.lt g e).1
          have HB9 := Lib.hid ((HB2.out.alloc (by omega) (.cells #[.int .i64 t, .slice A3 b.length c3] 37)).grown hg9 (by simp; omega) (fun g e => by have := hlt9 g e; omega))
          have Hb9 := Lib.hid ((hg9.block w.heap.size (by simp; omega) (fun e => by have := hlt9 _ e.symm; omega)).trans ((hB9.block _ (by omega)).trans Hb2.out))
          clear hown9 hg9 hor9 hB9 hlt9 Hown
          go_wp2
          go_roundw
          case rel => exact ⟨k + 1, out ++ [(t, b)], rv, A9, c9, _, by omega, by go_num, rfl, by simp [Hol.out], by have := HGK.out; rw [HR.out] at this; have e0 : (if rv = 0 then (0 : Int) else rv) = rv := (by split <;> omega); simpa [rowF, e0] using this, HO9.out, Hb9.out, HB9.out⟩
          case measure => simp [intOf]; omega
        · go_wp2_with fail
          refine (first_any 17 rv w.heap.size w2 Hb2.out).mono ?_
          rintro e w4 ⟨⟨u, rfl⟩, hb4, hw4⟩
          have hz4 : w4.heap.size = w2.heap.size := by rcases hw4 with rfl | ⟨u, rfl⟩ <;> simp
          have HB4 : Hid (Below w.heap.size w w4) := Lib.hid (by rcases hw4 with rfl | ⟨u, rfl⟩; exact HB2.out; exact HB2.out.setCell (p := ⟨w.heap.size, 0, none⟩) (by simp) u)
          have HO4 : Hid (OA w4 (w.heap.size + 1) A1 c1 out cs) := Lib.hid (by rcases hw4 with rfl | ⟨u, rfl⟩; exact HO2.out; exact HO2.out.put0 (p := ⟨w.heap.size, 0, none⟩) (by simp) u)
          have Hb4 := Lib.hid hb4
          have Hz4 := Lib.hid hz4
          clear hb4 hw4 hz4 HB2 HO2 Hb2
          have hzx : w.heap.size + 1 ≤ w4.heap.size := by have := Hz4.out; omega
          have hown := HO4.out.1
          rw [Hol.out] at hown
          have Hown := Lib.hid hown
          clear hown
          go_wp2_with (at_builtin; refine app48one (w0 := w4) rfl (.tmp 37) (.tmp 41) rfl (w.heap.size + 1) (.slice A1 k c1) k cs rfl Hown.out 0 rfl rfl ⟨rfl, rfl⟩ (by omega) hzx ?_; intro A9 c9 w9 hown9 hg9 hor9)
          have hB9 : Below w4.heap.size w4 (w4.alloc (.cells #[.int .i64 t, .slice none 0 0] 37)) := (Below.refl _ _).alloc (Nat.le_refl _) _
          have HO9 := Lib.hid (OA.snoc2 (t := t) (v := []) (n := 0) (HO4.out.below hB9) Hol.out rfl (RB.nil_ _ _) hown9 hg9 hor9)
          have hlt9 := fun g e => (Hown.out.lt g e).1
          have HB9 := Lib.hid ((HB4.out.alloc (by omega) (.cells #[.int .i64 t, .slice none 0 0] 37)).grown hg9 (by simp; omega) (fun g e => by have := hlt9 g e; omega))
          have Hb9 := Lib.hid ((hg9.block w.heap.size (by simp; omega) (fun e => by have := hlt9 _ e.symm; omega)).trans ((hB9.block _ (by omega)).trans Hb4.out))
          clear hown9 hg9 hor9 hB9 hlt9 Hown
          go_wp2
          go_roundw
          case rel => exact ⟨k + 1, out ++ [(t, [])], (if rv = 0 then 17 else rv), A9, c9, _, by omega, by go_num, rfl, by simp [Hol.out], by have := HGK.out; rw [HR.out] at this; have e0 : (if rv = 0 then (0 : Int) else rv) = rv := (by split <;> omega); simpa [rowF, e0] using this, HO9.out, Hb9.out, HB9.out⟩
          case measure => simp [intOf]; omega
    · obtain rfl : k = ts.length := by omega
      have hGe : (out, rv) = G := by rw [← hGk]; simp [getOn]
      subst hGe
      have x0 := blk_cell hbx 0
      simp at x0
      have HO := Lib.hid hO.ra
      have Hol := Lib.hid hol
      clear hO hGk hol hbx
      go_wp2
      go_quiet (fail)
      go_wp2
      go_ret2
      refine ⟨A1, c1, by simp [Hol.out], ?_, ?_⟩
      · exact (HO.out.mono (fun b hb => (⟨by have := hb.1; omega, hb.2⟩ : In w.heap.size _ b))).keep (fun _ _ => rfl)
      · exact below_drewN hB _
end Go.Proofs.YtendnkpiidhogaaGreat.At

namespace Go.Proofs.YtendnkpiidhogaaGreat
open Go.RowKit

def Ext (w w' : World) : Prop := Below w.heap.size w w'
theorem Ext.refl (w : World) : Ext w w := Below.refl _ w
theorem Ext.trans {a b c : World} (h : Ext a b) (k : Ext b c) : Ext a c := Below.trans h (Below.mono k h.size)
theorem Ext.drew (w : World) : Ext w w.drew := (Below.refl _ w).drew
theorem Ext.alloc (w : World) (o : Obj) : Ext w (w.alloc o) := (Below.refl _ w).alloc (Nat.le_refl _) o
theorem Ext.bsize {w w' : World} (h : Ext w w') : w.heap.size ≤ w'.heap.size := Below.size h
theorem Ext.at_ {w w' : World} (h : Ext w w') {k : Nat} {o : Obj} (hk : w.heap[k]? = some o) : w'.heap[k]? = some o := by
 have hlt : k < w.heap.size := by
  rcases Nat.lt_or_ge k w.heap.size with h | h
  · exact h
  · rw [Array.getElem?_eq_none h] at hk; cases hk
 exact (Below.block h k hlt).trans hk
theorem Ext.cell {w w' : World} (h : Ext w w') {a : Addr} {v : Value} (hk : w.cell? a = some v) : w'.cell? a = some v :=
 (World.cell?_of_block (Below.block h _ (World.block_lt_of_cell? w a hk))).trans hk

namespace Par

def dst (ops : Array Oper) (j : Nat) : Option Nat := (ops[j]?).bind (·.dst)
def binds (e : Edge) : Bool := Region.binds .any e
def put (ops : Array Oper) (sel : Nat → Bool) (f : Nat → Value) : List Nat → Act → Act
 | [], a => a
 | j :: l, a => put ops sel f l (if sel j then a.put (dst ops j) (f j) else a)
def upd (f : Nat → Value) (i : Nat) (v : Value) : Nat → Value := fun j => if j = i then v else f j
def mask (M : Nat → Nat) (j : Nat) (f : Nat → Value) : Nat → Value := fun k => if (k == j || (M j).testBit k) = true then f k else undef
def nd (M : Nat → Nat) (i : Nat) : Nat → Bool := fun j => j != i && !(M j).testBit i

theorem put_congr {ops : Array Oper} {sel sel' : Nat → Bool} {f f' : Nat → Value} {l : List Nat} (h : ∀ j ∈ l, sel j = sel' j ∧ f j = f' j) (a : Act) : put ops sel f l a = put ops sel' f' l a := by
  induction l generalizing a with
  | nil => rfl
  | cons j l ih =>
    obtain ⟨h1, h2⟩ := h j (by simp)
    simp only [put, h1, h2]
    exact ih (fun k hk => h k (by simp [hk])) _
def clash (ops : Array Oper) (i j : Nat) : Prop := ∃ d, dst ops i = some d ∧ dst ops j = some d
theorem put_put {ops : Array Oper} {sel : Nat → Bool} {f : Nat → Value} {l : List Nat} {i : Nat} {v : Value} (h : ∀ j ∈ l, ¬ clash ops i j) (a : Act) : (put ops sel f l a).put (dst ops i) v = put ops sel f l (a.put (dst ops i) v) := by
  induction l generalizing a with
  | nil => rfl
  | cons j l ih =>
    simp only [put]
    rw [ih (fun k hk => h k (by simp [hk]))]
    cases sel j
    · rfl
    · simp only [if_true]
      rw [Act.put_comm a _ _ (fun d h1 h2 => h j (by simp) ⟨d, h2, h1⟩)]
theorem put_more {ops : Array Oper} {sel : Nat → Bool} {f : Nat → Value} {i : Nat} {v : Value} : ∀ {l : List Nat} (_ : i ∈ l) (_ : l.Nodup) (_ : ∀ j ∈ l, j ≠ i → ¬ clash ops i j) (_ : sel i = false) (a : Act), (put ops sel f l a).put (dst ops i) v = put ops (fun j => sel j || j == i) (upd f i v) l a
  | [], hi, _, _, _, _ => by cases hi
  | j :: l, hi, hn, hc, hs, a => by
    rw [List.nodup_cons] at hn
    by_cases hji : j = i
    · subst hji
      simp only [put, hs, Bool.false_eq_true, if_false, beq_self_eq_true, Bool.or_true, if_true, upd]
      rw [put_put (fun k hk => hc k (by simp [hk]) (fun e => hn.1 (e ▸ hk)))]
      refine put_congr (fun k hk => ?_) _
      have hne : k ≠ j := fun e => hn.1 (e ▸ hk)
      simp [hne, upd]
    · have hmem : i ∈ l := by
        rcases List.mem_cons.1 hi with h | h
        · exact absurd h.symm hji
        · exact h
      simp only [put]
      rw [put_more hmem hn.2 (fun k hk => hc k (by simp [hk])) hs]
      have e1 : (sel j || j == i) = sel j := by simp [hji]
      have e2 : upd f i v j = f j := by simp [upd, hji]
      simp only [e1, e2]
theorem put_own (a : Act) (d : Option Nat) (v : Value) (h : ∀ t, d = some t → v = a.tmps.getD t undef) : a.put d v = a := by
  cases d with
  | none => rfl
  | some t =>
    have hv := h t rfl
    subst hv
    show ({ a with tmps := a.tmps.setIfInBounds t (a.tmps.getD t undef) } : Act) = a
    congr 1
    apply Array.ext_getElem?
    intro k
    rw [Array.getElem?_setIfInBounds]
    split
    · rename_i htk
      subst htk
      split
      · rename_i hlt
        simp [hlt]
      · rename_i hlt
        simp [Array.getElem?_eq_none (Nat.le_of_not_lt hlt)]
    · rfl
theorem put_getD {a : Act} {d : Option Nat} {v : Value} {t : Nat} (h : d ≠ some t) : (a.put d v).tmps.getD t undef = a.tmps.getD t undef := by
  cases d with
  | none => rfl
  | some s =>
    have hne : s ≠ t := fun e => h (by rw [e])
    show (a.tmps.setIfInBounds s v).getD t undef = _
    simp [Array.getD_eq_getD_getElem?, Array.getElem?_setIfInBounds_ne hne]
theorem put_wide {ops : Array Oper} {D sel : Nat → Bool} {f g : Nat → Value} (b : Act) : ∀ {l : List Nat} (_ : l.Nodup) (_ : ∀ i ∈ l, ∀ j ∈ l, i ≠ j → ¬ clash ops i j) (_ : ∀ j ∈ l, D j = true → sel j = true ∧ g j = f j) (a : Act) (_ : ∀ j ∈ l, D j = false → ∀ t, dst ops j = some t → g j = a.tmps.getD t undef), put ops D f l a = put ops sel g l a
  | [], _, _, _, _, _ => rfl
  | j :: l, hn, hc, hD, a, hg => by
    rw [List.nodup_cons] at hn
    simp only [put]
    have key : ∀ a' : Act, (∀ k ∈ l, ∀ t, dst ops k = some t → a'.tmps.getD t undef = a.tmps.getD t undef) → put ops D f l a' = put ops sel g l a' := fun a' h' =>
      put_wide b hn.2 (fun i hi k hk => hc i (by simp [hi]) k (by simp [hk])) (fun k hk => hD k (by simp [hk])) a' (fun k hk h1 t ht => by rw [h' k hk t ht]; exact hg k (by simp [hk]) h1 t ht)
    have far : ∀ v, ∀ k ∈ l, ∀ t, dst ops k = some t → (a.put (dst ops j) v).tmps.getD t undef = a.tmps.getD t undef := fun v k hk t ht => put_getD (fun e => hc j (by simp) k (by simp [hk]) (fun e => hn.1 (e ▸ hk)) ⟨t, e, ht⟩)
    cases hj : D j
    · have e : (if sel j = true then a.put (dst ops j) (g j) else a) = a := by
        split
        · exact put_own _ _ _ (fun t ht => hg j (by simp) hj t ht)
        · rfl
      rw [e]
      exact key a (fun _ _ _ _ => rfl)
    · obtain ⟨h1, h2⟩ := hD j (by simp) hj
      rw [h1, h2]
      exact key _ (far _)

def cnt (D : Nat → Bool) : Nat → Nat
 | 0 => 0
 | k + 1 => cnt D k + (if D k then 1 else 0)
theorem cnt_le (D : Nat → Bool) : ∀ m, cnt D m ≤ m
 | 0 => Nat.le_refl _
 | k + 1 => by have := cnt_le D k; simp only [cnt]; split <;> omega
theorem cnt_congr {D D' : Nat → Bool} : ∀ {m : Nat}, (∀ j, j < m → D j = D' j) → cnt D m = cnt D' m
 | 0, _ => rfl
 | k + 1, h => by simp only [cnt]; rw [cnt_congr (fun j hj => h j (by omega)), h k (by omega)]
theorem cnt_more {D D' : Nat → Bool} {i : Nat} (hD : D i = false) (hD' : D' i = true) (h : ∀ j, j ≠ i → D' j = D j) : ∀ {m : Nat}, i < m → cnt D' m = cnt D m + 1
  | 0, hi => by omega
  | k + 1, hi => by
    simp only [cnt]
    by_cases hk : k = i
    · subst hk
      rw [hD, hD', cnt_congr (fun j hj => h j (by omega))]
      simp
    · rw [cnt_more hD hD' h (m := k) (by omega), h k hk]
      omega
theorem cnt_full {D : Nat → Bool} : ∀ {m : Nat}, (∀ j, j < m → D j = true) → cnt D m = m
 | 0, _ => rfl
 | k + 1, h => by simp only [cnt]; rw [cnt_full (fun j hj => h j (by omega)), h k (by omega)]; simp
theorem cnt_lt {D : Nat → Bool} {i : Nat} (hD : D i = false) : ∀ {m : Nat}, i < m → cnt D m < m
  | 0, hi => by omega
  | k + 1, hi => by
    simp only [cnt]
    by_cases hk : k = i
    · subst hk; have := cnt_le D k; rw [hD]; simp; omega
    · have := cnt_lt hD (m := k) (by omega); split <;> omega

def ok (ops : Array Oper) (M : Nat → Nat) (m : Nat) : Bool :=
  decide (m ≤ ops.size) &&
  ((List.range ops.size).all fun i => match ops[i]? with
    | none => false
    | some o => (o.after.all fun e => !binds e || decide (e.on < i)) &&
      ((List.range ops.size).all fun k => !(M i).testBit k || o.after.any fun e => binds e && (e.on == k || (M e.on).testBit k)) &&
      (decide (i < m) || (List.range i).all fun k => (M i).testBit k) && decide (M i < 2 ^ i)) &&
  ((List.range m).all fun i => (List.range m).all fun j => i == j || (match dst ops i, dst ops j with | some d, some e => d != e | _, _ => true))

structure Form (ops : Array Oper) (M : Nat → Nat) (m : Nat) : Prop where
 le : m ≤ ops.size
 up : ∀ i o, ops[i]? = some o → ∀ e ∈ o.after, binds e = true → e.on < i
 by_ : ∀ i o k, ops[i]? = some o → k < ops.size → (M i).testBit k = true → ∃ e ∈ o.after, binds e = true ∧ (e.on = k ∨ (M e.on).testBit k = true)
 low : ∀ i, i < ops.size → M i < 2 ^ i
 late : ∀ i, m ≤ i → i < ops.size → ∀ k, k < i → (M i).testBit k = true
 own : ∀ i j, i < m → j < m → i ≠ j → ¬ clash ops i j
theorem ok.form {ops : Array Oper} {M : Nat → Nat} {m : Nat} (h : ok ops M m = true) : Form ops M m := by
 unfold ok at h
 rw [Bool.and_eq_true, Bool.and_eq_true, decide_eq_true_eq, List.all_eq_true, List.all_eq_true] at h
 obtain ⟨⟨hle, h1⟩, h2⟩ := h
 have key : ∀ i o, ops[i]? = some o → (∀ e ∈ o.after, binds e = true → e.on < i) ∧ (∀ k, k < ops.size → (M i).testBit k = true → ∃ e ∈ o.after, binds e = true ∧ (e.on = k ∨ (M e.on).testBit k = true)) ∧ (m ≤ i → ∀ k, k < i → (M i).testBit k = true) ∧ M i < 2 ^ i := by
  intro i o ho
  have hi : i < ops.size := (Array.getElem?_eq_some_iff.1 ho).1
  have := h1 i (List.mem_range.2 hi)
  rw [ho] at this
  simp only [Bool.and_eq_true, Array.all_eq_true_iff_forall_mem, Bool.or_eq_true, Bool.not_eq_true', decide_eq_true_eq, List.all_eq_true, List.mem_range, Array.any_eq_true', beq_iff_eq] at this
  obtain ⟨⟨⟨a1, a2⟩, a3⟩, a4⟩ := this
  refine ⟨fun e he hb => (a1 e he).resolve_left (by simp [hb]), fun k hk hb => ?_, fun hm k hk => (a3.resolve_left (by omega)) k hk, a4⟩
  obtain ⟨e, he, h3, h4⟩ := (a2 k hk).resolve_left (by simp [hb])
  exact ⟨e, he, h3, h4⟩
 refine ⟨hle, fun i o ho => (key i o ho).1, fun i o k ho => (key i o ho).2.1 k, fun i hi => (key i _ (Array.getElem?_eq_getElem hi)).2.2.2, fun i hm hi k hk => ?_, fun i j hi hj hne => ?_⟩
 · exact (key i _ (Array.getElem?_eq_getElem hi)).2.2.1 hm k hk
 · have h3 := h2 i (List.mem_range.2 hi)
   rw [List.all_eq_true] at h3
   have h4 := h3 j (List.mem_range.2 hj)
   rintro ⟨d, e1, e2⟩
   rw [e1, e2] at h4
   simp [hne] at h4

theorem Form.bit {ops : Array Oper} {M : Nat → Nat} {m : Nat} (h : Form ops M m) (i : Nat) (hi : i < ops.size) (k : Nat) (hk : (M i).testBit k = true) : k < i := by
 rcases Nat.lt_or_ge k i with hlt | hge
 · exact hlt
 · have h1 := h.low i hi
   rw [Nat.testBit_lt_two_pow (Nat.lt_of_lt_of_le h1 (Nat.pow_le_pow_right (by omega) hge))] at hk
   cases hk

theorem anc {ops : Array Oper} {M : Nat → Nat} {m : Nat} (hF : Form ops M m) {listed : Array Bool} (hcl : ∀ j o, ops[j]? = some o → listed.getD j false = true → ∀ e ∈ o.after, binds e = true → listed.getD e.on false = true) :
    ∀ n i o, i ≤ n → ops[i]? = some o → (∀ e ∈ o.after, binds e = true → listed.getD e.on false = true) → ∀ k, k < ops.size → (M i).testBit k = true → listed.getD k false = true := by
  intro n
  induction n with
  | zero =>
    intro i o hin ho hd k hk hb
    obtain ⟨e, he, hb', _⟩ := hF.by_ i o k ho hk hb
    have := hF.up i o ho e he hb'
    omega
  | succ n ihn =>
    intro i o hin ho hd k hk hb
    obtain ⟨e, he, hb', h1⟩ := hF.by_ i o k ho hk hb
    rcases h1 with rfl | h1
    · exact hd e he hb'
    · have hlt' := hF.up i o ho e he hb'
      have hes : e.on < ops.size := by have := (Array.getElem?_eq_some_iff.1 ho).1; omega
      exact ihn e.on _ (by omega) (Array.getElem?_eq_getElem hes) (hcl e.on _ (Array.getElem?_eq_getElem hes) (hd e he hb')) k hk h1

section
variable {P : Program} {ops : Array Oper} {Q : Exit → Act → World → Prop}

def Step (P : Program) (ops : Array Oper) (Q : Exit → Act → World → Prop) (E : World → World → Prop) (m : Nat) (M : Nat → Nat) (AL : Nat → Bool) (R : Nat → (Nat → Value) → World → Prop) (a : Act) (w : World) (i : Nat) : Prop :=
  ∀ f X, E w X → (∀ j, (M i).testBit j = true → R j f X) → ∀ K : Act → World → Prop,
    (∀ a' v X', a' = (put ops (nd M i) f (List.range m) a).put (dst ops i) v → E X X' → (if AL i = true then v = .pointer (some ⟨X.heap.size, 0, none⟩) ∧ X.heap.size < X'.heap.size else True) → (∀ Y, E X' Y → R i (upd f i v) Y) → K a' X') →
    wpOp P ops Q i K (put ops (nd M i) f (List.range m) a) X

theorem Step.intro {E : World → World → Prop} {m : Nat} {M : Nat → Nat} {AL : Nat → Bool} {R : Nat → (Nat → Value) → World → Prop} {a : Act} {w : World} {i : Nat} {o : Oper} (ho : ops[i]? = some o)
 (h : ∀ f X, E w X → (∀ j, (M i).testBit j = true → R j f X) → ∀ K : Act → World → Prop,
  (∀ a' v X', a' = (put ops (nd M i) f (List.range m) a).put o.dst v → E X X' → (if AL i = true then v = .pointer (some ⟨X.heap.size, 0, none⟩) ∧ X.heap.size < X'.heap.size else True) → (∀ Y, E X' Y → R i (upd f i v) Y) → K a' X') →
  if Region.wanted o (yielded ops (put ops (nd M i) f (List.range m) a).tmps) = true then Oper.wp P o (put ops (nd M i) f (List.range m) a) X K Q else K ((put ops (nd M i) f (List.range m) a).put o.dst undef) X) :
 Step P ops Q E m M AL R a w i := fun f X hX hR K hK => wpOp_step ho fun K' hK' => h f X hX hR K' fun a' v X' ha hE hA hR' => hK' _ _ (hK a' v X' (by rw [ha, dst, ho]; rfl) hE hA hR')

structure Inv (ops : Array Oper) (E : World → World → Prop) (m : Nat) (M : Nat → Nat) (AL : Nat → Bool) (R : Nat → (Nat → Value) → World → Prop) (a : Act) (w : World) (D : Nat → Bool) (f : Nat → Value) (a' : Act) (X : World) : Prop where
 act : a' = put ops D f (List.range m) a
 ext : E w X
 said : ∀ j, j < m → D j = true → R j (mask M j f) X
 at_ : ∀ j, j < m → D j = true → AL j = true → ∃ b, f j = .pointer (some ⟨b, 0, none⟩) ∧ b < X.heap.size
 apart : ∀ j k, j < m → k < m → D j = true → D k = true → AL j = true → AL k = true → j ≠ k → f j ≠ f k

theorem fin {E : World → World → Prop} {m : Nat} {M : Nat → Nat} {AL : Nat → Bool} {R : Nat → (Nat → Value) → World → Prop} {a : Act} {w : World} (_hF : Form ops M m)
 (hfin : ∀ f X, E w X → (∀ j, j < m → R j (mask M j f) X) → (∀ j, j < m → AL j = true → ∃ b, f j = .pointer (some ⟨b, 0, none⟩) ∧ b < X.heap.size) → (∀ j k, j < m → k < m → AL j = true → AL k = true → j ≠ k → f j ≠ f k) →
  wpAny P .any ops Q (ops.size - m) (((List.range ops.size).map fun j => decide (j < m)).toArray) (put ops (fun _ => true) f (List.range m) a) X)
 {fuel : Nat} {listed : Array Bool} {f : Nat → Value} {a' : Act} {X : World} (hsz : listed.size = ops.size) (hall : ∀ j, j < m → listed.getD j false = true) (hlt : ∀ j, listed.getD j false = true → j < m)
 (hI : Inv ops E m M AL R a w (fun j => listed.getD j false) f a' X) (hfuel : fuel + m = ops.size) : wpAny P .any ops Q fuel listed a' X := by
 have e1 : listed = ((List.range ops.size).map fun j => decide (j < m)).toArray := by
  apply Array.ext
  · simp [hsz]
  · intro k h1 h2
    simp only [List.getElem_toArray, List.getElem_map, List.getElem_range]
    by_cases hk : k < m
    · have := hall k hk
      simpa [h1, hk] using this
    · cases hd : listed[k]
      · simp [hk]
      · exact absurd (hlt k (by simp [h1, hd])) hk
 have e2 : a' = put ops (fun _ => true) f (List.range m) a := by
  rw [hI.act]
  exact put_congr (fun j hj => ⟨hall j (List.mem_range.1 hj), rfl⟩) _
 have e3 : fuel = ops.size - m := by omega
 rw [e1, e2, e3]
 exact hfin f X hI.ext (fun j hj => hI.said j hj (hall j hj)) (fun j hj h => hI.at_ j hj (hall j hj) h) (fun j k hj hk h1 h2 => hI.apart j k hj hk (hall j hj) (hall k hk) h1 h2)

theorem par {E : World → World → Prop} (hE0 : ∀ w, E w w) (hE1 : ∀ a b c, E a b → E b c → E a c) (hE2 : ∀ a b, E a b → a.heap.size ≤ b.heap.size)
    {m : Nat} {M : Nat → Nat} {AL : Nat → Bool} {R : Nat → (Nat → Value) → World → Prop} {a : Act} {w : World} (hF : Form ops M m)
    (hR : ∀ j, j < m → ∀ f X, R j (mask M j f) X → ∀ Y, E X Y → R j (mask M j f) Y)
    (hstep : ∀ i, i < m → Step P ops Q E m M AL (fun j f X => R j (mask M j f) X) a w i)
    (hfin : ∀ f X, E w X → (∀ j, j < m → R j (mask M j f) X) → (∀ j, j < m → AL j = true → ∃ b, f j = .pointer (some ⟨b, 0, none⟩) ∧ b < X.heap.size) → (∀ j k, j < m → k < m → AL j = true → AL k = true → j ≠ k → f j ≠ f k) →
      wpAny P .any ops Q (ops.size - m) (((List.range ops.size).map fun j => decide (j < m)).toArray) (put ops (fun _ => true) f (List.range m) a) X) :
    ∀ (fuel : Nat) (listed : Array Bool) (f : Nat → Value) (a' : Act) (X : World), listed.size = ops.size →
      (∀ j o, ops[j]? = some o → listed.getD j false = true → ∀ e ∈ o.after, binds e = true → listed.getD e.on false = true) →
      (∀ j, listed.getD j false = true → j < m) → fuel + cnt (fun j => listed.getD j false) m = ops.size →
      Inv ops E m M AL R a w (fun j => listed.getD j false) f a' X → wpAny P .any ops Q fuel listed a' X := by
  intro fuel
  induction fuel with
  | zero =>
    intro listed f a' X hsz hcl hlt hc hI
    have hcm : cnt (fun j => listed.getD j false) m ≤ m := cnt_le _ _
    have hmm : m = ops.size := by have := hF.le; omega
    have hall : ∀ j, j < m → listed.getD j false = true := fun j hj => by
      cases h : listed.getD j false
      · have := cnt_lt (D := fun j => listed.getD j false) (i := j) h hj; omega
      · rfl
    exact fin hF hfin hsz hall hlt hI (by omega)
  | succ fuel ih =>
    intro listed f a' X hsz hcl hlt hc hI
    by_cases hall : ∀ j, j < m → listed.getD j false = true
    · have hcm := cnt_full (D := fun j => listed.getD j false) hall
      exact fin hF hfin hsz hall hlt hI (by omega)
    · refine ⟨fun h => ?_, fun i hi => ?_⟩
      · exfalso
        -- the first that is not done may come up
        have : ∀ n, n ≤ m → (∀ j, j < n → listed.getD j false = true) := by
          intro n
          induction n with
          | zero => intro _ j hj; omega
          | succ n ihn =>
            intro hn j hj
            by_cases hjn : j < n
            · exact ihn (by omega) j hjn
            · obtain rfl : j = n := by omega
              cases hd : listed.getD j false
              · exfalso
                have hjs : j < ops.size := by have := hF.le; omega
                have hmem : j ∈ Region.ready .any ops listed := by
                  rw [mem_ready]
                  have hjl : j < listed.size := by omega
                  refine ⟨by simpa [hjl] using hd, _, Array.getElem?_eq_getElem hjs, fun e he hb => ihn (by omega) _ (hF.up j _ (Array.getElem?_eq_getElem hjs) e he hb)⟩
                rw [h] at hmem
                cases hmem
              · rfl
        exact hall (this m (Nat.le_refl _))
      · obtain ⟨hi0, o, ho, hdep⟩ := mem_ready.1 hi
        have his : i < ops.size := (Array.getElem?_eq_some_iff.1 ho).1
        have hil : i < listed.size := by omega
        have hid : listed.getD i false = false := by simpa [hil] using hi0
        have anc := fun i o hio hd k hk hb => anc hF hcl i i o (Nat.le_refl _) hio hd k (Nat.lt_of_lt_of_le hk hF.le) hb
        have him : i < m := by
          rcases Nat.lt_or_ge i m with h | h
          · exact h
          · exact absurd (fun k hk => anc i o ho hdep k hk (hF.late i h his k (by omega))) hall
        -- what waits for it is not
        have hnd : ∀ j, j < m → listed.getD j false = true → nd M i j = true := fun j hj hd => by
          have h1 : j ≠ i := fun e => by rw [e, hid] at hd; cases hd
          have hjs : j < ops.size := by have := hF.le; omega
          have h2 : (M j).testBit i = false := by
            cases hb : (M j).testBit i
            · rfl
            · have := anc j _ (Array.getElem?_eq_getElem hjs) (hcl j _ (Array.getElem?_eq_getElem hjs) hd) i him hb
              rw [hid] at this; cases this
          simp [nd, h1, h2]
        -- the slots as the step sees them
        obtain ⟨g, hg⟩ : ∃ g : Nat → Value, g = fun j => if listed.getD j false = true then f j else ((dst ops j).map fun t => a.tmps.getD t undef).getD undef := ⟨_, rfl⟩
        have hgf : ∀ j, listed.getD j false = true → g j = f j := fun j hj => by rw [hg]; simp only [hj, if_true]
        have hact : a' = put ops (nd M i) g (List.range m) a := by
          rw [hI.act]
          refine put_wide a List.nodup_range (fun p hp q hq => hF.own p q (List.mem_range.1 hp) (List.mem_range.1 hq)) (fun j hj hd => ⟨hnd j (List.mem_range.1 hj) hd, hgf j hd⟩) a (fun j _ hd t ht => ?_)
          rw [hg]
          simp only [hd, Bool.false_eq_true, if_false, ht, Option.map_some, Option.getD_some]
        have hmask : ∀ j, j < m → listed.getD j false = true → mask M j g = mask M j f := fun j hj hd => by
          funext k
          unfold mask
          split
          · rename_i hk
            rw [Bool.or_eq_true, beq_iff_eq] at hk
            rcases hk with rfl | hk
            · exact hgf _ hd
            · have hjs : j < ops.size := by have := hF.le; omega
              have hkj := hF.bit j hjs k hk
              exact hgf k (anc j _ (Array.getElem?_eq_getElem hjs) (hcl j _ (Array.getElem?_eq_getElem hjs) hd) k (by omega) hk)
          · rfl
        rw [hact]
        refine hstep i him g X hI.ext (fun j hb => ?_) _ (fun a'' v X' ha hE hA hR' => ?_)
        · have hj : j < m := by have := hF.bit i his j hb; omega
          have hd := anc i o ho hdep j hj hb
          show R j (mask M j g) X
          rw [hmask j hj hd]
          exact hI.said j hj hd
        · have hnew : ∀ j, (listed.setIfInBounds i true).getD j false = (listed.getD j false || j == i) := fun j => by
            by_cases hji : j = i
            · subst hji; simp [hil]
            · rw [Go.getD_set_ne false (fun e => hji e.symm)]; simp [hji]
          have hnin : ∀ j, j < m → listed.getD j false = true → j ≠ i := fun j _ hd e => by rw [e, hid] at hd; cases hd
          have hupd : ∀ j, listed.getD j false = true → upd g i v j = f j := fun j hd => by
            have hne : j ≠ i := fun e => by rw [e, hid] at hd; cases hd
            simp only [upd, hne, if_false]; exact hgf j hd
          have hupi : upd g i v i = v := by simp [upd]
          have hmk : ∀ j, j < m → listed.getD j false = true → mask M j (upd g i v) = mask M j f := fun j hj hd => by
            rw [← hmask j hj hd]
            funext k
            unfold mask
            split
            · rename_i hk
              rw [Bool.or_eq_true, beq_iff_eq] at hk
              have hne : k ≠ i := by
                rintro rfl
                rcases hk with rfl | hk
                · exact hnin _ hj hd rfl
                · have := hnd j hj hd
                  simp [nd, hk] at this
              simp [upd, hne]
            · rfl
          refine ih _ (upd g i v) a'' X' (by simpa using hsz) (fun j oj hoj hd e he hb => ?_) (fun j hd => ?_) ?_ ⟨?_, hE1 _ _ _ hI.ext hE, fun j hj hd => ?_, fun j hj hd hal => ?_, fun j k hj hk hd hd' hal hal' hne => ?_⟩
          · rw [hnew] at hd ⊢
            rw [Bool.or_eq_true, beq_iff_eq] at hd ⊢
            rcases hd with hd | rfl
            · exact .inl (hcl j oj hoj hd e he hb)
            · rw [ho] at hoj; cases hoj; exact .inl (hdep e he hb)
          · rw [hnew, Bool.or_eq_true, beq_iff_eq] at hd
            rcases hd with hd | rfl
            · exact hlt j hd
            · exact him
          · rw [cnt_more (D := fun j => listed.getD j false) (D' := fun j => (listed.setIfInBounds i true).getD j false) hid (by rw [hnew]; simp) (fun j hj => by show (listed.setIfInBounds i true).getD j false = listed.getD j false; rw [hnew]; simp [hj]) him]
            omega
          · rw [ha, put_more (List.mem_range.2 him) List.nodup_range (fun j hj hne => hF.own i j him (List.mem_range.1 hj) (Ne.symm hne)) (by simp [nd])]
            refine (put_wide a List.nodup_range (fun p hp q hq => hF.own p q (List.mem_range.1 hp) (List.mem_range.1 hq)) (fun j hj hd => ⟨?_, rfl⟩) a (fun j hj hd t ht => ?_)).symm
            · rw [hnew, Bool.or_eq_true, beq_iff_eq] at hd
              rw [Bool.or_eq_true, beq_iff_eq]
              exact hd.imp (hnd j (List.mem_range.1 hj)) id
            · rw [hnew, Bool.or_eq_false_iff] at hd
              have hne : j ≠ i := by simpa using hd.2
              simp only [upd, hne, if_false]
              rw [hg]
              simp only [hd.1, Bool.false_eq_true, if_false, ht, Option.map_some, Option.getD_some]
          · rw [hnew, Bool.or_eq_true, beq_iff_eq] at hd
            by_cases hold : listed.getD j false = true
            · rw [hmk j hj hold]
              have := hI.said j hj hold
              exact hR j hj f X this X' hE
            · obtain rfl : j = i := hd.resolve_left hold
              exact hR' X' (hE0 _)
          · rw [hnew, Bool.or_eq_true, beq_iff_eq] at hd
            by_cases hold : listed.getD j false = true
            · obtain ⟨b, h1, h2⟩ := hI.at_ j hj hold hal
              exact ⟨b, (hupd j hold).trans h1, Nat.lt_of_lt_of_le h2 (hE2 _ _ hE)⟩
            · obtain rfl : j = i := hd.resolve_left hold
              rw [if_pos hal] at hA
              exact ⟨X.heap.size, hupi.trans hA.1, hA.2⟩
          · rw [hnew, Bool.or_eq_true, beq_iff_eq] at hd hd'
            have key : ∀ j k, j < m → listed.getD j false = true → AL j = true → AL k = true → k = i → upd g i v j ≠ upd g i v k := fun j k hj hold hal hal' hki heq => by
              subst hki
              rw [if_pos hal'] at hA
              obtain ⟨b, h1, h2⟩ := hI.at_ j hj hold hal
              rw [hupd j hold, hupi, h1, hA.1] at heq
              injection heq with heq
              injection heq with heq
              injection heq with heq
              omega
            by_cases hold : listed.getD j false = true
            · by_cases hold' : listed.getD k false = true
              · rw [hupd j hold, hupd k hold']
                exact hI.apart j k hj hk hold hold' hal hal' hne
              · exact key j k hj hold hal hal' (hd'.resolve_left hold')
            · have hji := hd.resolve_left hold
              by_cases hold' : listed.getD k false = true
              · exact fun e => key k j hk hold' hal' hal hji e.symm
              · exact absurd (hji.trans (hd'.resolve_left hold').symm) hne
structure Way (p : Prop) : Prop where
 out : p

def Chain (P : Program) (ol : List Oper) (Q : Exit → Act → World → Prop) : List Oper → Act → World → Prop
 | [], a, w => Q .normal a w
 | o :: l, a, w => ∀ K : Act → World → Prop, (∀ a w, Chain P ol Q l a w → K a w) → if Region.wanted o (yielded ol.toArray a.tmps) = true then Oper.wp P o a w K Q else K (a.put o.dst undef) w
def upto (n m : Nat) : Array Bool := ((List.range n).map fun j => decide (j < m)).toArray
theorem upto_getD {n m j : Nat} (h : j < n) : (upto n m).getD j false = decide (j < m) := by
 simp [upto, h]
theorem upto_set {n m : Nat} (h : m < n) : (upto n m).setIfInBounds m true = upto n (m + 1) := by
 apply Array.ext
 · simp [upto]
 · intro k h1 h2
   have hk : k < n := by simpa [upto] using h2
   by_cases hkm : k = m
   · subst hkm; simp [upto]
   · rw [Array.getElem_setIfInBounds_ne (by simpa [upto] using hk) (fun e => hkm e.symm)]
     simp only [upto, List.getElem_toArray, List.getElem_map, List.getElem_range, decide_eq_decide]
     omega
theorem Chain.sound {ol : List Oper} {M : Nat → Nat} {m : Nat} (hF : Form ol.toArray M m) : ∀ (n m' : Nat) (a : Act) (X : World), m ≤ m' → m' + n = ol.toArray.size → Chain P ol Q (ol.drop m') a X → wpAny P .any ol.toArray Q n (upto ol.toArray.size m') a X := by
  intro n
  induction n with
  | zero =>
    intro m' a X hm hn h
    have hnil : ol.drop m' = [] := List.drop_eq_nil_of_le (by simp at hn; omega)
    rw [hnil] at h
    refine ⟨?_, h⟩
    cases hr : Region.ready .any ol.toArray (upto ol.toArray.size m') with
    | nil => rfl
    | cons i l =>
      have hi : i ∈ Region.ready .any ol.toArray (upto ol.toArray.size m') := by rw [hr]; simp
      obtain ⟨h0, o, ho, _⟩ := mem_ready.1 hi
      have his := (Array.getElem?_eq_some_iff.1 ho).1
      have h1 : (upto ol.toArray.size m').getD i true = decide (i < m') := by
        have : i < ol.length := by simpa using his
        simp [upto, this]
      rw [h1, decide_eq_false_iff_not] at h0
      omega
  | succ n ih =>
    intro m' a X hm hn h
    have hms : m' < ol.length := by simp at hn; omega
    have hms' : m' < ol.toArray.size := by simpa using hms
    have hcl : ∀ j o, ol.toArray[j]? = some o → (upto ol.toArray.size m').getD j false = true → ∀ e ∈ o.after, binds e = true → (upto ol.toArray.size m').getD e.on false = true := fun j o ho hj e he hb => by
      have hjs := (Array.getElem?_eq_some_iff.1 ho).1
      have hlt := hF.up j o ho e he hb
      rw [upto_getD hjs] at hj
      rw [upto_getD (by omega)]
      simp at hj ⊢; omega
    have hmem : m' ∈ Region.ready .any ol.toArray (upto ol.toArray.size m') := by
      rw [mem_ready]
      refine ⟨?_, _, Array.getElem?_eq_getElem hms', fun e he hb => ?_⟩
      · simp [upto, hms]
      · have hlt := hF.up m' _ (Array.getElem?_eq_getElem hms') e he hb
        rw [upto_getD (by omega)]; simpa using hlt
    refine ⟨fun h0 => (by rw [h0] at hmem; cases hmem), fun i hi => ?_⟩
    obtain ⟨h0, o, ho, hdep⟩ := mem_ready.1 hi
    have his := (Array.getElem?_eq_some_iff.1 ho).1
    have him : i = m' := by
      have h1 : (upto ol.toArray.size m').getD i true = decide (i < m') := by
        have : i < ol.length := by simpa using his
        simp [upto, this]
      rw [h1, decide_eq_false_iff_not] at h0
      rcases Nat.lt_or_ge m' i with hlt | hge
      · have := anc hF hcl i i o (Nat.le_refl _) ho hdep m' hms' (hF.late i (by omega) his m' hlt)
        rw [upto_getD hms'] at this
        simp at this
      · omega
    subst him
    rw [List.drop_eq_getElem_cons hms] at h
    have hoe : o = ol[i] := by
      have : ol[i]? = some o := by simpa using ho
      rw [List.getElem?_eq_getElem hms] at this
      injection this with this
      exact this.symm
    rw [upto_set hms']
    refine wpOp_step ho fun K' hK' => ?_
    rw [hoe]
    exact h K' fun a w hc => hK' a w (ih (i + 1) a w (by omega) (by omega) hc)
theorem Chain.next {ol : List Oper} {o : Oper} {l : List Oper} {a : Act} {w : World} (h : ∀ K : Act → World → Prop, Way (∀ a w, Way (Chain P ol Q l a w) → K a w) → Way (if Region.wanted o (yielded ol.toArray a.tmps) = true then Oper.wp P o a w K Q else K (a.put o.dst undef) w)) : Way (Chain P ol Q (o :: l) a w) :=
 ⟨fun K hK => (h K ⟨fun a w hc => hK a w hc.out⟩).out⟩
theorem Chain.done {ol : List Oper} {a : Act} {w : World} (h : Q .normal a w) : Way (Chain P ol Q [] a w) := ⟨h⟩

def sel (ops : Array Oper) (s : Nat → Bool) (l : List Nat) : List (Nat × Nat) := l.filterMap fun j => if s j then (dst ops j).map fun d => (d, j) else none
def putL (f : Nat → Value) : List (Nat × Nat) → Act → Act
 | [], a => a
 | p :: l, a => putL f l (a.put (some p.1) (f p.2))
theorem put_sel (s : Nat → Bool) (f : Nat → Value) (l : List Nat) (a : Act) : put ops s f l a = putL f (sel ops s l) a := by
  induction l generalizing a with
  | nil => rfl
  | cons j l ih =>
    simp only [put, sel, List.filterMap_cons]
    rw [ih]
    cases s j
    · rfl
    · simp only [if_true]
      cases h : dst ops j with
      | none => rfl
      | some d => rfl

def AllFrom (S : Nat → Prop) : Nat → Nat → Prop
 | _, 0 => True
 | k, n + 1 => S k ∧ AllFrom S (k + 1) n
theorem AllFrom.nil {S : Nat → Prop} {k : Nat} : AllFrom S k 0 := trivial
theorem AllFrom.cons {S : Nat → Prop} {k n : Nat} (k' n' : Nat) (hk : k + 1 = k') (hn : n' + 1 = n) (h : S k) (hs : AllFrom S k' n') : AllFrom S k n := by
 subst hk hn; exact ⟨h, hs⟩
theorem AllFrom.out {S : Nat → Prop} : ∀ {n k : Nat}, AllFrom S k n → ∀ i, k ≤ i → i < k + n → S i
  | 0, k, _, i, h1, h2 => by omega
  | n + 1, k, h, i, h1, h2 => by
    by_cases hi : i = k
    · subst hi; exact h.1
    · exact h.2.out i (by omega) (by omega)

def StepU (P : Program) (ops : Array Oper) (Q : Exit → Act → World → Prop) (E : World → World → Prop) (m : Nat) (L : List Nat) (AL : List Nat) (R : Nat → (Nat → Value) → World → Prop) (a : Act) (w : World) (i : Nat) : Prop :=
 Step P ops Q E m (fun i => L.getD i 0) (fun i => AL.contains i) (fun j f X => R j (mask (fun i => L.getD i 0) j f) X) a w i
theorem StepU.intro {E : World → World → Prop} {m : Nat} {L AL : List Nat} {R : Nat → (Nat → Value) → World → Prop} {a : Act} {w : World} {i : Nat} {o : Oper} (pl : List (Nat × Nat)) (ho : ops[i]? = some o) (hpl : sel ops (nd (fun i => L.getD i 0) i) (List.range m) = pl)
 (h : ∀ f X, E w X → Way (∀ j, (L.getD i 0).testBit j = true → R j (mask (fun i => L.getD i 0) j f) X) → ∀ K : Act → World → Prop,
  Way (∀ a' v X', a' = (putL f pl a).put o.dst v → E X X' → (if AL.contains i = true then v = .pointer (some ⟨X.heap.size, 0, none⟩) ∧ X.heap.size < X'.heap.size else True) → (∀ Y, E X' Y → R i (mask (fun i => L.getD i 0) i (upd f i v)) Y) → K a' X') →
  Way (if Region.wanted o (yielded ops (putL f pl a).tmps) = true then Oper.wp P o (putL f pl a) X K Q else K ((putL f pl a).put o.dst undef) X)) :
 StepU P ops Q E m L AL R a w i := Step.intro ho fun f X hX hR K hK => by
 have h1 := h f X hX ⟨hR⟩ K
 rw [← hpl, ← put_sel] at h1
 exact (h1 ⟨hK⟩).out

structure StepO (P : Program) (ol : List Oper) (Q : Exit → Act → World → Prop) (E : World → World → Prop) (m : Nat) (L : List Nat) (AL : List Nat) (R : Nat → (Nat → Value) → World → Prop) (a : Act) (w : World) (i : Nat) (o : Oper) : Prop where
 out : ol[i]? = some o → StepU P ol.toArray Q E m L AL R a w i
theorem StepO.intro {ol : List Oper} {E : World → World → Prop} {m : Nat} {L AL : List Nat} {R : Nat → (Nat → Value) → World → Prop} {a : Act} {w : World} {i : Nat} {o : Oper} (pl : List (Nat × Nat)) (hpl : sel ol.toArray (nd (fun i => L.getD i 0) i) (List.range m) = pl)
 (h : ∀ f X, E w X → Way (∀ j, (L.getD i 0).testBit j = true → R j (mask (fun i => L.getD i 0) j f) X) → ∀ K : Act → World → Prop,
  Way (∀ a' v X', a' = (putL f pl a).put o.dst v → E X X' → (if AL.contains i = true then v = .pointer (some ⟨X.heap.size, 0, none⟩) ∧ X.heap.size < X'.heap.size else True) → (∀ Y, E X' Y → R i (mask (fun i => L.getD i 0) i (upd f i v)) Y) → K a' X') →
  Way (if Region.wanted o (yielded ol.toArray (putL f pl a).tmps) = true then Oper.wp P o (putL f pl a) X K Q else K ((putL f pl a).put o.dst undef) X)) :
 StepO P ol Q E m L AL R a w i o := ⟨fun ho => StepU.intro pl (by simpa using ho) hpl h⟩
inductive AllOps (S : Nat → Oper → Prop) (F : List Oper → Prop) : Nat → Nat → List Oper → Prop
 | fin {k : Nat} {l : List Oper} (h : F l) : AllOps S F k 0 l
 | step {k n : Nat} {o : Oper} {l : List Oper} (h : S k o) (hs : AllOps S F (k + 1) n l) : AllOps S F k (n + 1) (o :: l)
theorem AllOps.cons {S : Nat → Oper → Prop} {F : List Oper → Prop} {k n : Nat} {o : Oper} {l : List Oper} (k' n' : Nat) (hk : k + 1 = k') (hn : n' + 1 = n) (h : S k o) (hs : AllOps S F k' n' l) : AllOps S F k n (o :: l) := by
 subst hk hn; exact .step h hs
theorem AllOps.out {S : Nat → Oper → Prop} {F : List Oper → Prop} {n k : Nat} {l : List Oper} (h : AllOps S F k n l) : ∀ i, i < n → ∃ o, l[i]? = some o ∧ S (k + i) o := by
  induction h with
  | fin _ => intro i hi; omega
  | step h hs ih =>
    rename_i k n o l
    intro i hi
    match i with
    | 0 => exact ⟨o, rfl, h⟩
    | i + 1 =>
      obtain ⟨o', h1, h2⟩ := ih i (by omega)
      exact ⟨o', by simpa using h1, by rw [show k + (i + 1) = k + 1 + i by omega]; exact h2⟩
theorem AllOps.end_ {S : Nat → Oper → Prop} {F : List Oper → Prop} {n k : Nat} {l : List Oper} (h : AllOps S F k n l) : F (l.drop n) := by
 induction h with
 | fin h => exact h
 | step _ _ ih => exact ih

theorem want {b : Bool} {p q : Prop} (h : b = true) (hp : p) : if b = true then p else q := by rw [if_pos h]; exact hp
theorem none_ {n j : Nat} : (Array.replicate n false).getD j false = false := by
 rw [Array.getD_eq_getD_getElem?, Array.getElem?_replicate]
 split <;> rfl
theorem any_of {E : World → World → Prop} (hE0 : ∀ w, E w w) (hE1 : ∀ a b c, E a b → E b c → E a c) (hE2 : ∀ a b, E a b → a.heap.size ≤ b.heap.size)
 {a : Act} {w X0 : World} (hX0 : E w X0) (m : Nat) (L AL : List Nat) (R : Nat → (Nat → Value) → World → Prop) (hok : ok ops (fun i => L.getD i 0) m = true)
 (hstep : AllFrom (StepU P ops Q E m L AL R a w) 0 m) (pl : List (Nat × Nat)) (hpl : sel ops (fun _ => true) (List.range m) = pl)
 (hfin : ∀ f X, E w X → (∀ j, j < m → R j (mask (fun i => L.getD i 0) j f) X) → (∀ j, j < m → AL.contains j = true → ∃ b, f j = .pointer (some ⟨b, 0, none⟩) ∧ b < X.heap.size) → (∀ j k, j < m → k < m → AL.contains j = true → AL.contains k = true → j ≠ k → f j ≠ f k) →
  wpAny P .any ops Q (ops.size - m) (((List.range ops.size).map fun j => decide (j < m)).toArray) (putL f pl a) X) : wpAny P .any ops Q ops.size (Array.replicate ops.size false) a X0 := by
 have hF := ok.form hok
 refine par hE0 hE1 hE2 (R := fun j f X => ∀ Y, E X Y → R j f Y) (M := fun i => L.getD i 0) (AL := fun i => AL.contains i) (m := m) (a := a) (w := w) hF (fun j _ f X h Y hY Z hZ => h Z (hE1 _ _ _ hY hZ))
  (fun i hi f X hX hR K hK => ?_) (fun f X hX hR h1 h2 => ?_) ops.size _ (fun _ => undef) a X0 (by simp) (fun j o _ h => (by rw [none_] at h; cases h)) (fun j h => (by rw [none_] at h; cases h)) ?_ ⟨?_, hX0, fun j _ h => (by rw [none_] at h; cases h), fun j _ h => (by rw [none_] at h; cases h), fun j k _ _ h => (by rw [none_] at h; cases h)⟩
 · refine hstep.out i (Nat.zero_le _) (by omega) f X hX (fun j hj => hR j hj X (hE0 _)) K (fun a' v X' ha hE hA hR' => hK a' v X' ha hE hA (fun Y hY Z hZ => hR' Z (hE1 _ _ _ hY hZ)))
 · have := hfin f X hX (fun j hj => hR j hj X (hE0 _)) h1 h2
   rw [← hpl, ← put_sel] at this
   exact this
 · have : ∀ n, cnt (fun j => (Array.replicate ops.size false).getD j false) n = 0 := fun n => by
    induction n with
    | zero => rfl
    | succ n ih => rw [cnt, ih, none_]; rfl
   rw [this]; rfl
 · have : ∀ (l : List Nat) (a : Act), put ops (fun j => (Array.replicate ops.size false).getD j false) (fun _ => undef) l a = a := fun l => by
    induction l with
    | nil => intro a; rfl
    | cons j l ih => intro a; rw [put, none_]; exact ih _
   exact (this _ _).symm
structure Fin (P : Program) (ol : List Oper) (Q : Exit → Act → World → Prop) (E : World → World → Prop) (m : Nat) (L AL : List Nat) (R : Nat → (Nat → Value) → World → Prop) (pl : List (Nat × Nat)) (a : Act) (w : World) (l : List Oper) : Prop where
 out : ∀ f X, E w X → (∀ j, j < m → R j (mask (fun i => L.getD i 0) j f) X) → (∀ j, j < m → AL.contains j = true → ∃ b, f j = .pointer (some ⟨b, 0, none⟩) ∧ b < X.heap.size) → (∀ j k, j < m → k < m → AL.contains j = true → AL.contains k = true → j ≠ k → f j ≠ f k) → Way (Chain P ol Q l (putL f pl a) X)
theorem any_all {E : World → World → Prop} (hE0 : ∀ w, E w w) (hE1 : ∀ a b c, E a b → E b c → E a c) (hE2 : ∀ a b, E a b → a.heap.size ≤ b.heap.size)
 {ol : List Oper} {a : Act} {w X0 : World} (hX0 : E w X0) (m : Nat) (L AL : List Nat) (R : Nat → (Nat → Value) → World → Prop) (hok : ok ol.toArray (fun i => L.getD i 0) m = true) (pl : List (Nat × Nat)) (hpl : sel ol.toArray (fun _ => true) (List.range m) = pl)
 (hstep : AllOps (StepO P ol Q E m L AL R a w) (Fin P ol Q E m L AL R pl a w) 0 m ol) : wpAny P .any ol.toArray Q ol.toArray.size (Array.replicate ol.toArray.size false) a X0 := by
 refine any_of hE0 hE1 hE2 hX0 m L AL R hok ?_ pl hpl (fun f X hX hR h1 h2 => ?_)
 · have key : ∀ i, i < m → StepU P ol.toArray Q E m L AL R a w i := fun i hi => by
    obtain ⟨o, h1, h2⟩ := hstep.out i hi
    rw [Nat.zero_add] at h2
    exact h2.out h1
   have : ∀ n k, k + n = m → AllFrom (StepU P ol.toArray Q E m L AL R a w) k n := fun n => by
    induction n with
    | zero => intro k _; trivial
    | succ n ih => intro k hk; exact ⟨key k (by omega), ih (k + 1) (by omega)⟩
   exact this m 0 (by omega)
 · have hF := ok.form hok
   have h3 := (hstep.end_.out f X hX hR h1 h2).out
   exact Chain.sound hF (ol.toArray.size - m) m _ X (Nat.le_refl _) (by have := hF.le; omega) h3
theorem any_text {ol : List Oper} {M : Nat → Nat} {m : Nat} (hF : Form ol.toArray M m) : ∀ (n m' : Nat) (a : Act) (X : World), m' + n = ol.toArray.size → wpAny P .any ol.toArray Q n (upto ol.toArray.size m') a X → wpOps P ol.toArray Q (List.range' m' n) a X := by
  intro n
  induction n with
  | zero => intro m' a X _ h; exact h.2
  | succ n ih =>
    intro m' a X hn h
    have hms' : m' < ol.toArray.size := by omega
    have hmem : m' ∈ Region.ready .any ol.toArray (upto ol.toArray.size m') := by
      rw [mem_ready]
      refine ⟨?_, _, Array.getElem?_eq_getElem hms', fun e he hb => ?_⟩
      · have : m' < ol.length := by simpa using hms'
        simp [upto, this]
      · have hlt := hF.up m' _ (Array.getElem?_eq_getElem hms') e he hb
        rw [upto_getD (by omega)]; simpa using hlt
    rw [List.range'_succ, wpOps_cons]
    refine wpOp_mono (fun a w hw => ?_) (h.2 m' hmem)
    rw [upto_set hms'] at hw
    exact ih (m' + 1) a w (by omega) hw
theorem upto_zero (n : Nat) : Array.replicate n false = upto n 0 := by
 apply Array.ext
 · simp [upto]
 · intro k h1 h2
   simp [upto]
theorem region_ext {ol : List Oper} {id : Nat} {a : Act} {w : World} (hm : P.follows .mixedOrders = true) (m : Nat) (L AL : List Nat) (R : Nat → (Nat → Value) → World → Prop) (hok : ok ol.toArray (fun i => L.getD i 0) m = true) (pl : List (Nat × Nat)) (hpl : sel ol.toArray (fun _ => true) (List.range m) = pl)
 (hstep : AllOps (StepO P ol Q Ext m L AL R a w) (Fin P ol Q Ext m L AL R pl a w) 0 m ol) : (Code.region id ol.toArray true).wp P Q a w :=
 wp_region_any hm (any_all Ext.refl (fun _ _ _ => Ext.trans) (fun _ _ => Ext.bsize) (Ext.drew w) m L AL R hok pl hpl hstep)
theorem region_txt {ol : List Oper} {id : Nat} {a : Act} {w : World} (m : Nat) (L AL : List Nat) (R : Nat → (Nat → Value) → World → Prop) (hok : ok ol.toArray (fun i => L.getD i 0) m = true) (pl : List (Nat × Nat)) (hpl : sel ol.toArray (fun _ => true) (List.range m) = pl)
 (hstep : AllOps (StepO P ol Q Ext m L AL R a w) (Fin P ol Q Ext m L AL R pl a w) 0 m ol) : (Code.region id ol.toArray false).wp P Q a w := by
 refine wp_region ?_
 have h := any_all Ext.refl (fun _ _ _ => Ext.trans) (fun _ _ => Ext.bsize) (Ext.refl w) m L AL R hok pl hpl hstep
 rw [upto_zero] at h
 rw [List.range_eq_range']
 exact any_text (ok.form hok) _ 0 a w (by omega) h
end
theorem S {P : Program} {Q : Exit → Act → World → Prop} {ol : List Oper} {E : World → World → Prop} {m : Nat} {L AL : List Nat} {R : Nat → (Nat → Value) → World → Prop} {a : Act} {w : World} {F : List Oper → Prop} {k n : Nat} {o : Oper} {l : List Oper} (k' n' : Nat) (pl : List (Nat × Nat))
 (h : ∀ f X, E w X → Way (∀ j, (L.getD k 0).testBit j = true → R j (mask (fun i => L.getD i 0) j f) X) → ∀ K : Act → World → Prop,
  Way (∀ a' v X', a' = (putL f pl a).put o.dst v → E X X' → (if AL.contains k = true then v = .pointer (some ⟨X.heap.size, 0, none⟩) ∧ X.heap.size < X'.heap.size else True) → (∀ Y, E X' Y → R k (mask (fun i => L.getD i 0) k (upd f k v)) Y) → K a' X') →
  Way (if Region.wanted o (yielded ol.toArray (putL f pl a).tmps) = true then Oper.wp P o (putL f pl a) X K Q else K ((putL f pl a).put o.dst undef) X))
 (hs : AllOps (StepO P ol Q E m L AL R a w) F k' n' l) (hk : k + 1 = k' := by rfl) (hn : n' + 1 = n := by rfl) (hpl : sel ol.toArray (nd (fun i => L.getD i 0) k) (List.range m) = pl := by kernel_rfl) :
 AllOps (StepO P ol Q E m L AL R a w) F k n (o :: l) := AllOps.cons k' n' hk hn (StepO.intro pl hpl h) hs
theorem upd_self {f : Nat → Value} {j : Nat} {u : Value} (h : f j = u) : f = upd f j u := by
 funext i
 unfold upd
 split
 · rename_i e; rw [e]; exact h
 · rfl
theorem vx {P : Program} {Q : Exit → Act → World → Prop} {ol : List Oper} {m : Nat} {L AL : List Nat} {R : Nat → (Nat → Value) → World → Prop} {a : Act} {w : World} {F : List Oper → Prop} {k n : Nat} {o : Oper} {l : List Oper} {k' n' : Nat} {v : Value} (g : (Nat → Value) → Nat → Value)
 (hs : AllOps (StepO P ol Q Ext m L AL R a w) F k' n' l) (hg : ∀ f X, (∀ j, (L.getD k 0).testBit j = true → R j (mask (fun i => L.getD i 0) j f) X) → f = g f)
 (hR : ∀ f X, f k = v → R k (mask (fun i => L.getD i 0) k f) X) (hk : k + 1 = k') (hn : n' + 1 = n) (ha : AL.contains k = false)
 (hw : ∀ f, Region.wanted o (yielded ol.toArray (put ol.toArray (nd (fun i => L.getD i 0) k) (g f) (List.range m) a).tmps) = true)
 (hrun : ∀ f X, Ext w X → (execOp (put ol.toArray (nd (fun i => L.getD i 0) k) (g f) (List.range m) a).eval o).run P X = .ok (.value v) X) : AllOps (StepO P ol Q Ext m L AL R a w) F k n (o :: l) := by
 refine AllOps.cons k' n' hk hn ⟨fun ho => ?_⟩ hs
 intro f X hX hR' K hK
 have hf := hg f X hR'
 have ho' : ol.toArray[k]? = some o := by simpa using ho
 refine wpOp_step ho' fun K' hK' => ?_
 have hA : put ol.toArray (nd (fun i => L.getD i 0) k) f (List.range m) a = put ol.toArray (nd (fun i => L.getD i 0) k) (g f) (List.range m) a := congrArg (fun f => put ol.toArray (nd (fun i => L.getD i 0) k) f (List.range m) a) hf
 rw [if_pos (by rw [hA]; exact hw f)]
 unfold Oper.wp
 rw [show execOp (put ol.toArray (nd (fun i => L.getD i 0) k) f (List.range m) a).eval o = execOp (put ol.toArray (nd (fun i => L.getD i 0) k) (g f) (List.range m) a).eval o by rw [hA], hrun f X hX]
 show K' ((put ol.toArray (nd (fun i => L.getD i 0) k) f (List.range m) a).put o.dst v) X
 refine hK' _ _ (hK _ v X ?_ (Ext.refl _) (by show (if AL.contains k = true then _ else True); rw [if_neg (by rw [ha]; decide)]; trivial) (fun Y _ => hR _ _ (by simp [upd])))
 have : o.dst = dst ol.toArray k := by rw [dst, ho']; rfl
 rw [this]
section
variable {P : Program} {Q : Exit → Act → World → Prop} {ol : List Oper} {m : Nat} {L AL : List Nat} {R : Nat → (Nat → Value) → World → Prop} {a : Act} {w : World} {F : List Oper → Prop} {k n : Nat} {o : Oper} {l : List Oper} {v u u' : Value}
theorem v0 (k' n' : Nat) (hs : AllOps (StepO P ol Q Ext m L AL R a w) F k' n' l) (hR : ∀ f X, f k = v → R k (mask (fun i => L.getD i 0) k f) X := by exact fun _ _ h => h) (hk : k + 1 = k' := by rfl) (hn : n' + 1 = n := by rfl) (ha : AL.contains k = false := by kernel_rfl)
 (hw : ∀ f, Region.wanted o (yielded ol.toArray (put ol.toArray (nd (fun i => L.getD i 0) k) f (List.range m) a).tmps) = true := by intro _; kernel_rfl)
 (hrun : ∀ f X, (execOp (put ol.toArray (nd (fun i => L.getD i 0) k) f (List.range m) a).eval o).run P X = .ok (.value v) X := by intro _ _; kernel_rfl) : AllOps (StepO P ol Q Ext m L AL R a w) F k n (o :: l) :=
 vx (fun f => f) hs (fun _ _ _ => rfl) hR hk hn ha hw (fun f X _ => hrun f X)
theorem v1 (k' n' j : Nat) (hs : AllOps (StepO P ol Q Ext m L AL R a w) F k' n' l) (hr : ∀ f X, R j (mask (fun i => L.getD i 0) j f) X → f j = u := by exact fun _ _ h => h) (hR : ∀ f X, f k = v → R k (mask (fun i => L.getD i 0) k f) X := by exact fun _ _ h => h) (hk : k + 1 = k' := by rfl) (hn : n' + 1 = n := by rfl) (ha : AL.contains k = false := by kernel_rfl)
 (hj : (L.getD k 0).testBit j = true := by kernel_rfl)
 (hw : ∀ f, Region.wanted o (yielded ol.toArray (put ol.toArray (nd (fun i => L.getD i 0) k) (upd f j u) (List.range m) a).tmps) = true := by intro _; kernel_rfl)
 (hrun : ∀ f X, (execOp (put ol.toArray (nd (fun i => L.getD i 0) k) (upd f j u) (List.range m) a).eval o).run P X = .ok (.value v) X := by intro _ _; kernel_rfl) : AllOps (StepO P ol Q Ext m L AL R a w) F k n (o :: l) :=
 vx (fun f => upd f j u) hs (fun f X h => upd_self (hr f X (h j hj))) hR hk hn ha hw (fun f X _ => hrun f X)
theorem v2 (k' n' j i : Nat) (hs : AllOps (StepO P ol Q Ext m L AL R a w) F k' n' l) (hr : ∀ f X, R j (mask (fun i => L.getD i 0) j f) X → f j = u := by exact fun _ _ h => h) (hr' : ∀ f X, R i (mask (fun i => L.getD i 0) i f) X → f i = u' := by exact fun _ _ h => h) (hR : ∀ f X, f k = v → R k (mask (fun i => L.getD i 0) k f) X := by exact fun _ _ h => h) (hk : k + 1 = k' := by rfl) (hn : n' + 1 = n := by rfl) (ha : AL.contains k = false := by kernel_rfl)
 (hj : (L.getD k 0).testBit j = true := by kernel_rfl) (hi : (L.getD k 0).testBit i = true := by kernel_rfl)
 (hw : ∀ f, Region.wanted o (yielded ol.toArray (put ol.toArray (nd (fun i => L.getD i 0) k) (upd (upd f j u) i u') (List.range m) a).tmps) = true := by intro _; kernel_rfl)
 (hrun : ∀ f X, (execOp (put ol.toArray (nd (fun i => L.getD i 0) k) (upd (upd f j u) i u') (List.range m) a).eval o).run P X = .ok (.value v) X := by intro _ _; kernel_rfl) : AllOps (StepO P ol Q Ext m L AL R a w) F k n (o :: l) :=
 vx (fun f => upd (upd f j u) i u') hs (fun f X h => by
  have h1 := upd_self (hr f X (h j hj))
  have h2 := upd_self (hr' f X (h i hi))
  rw [← h1, ← h2]) hR hk hn ha hw (fun f X _ => hrun f X)
theorem sk (k' n' j : Nat) (hs : AllOps (StepO P ol Q Ext m L AL R a w) F k' n' l) (hr : ∀ f X, R j (mask (fun i => L.getD i 0) j f) X → f j = u := by exact fun _ _ h => h) (hR : ∀ f X, f k = undef → R k (mask (fun i => L.getD i 0) k f) X := by exact fun _ _ h => h) (hk : k + 1 = k' := by rfl) (hn : n' + 1 = n := by rfl) (ha : AL.contains k = false := by kernel_rfl)
 (hj : (L.getD k 0).testBit j = true := by kernel_rfl)
 (hw : ∀ f, Region.wanted o (yielded ol.toArray (put ol.toArray (nd (fun i => L.getD i 0) k) (upd f j u) (List.range m) a).tmps) = false := by intro _; kernel_rfl) : AllOps (StepO P ol Q Ext m L AL R a w) F k n (o :: l) := by
 refine AllOps.cons k' n' hk hn ⟨fun ho => ?_⟩ hs
 intro f X hX hR' K hK
 have hf := upd_self (hr f X (hR' j hj))
 have ho' : ol.toArray[k]? = some o := by simpa using ho
 refine wpOp_step ho' fun K' hK' => ?_
 have hA : put ol.toArray (nd (fun i => L.getD i 0) k) f (List.range m) a = put ol.toArray (nd (fun i => L.getD i 0) k) (upd f j u) (List.range m) a := congrArg (fun f => put ol.toArray (nd (fun i => L.getD i 0) k) f (List.range m) a) hf
 rw [if_neg (by rw [hA, hw f]; decide)]
 refine hK' _ _ (hK _ undef X ?_ (Ext.refl _) (by show (if AL.contains k = true then _ else True); rw [if_neg (by rw [ha]; decide)]; trivial) (fun Y _ => hR _ _ (by simp [upd])))
 have : o.dst = dst ol.toArray k := by rw [dst, ho']; rfl
 rw [this]
theorem al (k' n' : Nat) {ob : Obj} (hs : AllOps (StepO P ol Q Ext m L AL R a w) F k' n' l) (hR : ∀ f X, (∃ b, f k = .pointer (some ⟨b, 0, none⟩) ∧ w.heap.size ≤ b ∧ X.heap[b]? = some ob) → R k (mask (fun i => L.getD i 0) k f) X := by exact fun _ _ h => h) (hk : k + 1 = k' := by rfl) (hn : n' + 1 = n := by rfl)
 (hw : ∀ f, Region.wanted o (yielded ol.toArray (put ol.toArray (nd (fun i => L.getD i 0) k) f (List.range m) a).tmps) = true := by intro _; kernel_rfl)
 (hrun : ∀ f X, (execOp (put ol.toArray (nd (fun i => L.getD i 0) k) f (List.range m) a).eval o).run P X = .ok (.value (.pointer (some ⟨X.heap.size, 0, none⟩))) (X.alloc ob) := by intro _ _; kernel_rfl) : AllOps (StepO P ol Q Ext m L AL R a w) F k n (o :: l) := by
 refine AllOps.cons k' n' hk hn ⟨fun ho => ?_⟩ hs
 intro f X hX hR' K hK
 have ho' : ol.toArray[k]? = some o := by simpa using ho
 refine wpOp_step ho' fun K' hK' => ?_
 rw [if_pos (hw f)]
 unfold Oper.wp
 rw [hrun f X]
 show K' ((put ol.toArray (nd (fun i => L.getD i 0) k) f (List.range m) a).put o.dst _) (X.alloc ob)
 refine hK' _ _ (hK _ (.pointer (some ⟨X.heap.size, 0, none⟩)) (X.alloc ob) ?_ (Ext.alloc _ _) (by show (if AL.contains k = true then _ else True); split; exact ⟨rfl, by simp⟩; trivial) (fun Y hY => hR _ _ ⟨X.heap.size, by simp [upd], hX.bsize, hY.at_ (heap_alloc_new _ _)⟩))
 have : o.dst = dst ol.toArray k := by rw [dst, ho']; rfl
 rw [this]
theorem vy {k' n' : Nat} (hs : AllOps (StepO P ol Q Ext m L AL R a w) F k' n' l) (hk : k + 1 = k') (hn : n' + 1 = n) (ha : AL.contains k = false)
 (hw : ∀ f, Region.wanted o (yielded ol.toArray (put ol.toArray (nd (fun i => L.getD i 0) k) f (List.range m) a).tmps) = true)
 (hrun : ∀ f X, Ext w X → ∃ v, (execOp (put ol.toArray (nd (fun i => L.getD i 0) k) f (List.range m) a).eval o).run P X = .ok (.value v) X ∧ ∀ Y, Ext X Y → R k (mask (fun i => L.getD i 0) k (upd f k v)) Y) : AllOps (StepO P ol Q Ext m L AL R a w) F k n (o :: l) := by
 refine AllOps.cons k' n' hk hn ⟨fun ho => ?_⟩ hs
 intro f X hX hR' K hK
 have ho' : ol.toArray[k]? = some o := by simpa using ho
 refine wpOp_step ho' fun K' hK' => ?_
 rw [if_pos (hw f)]
 unfold Oper.wp
 obtain ⟨v, h1, h2⟩ := hrun f X hX
 rw [h1]
 show K' ((put ol.toArray (nd (fun i => L.getD i 0) k) f (List.range m) a).put o.dst v) X
 refine hK' _ _ (hK _ v X ?_ (Ext.refl _) (by show (if AL.contains k = true then _ else True); rw [if_neg (by rw [ha]; decide)]; trivial) h2)
 have : o.dst = dst ol.toArray k := by rw [dst, ho']; rfl
 rw [this]
theorem cx {F' : FuncId} {args : (Nat → Value) → Array Value} {k' n' : Nat} (hs : AllOps (StepO P ol Q Ext m L AL R a w) F k' n' l) (hk : k + 1 = k') (hn : n' + 1 = n) (ha : AL.contains k = false)
 (hw : ∀ f X, (∀ j, (L.getD k 0).testBit j = true → R j (mask (fun i => L.getD i 0) j f) X) → Region.wanted o (yielded ol.toArray (put ol.toArray (nd (fun i => L.getD i 0) k) f (List.range m) a).tmps) = true)
 (hrun : ∀ f X, (execOp (put ol.toArray (nd (fun i => L.getD i 0) k) f (List.range m) a).eval o).run P X = .ok (.enter F' (args f)) X)
 (hc : ∀ f X, Ext w X → Way (∀ j, (L.getD k 0).testBit j = true → R j (mask (fun i => L.getD i 0) j f) X) → Calls P F' (args f) X fun e w' => ∃ v, e = .returned v ∧ Ext X w' ∧ ∀ Y, Ext w' Y → R k (mask (fun i => L.getD i 0) k (upd f k v)) Y) : AllOps (StepO P ol Q Ext m L AL R a w) F k n (o :: l) := by
 refine AllOps.cons k' n' hk hn ⟨fun ho => ?_⟩ hs
 intro f X hX hR' K hK
 have ho' : ol.toArray[k]? = some o := by simpa using ho
 refine wpOp_step ho' fun K' hK' => ?_
 rw [if_pos (hw f X hR')]
 unfold Oper.wp
 rw [hrun f X, Oper.upon_enter]
 refine (hc f X hX ⟨hR'⟩).mono ?_
 rintro e w' ⟨v, rfl, hE, hY⟩
 refine hK' _ _ (hK _ v w' ?_ hE (by show (if AL.contains k = true then _ else True); rw [if_neg (by rw [ha]; decide)]; trivial) hY)
 have : o.dst = dst ol.toArray k := by rw [dst, ho']; rfl
 rw [this]
theorem c0 (k' n' : Nat) (args : (Nat → Value) → Array Value) {F' : FuncId} (hc : ∀ f X, Ext w X → Way (∀ j, (L.getD k 0).testBit j = true → R j (mask (fun i => L.getD i 0) j f) X) → Calls P F' (args f) X fun e w' => ∃ v, e = .returned v ∧ Ext X w' ∧ ∀ Y, Ext w' Y → R k (mask (fun i => L.getD i 0) k (upd f k v)) Y) (hs : AllOps (StepO P ol Q Ext m L AL R a w) F k' n' l)
 (hk : k + 1 = k' := by rfl) (hn : n' + 1 = n := by rfl) (ha : AL.contains k = false := by kernel_rfl)
 (hw : ∀ f, Region.wanted o (yielded ol.toArray (put ol.toArray (nd (fun i => L.getD i 0) k) f (List.range m) a).tmps) = true := by intro _; kernel_rfl)
 (hrun : ∀ f X, (execOp (put ol.toArray (nd (fun i => L.getD i 0) k) f (List.range m) a).eval o).run P X = .ok (.enter F' (args f)) X := by intro _ _; kernel_rfl) : AllOps (StepO P ol Q Ext m L AL R a w) F k n (o :: l) :=
 cx hs hk hn ha (fun f _ _ => hw f) hrun hc
theorem c1 (k' n' j : Nat) (args : (Nat → Value) → Array Value) {F' : FuncId} (hc : ∀ f X, Ext w X → Way (∀ j, (L.getD k 0).testBit j = true → R j (mask (fun i => L.getD i 0) j f) X) → Calls P F' (args f) X fun e w' => ∃ v, e = .returned v ∧ Ext X w' ∧ ∀ Y, Ext w' Y → R k (mask (fun i => L.getD i 0) k (upd f k v)) Y) (hs : AllOps (StepO P ol Q Ext m L AL R a w) F k' n' l)
 (hr : ∀ f X, R j (mask (fun i => L.getD i 0) j f) X → f j = u := by exact fun _ _ h => h) (hk : k + 1 = k' := by rfl) (hn : n' + 1 = n := by rfl) (ha : AL.contains k = false := by kernel_rfl) (hj : (L.getD k 0).testBit j = true := by kernel_rfl)
 (hw : ∀ f, Region.wanted o (yielded ol.toArray (put ol.toArray (nd (fun i => L.getD i 0) k) (upd f j u) (List.range m) a).tmps) = true := by intro _; kernel_rfl)
 (hrun : ∀ f X, (execOp (put ol.toArray (nd (fun i => L.getD i 0) k) f (List.range m) a).eval o).run P X = .ok (.enter F' (args f)) X := by intro _ _; kernel_rfl) : AllOps (StepO P ol Q Ext m L AL R a w) F k n (o :: l) :=
 cx hs hk hn ha (fun f X h => by rw [upd_self (hr f X (h j hj))]; exact hw f) hrun hc
theorem run_loadAt1 {t : TypeId} {p : Addr} {X : World} (hc : X.cell? p = some v) (ht : (isAgg t).run P X = .ok false X) : (Instr.loadAt t (.pointer (some p))).run P X = .ok v X := by
 unfold Instr.loadAt loadVar
 simp only [Sem.run_bind]
 rw [show (Instr.sureAddr (.pointer (some p))).run P X = .ok p X from rfl, Result.andThen_ok, ht, Result.andThen_ok, if_neg (by decide)]
 unfold load
 simp only [Sem.run, hc]
theorem ld0 (k' n' : Nat) {p : Addr} {t : TypeId} {x : Operand} (hc : w.cell? p = some v) (hs : AllOps (StepO P ol Q Ext m L AL R a w) F k' n' l) (hR : ∀ f X, f k = v → R k (mask (fun i => L.getD i 0) k f) X := by exact fun _ _ h => h) (hk : k + 1 = k' := by rfl) (hn : n' + 1 = n := by rfl) (ha : AL.contains k = false := by kernel_rfl)
 (hw : ∀ f, Region.wanted o (yielded ol.toArray (put ol.toArray (nd (fun i => L.getD i 0) k) f (List.range m) a).tmps) = true := by intro _; kernel_rfl)
 (ho : o.op = .load t x := by rfl) (hx : ∀ f, (put ol.toArray (nd (fun i => L.getD i 0) k) f (List.range m) a).eval x = .pointer (some p) := by intro _; kernel_rfl) (ht : ∀ X, (isAgg t).run P X = .ok false X := by intro _; kernel_rfl) : AllOps (StepO P ol Q Ext m L AL R a w) F k n (o :: l) :=
 vx (fun f => f) hs (fun _ _ _ => rfl) hR hk hn ha hw (fun f X hX => by
  unfold execOp
  simp only [ho, Sem.run_bind, hx, run_loadAt1 (hX.cell hc) (ht X), Result.andThen_ok]
  rfl)
theorem ld1 (k' n' j : Nat) {p : Addr} {t : TypeId} {x : Operand} (hc : w.cell? p = some v) (hs : AllOps (StepO P ol Q Ext m L AL R a w) F k' n' l) (hr : ∀ f X, R j (mask (fun i => L.getD i 0) j f) X → f j = u := by exact fun _ _ h => h) (hR : ∀ f X, f k = v → R k (mask (fun i => L.getD i 0) k f) X := by exact fun _ _ h => h) (hk : k + 1 = k' := by rfl) (hn : n' + 1 = n := by rfl) (ha : AL.contains k = false := by kernel_rfl)
 (hj : (L.getD k 0).testBit j = true := by kernel_rfl)
 (hw : ∀ f, Region.wanted o (yielded ol.toArray (put ol.toArray (nd (fun i => L.getD i 0) k) (upd f j u) (List.range m) a).tmps) = true := by intro _; kernel_rfl)
 (ho : o.op = .load t x := by rfl) (hx : ∀ f, (put ol.toArray (nd (fun i => L.getD i 0) k) (upd f j u) (List.range m) a).eval x = .pointer (some p) := by intro _; kernel_rfl) (ht : ∀ X, (isAgg t).run P X = .ok false X := by intro _; kernel_rfl) : AllOps (StepO P ol Q Ext m L AL R a w) F k n (o :: l) :=
 vx (fun f => upd f j u) hs (fun f X h => upd_self (hr f X (h j hj))) hR hk hn ha hw (fun f X hX => by
  unfold execOp
  simp only [ho, Sem.run_bind, hx, run_loadAt1 (hX.cell hc) (ht X), Result.andThen_ok]
  rfl)
end
theorem k {A : Value → Act} {b : Act} {X : World} {H : Value → World → Prop} {G : Value → World → Prop} {K : Act → World → Prop} {v : Value}
 (hK : Way (∀ a' v X', a' = A v → Ext X X' → H v X' → (∀ Y, Ext X' Y → G v Y) → K a' X'))
 (hr : ∀ Y, Ext X Y → G v Y := by exact fun _ _ => rfl) (s : b = A v) (ha : H v X := by exact trivial) : K b X :=
 hK.out b v X s (Ext.refl X) ha hr
end Par
/- What lays the slots' values out. -/
theorem yA (f : Nat → Value) (i j : Nat) (l : List (Nat × Nat)) (L : List Value) (d : List Deferred) : Par.putL f ((i, j) :: l) ⟨L.toArray, d⟩ = Par.putL f l ⟨(L.set i (f j)).toArray, d⟩ := by
 simp only [Par.putL, Act.put, List.setIfInBounds_toArray]
theorem yB (f : Nat → Value) (a : Act) : Par.putL f [] a = a := rfl
theorem yC (L : List Value) (d : List Deferred) (i : Nat) (v : Value) : Act.put ⟨L.toArray, d⟩ (some i) v = ⟨(L.set i v).toArray, d⟩ := by
 simp only [Act.put, List.setIfInBounds_toArray]
theorem yD (x : Value) (l : List Value) (n : Nat) (v : Value) : (x :: l).set (n + 1) v = x :: l.set n v := rfl
theorem yE (x : Value) (l : List Value) (v : Value) : (x :: l).set 0 v = v :: l := rfl
end Go.Proofs.YtendnkpiidhogaaGreat

namespace Go.Proofs.YtendnkpiidhogaaGreat
open Go
namespace Par
def noDefer (o : Oper) : Bool := match o.op with | .defer _ => false | _ => true
theorem noDefer_spec {o : Oper} (h : noDefer o = true) (c : Call) : o.op ≠ .defer c := fun e => by simp [noDefer, e] at h
def noOut (Q : Exit → Act → World → Prop) : Exit → Act → World → Prop := fun e a w => e ≠ .outgrown ∧ Q e a w
section
variable {P : Program} {ops : Array Oper} {Q : Exit → Act → World → Prop} {md : Region.Mode} {l n : Nat}
theorem not_lets : ¬ LetsOut (noOut Q) := fun ⟨_, _, h, _⟩ => h rfl
theorem oper_round {o : Oper} {a : Act} {w : World} {K : Act → World → Prop} (hd : noDefer o = true) (hh : o.wp P a w K Q) : o.wpIn (Fence.wide.inRound l) n P a w K Q := by
  refine ⟨fun _ _ => trivial, ?_⟩
  rw [Oper.semAt_eq _ _ _ (noDefer_spec hd)]
  unfold Oper.wp at hh
  generalize (execOp a.eval o).run P w = r at *
  cases r with
  | ok x w' =>
    cases x <;> simp only [Oper.upon, Oper.uponIn] at hh ⊢
    case enter f args => exact ⟨(fun h => by cases h), (callsIn_wide (n := n - 1)).2 hh⟩
    case row r args => exact ⟨(fun h => by cases h), fun c cs _ => let ⟨v, w'', r, s⟩ := hh c cs; ⟨v, w'', r, stepsIn_wide.2 s⟩⟩
    all_goals first | exact hh | exact hh.elim
  | halt x w' => cases x <;> simp only [Oper.upon, Oper.uponIn] at hh ⊢ <;> exact hh
theorem op_round (hd : ∀ (i : Nat) o, ops[i]? = some o → noDefer o = true) (hq : ¬ LetsOut Q) {i : Nat} {K K' : Act → World → Prop} (hK : ∀ a w, K a w → K' a w) {a : Act} {w : World} (hh : wpOp P ops Q i K a w) :
 wpOpIn (Fence.wide.inRound l) n P ops Q i K' a w := by
 unfold wpOp at hh
 unfold wpOpIn
 split
 · rename_i h
   simp only [h] at hh
   exact hK _ _ hh
 · rename_i o h
   simp only [h] at hh
   split
   · rename_i hw
     simp only [hw, if_true] at hh
     rcases hh with hh | hh
     · exact Oper.wpIn_mono hK (oper_round (hd _ _ h) hh)
     · exact absurd hh.2 hq
   · rename_i hw
     simp only [hw] at hh
     exact ⟨fun _ _ => trivial, hK _ _ hh⟩
theorem any_round (hd : ∀ (i : Nat) o, ops[i]? = some o → noDefer o = true) (hq : ¬ LetsOut Q) : ∀ (fuel : Nat) (listed : Array Bool) (a : Act) (w : World), wpAny P md ops Q fuel listed a w → wpAnyIn (Fence.wide.inRound l) n P md ops Q fuel listed a w
 | 0, _, _, _, h => h
 | fuel + 1, _, _, _, h => ⟨h.1, fun i hi => op_round hd hq (fun a' w' h' => any_round hd hq fuel _ a' w' h') (h.2 i hi)⟩
theorem ops_round (hd : ∀ (i : Nat) o, ops[i]? = some o → noDefer o = true) (hq : ¬ LetsOut Q) : ∀ (k : List Nat) (a : Act) (w : World), wpOps P ops Q k a w → wpOpsIn (Fence.wide.inRound l) n P ops Q k a w
  | [], _, _, h => h
  | i :: k, a, w, h => by
    rw [wpOpsIn_cons]
    refine op_round (K := wpOps P ops Q k) hd hq (fun a' w' h' => ops_round hd hq k a' w' h') ?_
    unfold wpOps at h
    unfold wpOp
    exact h
theorem all_noDefer {ol : List Oper} (h : ol.all noDefer = true) (i : Nat) (o : Oper) (ho : ol.toArray[i]? = some o) : noDefer o = true := by
 rw [List.getElem?_toArray] at ho
 exact List.all_eq_true.1 h o (List.mem_of_getElem? ho)
theorem drop_out {c : Code} {a : Act} {w : World} (h : c.wpIn (Fence.wide.inRound l) n P (noOut Q) a w) : c.wpIn (Fence.wide.inRound l) n P Q a w := wpIn_mono h fun _ _ _ h => h.2
theorem region_ext_in {ol : List Oper} {id : Nat} {a : Act} {w : World} (hm : P.follows .mixedOrders = true) (m : Nat) (L AL : List Nat) (R : Nat → (Nat → Value) → World → Prop) (hok : ok ol.toArray (fun i => L.getD i 0) m = true) (pl : List (Nat × Nat)) (hpl : sel ol.toArray (fun _ => true) (List.range m) = pl) (hd : ol.all noDefer = true)
 (hstep : AllOps (StepO P ol (noOut Q) Ext m L AL R a w) (Fin P ol (noOut Q) Ext m L AL R pl a w) 0 m ol) : (Code.region id ol.toArray true).wpIn (Fence.wide.inRound l) n P Q a w :=
 drop_out (wpIn_region_any hm (any_round (all_noDefer hd) not_lets _ _ _ _ (any_all Ext.refl (fun _ _ _ => Ext.trans) (fun _ _ => Ext.bsize) (Ext.drew w) m L AL R hok pl hpl hstep)))
theorem region_txt_in {ol : List Oper} {id : Nat} {a : Act} {w : World} (m : Nat) (L AL : List Nat) (R : Nat → (Nat → Value) → World → Prop) (hok : ok ol.toArray (fun i => L.getD i 0) m = true) (pl : List (Nat × Nat)) (hpl : sel ol.toArray (fun _ => true) (List.range m) = pl) (hd : ol.all noDefer = true)
 (hstep : AllOps (StepO P ol (noOut Q) Ext m L AL R a w) (Fin P ol (noOut Q) Ext m L AL R pl a w) 0 m ol) : (Code.region id ol.toArray false).wpIn (Fence.wide.inRound l) n P Q a w := by
 refine drop_out (wpIn_region (ops_round (all_noDefer hd) not_lets _ _ _ ?_))
 have h := any_all Ext.refl (fun _ _ _ => Ext.trans) (fun _ _ => Ext.bsize) (Ext.refl w) m L AL R hok pl hpl hstep
 rw [upto_zero] at h
 rw [List.range_eq_range']
 exact any_text (ok.form hok) _ 0 a w (by omega) h
end
end Par
end Go.Proofs.YtendnkpiidhogaaGreat

namespace Go.Proofs.YtendnkpiidhogaaGreat.At
open Go.RowKit Go.Shelf

set_option maxHeartbeats 1000000 in
theorem came_any (P : Nat → Prop) (A : Option Addr) (c : Nat) (l : Attrs) (t : Int) (w : World) (hv : RA w P A c l) (hP : ∀ b, P b → b < w.heap.size) :
 Calls Tryz.prog 101 #[.slice A l.length c, .int .i64 t] w fun e w' => e = .returned (.bool (came l t)) ∧ Below w.heap.size w w' := by
 go_enter Tryz.func101, Tryz.ntmps101
 go_wp2_with fail
 refine (get_any P A c l t w hv hP).mono ?_
 rintro e w1 ⟨A1, c1, rfl, hr, hB⟩
 go_wp2
 go_ret
 exact ⟨rfl, hB⟩

set_option maxRecDepth 100000 in
set_option maxHeartbeats 4000000 in
theorem unread_any (how class_ t : Int) (w : World) :
 Calls Tryz.prog 75 #[.int .i64 how, .int .i64 class_, .int .i64 t] w fun e w' => e = .returned (.bool (unreadOf how class_ t)) ∧ w = w' := by
 go_enter Tryz.func75, Tryz.ntmps75
 go_wp2
 all_goals (go_ret; exact ⟨ret_bool (by first | (simp_all [unreadOf]; done) | (simp_all [unreadOf]; omega)), rfl⟩)
set_option maxRecDepth 100000 in
set_option maxHeartbeats 4000000 in
theorem must_any (class_ t : Int) (w : World) :
 Calls Tryz.prog 51 #[.int .i64 class_, .int .i64 t] w fun e w' => e = .returned (.bool (mustOf class_ t)) ∧ w = w' := by
 go_enter Tryz.func51, Tryz.ntmps51
 go_wp2
 all_goals (go_ret; exact ⟨ret_bool (by simp_all [mustOf, bne]), rfl⟩)

def kindsF (b1 b2 : Bool) (o1 o2 : Option Nat) (class_ key : Int) : Int × Int × Int :=
 if class_ = -1 then
  if !b1 || (!(o1 == some 0) && !b2) then (0, 0, 208)
  else if o1 = some 0 then (0, 0, 0)
  else match o1, o2 with
   | some c, some k => if together c k then (c, k, 0) else (0, 0, 19)
   | _, _ => (0, 0, 19)
 else
  if b1 && !(o1.map (fun n : Nat => (n : Int)) == some class_) || b2 && !(o2.map (fun n : Nat => (n : Int)) == some (if class_ = 0 then 0 else key)) then (0, 0, 209)
  else (class_, if class_ = 0 then 0 else key, 0)
theorem kinds_eq (l : Attrs) (class_ key : Int) : kindsOf l class_ key = kindsF (came l 0) (came l 256) (intOf' l 0) (intOf' l 256) class_ key := rfl

set_option maxRecDepth 100000 in
set_option maxHeartbeats 4000000 in
theorem kinds_any (P : Nat → Prop) (A : Option Addr) (c : Nat) (l : Attrs) (class_ key : Int) (w : World) (hv : RA w P A c l) (hP : ∀ b, P b → b < w.heap.size) :
 Calls Tryz.prog 32 #[.slice A l.length c, .int .i64 class_, .int .i64 key] w fun e w' => e = .returned (.tuple #[.int .i64 (kindsOf l class_ key).1, .int .i64 (kindsOf l class_ key).2.1, .int .i64 (kindsOf l class_ key).2.2]) ∧ Below w.heap.size w w' := by
 rw [kinds_eq]
 obtain ⟨b1, hb1⟩ : ∃ b, came l 0 = b := ⟨_, rfl⟩
 obtain ⟨b2, hb2⟩ : ∃ b, came l 256 = b := ⟨_, rfl⟩
 obtain ⟨o1, ho1⟩ : ∃ o, intOf' l 0 = o := ⟨_, rfl⟩
 obtain ⟨o2, ho2⟩ : ∃ o, intOf' l 256 = o := ⟨_, rfl⟩
 rw [hb1, hb2, ho1, ho2]
 have g1 := get_any P A c l 0
 have g2 := get_any P A c l 256
 have i1 := int_any P A c l 0
 have i2 := int_any P A c l 256
 rw [show (seek l 0).isSome = b1 from hb1] at g1
 rw [show (seek l 256).isSome = b2 from hb2] at g2
 rw [ho1] at i1
 rw [ho2] at i2
 have G1 := Lib.hid g1
 have G2 := Lib.hid g2
 have I1 := Lib.hid i1
 have I2 := Lib.hid i2
 clear hb1 hb2 ho1 ho2 g1 g2 i1 i2
 go_enter Tryz.func32, Tryz.ntmps32
 go_wp2_with fail
 refine (G1.out w hv hP).mono ?_
 rintro e w1 ⟨A1, c1, rfl, -, hB1⟩
 have hv1 := hv.below hB1 hP
 have hP1 : ∀ b, P b → b < w1.heap.size := fun b hb => Nat.lt_of_lt_of_le (hP b hb) hB1.size
 go_wp2_with fail
 refine (G2.out w1 hv1 hP1).mono ?_
 rintro e w2 ⟨A2, c2, rfl, -, hB2⟩
 have hv2 := hv1.below hB2 hP1
 have hP2 : ∀ b, P b → b < w2.heap.size := fun b hb => Nat.lt_of_lt_of_le (hP1 b hb) hB2.size
 go_wp2_with fail
 refine (I1.out w2 hv2 hP2).mono ?_
 rintro e w3 ⟨rfl, hB3⟩
 have hv3 := hv2.below hB3 hP2
 have hP3 : ∀ b, P b → b < w3.heap.size := fun b hb => Nat.lt_of_lt_of_le (hP2 b hb) hB3.size
 go_wp2_with fail
 refine (I2.out w3 hv3 hP3).mono ?_
 rintro e w4 ⟨rfl, hB4⟩
 have hB : Below w.heap.size w w4 := hB1.trans ((hB2.mono hB1.size).trans ((hB3.mono (Nat.le_trans hB1.size hB2.size)).trans (hB4.mono (Nat.le_trans (Nat.le_trans hB1.size hB2.size) hB3.size))))
 have HB : Hid (Below w.heap.size w w4) := Lib.hid hB
 clear hB1 hB2 hB3 hB4 hv hv1 hv2 hv3 hP hP1 hP2 hP3 hB
 clear G1 G2 I1 I2
 by_cases hcl : class_ = -1
 · subst hcl
   cases b1 <;> cases b2 <;> rcases o1 with _ | n1 <;> rcases o2 with _ | n2
   all_goals go_wp2_with fail
   all_goals first | (go_ret3; exact ⟨ret_3 (by simp_all [kindsF]), HB.out⟩) | (refine (together_any _ _ w4).mono ?_; rintro e w5 ⟨rfl, rfl⟩; go_wp2; all_goals (go_ret3; exact ⟨ret_3 (by simp_all [kindsF]), HB.out⟩))
 · have hcl' : (class_ == -1) = false := by simpa using hcl
   by_cases h0 : class_ = 0
   · subst h0
     cases b1 <;> cases b2 <;> rcases o1 with _ | n1 <;> rcases o2 with _ | n2
     all_goals go_wp2_with fail
     all_goals first | (go_ret3; exact ⟨ret_3 (by simp_all [kindsF]), HB.out⟩) | (refine (together_any _ _ w4).mono ?_; rintro e w5 ⟨rfl, rfl⟩; go_wp2; all_goals (go_ret3; exact ⟨ret_3 (by simp_all [kindsF]), HB.out⟩))
   · have h0' : (class_ == 0) = false := by simpa using h0
     cases b1 <;> cases b2 <;> rcases o1 with _ | n1 <;> rcases o2 with _ | n2
     all_goals go_wp2_with fail
     all_goals first | (go_ret3; exact ⟨ret_3 (by simp_all [kindsF]), HB.out⟩) | (refine (together_any _ _ w4).mono ?_; rintro e w5 ⟨rfl, rfl⟩; go_wp2; all_goals (go_ret3; exact ⟨ret_3 (by simp_all [kindsF]), HB.out⟩))
end Go.Proofs.YtendnkpiidhogaaGreat.At

namespace Go.Proofs.YtendnkpiidhogaaGreat.At
open Go.RowKit Go.Shelf

attribute [local go_sem] Oper.semAt_some

def rowsTo (l : Attrs) (z : Int) : Prop := (z = 0 ∧ cleanRows l 0) ∨ (z = 1 ∧ cleanRows l 1) ∨ (z = 2 ∧ cleanRows l 2) ∨ (z = 3 ∧ cleanRows l 3)

set_option maxRecDepth 100000 in
set_option maxHeartbeats 4000000 in
theorem forms_any (P : Nat → Prop) (A : Option Addr) (c : Nat) (l : Attrs) (w : World) (hv : RA w P A c l) (hP : ∀ b, P b → b < w.heap.size) :
 Calls Tryz.prog 74 #[.slice A l.length c] w fun e w' => e = .returned (.int .i64 (formsOf l)) ∧ Below w.heap.size w w' := by
 obtain ⟨hlc, hc⟩ := hv.cap
 go_enter Tryz.func74, Tryz.ntmps74
 go_wp2
 go_step3
 go_wp2
 go_step3
 go_wp2
 go_loopw [3, 7] (fun rv i wr => ∃ z : Int, i = .int .i64 z ∧ rv = .int .i64 0 ∧ rowsTo l z ∧ Below w.heap.size w wr) (fun _ i _ => 3 - (intOf i).toNat)
 case atStart => exact ⟨0, rfl, rfl, .inl ⟨rfl, fun j hj => absurd hj (by omega)⟩, Below.refl _ _⟩
 case round =>
  obtain ⟨z, rfl, rfl, hz, hB⟩ := hrel
  obtain ⟨wo, rfl⟩ : ∃ wo, wo = wr := ⟨_, rfl⟩
  rcases hz with ⟨rfl, hno⟩ | ⟨rfl, hno⟩ | ⟨rfl, hno⟩ | ⟨rfl, hno⟩
  all_goals (have Hno := Lib.hid hno; clear hno)
  rotate_right
  · have Hf := Lib.hid (forms_clean Hno.out)
    go_wp2
    rw [Exit.noGoto_ret]
    go_ret
    exact ⟨by rw [Hf.out]; rfl, hB⟩
  · go_wp2
    go_loopw [3, 12] (fun rv i wr => ∃ k : Nat, k ≤ l.length ∧ i = .int .i64 k ∧ rv = .int .i64 0 ∧ cleanTo 0 l k ∧ Below w.heap.size w wr) (fun _ i _ => l.length - (intOf i).toNat)
    case atStart => exact ⟨0, Nat.zero_le _, rfl, rfl, cleanTo_zero _ _, hB⟩
    case round =>
     clear hB
     obtain ⟨k, hk, rfl, rfl, hcl, hB⟩ := hrel
     by_cases hlt : k < l.length
     · have hvr := hv.below hB hP
       obtain ⟨ad, Au, cu, rfl, hb, hc1, hc2, hu⟩ := hvr.at_ hlt
       have hs := hB.size
       have hP1 : ∀ b, P b → b < wr.heap.size := fun b hb => Nat.lt_of_lt_of_le (hP b hb) hs
       obtain ⟨x, hx⟩ : ∃ x, l[k] = x := ⟨_, rfl⟩
       rw [hx] at hc1 hc2 hu
       obtain ⟨f, hf⟩ : ∃ f, formOf x.1 = f := ⟨_, rfl⟩
       have hF := fun w => form_any x.1 w
       simp only [hf] at hF
       have HF := Lib.hid hF
       by_cases h0 : f = 0
       · have Hit := Lib.hid (forms_hit0 hlt (by rw [hx]; simp [badAt, hf, h0]))
         subst h0
         clear hx hf hF hcl
         go_wp2_with fail
         refine (HF.out _).mono ?_
         rintro e w1 ⟨rfl, rfl⟩
         go_wp2
         rw [Exit.noGoto_ret]
         go_ret
         exact ⟨by rw [Hit.out]; rfl, (hB.alloc hs _)⟩
       · have Hn := Lib.hid (cleanTo_succ hcl hlt (by rw [hx]; simp [badAt, hf, h0]))
         have h0' : (f == 0) = false := by simpa using h0
         clear hx hf hF hcl h0
         go_wp2_with fail
         refine (HF.out _).mono ?_
         rintro e w1 ⟨rfl, rfl⟩
         go_wp2_with fail
         refine Par.region_ext (by kernel_rfl) 11 [0, 1, 3, 7, 7, 31, 7, 71, 255, 511, 1023] [] (fun j f X => match j with
          | 0 => f 0 = .int .i64 0
          | 1 => f 1 = .bool false
          | 2 => f 2 = .bool false
          | 3 => f 3 = undef
          | 4 => f 4 = undef
          | 5 => f 5 = undef
          | 6 => f 6 = undef
          | 7 => f 7 = undef
          | 8 => f 8 = undef
          | 9 => f 9 = .bool false
          | 10 => f 10 = .bool false
          | _ => True) (by kernel_rfl) [(27, 0), (28, 1), (29, 2), (30, 3), (31, 4), (32, 5), (33, 6), (34, 7), (35, 8), (36, 9), (26, 10)] (by kernel_rfl) ?_
         refine Par.v0 1 10 ?_
         refine Par.v1 2 9 0 ?_
         refine Par.v1 3 8 1 ?_
         refine Par.sk 4 7 2 ?_
         refine Par.sk 5 6 2 ?_
         refine Par.sk 6 5 2 ?_
         refine Par.sk 7 4 2 ?_
         refine Par.sk 8 3 2 ?_
         refine Par.sk 9 2 2 ?_
         refine Par.v2 10 1 2 8 ?_
         refine Par.v1 11 0 9 ?_
         refine Par.AllOps.fin ⟨fun f X hX hR hal hap => ?_⟩
         have e10 : f 10 = _ := hR 10 (by decide)
         simp only [yA, yB, yD, yE, e10]
         clear hR hal hap e10
         refine Par.Chain.done ?_
         go_wp2
         go_roundw
         case rel => exact ⟨k + 1, by omega, by go_num, rfl, Hn.out, (hB.alloc hs _).trans (Below.mono hX (by simp; omega))⟩
         case measure => simp [intOf]; omega
     · obtain rfl : k = l.length := by omega
       have Hn := Lib.hid (cleanRows_succ Hno.out hcl)
       clear hcl
       go_wp2
       go_roundw
       case rel => exact ⟨1, by go_num, rfl, .inr (.inl ⟨rfl, Hn.out⟩), hB⟩
       case measure => first | (simp [intOf]; done) | (simp [intOf]; decide)
  · go_wp2
    go_loopw [3, 12] (fun rv i wr => ∃ k : Nat, k ≤ l.length ∧ i = .int .i64 k ∧ rv = .int .i64 0 ∧ cleanTo 1 l k ∧ Below w.heap.size w wr) (fun _ i _ => l.length - (intOf i).toNat)
    case atStart => exact ⟨0, Nat.zero_le _, rfl, rfl, cleanTo_zero _ _, hB⟩
    case round =>
     clear hB
     obtain ⟨k, hk, rfl, rfl, hcl, hB⟩ := hrel
     by_cases hlt : k < l.length
     · have hvr := hv.below hB hP
       obtain ⟨ad, Au, cu, rfl, hb, hc1, hc2, hu⟩ := hvr.at_ hlt
       have hs := hB.size
       have hP1 : ∀ b, P b → b < wr.heap.size := fun b hb => Nat.lt_of_lt_of_le (hP b hb) hs
       obtain ⟨x, hx⟩ : ∃ x, l[k] = x := ⟨_, rfl⟩
       rw [hx] at hc1 hc2 hu
       have hvt := RA.take (m := k) hvr (by omega)
       have hlk : (l.take k).length = k := by rw [List.length_take]; omega
       have hca := came_any P (some ad) c (l.take k) x.1
       rw [hlk] at hca
       obtain ⟨b, hb'⟩ : ∃ b, came (l.take k) x.1 = b := ⟨_, rfl⟩
       rw [hb'] at hca
       have HC := Lib.hid hca
       have hvt' : RA (wr.alloc (.cells #[.int .i64 x.1, .slice Au x.2.length cu] 37)) P (some ad) c (l.take k) := hvt.keep fun p hp => World.cell?_alloc_lt wr _ p (hP1 _ hp)
       have HV := Lib.hid hvt'
       have HPW : Hid (∀ b, P b → b < (wr.alloc (.cells #[.int .i64 x.1, .slice Au x.2.length cu] 37)).heap.size) := Lib.hid (fun b hb => by have := hP1 b hb; simp; omega)
       have m0 : (wr.alloc (.cells #[.int .i64 x.1, .slice Au x.2.length cu] 37)).cell? ⟨wr.heap.size, 0, none⟩ = some (.int .i64 x.1) := by simp [go_sem]
       have m1 : (wr.alloc (.cells #[.int .i64 x.1, .slice Au x.2.length cu] 37)).cell? ⟨wr.heap.size, 1, none⟩ = some (.slice Au x.2.length cu) := by simp [go_sem]
       have hBW := hB.alloc hs (.cells #[.int .i64 x.1, .slice Au x.2.length cu] 37)
       have hsW : w.heap.size ≤ (wr.alloc (.cells #[.int .i64 x.1, .slice Au x.2.length cu] 37)).heap.size := hBW.size
       have k1 : (0 : Int) ≤ (k : Int) := by omega
       have k2 : (k : Int) ≤ (c : Int) := by omega
       have k3 : ¬ (c : Int) = (k : Int) := by omega
       have Hval := Lib.hid (show badAt 1 l l[k] k = b by rw [hx, ← hb']; simp [badAt])
       clear hx hca hvt' hb' hlk hvt
       go_wp2_with fail
       generalize wr.alloc (.cells #[.int .i64 x.1, .slice Au x.2.length cu] 37) = W1 at *
       refine Par.region_ext (by kernel_rfl) 11 [0, 1, 3, 7, 7, 31, 7, 71, 255, 511, 1023] [] (fun j f X => match j with
        | 0 => f 0 = .int .i64 1
        | 1 => f 1 = .bool true
        | 2 => f 2 = .bool true
        | 3 => f 3 = .slice (some ad) l.length c
        | 4 => f 4 = .int .i64 k
        | 5 => f 5 = .slice (some ad) k c
        | 6 => f 6 = .pointer (some ⟨wr.heap.size, 0, none⟩)
        | 7 => f 7 = .int .i64 x.1
        | 8 => f 8 = .bool b
        | 9 => f 9 = .bool b
        | 10 => f 10 = .bool b
        | _ => True) (by kernel_rfl) [(27, 0), (28, 1), (29, 2), (30, 3), (31, 4), (32, 5), (33, 6), (34, 7), (35, 8), (36, 9), (26, 10)] (by kernel_rfl) ?_
       refine Par.v0 1 10 ?_
       refine Par.v1 2 9 0 ?_
       refine Par.v1 3 8 1 ?_
       refine Par.v1 4 7 2 ?_
       refine Par.v1 5 6 2 ?_
       refine Par.S 6 5 [(27, 0), (28, 1), (29, 2), (30, 3), (31, 4), (33, 6), (34, 7)] (fun f X hX hR K hK => ?_) ?_
       · have e2 : f 2 = _ := hR.out 2 rfl
         have e3 : f 3 = _ := hR.out 3 rfl
         have e4 : f 4 = _ := hR.out 4 rfl
         simp only [yA, yB, yC, yD, yE, e2, e3, e4]
         refine ⟨Par.want (by kernel_rfl) ?_⟩
         go_simp
         exact Par.k hK (s := by simp only [yA, yB, yC, yD, yE, e2, e3, e4])
       refine Par.v1 7 4 2 ?_
       refine Par.S 8 3 [(27, 0), (28, 1), (29, 2), (30, 3), (31, 4), (32, 5), (33, 6)] (fun f X hX hR K hK => ?_) ?_
       · have e2 : f 2 = _ := hR.out 2 rfl
         have e6 : f 6 = _ := hR.out 6 rfl
         have x0 := hX.cell m0
         simp only [yA, yB, yC, yD, yE, e2, e6]
         refine ⟨Par.want (by kernel_rfl) ?_⟩
         go_simp
         exact Par.k hK (s := by simp only [yA, yB, yC, yD, yE, e2, e6])
       refine Par.c1 9 2 2 (fun f => #[f 5, f 7]) (F' := 101) (fun f X hX hR => ?_) ?_
       · have e5 : f 5 = _ := hR.out 5 rfl
         have e7 : f 7 = _ := hR.out 7 rfl
         simp only [e5, e7]
         refine (HC.out X (HV.out.below hX HPW.out) (fun b hb => Nat.lt_of_lt_of_le (HPW.out b hb) hX.bsize)).mono ?_
         rintro e w2 ⟨rfl, hB2⟩
         exact ⟨(.bool b), rfl, hB2, fun _ _ => rfl⟩
       refine Par.v2 10 1 2 8 ?_
       refine Par.v1 11 0 9 ?_
       refine Par.AllOps.fin ⟨fun f X hX hR hal hap => ?_⟩
       have e10 : f 10 = _ := hR 10 (by decide)
       simp only [yA, yB, yD, yE, e10]
       clear hR hal hap e10
       refine Par.Chain.done ?_
       have hBX : Hid (Below w.heap.size w X) := Lib.hid (hBW.trans (Below.mono hX hsW))
       cases b
       · have Hn := Lib.hid (cleanTo_succ hcl hlt (by simpa using Hval.out))
         clear hcl
         go_wp2
         go_roundw
         case rel => exact ⟨k + 1, by omega, by go_num, rfl, Hn.out, hBX.out⟩
         case measure => simp [intOf]; omega
       · have Hit := Lib.hid (forms_hit1 Hno.out hlt (by simpa using Hval.out))
         clear hcl
         go_wp2
         rw [Exit.noGoto_ret]
         go_ret
         exact ⟨by rw [Hit.out]; rfl, hBX.out⟩
     · obtain rfl : k = l.length := by omega
       have Hn := Lib.hid (cleanRows_succ Hno.out hcl)
       clear hcl
       go_wp2
       go_roundw
       case rel => exact ⟨2, by go_num, rfl, .inr (.inr (.inl ⟨rfl, Hn.out⟩)), hB⟩
       case measure => first | (simp [intOf]; done) | (simp [intOf]; decide)
  · go_wp2
    go_loopw [3, 12] (fun rv i wr => ∃ k : Nat, k ≤ l.length ∧ i = .int .i64 k ∧ rv = .int .i64 0 ∧ cleanTo 2 l k ∧ Below w.heap.size w wr) (fun _ i _ => l.length - (intOf i).toNat)
    case atStart => exact ⟨0, Nat.zero_le _, rfl, rfl, cleanTo_zero _ _, hB⟩
    case round =>
     clear hB
     obtain ⟨k, hk, rfl, rfl, hcl, hB⟩ := hrel
     by_cases hlt : k < l.length
     · have hvr := hv.below hB hP
       obtain ⟨ad, Au, cu, rfl, hb, hc1, hc2, hu⟩ := hvr.at_ hlt
       have hs := hB.size
       have hP1 : ∀ b, P b → b < wr.heap.size := fun b hb => Nat.lt_of_lt_of_le (hP b hb) hs
       obtain ⟨x, hx⟩ : ∃ x, l[k] = x := ⟨_, rfl⟩
       rw [hx] at hc1 hc2 hu
       obtain ⟨b, hb'⟩ : ∃ b, fineOf x = b := ⟨_, rfl⟩
       have hca := fine_any P x Au cu
       rw [hb'] at hca
       have HC := Lib.hid hca
       have hvt' : RB (wr.alloc (.cells #[.int .i64 x.1, .slice Au x.2.length cu] 37)) P Au cu x.2 := hu.keep fun p hp => World.cell?_alloc_lt wr _ p (hP1 _ hp)
       have HV := Lib.hid hvt'
       have HPW : Hid (∀ b, P b → b < (wr.alloc (.cells #[.int .i64 x.1, .slice Au x.2.length cu] 37)).heap.size) := Lib.hid (fun b hb => by have := hP1 b hb; simp; omega)
       have m0 : (wr.alloc (.cells #[.int .i64 x.1, .slice Au x.2.length cu] 37)).cell? ⟨wr.heap.size, 0, none⟩ = some (.int .i64 x.1) := by simp [go_sem]
       have m1 : (wr.alloc (.cells #[.int .i64 x.1, .slice Au x.2.length cu] 37)).cell? ⟨wr.heap.size, 1, none⟩ = some (.slice Au x.2.length cu) := by simp [go_sem]
       have hBW := hB.alloc hs (.cells #[.int .i64 x.1, .slice Au x.2.length cu] 37)
       have hsW : w.heap.size ≤ (wr.alloc (.cells #[.int .i64 x.1, .slice Au x.2.length cu] 37)).heap.size := hBW.size
       have k1 : (0 : Int) ≤ (k : Int) := by omega
       have k2 : (k : Int) ≤ (c : Int) := by omega
       have k3 : ¬ (c : Int) = (k : Int) := by omega
       have Hval := Lib.hid (show badAt 2 l l[k] k = !b by rw [hx, ← hb']; simp [badAt])
       clear hx hca hvt' hb'
       go_wp2_with fail
       generalize wr.alloc (.cells #[.int .i64 x.1, .slice Au x.2.length cu] 37) = W1 at *
       refine Par.region_ext (by kernel_rfl) 11 [0, 1, 3, 7, 7, 31, 7, 71, 255, 511, 1023] [] (fun j f X => match j with
        | 0 => f 0 = .int .i64 2
        | 1 => f 1 = .bool false
        | 2 => f 2 = .bool false
        | 3 => f 3 = undef
        | 4 => f 4 = undef
        | 5 => f 5 = undef
        | 6 => f 6 = undef
        | 7 => f 7 = undef
        | 8 => f 8 = undef
        | 9 => f 9 = .bool false
        | 10 => f 10 = .bool false
        | _ => True) (by kernel_rfl) [(27, 0), (28, 1), (29, 2), (30, 3), (31, 4), (32, 5), (33, 6), (34, 7), (35, 8), (36, 9), (26, 10)] (by kernel_rfl) ?_
       refine Par.v0 1 10 ?_
       refine Par.v1 2 9 0 ?_
       refine Par.v1 3 8 1 ?_
       refine Par.sk 4 7 2 ?_
       refine Par.sk 5 6 2 ?_
       refine Par.sk 6 5 2 ?_
       refine Par.sk 7 4 2 ?_
       refine Par.sk 8 3 2 ?_
       refine Par.sk 9 2 2 ?_
       refine Par.v2 10 1 2 8 ?_
       refine Par.v1 11 0 9 ?_
       refine Par.AllOps.fin ⟨fun f X hX hR hal hap => ?_⟩
       have e10 : f 10 = _ := hR 10 (by decide)
       simp only [yA, yB, yD, yE, e10]
       clear hR hal hap e10
       refine Par.Chain.done ?_
       have n0 := hX.cell m0
       have n1 := hX.cell m1
       go_wp2_with fail
       refine (HC.out X (HV.out.below hX HPW.out) (fun b hb => Nat.lt_of_lt_of_le (HPW.out b hb) hX.bsize)).mono ?_
       rintro e w2 ⟨rfl, hB2⟩
       have hBX : Hid (Below w.heap.size w w2) := Lib.hid ((hBW.trans (Below.mono hX hsW)).trans (Below.mono hB2 (Nat.le_trans hsW hX.bsize)))
       cases b
       · have Hit := Lib.hid (forms_hit2 Hno.out hlt (by simpa using Hval.out))
         clear hcl
         go_wp2
         rw [Exit.noGoto_ret]
         go_ret
         exact ⟨by rw [Hit.out]; rfl, hBX.out⟩
       · have Hn := Lib.hid (cleanTo_succ hcl hlt (by simpa using Hval.out))
         clear hcl
         go_wp2
         go_roundw
         case rel => exact ⟨k + 1, by omega, by go_num, rfl, Hn.out, hBX.out⟩
         case measure => simp [intOf]; omega
     · obtain rfl : k = l.length := by omega
       have Hn := Lib.hid (cleanRows_succ Hno.out hcl)
       clear hcl
       go_wp2
       go_roundw
       case rel => exact ⟨3, by go_num, rfl, .inr (.inr (.inr ⟨rfl, Hn.out⟩)), hB⟩
       case measure => first | (simp [intOf]; done) | (simp [intOf]; decide)
end Go.Proofs.YtendnkpiidhogaaGreat.At
