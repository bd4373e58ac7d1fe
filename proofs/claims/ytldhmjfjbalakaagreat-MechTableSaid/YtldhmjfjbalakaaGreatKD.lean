/- Curves and points in memory; curve's of, none and on, in these words. curve.Decode. -/
import Derived.Test.YtldhmjfjbalakaaGreatKC
import Derived.Test.YtldhmjfjbalakaaGreatFrom
import Derived.Laws.ResultCell
import Derived.Sort.AtCall
import Derived.Deep.DeepCutAuto
namespace Go.Proofs.YtldhmjfjbalakaaGreat
open Go.RowKit

/-- A curve's numbers. -/
structure Crv where
  size : Nat
  n : Nat
  M : Nat
  bb : Nat
  pl : List Nat
  nl : List Nat
  bl : List Nat
  xl : List Nat
  yl : List Nat
def c256 : Crv := ⟨32, 4, val 18446744073709551616 p256p, val 18446744073709551616 p256b, p256p, p256n, p256b, p256x, p256y⟩
def c384 : Crv := ⟨48, 6, val 18446744073709551616 p384p, val 18446744073709551616 p384b, p384p, p384n, p384b, p384x, p384y⟩
def IsC (c : Int) (C : Crv) : Prop := (c = 1 ∧ C = c256) ∨ (c = 2 ∧ C = c384)
structure Crv.Fine (C : Crv) : Prop where
  three : 3 < C.M
  bb : C.bb < C.M
  room : C.M < 256 ^ C.size
  small : C.size ≤ 48
  pos : 32 ≤ C.size
  pv : val 18446744073709551616 C.pl = C.M
theorem IsC.fine {c : Int} {C : Crv} (h : IsC c C) : C.Fine := by
  rcases h with ⟨_, rfl⟩ | ⟨_, rfl⟩
  · exact ⟨by decide +kernel, by decide +kernel, by decide +kernel, by decide, by decide, rfl⟩
  · exact ⟨by decide +kernel, by decide +kernel, by decide +kernel, by decide, by decide, rfl⟩
/-- The record k is that curve's. -/
def OfC (C : Crv) (w : World) (k : Nat) : Prop := ∃ (P0 : Nat → Prop) (g inv : Nat) (ml ol rl tl fl : List Nat) (Ap An Ab Ax Ay : Option Addr) (cp cn cb cx cy : Nat), Num w P0 k g C.size C.n inv C.M C.bb C.pl C.nl C.bl C.xl C.yl ml ol rl tl fl Ap An Ab Ax Ay cp cn cb cx cy ∧ ∀ b, P0 b → b < w.heap.size
theorem OfC.ext {C : Crv} {w X : World} {k : Nat} (h : OfC C w k) (hE : Ext w X) : OfC C X k := by
  obtain ⟨P0, g, inv, ml, ol, rl, tl, fl, Ap, An, Ab, Ax, Ay, cp, cn, cb, cx, cy, hn, hP⟩ := h
  exact ⟨P0, g, inv, ml, ol, rl, tl, fl, Ap, An, Ab, Ax, Ay, cp, cn, cb, cx, cy, hn.ext hP hE, fun b hb => Nat.lt_of_lt_of_le (hP b hb) hE.bsize⟩
theorem OfC.size {C : Crv} {w : World} {k : Nat} (h : OfC C w k) : w.cell? ⟨k, 0, none⟩ = some (.int .i64 (C.size : Int)) := by
  obtain ⟨P0, g, inv, ml, ol, rl, tl, fl, Ap, An, Ab, Ax, Ay, cp, cn, cb, cx, cy, hn, hP⟩ := h
  exact hn.c_size
theorem of_c {c : Int} {C : Crv} (h : IsC c C) (w : World) : Calls Tryz.prog 97 #[.int .i64 c] w fun e w' => ∃ k, e = .returned (.pointer (some ⟨k, 0, none⟩)) ∧ OfC C w' k ∧ Ext w w' := by
  rcases h with ⟨rfl, rfl⟩ | ⟨rfl, rfl⟩
  · refine (of_p256 w).mono ?_
    rintro e w' ⟨k, g, inv, ml, ol, rl, tl, fl, rfl, _, hn, hB⟩
    exact ⟨k, rfl, ⟨_, g, inv, ml, ol, rl, tl, fl, _, _, _, _, _, _, _, _, _, _, hn, fun b hb => hb.2⟩, hB⟩
  · refine (of_p384 w).mono ?_
    rintro e w' ⟨k, g, inv, ml, ol, rl, tl, fl, rfl, _, hn, hB⟩
    exact ⟨k, rfl, ⟨_, g, inv, ml, ol, rl, tl, fl, _, _, _, _, _, _, _, _, _, _, hn, fun b hb => hb.2⟩, hB⟩
set_option maxRecDepth 100000 in
theorem of_nil {c : Int} (h1 : c ≠ 1) (h2 : c ≠ 2) (w : World) : Calls Tryz.prog 97 #[.int .i64 c] w fun e w' => e = .returned (.pointer none) ∧ Ext w w' := by
  have e1 : (c == 1) = false := by simpa using h1
  have e2 : (c == 2) = false := by simpa using h2
  go_enter Tryz.func97, Tryz.ntmps97
  go_wp2
  go_ret
  exact ⟨rfl, Ext.refl _⟩
theorem on_c {C : Crv} {w : World} {k : Nat} (h : OfC C w k) (hC : C.Fine) (Pa Pb : Nat → Prop) (A A' : Option Addr) (c c' : Nat) (a b : List Nat) (inf : Bool) (ha : RN w Pa A c a) (hb : RN w Pb A' c' b) (hPa : ∀ b, Pa b → b < w.heap.size) (hPb : ∀ b, Pb b → b < w.heap.size) :
    Calls Tryz.prog 100 #[.pointer (some ⟨k, 0, none⟩), .agg #[.bool inf, .slice A a.length c, .slice A' b.length c']] w fun e w' => e = .returned (.bool (inf || onB C.M C.bb (val 18446744073709551616 a) (val 18446744073709551616 b))) ∧ Ext w w' := by
  obtain ⟨P0, g, inv, ml, ol, rl, tl, fl, Ap, An, Ab, Ax, Ay, cp, cn, cb, cx, cy, hn, hP⟩ := h
  exact on_any Pa Pb A A' c c' a b inf w hn hP ha hb hPa hPb hC.three hC.bb
set_option maxRecDepth 100000 in
theorem on_nil (p q r : Value) (w : World) : Calls Tryz.prog 100 #[.pointer none, .agg #[p, q, r]] w fun e w' => e = .returned (.bool false) ∧ Ext w w' := by
  go_enter Tryz.func100, Tryz.ntmps100
  go_wp2
  go_ret
  exact ⟨rfl, Ext.alloc _ _⟩
abbrev infV : Value := .agg #[.bool true, .slice none 0 0, .slice none 0 0]
theorem infoP : (Tryz.prog.info? 118).map (·.size) = some 3 := by kernel_rfl
/-- A function's end: a point in a cell, and a value. -/
theorem end_pt {fn : Func} {R : Ending → World → Prop} {a : Act} {W : World} {p u : Tmp} {g : Nat} {ty : TypeId} {fr : Nat × Nat} {x0 x1 x2 v : Value} (hr : fn.results = #[.cell p 118, .tmp u]) (hp : a.tmps.getD p undef = .pointer (some ⟨g, 0, none⟩)) (hu : a.tmps.getD u undef = v) (hd : a.defers = [])
    (hg : W.heap[g]? = some (.cells #[x0, x1, x2] ty fr)) (hR : R (.returned (.tuple #[.agg #[x0, x1, x2], v])) W) : bodyPost Tryz.prog fn R .ret a W := by
  refine bodyPost_ret (v := .tuple #[.agg #[x0, x1, x2], v]) ?_ hd hR
  rw [results_cell_tmp hr, hp]
  have h1 : (asAddr (.pointer (some ⟨g, 0, none⟩)) : Sem Addr).run Tryz.prog W = .ok ⟨g, 0, none⟩ W := rfl
  rw [h1, Result.andThen_ok, run_loadVar_row W g ty 118 #[x0, x1, x2] fr _ hg Tryz.underlying118 rfl infoP, Result.andThen_ok, hu]
theorem end_p {fn : Func} {R : Ending → World → Prop} {a : Act} {W : World} {p : Tmp} {g : Nat} {ty : TypeId} {fr : Nat × Nat} {x0 x1 x2 : Value} (hr : fn.results = #[.cell p 118]) (hp : a.tmps.getD p undef = .pointer (some ⟨g, 0, none⟩)) (hd : a.defers = [])
    (hg : W.heap[g]? = some (.cells #[x0, x1, x2] ty fr)) (hR : R (.returned (.agg #[x0, x1, x2])) W) : bodyPost Tryz.prog fn R .ret a W :=
  bodyPost_ret (results_cell_row hr a.tmps W g _ _ _ _ hp hg Tryz.underlying118 rfl infoP) hd hR
theorem pt_facts {W : World} {g : Nat} {ty : TypeId} {x0 x1 x2 : Value} (h : W.heap[g]? = some (.cells #[x0, x1, x2] ty (0, 0))) :
    W.cell? ⟨g, 0, none⟩ = some x0 ∧ W.cell? ⟨g, 1, none⟩ = some x1 ∧ W.cell? ⟨g, 2, none⟩ = some x2 ∧ W.frozen? ⟨g, 0, none⟩ = false ∧ W.frozen? ⟨g, 1, none⟩ = false ∧ W.frozen? ⟨g, 2, none⟩ = false :=
  ⟨blk_cell h 0, blk_cell h 1, blk_cell h 2, blk_free h 0, blk_free h 1, blk_free h 2⟩
theorem pt_one (b : Bool) (A A' : Option Addr) (n n' c c' : Nat) : (#[Value.bool b, .slice A n c, .slice A' n' c'] : Array Value).all (·.oneCell') = true := by simp [Value.oneCell']
/-- A point's cells are laid. -/
theorem pt_set {W : World} {g : Nat} {ty : TypeId} {x0 x1 x2 : Value} (h : W.heap[g]? = some (.cells #[x0, x1, x2] ty (0, 0))) (y0 y1 y2 : Value) : (((W.setCell ⟨g, 0, none⟩ y0).setCell ⟨g, 1, none⟩ y1).setCell ⟨g, 2, none⟩ y2).heap[g]? = some (.cells #[y0, y1, y2] ty (0, 0)) :=
  blk_set (blk_set (blk_set h 0 y0) 1 y1) 2 y2
theorem pt_just (W : World) (g : Nat) (y0 y1 y2 : Value) : Just g W (((W.setCell ⟨g, 0, none⟩ y0).setCell ⟨g, 1, none⟩ y1).setCell ⟨g, 2, none⟩ y2) := (((Just.refl g W).set 0 y0).set 1 y1).set 2 y2
theorem pt_ext {w W : World} {g : Nat} (hE : Ext w W) (hg : w.heap.size ≤ g) (y0 y1 y2 : Value) : Ext w (((W.setCell ⟨g, 0, none⟩ y0).setCell ⟨g, 1, none⟩ y1).setCell ⟨g, 2, none⟩ y2) :=
  ((Below.setCell hE (p := ⟨g, 0, none⟩) hg y0).setCell (p := ⟨g, 1, none⟩) hg y1).setCell (p := ⟨g, 2, none⟩) hg y2
set_option maxRecDepth 100000 in
theorem none_any (w : World) : Calls Tryz.prog 98 #[] w fun e w' => e = .returned infV ∧ Ext w w' := by
  go_enter Tryz.func98, Tryz.ntmps98
  go_wp2
  exact end_p rfl rfl rfl (heap_alloc_new w _) ⟨rfl, Ext.alloc _ _⟩
/-- Limbs stand where a block of another type gets something. -/
theorem OB.just {X Y : World} {base b : Nat} {A : Option Addr} {c : Nat} {l : List Nat} (h : OB X base A c l) (hj : Just b X Y) {cs : Array Value} {t : TypeId} (hb : X.heap[b]? = some (.cells cs t (0, 0))) (ht : t ≠ 90) : OB Y base A c l := by
  obtain ⟨h1, h2, h3, h4⟩ := h
  refine ⟨h1, h2, h3, fun hl => ?_⟩
  obtain ⟨g, cur, e, hg, hgc, hr⟩ := h4 hl
  refine ⟨g, cur, e, hg, hj.at_ (fun e => ?_) hgc, hr⟩
  subst e
  rw [hb] at hgc
  injection hgc with hgc
  injection hgc with _ hgc _
  exact ht hgc
theorem RB.mid {w : World} {P : Nat → Prop} {A : Option Addr} {c : Nat} {bs : List Nat} (h : RB w P A c bs) {k m c' : Nat} (hkm : k ≤ m) (hm : m ≤ bs.length) (hc : m - k ≤ c') (hc' : c' ≤ maxLen) {A' : Option Addr} (hA : k < m → A' = A.map (·.add k)) : RB w P A' c' ((bs.drop k).take (m - k)) := by
  have h1 := h.1.sub hkm hm hc hc' (A' := A') (by simpa using hA)
  have e : ((bys bs).drop (k * 1)).take ((m - k) * 1) = bys ((bs.drop k).take (m - k)) := by simp [bys, List.map_take, List.map_drop]
  rw [e] at h1
  have hl : ((bs.drop k).take (m - k)).length = m - k := by rw [List.length_take, List.length_drop]; omega
  refine ⟨by rw [hl]; exact h1, fun b hb => h.2.1 b (List.mem_of_mem_drop (List.mem_of_mem_take hb)), by rw [hl]; have := h.2.2; omega⟩
end Go.Proofs.YtldhmjfjbalakaaGreat

namespace Go.Proofs.YtldhmjfjbalakaaGreat
open Go.RowKit

/-- What bytes stand for: nothing; a point, that may be nowhere. -/
def decC (C : Crv) (bs : List Nat) : Option (Option (Nat × Nat)) :=
  if bs = [0] then some none
  else if bs.length = 1 + 2 * C.size ∧ dg bs 0 = 4 then
    if onB C.M C.bb (numOf ((bs.drop 1).take C.size)) (numOf (bs.drop (1 + C.size))) = true then some (some (numOf ((bs.drop 1).take C.size), numOf (bs.drop (1 + C.size)))) else none
  else none
/-- The value is that point. -/
def PtV (w : World) (base : Nat) (v : Value) : Option (Nat × Nat) → Prop
  | none => v = infV
  | some p => ∃ A c A' c', v = .agg #[.bool false, .slice A (digs 18446744073709551616 p.1).length c, .slice A' (digs 18446744073709551616 p.2).length c'] ∧ OB w base A c (digs 18446744073709551616 p.1) ∧ OB w base A' c' (digs 18446744073709551616 p.2)

set_option maxRecDepth 100000 in
set_option maxHeartbeats 8000000 in
theorem decode_c {c : Int} {C : Crv} (hC : IsC c C) (P : Nat → Prop) (A : Option Addr) (cap : Nat) (bs : List Nat) (w : World) (h : RB w P A cap bs) (hP : ∀ b, P b → b < w.heap.size) :
    Calls Tryz.prog 83 #[.int .i64 c, .slice A bs.length cap] w fun e w' => ∃ v, e = .returned (.tuple #[v, .bool (decC C bs).isSome]) ∧ PtV w' w.heap.size v ((decC C bs).getD none) ∧ Ext w w' := by
  have hF := hC.fine
  obtain ⟨s, hs⟩ : ∃ s, C.size = s := ⟨_, rfl⟩
  have s1 : 32 ≤ s := by rw [← hs]; exact hF.pos
  have s2 : s ≤ 48 := by rw [← hs]; exact hF.small
  obtain ⟨r, hr⟩ : ∃ r, decC C bs = r := ⟨_, rfl⟩
  rw [hr]
  have Hr := Lib.hid hr
  have Hs := Lib.hid hs
  have HF := Lib.hid hF
  obtain ⟨l1, l2, l3⟩ := h.cap
  obtain ⟨n, hn⟩ : ∃ n, bs.length = n := ⟨_, rfl⟩
  rw [hn] at l1 l3
  rw [hn]
  have Hn := Lib.hid hn
  have w1 : IntKind.i64.wrap (2 * (s : Int)) = 2 * s := IntWalk.i64_in _ (by omega)
  have w2 : IntKind.i64.wrap (1 + 2 * (s : Int)) = 1 + 2 * s := IntWalk.i64_in _ (by omega)
  clear hr hs hF hn
  by_cases h1 : n = 1
  · subst h1
    obtain ⟨x, rfl⟩ : ∃ x, bs = [x] := by
      have := Hn.out
      match bs, this with
      | [x], _ => exact ⟨x, rfl⟩
    obtain ⟨ad, rfl, hPb, hc, hx⟩ := h.at_ (i := 0) (by simp)
    have hc0 : w.cell? ad = some (.int .u8 (x : Int)) := by rwa [show ad.add 0 = ad by simp [Addr.add]] at hc
    by_cases hx0 : x = 0
    · subst hx0
      obtain rfl : r = some none := by rw [← Hr.out]; simp [decC]
      go_enter Tryz.func83, Tryz.ntmps83
      go_wp2_with (first
        | (go_at_call 97; refine (of_c hC _).mono ?_; rintro e wa ⟨k, rfl, hk, hE1⟩; have hca := hE1.cell ((Ext.alloc w _).cell hc0); have hrb := hE1.at_ (heap_alloc_new w _); have hks := hk.size; rw [Hs.out] at hks)
        | (go_at_call 98; refine (none_any _).mono ?_; rintro e wb ⟨rfl, hE2⟩; have hrb2 := hE2.at_ hrb; obtain ⟨z0, z1, z2, f0, f1, f2⟩ := pt_facts hrb2))
      exact end_pt rfl rfl rfl rfl (pt_set hrb2 _ _ _) ⟨infV, rfl, rfl, pt_ext (((Ext.alloc w _).trans hE1).trans hE2) (Nat.le_refl _) _ _ _⟩
    · have hx1 : ((x : Int) == 0) = false := by simp; omega
      have hx2 : ((1 : Int) != 1 + 2 * (s : Int)) = true := by simp; omega
      obtain rfl : r = none := by rw [← Hr.out]; simp [decC, hx0]; intro h; have := Hs.out; omega
      go_enter Tryz.func83, Tryz.ntmps83
      go_wp2_with (first
        | (go_at_call 97; refine (of_c hC _).mono ?_; rintro e wa ⟨k, rfl, hk, hE1⟩; have hca := hE1.cell ((Ext.alloc w _).cell hc0); have hrb := hE1.at_ (heap_alloc_new w _); have hks := hk.size; rw [Hs.out] at hks)
        | (go_at_call 98; refine (none_any _).mono ?_; rintro e wb ⟨rfl, hE2⟩; have hrb2 := hE2.at_ hrb; obtain ⟨z0, z1, z2, f0, f1, f2⟩ := pt_facts hrb2))
      exact end_pt rfl rfl rfl rfl (pt_set hrb2 _ _ _) ⟨infV, rfl, rfl, pt_ext (((Ext.alloc w _).trans hE1).trans hE2) (Nat.le_refl _) _ _ _⟩
  · have hn1 : ((n : Int) == 1) = false := by simp; omega
    by_cases h2 : n = 1 + 2 * s
    · obtain ⟨ad, rfl, hPb, hc, hx⟩ := h.at_ (i := 0) (by rw [Hn.out]; omega)
      have hn2 : ((n : Int) != 1 + 2 * (s : Int)) = false := by simp; omega
      have hn3 : 0 < n := by omega
      obtain ⟨x, hxe⟩ : ∃ x, bs[0]'(by rw [Hn.out]; omega) = x := ⟨_, rfl⟩
      rw [hxe] at hc hx
      have hdx : dg bs 0 = x := by rw [dg, getD_eq' (by rw [Hn.out]; omega)]; exact hxe
      have hc0 : w.cell? ad = some (.int .u8 (x : Int)) := by rwa [show ad.add 0 = ad by simp [Addr.add]] at hc
      have Hdx := Lib.hid hdx
      have H2 := Lib.hid h2
      clear hxe hdx h2 hc
      by_cases hx4 : x = 4
      · have hx1 : ((x : Int) != 4) = false := by simp; omega
        go_enter Tryz.func83, Tryz.ntmps83
        go_upto_region 8 with (first
        | (go_at_call 97; refine (of_c hC _).mono ?_; rintro e wa ⟨k, rfl, hk, hE1⟩; have hca := hE1.cell ((Ext.alloc w _).cell hc0); have hrb := hE1.at_ (heap_alloc_new w _); have hks := hk.size; rw [Hs.out] at hks)
        | (go_at_call 98; refine (none_any _).mono ?_; rintro e wb ⟨rfl, hE2⟩; have hrb2 := hE2.at_ hrb; obtain ⟨z0, z1, z2, f0, f1, f2⟩ := pt_facts hrb2))
        have hW : Ext w wa := (Ext.alloc w _).trans hE1
        obtain ⟨B1, hB1⟩ : ∃ B1, (bs.drop 1).take s = B1 := ⟨_, rfl⟩
        obtain ⟨B2, hB2⟩ : ∃ B2, bs.drop (1 + s) = B2 := ⟨_, rfl⟩
        have hlen1 : B1.length = s := by rw [← hB1, List.length_take, List.length_drop, Hn.out, H2.out]; omega
        have hlen2 : B2.length = s := by rw [← hB2, List.length_drop, Hn.out, H2.out]; omega
        have hr1 := Lib.hid (fun X (hX : Ext wa X) => show RB X P (some ⟨ad.block, ad.off + 1, none⟩) (cap - 1) B1 by
          have := (h.below (hW.trans hX) hP).mid (k := 1) (m := 1 + s) (c' := cap - 1) (A' := some ⟨ad.block, ad.off + 1, none⟩) (by omega) (by rw [Hn.out, H2.out]; omega) (by have := H2.out; omega) (by unfold maxLen; omega) (fun _ => by simp [Addr.add])
          rw [Nat.add_sub_cancel_left, hB1] at this
          exact this)
        have hr2 := Lib.hid (fun X (hX : Ext wa X) => show RB X P (some (ad.add (1 + s))) (cap - (1 + s)) B2 by
          have := (h.below (hW.trans hX) hP).mid (k := 1 + s) (m := bs.length) (c' := cap - (1 + s)) (A' := some (ad.add (1 + s))) (by rw [Hn.out, H2.out]; omega) (Nat.le_refl _) (by rw [Hn.out]; omega) (by unfold maxLen; omega) (fun _ => rfl)
          rw [List.take_of_length_le (by rw [List.length_drop]; omega), hB2] at this
          exact this)
        have hrr : decC C bs = if onB C.M C.bb (numOf B1) (numOf B2) = true then some (some (numOf B1, numOf B2)) else none := by
          rw [decC, if_neg (fun e => by have := Hn.out; rw [e] at this; simp at this; omega), if_pos ⟨by have := Hn.out; have := Hs.out; have := H2.out; omega, by have := Hdx.out; omega⟩, Hs.out, hB1, hB2]
        rw [Hr.out] at hrr
        have Hrr := Lib.hid hrr
        have L1 := Lib.hid hlen1
        have L2 := Lib.hid hlen2
        have HW := Lib.hid hW
        have w3 : IntKind.i64.wrap (1 + (s : Int)) = 1 + s := IntWalk.i64_in _ (by omega)
        have hPw : ∀ X : World, Ext wa X → ∀ b, P b → b < X.heap.size := fun X hX b hb => Nat.lt_of_lt_of_le (hP b hb) (HW.out.trans hX).bsize
        have HPw := Lib.hid hPw
        have c1i : 1 + (s : Int) ≤ cap := by have := H2.out; omega
        have c0i : (1 : Int) ≤ 1 + (s : Int) := by omega
        have c4i : 1 + (s : Int) ≤ n := by have := H2.out; omega
        have c5i : (0 : Int) ≤ 1 + (s : Int) := by omega
        have c6 : ¬ cap = 1 := by have := H2.out; omega
        have c7 : ¬ cap = 1 + s := by have := H2.out; omega
        have c1 : 1 + s ≤ cap := by have := H2.out; omega
        have c2 : (1 + (s : Int)).toNat = 1 + s := by omega
        have c3 : n - (1 + s) = s := by have := H2.out; omega
        have c4 : 1 + s ≤ n := by have := H2.out; omega
        clear hlen1 hlen2 hB1 hB2 hrr hW hPw
        refine Par.region_ext (by kernel_rfl) 18 [0, 0, 2, 6, 14, 30, 63, 127, 0, 0, 512, 1536, 3584, 7680, 16128, 32767, 65535, 0, 262143] [17] (fun j f X => match j with
          | 0 => f 0 = .slice (some ad) n cap
          | 1 => f 1 = .pointer (some ⟨k, 0, none⟩)
          | 2 => f 2 = .pointer (some ⟨k, 0, none⟩)
          | 3 => f 3 = .pointer (some ⟨k, 0, none⟩)
          | 4 => f 4 = .int .i64 (s : Int)
          | 5 => f 5 = .int .i64 (1 + (s : Int))
          | 6 => f 6 = .slice (some ⟨ad.block, ad.off + 1, none⟩) s (cap - 1)
          | 7 => ∃ A1 k1, f 7 = .slice A1 (digs 18446744073709551616 (numOf B1)).length k1 ∧ OB X w.heap.size A1 k1 (digs 18446744073709551616 (numOf B1))
          | 8 => f 8 = .slice (some ad) n cap
          | 9 => f 9 = .pointer (some ⟨k, 0, none⟩)
          | 10 => f 10 = .pointer (some ⟨k, 0, none⟩)
          | 11 => f 11 = .pointer (some ⟨k, 0, none⟩)
          | 12 => f 12 = .int .i64 (s : Int)
          | 13 => f 13 = .int .i64 (1 + (s : Int))
          | 14 => f 14 = .slice (some (ad.add (1 + s))) s (cap - (1 + s))
          | 15 => ∃ A1 k1, f 15 = .slice A1 (digs 18446744073709551616 (numOf B2)).length k1 ∧ OB X w.heap.size A1 k1 (digs 18446744073709551616 (numOf B2))
          | 16 => f 16 = .agg #[.bool false, f 7, f 15]
          | 17 => ∃ b, f 17 = .pointer (some ⟨b, 0, none⟩) ∧ wa.heap.size ≤ b ∧ X.heap[b]? = some (.cells #[.bool false, .slice none 0 0, .slice none 0 0] 118 (0, 0))
          | _ => True) (by kernel_rfl) [(42, 0), (43, 1), (44, 2), (45, 3), (46, 4), (47, 5), (48, 6), (49, 7), (50, 8), (51, 9), (52, 10), (53, 11), (54, 12), (55, 13), (56, 14), (57, 15), (58, 16), (7, 17)] (by kernel_rfl) ?_
        refine Par.AllOps.cons 1 17 rfl rfl (Par.StepO.intro [(43, 1), (44, 2), (45, 3), (46, 4), (47, 5), (50, 8), (51, 9), (52, 10), (53, 11), (54, 12), (55, 13), (56, 14), (7, 17)] (by kernel_rfl) (fun f X hX hR K hK => ?_)) ?_
        · simp only [Par.putL, Act.put, List.setIfInBounds_toArray, List.set_cons_succ, List.set_cons_zero]
          refine ⟨?_⟩
          go_simp
          exact hK.out _ (.slice (some ad) n cap) _ (by simp only [Par.putL, Act.put, List.setIfInBounds_toArray, List.set_cons_succ, List.set_cons_zero]) (Ext.refl _) trivial (fun _ _ => rfl)
        refine Par.AllOps.cons 2 16 rfl rfl (Par.StepO.intro [(42, 0), (50, 8), (51, 9), (52, 10), (53, 11), (54, 12), (55, 13), (56, 14), (7, 17)] (by kernel_rfl) (fun f X hX hR K hK => ?_)) ?_
        · simp only [Par.putL, Act.put, List.setIfInBounds_toArray, List.set_cons_succ, List.set_cons_zero]
          refine ⟨?_⟩
          go_simp
          exact hK.out _ (.pointer (some ⟨k, 0, none⟩)) _ (by simp only [Par.putL, Act.put, List.setIfInBounds_toArray, List.set_cons_succ, List.set_cons_zero]) (Ext.refl _) trivial (fun _ _ => rfl)
        refine Par.AllOps.cons 3 15 rfl rfl (Par.StepO.intro [(42, 0), (43, 1), (50, 8), (51, 9), (52, 10), (53, 11), (54, 12), (55, 13), (56, 14), (7, 17)] (by kernel_rfl) (fun f X hX hR K hK => ?_)) ?_
        · have e1 : f 1 = .pointer (some ⟨k, 0, none⟩) := hR.out 1 rfl
          simp only [Par.putL, Act.put, List.setIfInBounds_toArray, List.set_cons_succ, List.set_cons_zero, e1]
          refine ⟨?_⟩
          go_simp
          exact hK.out _ (.pointer (some ⟨k, 0, none⟩)) _ (by simp only [Par.putL, Act.put, List.setIfInBounds_toArray, List.set_cons_succ, List.set_cons_zero, e1]) (Ext.refl _) trivial (fun _ _ => rfl)
        refine Par.AllOps.cons 4 14 rfl rfl (Par.StepO.intro [(42, 0), (43, 1), (44, 2), (50, 8), (51, 9), (52, 10), (53, 11), (54, 12), (55, 13), (56, 14), (7, 17)] (by kernel_rfl) (fun f X hX hR K hK => ?_)) ?_
        · have e2 : f 2 = .pointer (some ⟨k, 0, none⟩) := hR.out 2 rfl
          simp only [Par.putL, Act.put, List.setIfInBounds_toArray, List.set_cons_succ, List.set_cons_zero, e2]
          refine ⟨?_⟩
          go_simp
          exact hK.out _ (.pointer (some ⟨k, 0, none⟩)) _ (by simp only [Par.putL, Act.put, List.setIfInBounds_toArray, List.set_cons_succ, List.set_cons_zero, e2]) (Ext.refl _) trivial (fun _ _ => rfl)
        refine Par.AllOps.cons 5 13 rfl rfl (Par.StepO.intro [(42, 0), (43, 1), (44, 2), (45, 3), (50, 8), (51, 9), (52, 10), (53, 11), (54, 12), (55, 13), (56, 14), (7, 17)] (by kernel_rfl) (fun f X hX hR K hK => ?_)) ?_
        · have e3 : f 3 = .pointer (some ⟨k, 0, none⟩) := hR.out 3 rfl
          have x0 := hX.cell hks
          simp only [Par.putL, Act.put, List.setIfInBounds_toArray, List.set_cons_succ, List.set_cons_zero, e3]
          refine ⟨?_⟩
          go_simp
          exact hK.out _ (.int .i64 (s : Int)) _ (by simp only [Par.putL, Act.put, List.setIfInBounds_toArray, List.set_cons_succ, List.set_cons_zero, e3]) (Ext.refl _) trivial (fun _ _ => rfl)
        refine Par.AllOps.cons 6 12 rfl rfl (Par.StepO.intro [(42, 0), (43, 1), (44, 2), (45, 3), (46, 4), (50, 8), (51, 9), (52, 10), (53, 11), (54, 12), (55, 13), (56, 14), (7, 17)] (by kernel_rfl) (fun f X hX hR K hK => ?_)) ?_
        · have e4 : f 4 = .int .i64 (s : Int) := hR.out 4 rfl
          simp only [Par.putL, Act.put, List.setIfInBounds_toArray, List.set_cons_succ, List.set_cons_zero, e4]
          refine ⟨?_⟩
          go_simp
          exact hK.out _ (.int .i64 (1 + (s : Int))) _ (by simp only [Par.putL, Act.put, List.setIfInBounds_toArray, List.set_cons_succ, List.set_cons_zero, e4]) (Ext.refl _) trivial (fun _ _ => rfl)
        refine Par.AllOps.cons 7 11 rfl rfl (Par.StepO.intro [(42, 0), (43, 1), (44, 2), (45, 3), (46, 4), (47, 5), (50, 8), (51, 9), (52, 10), (53, 11), (54, 12), (55, 13), (56, 14), (7, 17)] (by kernel_rfl) (fun f X hX hR K hK => ?_)) ?_
        · have e0 : f 0 = .slice (some ad) n cap := hR.out 0 rfl
          have e5 : f 5 = .int .i64 (1 + (s : Int)) := hR.out 5 rfl
          simp only [Par.putL, Act.put, List.setIfInBounds_toArray, List.set_cons_succ, List.set_cons_zero, e0, e5]
          refine ⟨?_⟩
          go_simp
          exact hK.out _ (.slice (some ⟨ad.block, ad.off + 1, none⟩) s (cap - 1)) _ (by simp only [Par.putL, Act.put, List.setIfInBounds_toArray, List.set_cons_succ, List.set_cons_zero, e0, e5]) (Ext.refl _) trivial (fun _ _ => rfl)
        refine Par.AllOps.cons 8 10 rfl rfl (Par.StepO.intro [(42, 0), (43, 1), (44, 2), (45, 3), (46, 4), (47, 5), (48, 6), (50, 8), (51, 9), (52, 10), (53, 11), (54, 12), (55, 13), (56, 14), (7, 17)] (by kernel_rfl) (fun f X hX hR K hK => ?_)) ?_
        · have e6 : f 6 = .slice (some ⟨ad.block, ad.off + 1, none⟩) s (cap - 1) := hR.out 6 rfl
          simp only [Par.putL, Act.put, List.setIfInBounds_toArray, List.set_cons_succ, List.set_cons_zero, e6]
          refine ⟨?_⟩
          go_simp
          have hf := fromBytes_any P _ _ B1 X (hr1.out X hX) (HPw.out X hX) (by rw [L1.out]; omega)
          rw [L1.out] at hf
          refine hf.mono ?_
          rintro e w2 ⟨A1, k1, rfl, hO, hB⟩
          exact hK.out _ _ _ (by simp only [Par.putL, Act.put, List.setIfInBounds_toArray, List.set_cons_succ, List.set_cons_zero, e6]) hB trivial (fun Y hY => ⟨A1, k1, rfl, (hO.mono (HW.out.trans hX).bsize).below hY (Nat.le_refl _)⟩)
        refine Par.AllOps.cons 9 9 rfl rfl (Par.StepO.intro [(42, 0), (43, 1), (44, 2), (45, 3), (46, 4), (47, 5), (48, 6), (49, 7), (51, 9), (52, 10), (53, 11), (54, 12), (55, 13), (7, 17)] (by kernel_rfl) (fun f X hX hR K hK => ?_)) ?_
        · simp only [Par.putL, Act.put, List.setIfInBounds_toArray, List.set_cons_succ, List.set_cons_zero]
          refine ⟨?_⟩
          go_simp
          exact hK.out _ (.slice (some ad) n cap) _ (by simp only [Par.putL, Act.put, List.setIfInBounds_toArray, List.set_cons_succ, List.set_cons_zero]) (Ext.refl _) trivial (fun _ _ => rfl)
        refine Par.AllOps.cons 10 8 rfl rfl (Par.StepO.intro [(42, 0), (43, 1), (44, 2), (45, 3), (46, 4), (47, 5), (48, 6), (49, 7), (50, 8), (7, 17)] (by kernel_rfl) (fun f X hX hR K hK => ?_)) ?_
        · simp only [Par.putL, Act.put, List.setIfInBounds_toArray, List.set_cons_succ, List.set_cons_zero]
          refine ⟨?_⟩
          go_simp
          exact hK.out _ (.pointer (some ⟨k, 0, none⟩)) _ (by simp only [Par.putL, Act.put, List.setIfInBounds_toArray, List.set_cons_succ, List.set_cons_zero]) (Ext.refl _) trivial (fun _ _ => rfl)
        refine Par.AllOps.cons 11 7 rfl rfl (Par.StepO.intro [(42, 0), (43, 1), (44, 2), (45, 3), (46, 4), (47, 5), (48, 6), (49, 7), (50, 8), (51, 9), (7, 17)] (by kernel_rfl) (fun f X hX hR K hK => ?_)) ?_
        · have e9 : f 9 = .pointer (some ⟨k, 0, none⟩) := hR.out 9 rfl
          simp only [Par.putL, Act.put, List.setIfInBounds_toArray, List.set_cons_succ, List.set_cons_zero, e9]
          refine ⟨?_⟩
          go_simp
          exact hK.out _ (.pointer (some ⟨k, 0, none⟩)) _ (by simp only [Par.putL, Act.put, List.setIfInBounds_toArray, List.set_cons_succ, List.set_cons_zero, e9]) (Ext.refl _) trivial (fun _ _ => rfl)
        refine Par.AllOps.cons 12 6 rfl rfl (Par.StepO.intro [(42, 0), (43, 1), (44, 2), (45, 3), (46, 4), (47, 5), (48, 6), (49, 7), (50, 8), (51, 9), (52, 10), (7, 17)] (by kernel_rfl) (fun f X hX hR K hK => ?_)) ?_
        · have e10 : f 10 = .pointer (some ⟨k, 0, none⟩) := hR.out 10 rfl
          simp only [Par.putL, Act.put, List.setIfInBounds_toArray, List.set_cons_succ, List.set_cons_zero, e10]
          refine ⟨?_⟩
          go_simp
          exact hK.out _ (.pointer (some ⟨k, 0, none⟩)) _ (by simp only [Par.putL, Act.put, List.setIfInBounds_toArray, List.set_cons_succ, List.set_cons_zero, e10]) (Ext.refl _) trivial (fun _ _ => rfl)
        refine Par.AllOps.cons 13 5 rfl rfl (Par.StepO.intro [(42, 0), (43, 1), (44, 2), (45, 3), (46, 4), (47, 5), (48, 6), (49, 7), (50, 8), (51, 9), (52, 10), (53, 11), (7, 17)] (by kernel_rfl) (fun f X hX hR K hK => ?_)) ?_
        · have e11 : f 11 = .pointer (some ⟨k, 0, none⟩) := hR.out 11 rfl
          have x0 := hX.cell hks
          simp only [Par.putL, Act.put, List.setIfInBounds_toArray, List.set_cons_succ, List.set_cons_zero, e11]
          refine ⟨?_⟩
          go_simp
          exact hK.out _ (.int .i64 (s : Int)) _ (by simp only [Par.putL, Act.put, List.setIfInBounds_toArray, List.set_cons_succ, List.set_cons_zero, e11]) (Ext.refl _) trivial (fun _ _ => rfl)
        refine Par.AllOps.cons 14 4 rfl rfl (Par.StepO.intro [(42, 0), (43, 1), (44, 2), (45, 3), (46, 4), (47, 5), (48, 6), (49, 7), (50, 8), (51, 9), (52, 10), (53, 11), (54, 12), (7, 17)] (by kernel_rfl) (fun f X hX hR K hK => ?_)) ?_
        · have e12 : f 12 = .int .i64 (s : Int) := hR.out 12 rfl
          simp only [Par.putL, Act.put, List.setIfInBounds_toArray, List.set_cons_succ, List.set_cons_zero, e12]
          refine ⟨?_⟩
          go_simp
          exact hK.out _ (.int .i64 (1 + (s : Int))) _ (by simp only [Par.putL, Act.put, List.setIfInBounds_toArray, List.set_cons_succ, List.set_cons_zero, e12]) (Ext.refl _) trivial (fun _ _ => rfl)
        refine Par.AllOps.cons 15 3 rfl rfl (Par.StepO.intro [(42, 0), (43, 1), (44, 2), (45, 3), (46, 4), (47, 5), (48, 6), (49, 7), (50, 8), (51, 9), (52, 10), (53, 11), (54, 12), (55, 13), (7, 17)] (by kernel_rfl) (fun f X hX hR K hK => ?_)) ?_
        · have e8 : f 8 = .slice (some ad) n cap := hR.out 8 rfl
          have e13 : f 13 = .int .i64 (1 + (s : Int)) := hR.out 13 rfl
          simp only [Par.putL, Act.put, List.setIfInBounds_toArray, List.set_cons_succ, List.set_cons_zero, e8, e13]
          refine ⟨?_⟩
          go_simp
          exact hK.out _ (.slice (some (ad.add (1 + s))) s (cap - (1 + s))) _ (by simp only [Par.putL, Act.put, List.setIfInBounds_toArray, List.set_cons_succ, List.set_cons_zero, e8, e13]) (Ext.refl _) trivial (fun _ _ => rfl)
        refine Par.AllOps.cons 16 2 rfl rfl (Par.StepO.intro [(42, 0), (43, 1), (44, 2), (45, 3), (46, 4), (47, 5), (48, 6), (49, 7), (50, 8), (51, 9), (52, 10), (53, 11), (54, 12), (55, 13), (56, 14), (7, 17)] (by kernel_rfl) (fun f X hX hR K hK => ?_)) ?_
        · have e14 : f 14 = .slice (some (ad.add (1 + s))) s (cap - (1 + s)) := hR.out 14 rfl
          simp only [Par.putL, Act.put, List.setIfInBounds_toArray, List.set_cons_succ, List.set_cons_zero, e14]
          refine ⟨?_⟩
          go_simp
          have hf := fromBytes_any P _ _ B2 X (hr2.out X hX) (HPw.out X hX) (by rw [L2.out]; omega)
          rw [L2.out] at hf
          refine hf.mono ?_
          rintro e w2 ⟨A1, k1, rfl, hO, hB⟩
          exact hK.out _ _ _ (by simp only [Par.putL, Act.put, List.setIfInBounds_toArray, List.set_cons_succ, List.set_cons_zero, e14]) hB trivial (fun Y hY => ⟨A1, k1, rfl, (hO.mono (HW.out.trans hX).bsize).below hY (Nat.le_refl _)⟩)
        refine Par.AllOps.cons 17 1 rfl rfl (Par.StepO.intro [(42, 0), (43, 1), (44, 2), (45, 3), (46, 4), (47, 5), (48, 6), (49, 7), (50, 8), (51, 9), (52, 10), (53, 11), (54, 12), (55, 13), (56, 14), (57, 15), (7, 17)] (by kernel_rfl) (fun f X hX hR K hK => ?_)) ?_
        · obtain ⟨A7, k7, e7, o7⟩ : ∃ A1 k1, f 7 = .slice A1 (digs 18446744073709551616 (numOf B1)).length k1 ∧ OB X w.heap.size A1 k1 (digs 18446744073709551616 (numOf B1)) := hR.out 7 rfl
          obtain ⟨A15, k15, e15, o15⟩ : ∃ A1 k1, f 15 = .slice A1 (digs 18446744073709551616 (numOf B2)).length k1 ∧ OB X w.heap.size A1 k1 (digs 18446744073709551616 (numOf B2)) := hR.out 15 rfl
          simp only [Par.putL, Act.put, List.setIfInBounds_toArray, List.set_cons_succ, List.set_cons_zero, e7, e15]
          refine ⟨?_⟩
          go_simp
          exact hK.out _ (.agg #[.bool false, f 7, f 15]) _ (by simp only [Par.putL, Act.put, List.setIfInBounds_toArray, List.set_cons_succ, List.set_cons_zero, e7, e15]) (Ext.refl _) trivial (fun _ _ => rfl)
        refine Par.AllOps.cons 18 0 rfl rfl (Par.StepO.intro [(42, 0), (43, 1), (44, 2), (45, 3), (46, 4), (47, 5), (48, 6), (49, 7), (50, 8), (51, 9), (52, 10), (53, 11), (54, 12), (55, 13), (56, 14), (57, 15), (58, 16)] (by kernel_rfl) (fun f X hX hR K hK => ?_)) ?_
        · simp only [Par.putL, Act.put, List.setIfInBounds_toArray, List.set_cons_succ, List.set_cons_zero]
          refine ⟨?_⟩
          go_simp
          exact hK.out _ _ _ (by simp only [Par.putL, Act.put, List.setIfInBounds_toArray, List.set_cons_succ, List.set_cons_zero]) (Ext.alloc _ _) ⟨rfl, by simp⟩ (fun Y hY => ⟨_, rfl, hX.bsize, hY.at_ (heap_alloc_new _ _)⟩)
        refine Par.AllOps.fin ⟨fun f X hX hR hal hap => ?_⟩
        have e0 : f 0 = .slice (some ad) n cap := hR 0 (by decide)
        have e1 : f 1 = .pointer (some ⟨k, 0, none⟩) := hR 1 (by decide)
        have e2 : f 2 = .pointer (some ⟨k, 0, none⟩) := hR 2 (by decide)
        have e3 : f 3 = .pointer (some ⟨k, 0, none⟩) := hR 3 (by decide)
        have e4 : f 4 = .int .i64 (s : Int) := hR 4 (by decide)
        have e5 : f 5 = .int .i64 (1 + (s : Int)) := hR 5 (by decide)
        have e6 : f 6 = .slice (some ⟨ad.block, ad.off + 1, none⟩) s (cap - 1) := hR 6 (by decide)
        obtain ⟨A7, k7, e7, o7⟩ : ∃ A1 k1, f 7 = .slice A1 (digs 18446744073709551616 (numOf B1)).length k1 ∧ OB X w.heap.size A1 k1 (digs 18446744073709551616 (numOf B1)) := hR 7 (by decide)
        have e8 : f 8 = .slice (some ad) n cap := hR 8 (by decide)
        have e9 : f 9 = .pointer (some ⟨k, 0, none⟩) := hR 9 (by decide)
        have e10 : f 10 = .pointer (some ⟨k, 0, none⟩) := hR 10 (by decide)
        have e11 : f 11 = .pointer (some ⟨k, 0, none⟩) := hR 11 (by decide)
        have e12 : f 12 = .int .i64 (s : Int) := hR 12 (by decide)
        have e13 : f 13 = .int .i64 (1 + (s : Int)) := hR 13 (by decide)
        have e14 : f 14 = .slice (some (ad.add (1 + s))) s (cap - (1 + s)) := hR 14 (by decide)
        obtain ⟨A15, k15, e15, o15⟩ : ∃ A1 k1, f 15 = .slice A1 (digs 18446744073709551616 (numOf B2)).length k1 ∧ OB X w.heap.size A1 k1 (digs 18446744073709551616 (numOf B2)) := hR 15 (by decide)
        have e16 : f 16 = .agg #[.bool false, f 7, f 15] := hR 16 (by decide)
        obtain ⟨b17, e17, l17, h17⟩ : ∃ b, f 17 = .pointer (some ⟨b, 0, none⟩) ∧ wa.heap.size ≤ b ∧ X.heap[b]? = some (.cells #[.bool false, .slice none 0 0, .slice none 0 0] 118 (0, 0)) := hR 17 (by decide)
        simp only [Par.putL, Act.put, List.setIfInBounds_toArray, List.set_cons_succ, List.set_cons_zero, e0, e1, e2, e3, e4, e5, e6, e7, e8, e9, e10, e11, e12, e13, e14, e15, e16, e17]
        clear hR hal hap e0 e1 e2 e3 e4 e5 e6 e7 e8 e9 e10 e11 e12 e13 e14 e15 e16 e17
        refine Par.Chain.next (fun K hK => ⟨Par.want (by kernel_rfl) (wp_storeV 118 (.tmp 7) (.tmp 58) rfl rfl rfl rfl h17 infoP rfl (pt_one _ _ _ _ _ _ _) (fun Y1 g1 g2 g3 => hK.out _ _ ?_))⟩)
        refine Par.Chain.done ?_
        have hEY : Ext wa Y1 := g2.ext hX l17
        have p7 := o7.just g2 h17 (by decide)
        have p15 := o15.just g2 h17 (by decide)
        have hgl : w.heap.size < wa.heap.size := blk_lt hrb
        have hrY : Y1.heap[w.heap.size]? = some (.cells #[.bool false, .slice none 0 0, .slice none 0 0] 118 (0, 0)) := g2.at_ (by omega) (hX.at_ hrb)
        have hkY := hk.ext hEY
        obtain ⟨m, hm⟩ : ∃ m, onB C.M C.bb (numOf B1) (numOf B2) = m := ⟨_, rfl⟩
        have hon := on_c hkY HF.out _ _ A7 A15 k7 k15 _ _ false p7.rn p15.rn (fun b hb => hb.2) (fun b hb => hb.2)
        rw [val_digs (by omega), val_digs (by omega), hm, Bool.false_or] at hon
        have hrr := Hrr.out
        rw [hm] at hrr
        have Hon := Lib.hid hon
        have Hk7 := Lib.hid p7
        have Hk15 := Lib.hid p15
        have HEY := Lib.hid (HW.out.trans hEY)
        clear hm hon Hrr g2 g3 hX o7 o15 h17 l17 hEY p7 p15 hgl hkY w1 w2 w3 c0i c1i c4i c5i c1 c2 c3 c4 c6 c7 Hr
        obtain ⟨y0, y1, y2, q0, q1, q2⟩ := pt_facts g1
        have Harm := Lib.hid (fun wo (hEo : Ext Y1 wo) => (⟨pt_facts (hEo.at_ hrY), pt_facts (hEo.at_ g1)⟩ : _ ∧ _))
        cases m
        · rw [if_neg (by decide)] at hrr
          subst hrr
          go_wp2_with (first
            | (go_at_call 100; refine Hon.out.mono ?_; rintro e wo ⟨rfl, hEo⟩; have hro := hEo.at_ hrY)
            | (go_at_call 98; refine (none_any _).mono ?_; rintro e wb ⟨rfl, hE2⟩; have hrb2 := hE2.at_ hro; obtain ⟨z0, z1, z2, f0, f1, f2⟩ := pt_facts hrb2))
          exact end_pt rfl rfl rfl rfl (pt_set hrb2 _ _ _) ⟨infV, rfl, rfl, pt_ext ((HEY.out.trans hEo).trans hE2) (Nat.le_refl _) _ _ _⟩
        · rw [if_pos rfl] at hrr
          subst hrr
          go_wp2_with (go_at_call 100; refine Hon.out.mono ?_; rintro e wo ⟨rfl, hEo⟩; have hro := hEo.at_ hrY; obtain ⟨z0, z1, z2, f0, f1, f2⟩ := pt_facts hro; obtain ⟨v0, v1, v2, u0, u1, u2⟩ := pt_facts (hEo.at_ g1))
          exact end_pt rfl rfl rfl rfl (pt_set hro _ _ _) ⟨_, rfl, ⟨A7, k7, A15, k15, rfl, (Hk7.out.below hEo (Nat.le_refl _)).just (pt_just _ _ _ _ _) hro (by decide), (Hk15.out.below hEo (Nat.le_refl _)).just (pt_just _ _ _ _ _) hro (by decide)⟩, pt_ext (HEY.out.trans hEo) (Nat.le_refl _) _ _ _⟩
      · have hx1 : ((x : Int) != 4) = true := by simp; omega
        obtain rfl : r = none := by
          rw [← Hr.out, decC, if_neg (fun e => by have := Hn.out; rw [e] at this; simp at this; omega), if_neg (fun e => by have := Hdx.out; omega)]
        go_enter Tryz.func83, Tryz.ntmps83
        go_wp2_with (first
        | (go_at_call 97; refine (of_c hC _).mono ?_; rintro e wa ⟨k, rfl, hk, hE1⟩; have hca := hE1.cell ((Ext.alloc w _).cell hc0); have hrb := hE1.at_ (heap_alloc_new w _); have hks := hk.size; rw [Hs.out] at hks)
        | (go_at_call 98; refine (none_any _).mono ?_; rintro e wb ⟨rfl, hE2⟩; have hrb2 := hE2.at_ hrb; obtain ⟨z0, z1, z2, f0, f1, f2⟩ := pt_facts hrb2))
        exact end_pt rfl rfl rfl rfl (pt_set hrb2 _ _ _) ⟨infV, rfl, rfl, pt_ext (((Ext.alloc w _).trans hE1).trans hE2) (Nat.le_refl _) _ _ _⟩
    · have hn2 : ((n : Int) != 1 + 2 * (s : Int)) = true := by simp; omega
      obtain rfl : r = none := by
        rw [← Hr.out, decC, if_neg (fun e => by have := Hn.out; rw [e] at this; simp at this; omega), if_neg (fun e => by have := Hn.out; have := Hs.out; omega)]
      go_enter Tryz.func83, Tryz.ntmps83
      go_wp2_with (first
        | (go_at_call 97; refine (of_c hC _).mono ?_; rintro e wa ⟨k, rfl, hk, hE1⟩; have hrb := hE1.at_ (heap_alloc_new w _); have hks := hk.size; rw [Hs.out] at hks)
        | (go_at_call 98; refine (none_any _).mono ?_; rintro e wb ⟨rfl, hE2⟩; have hrb2 := hE2.at_ hrb; obtain ⟨z0, z1, z2, f0, f1, f2⟩ := pt_facts hrb2))
      exact end_pt rfl rfl rfl rfl (pt_set hrb2 _ _ _) ⟨infV, rfl, rfl, pt_ext (((Ext.alloc w _).trans hE1).trans hE2) (Nat.le_refl _) _ _ _⟩
end Go.Proofs.YtldhmjfjbalakaaGreat
