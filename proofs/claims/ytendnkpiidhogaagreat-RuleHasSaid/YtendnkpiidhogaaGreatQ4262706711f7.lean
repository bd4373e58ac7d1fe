/- An attribute's default; whether an object is to be the token's, and private. joined: a template and what the mechanism gives. Nothing is read as DER: no node; no curve. Nothing is read as DER: der.Read and keyfmt.read. Plain arithmetic of digits, the lowest first, to a base: nothing of the program. Plain arithmetic of the rounds of sums, differences and products: nothing of the program. The library contracts of math/bits at this program, as the shelf lays them. Words for memory that holds limbs: a slice that reads as limbs; a block that is known whole; a slice of one's own. What limb.trim, made, Of, Norm and the reference's trim compute. What limb.Cmp and the reference's compute: the order of two numbers. What the reference's From, Of, To and Is compute. What the reference's Is, and the laws' Cut and few, compute. Plain arithmetic of bits.Div64: one step of a division of three halves by two; nothing of the program. What bits.Div64 computes. What limb.small and the easy cases of limb.Quo compute. Plain arithmetic of the rounds of a long division: nothing of the program. What limb.guess computes. What limb.takes and limb.gives compute. Plain arithmetic of one limb of a long division: nothing of the program. Plain arithmetic of the reference's division: nothing of the program. What the reference's less computes. -/
import Derived.Test.YtendnkpiidhogaaGreatQ87c63a81be61
import Derived.WalkMore
import Derived.Lib.Hide
import Derived.Shelf.Small.Bits
import Derived.Shelf.Strconv.Itoa0
import Derived.Shelf.Bits.Mul64
import Derived.Test.YtendnkpiidhogaaGreatProg
import Derived.Shelf.Spec.BitsCarry
import Derived.Test.YtendnkpiidhogaaGreatRows
import Derived.Deep.OwnRows
import Derived.Deep.DeepCutAuto
import Derived.Deep.QuietTactic
import Derived.BigQuiet
import Derived.Lib.BitFns
import Derived.Lib.ItoaNum
import Derived.Deep.CutBlock
import Derived.IntWalk
import Derived.Laws.Bits64b
import Derived.Laws.CopyRow
namespace Go.Proofs.YtendnkpiidhogaaGreat.At
open Go.RowKit Go.Shelf

theorem std_step {w : World} {P : Nat → Prop} {A : Option Addr} {c : Nat} {class_ t : Int} {v : Bool} (hr : RB w P A c [v.toNat]) (h : (standardOf class_ t).2 = [v.toNat]) : (standardOf class_ t).2.length = 1 ∧ RB w P A c (standardOf class_ t).2 := by rw [h]; exact ⟨rfl, hr⟩

set_option maxRecDepth 100000 in
set_option maxHeartbeats 4000000 in
theorem standard_any (class_ t : Int) (w : World) :
 Calls Tryz.prog 52 #[.int .i64 class_, .int .i64 t] w fun e w' => ∃ A c, e = .returned (.agg #[.int .i64 t, .slice A (standardOf class_ t).2.length c]) ∧ RB w' (In w.heap.size w'.heap.size) A c (standardOf class_ t).2 ∧ Below w.heap.size w w' := by
 obtain ⟨f, hf⟩ : ∃ f, formOf t = f := ⟨_, rfl⟩
 have hF := fun w => form_any t w
 simp only [hf] at hF
 have HF := Lib.hid hF
 clear hF
 have hb0 := heap_alloc_new w (.cells #[.int .i64 0, .slice none 0 0] 37)
 have hBW : Below w.heap.size w (w.alloc (.cells #[.int .i64 0, .slice none 0 0] 37)) := (Below.refl _ w).alloc (Nat.le_refl _) _
 have hsz : (w.alloc (.cells #[.int .i64 0, .slice none 0 0] 37)).heap.size = w.heap.size + 1 := by simp
 by_cases h1 : f = 1
 · subst h1
   have hs : ∀ v : Bool, (if t = 2 then class_ == 4 || class_ == 3 else if t = 368 ∨ t = 369 then true else if t = 259 then class_ == 3 else if t = 354 then class_ == 4 else false) = v → (standardOf class_ t).2 = [v.toNat] := fun v hv => by simp only [standardOf, hf, if_true, hv]
   have HS := Lib.hid hs
   clear hs hf
   obtain ⟨s, hs⟩ : ∃ s, w.heap.size = s := ⟨_, rfl⟩
   go_enter Tryz.func52, Tryz.ntmps52
   go_wp2_with fail
   rw [hs] at hb0 hBW hsz
   generalize w.alloc (.cells #[.int .i64 0, .slice none 0 0] 37) = W at *
   refine (HF.out _).mono ?_
   rintro e w1 ⟨rfl, rfl⟩
   have y0 := blk_cell hb0 0
   have y1 := blk_cell hb0 1
   have f0 := blk_free hb0 0
   have f1 := blk_free hb0 1
   simp at y0 y1
   have Hsz := Lib.hid hsz
   clear hsz hb0
   go_wp2_with fail
   all_goals
    refine (bool_any t _ W).mono ?_
    rintro e w1 ⟨A, c, rfl, hr, hB⟩
    obtain ⟨hl, hr⟩ := std_step hr (HS.out _ (by first | (simp_all; done) | (simp_all; omega)))
    have hs1 := hB.size
    have z0 := (hB.cell (p := ⟨s, 0, none⟩) (by have := Hsz.out; show s < _; omega)).trans y0
    have z1 := (hB.cell (p := ⟨s, 1, none⟩) (by have := Hsz.out; show s < _; omega)).trans y1
    have g0 := (hB.frozen (p := ⟨s, 0, none⟩) (by have := Hsz.out; show s < _; omega)).trans f0
    have g1 := (hB.frozen (p := ⟨s, 1, none⟩) (by have := Hsz.out; show s < _; omega)).trans f1
    clear y0 y1 f0 f1
    go_wp2
    rw [hl]
    refine bodyPost_ret (v := .agg #[.int .i64 t, .slice A 1 c]) (by simp [results, Tryz.results52, go_sem, z0, z1]) rfl ⟨A, c, rfl, ?_, ?_⟩
    · refine ((hr.setCell (p := ⟨s, 0, none⟩) (fun h => by have := h.1; have := Hsz.out; simp at *; omega) _).setCell (p := ⟨s, 1, none⟩) (fun h => by have := h.1; have := Hsz.out; simp at *; omega) _).mono fun b hb => ⟨by have := hb.1; have := Hsz.out; omega, by have := hb.2; simpa [World.setCell] using this⟩
    · have := Hsz.out
      rw [hs]; exact ((hBW.trans (hB.mono (by omega))).setCell (p := ⟨s, 0, none⟩) (by simp) _).setCell (p := ⟨s, 1, none⟩) (by simp) _
 · have h1' : (f == 1) = false := by simpa using h1
   have hs := Lib.hid (show (standardOf class_ t).2 = [] by simp [standardOf, hf, h1])
   clear hf h1
   go_enter Tryz.func52, Tryz.ntmps52
   go_wp2_with fail
   refine (HF.out _).mono ?_
   rintro e w1 ⟨rfl, rfl⟩
   go_wp2
   rw [hs.out]
   refine bodyPost_ret (v := .agg #[.int .i64 t, .slice none 0 0]) (by simp [results, Tryz.results52, go_sem]) rfl ⟨none, 0, rfl, RB.nil_ _ _, ?_⟩
   exact (Below.refl _ w).alloc (Nat.le_refl _) _
theorem standardOf_fst (class_ t : Int) : (standardOf class_ t).1 = t := by unfold standardOf; split <;> rfl

set_option maxRecDepth 100000 in
set_option maxHeartbeats 4000000 in
theorem rflag_any (P : Nat → Prop) (A : Option Addr) (c : Nat) (l : Attrs) (class_ t : Int) (w : World) (hv : RA w P A c l) (hP : ∀ b, P b → b < w.heap.size) :
 Calls Tryz.prog 73 #[.slice A l.length c, .int .i64 class_, .int .i64 t] w fun e w' => e = .returned (.bool (flagD l class_ t)) ∧ Below w.heap.size w w' := by
 obtain ⟨b, hb⟩ : ∃ b, came l t = b := ⟨_, rfl⟩
 have hc := came_any P A c l t w hv hP
 rw [hb] at hc
 have HC := Lib.hid hc
 have hd1 := Lib.hid (show b = true → flagD l class_ t = flagOf l t from fun h => by simp [flagD, hb, h])
 have hd2 := Lib.hid (show b = false → flagD l class_ t = flagOf [standardOf class_ t] t from fun h => by simp [flagD, hb, h])
 clear hb hc
 go_enter Tryz.func73, Tryz.ntmps73
 go_wp2_with fail
 refine HC.out.mono ?_
 rintro e w1 ⟨rfl, hB1⟩
 have hv1 := hv.below hB1 hP
 have hs1 := hB1.size
 cases b
 · go_wp2_with fail
   refine (standard_any class_ t _).mono ?_
   rintro e w2 ⟨A2, c2, rfl, hr2, hB2⟩
   obtain ⟨x, hx⟩ : ∃ x, standardOf class_ t = x := ⟨_, rfl⟩
   have hx1 : t = x.1 := by rw [← hx]; exact (standardOf_fst class_ t).symm
   rw [hx] at hr2 hd2 ⊢
   have hs2 := hB2.size
   have hr2' : RB w2 (fun b => b < w2.heap.size) A2 c2 x.2 := hr2.mono fun b hb => hb.2
   have hL : RA (w2.alloc (.cells #[.int .i64 t, .slice A2 x.2.length c2] 37)) (fun b => b < (w2.alloc (.cells #[.int .i64 t, .slice A2 x.2.length c2] 37)).heap.size) (some ⟨w2.heap.size, 0, none⟩) 1 [x] :=
    RA.lit _ _ _ 1 _ (by rw [hx1]; exact CA.single hr2') rfl rfl (by omega) rfl (fun b hb => hb) (by simp) (fun b hb => by simp; omega)
   have hf := flag_any _ _ 1 [x] t _ hL (fun b hb => hb)
   have HFl := Lib.hid hf
   clear hf hL hr2 hr2' hx hx1
   go_wp2_with fail
   refine HFl.out.mono ?_
   rintro e w3 ⟨rfl, hB3⟩
   go_wp2
   go_ret
   exact ⟨ret_bool (hd2.out (by trivial)).symm, (hB1.trans (hB2.mono hs1)).trans ((((Below.refl _ w2).alloc (by omega) _).trans (hB3.mono (by simp; omega))))⟩
 · go_wp2_with fail
   refine (flag_any P A c l t w1 hv1 (fun b hb => by have := hP b hb; omega)).mono ?_
   rintro e w2 ⟨rfl, hB2⟩
   go_wp2
   go_ret
   exact ⟨ret_bool (hd1.out (by trivial)).symm, hB1.trans (hB2.mono hs1)⟩
set_option maxHeartbeats 1000000 in
theorem wants_any (P : Nat → Prop) (A : Option Addr) (c : Nat) (l : Attrs) (class_ : Int) (w : World) (hv : RA w P A c l) (hP : ∀ b, P b → b < w.heap.size) :
 Calls Tryz.prog 33 #[.slice A l.length c, .int .i64 class_] w fun e w' => e = .returned (.tuple #[.bool (flagD l class_ 1), .bool (flagD l class_ 2)]) ∧ Below w.heap.size w w' := by
 go_enter Tryz.func33, Tryz.ntmps33
 go_wp2_with fail
 refine (rflag_any P A c l class_ 1 w hv hP).mono ?_
 rintro e w1 ⟨rfl, hB1⟩
 have hs1 := hB1.size
 go_wp2_with fail
 refine (rflag_any P A c l class_ 2 w1 (hv.below hB1 hP) (fun b hb => by have := hP b hb; omega)).mono ?_
 rintro e w2 ⟨rfl, hB2⟩
 go_wp2
 go_ret2
 exact ⟨rfl, hB1.trans (hB2.mono hs1)⟩
end Go.Proofs.YtendnkpiidhogaaGreat.At

namespace Go.Proofs.YtendnkpiidhogaaGreat.At
open Go.RowKit Go.Shelf

def JoinP (R : Option Attrs) (base : Nat) (e : Ending) (w' : World) : Prop :=
 match R with
 | some x => ∃ A c, e = .returned (.tuple #[.slice A x.length c, .bool true]) ∧ RA w' (In base w'.heap.size) A c x
 | none => e = .returned (.tuple #[.slice none 0 0, .bool false])
theorem joinP_no {R : Option Attrs} {base : Nat} {w' : World} (h : R = none) : JoinP R base (.returned (.tuple #[.slice none 0 0, .bool false])) w' := by rw [h]; rfl
theorem joinP_yes {R : Option Attrs} {x : Attrs} {A : Option Addr} {c : Nat} {base : Nat} {w' : World} (h : R = some x) (hx : RA w' (In base w'.heap.size) A c x) : JoinP R base (.returned (.tuple #[.slice A x.length c, .bool true])) w' := by
 rw [h]; exact ⟨A, c, rfl, hx⟩
theorem join_step {l out : Attrs} {k : Nat} {x : Int × List Nat} (hk : k < l.length) (hx : l[k] = x) :
 joinOn out (l.drop k) = match seek out x.1 with | none => joinOn (putOf out x) (l.drop (k + 1)) | some b => if b = x.2 then joinOn (putOf out x) (l.drop (k + 1)) else none := by
 rw [List.drop_eq_getElem_cons hk, hx, joinOn, came]
 cases seek out x.1 with
 | none => simp
 | some b => by_cases h : b = x.2 <;> simp [h]

set_option maxRecDepth 100000 in
set_option maxHeartbeats 4000000 in
theorem joined_any (P P' : Nat → Prop) (A A' : Option Addr) (c c' : Nat) (l t : Attrs) (w : World) (hv : RA w P A c l) (hP : ∀ b, P b → b < w.heap.size) (hv' : RA w P' A' c' t) (hP' : ∀ b, P' b → b < w.heap.size) (hl : l.length ≤ 1000) (htl : t.length ≤ 1000) :
    Calls Tryz.prog 49 #[.slice A l.length c, .slice A' t.length c'] w fun e w' => JoinP (joinedOf l t) w.heap.size e w' ∧ Below w.heap.size w w' := by
  obtain ⟨R, hR0⟩ : ∃ R, joinedOf l t = R := ⟨_, rfl⟩
  rw [hR0]
  have HR0 := Lib.hid (show ((joinOn [] (l.drop 0)).bind fun o => joinOn o t) = R from hR0)
  clear hR0
  obtain ⟨hlc, hc⟩ := hv.cap
  obtain ⟨hlc', hc'⟩ := hv'.cap
  have hb0 := heap_alloc_new w (.cells #[.slice A l.length c, .slice A' t.length c'] 42)
  have hb0 := heap_alloc_new w (.cells #[.slice A l.length c, .slice A' t.length c'] 24)
  have hB0 : Below w.heap.size w (w.alloc (.cells #[.slice A l.length c, .slice A' t.length c'] 24)) := (Below.refl _ w).alloc (Nat.le_refl _) _
  have HB0 := Lib.hid hB0
  have Hb0 := Lib.hid hb0
  clear hB0 hb0
  go_enter Tryz.func49, Tryz.ntmps49
  go_wp2
  go_loopw [6, 17] (fun v i wr => ∃ (z : Int) (out : Attrs) (A1 : Option Addr) (c1 : Nat), i = .int .i64 z ∧ v = .slice A1 out.length c1 ∧ RA wr (In w.heap.size wr.heap.size) A1 c1 out ∧ wr.heap[w.heap.size]? = some (.cells #[.slice A l.length c, .slice A' t.length c'] 24 (0, 0)) ∧ Below w.heap.size w wr ∧
      ((z = 0 ∧ out = []) ∨ (z = 1 ∧ out.length ≤ 2000 ∧ joinOn out (t.drop 0) = R) ∨ (z = 2 ∧ some out = R))) (fun _ i _ => 2 - (intOf i).toNat)
  case atStart => exact ⟨0, [], none, 0, rfl, rfl, RA.nil_ _ _, by simpa using Hb0.out, by simpa using HB0.out, .inl ⟨rfl, rfl⟩⟩
  case round =>
    clear HB0 Hb0
    obtain ⟨z, out0, A0, c0, rfl, rfl, hRA0, hbx, hB, hz⟩ := hrel
    obtain ⟨wo, rfl⟩ : ∃ wo, wo = wr := ⟨_, rfl⟩
    have x0 := blk_cell hbx 0
    have x1 := blk_cell hbx 1
    simp at x0 x1
    have HB := Lib.hid hB
    have HRA0 := Lib.hid hRA0
    have Hbx := Lib.hid hbx
    clear hB hRA0 hbx
    rcases hz with ⟨rfl, rfl⟩ | ⟨rfl, hlo, hj⟩ | ⟨rfl, hR⟩
    rotate_right
    · have HR := Lib.hid hR
      clear hR
      go_wp2
      go_ret2
      exact ⟨joinP_yes HR.out.symm HRA0.out, HB.out⟩
    · skip
      clear x1
      go_wp2
      go_loopw [6, 23] (fun v i wr => ∃ (k : Nat) (out : Attrs) (A1 : Option Addr) (c1 : Nat), k ≤ l.length ∧ i = .int .i64 k ∧ v = .slice A1 out.length c1 ∧ RA wr (In w.heap.size wr.heap.size) A1 c1 out ∧ out.length ≤ 0 + k ∧ ((joinOn out (l.drop k)).bind fun o => joinOn o t) = R ∧ wr.heap[w.heap.size]? = some (.cells #[.slice A l.length c, .slice A' t.length c'] 24 (0, 0)) ∧ Below w.heap.size w wr) (fun _ i _ => l.length - (intOf i).toNat)
      case atStart => exact ⟨0, [], A0, c0, Nat.zero_le _, rfl, rfl, HRA0.out, by simp, HR0.out, Hbx.out, HB.out⟩
      case round =>
        clear HB HRA0 Hbx x0
        obtain ⟨k, out, A1, c1, hk, rfl, rfl, hRA, hlen, hJ, hbx, hB⟩ := hrel
        have hs := hB.size
        have hzr := blk_lt hbx
        by_cases hlt : k < l.length
        · have hvr := hv.below hB hP
          obtain ⟨ad, Au, cu, rfl, hb, hc1, hc2, hu⟩ := hvr.at_ hlt
          have hP1 : ∀ b, P b → b < wr.heap.size := fun b hb => Nat.lt_of_lt_of_le (hP b hb) hs
          obtain ⟨x, hx⟩ : ∃ x, l[k] = x := ⟨_, rfl⟩
          rw [hx] at hc1 hc2 hu
          rw [join_step hlt hx] at hJ
          have hol : out.length ≤ 100000 := by omega
          have Hlen := Lib.hid (show (putOf out x).length ≤ 0 + (k + 1) from Nat.le_trans (length_putOf out x) (by omega))
          have hz1 : wr.heap.size < (wr.alloc (.cells #[.int .i64 x.1, .slice Au x.2.length cu] 37)).heap.size := by simp
          have hW1 : Below wr.heap.size wr (wr.alloc (.cells #[.int .i64 x.1, .slice Au x.2.length cu] 37)) := (Below.refl _ _).alloc (Nat.le_refl _) _
          have m0 : (wr.alloc (.cells #[.int .i64 x.1, .slice Au x.2.length cu] 37)).cell? ⟨wr.heap.size, 0, none⟩ = some (.int .i64 x.1) := by simp [go_sem]
          have m1 : (wr.alloc (.cells #[.int .i64 x.1, .slice Au x.2.length cu] 37)).cell? ⟨wr.heap.size, 1, none⟩ = some (.slice Au x.2.length cu) := by simp [go_sem]
          have hb1 := (hW1.block w.heap.size hzr).trans hbx
          have hU1 := hu.below hW1 hP1
          have hR1 := hRA.below hW1 fun b hb => hb.2
          have hB1 := hB.trans (hW1.mono hs)
          have HB1 := Lib.hid hB1
          have HR1 := Lib.hid (hR1.mono (P' := fun b => b < (wr.alloc (.cells #[.int .i64 x.1, .slice Au x.2.length cu] 37)).heap.size) fun b hb => Nat.lt_trans hb.2 hz1)
          have HU1 := Lib.hid (hU1.mono (P' := fun b => b < (wr.alloc (.cells #[.int .i64 x.1, .slice Au x.2.length cu] 37)).heap.size) fun b hb => Nat.lt_trans (hP1 b hb) hz1)
          have Hb1 := Lib.hid hb1
          have hs1 := hB1.size
          obtain ⟨s, hse⟩ : ∃ s, seek out x.1 = s := ⟨_, rfl⟩
          rw [hse] at hJ
          have Hse := Lib.hid hse
          have HJ := Lib.hid hJ
          clear hx hse hJ hbx hB hvr hu hRA hU1 hR1 hb1 hP1 hB1 hW1
          go_wp2_with fail
          generalize wr.alloc (.cells #[.int .i64 x.1, .slice Au x.2.length cu] 37) = W1 at *
          refine (get_any _ A1 c1 out x.1 W1 HR1.out (fun b hb => hb)).mono ?_
          rw [Hse.out]
          rintro e w2 ⟨A3, c3, rfl, hr3, hB3⟩
          have hs3 := hB3.size
          have n0 := (hB3.cell (p := ⟨wr.heap.size, 0, none⟩) hz1).trans m0
          have n1 := (hB3.cell (p := ⟨wr.heap.size, 1, none⟩) hz1).trans m1
          have HU2 := Lib.hid ((HU1.out.below hB3 fun b hb => hb).mono (P' := fun b => b < w2.heap.size) fun b hb => Nat.lt_of_lt_of_le hb hs3)
          have hP2 := put_any (fun b => b < w2.heap.size) A1 c1 out x Au cu w2 ((HR1.out.below hB3 fun b hb => hb).mono fun b hb => Nat.lt_of_lt_of_le hb hs3) HU2.out (fun b hb => hb) hol
          have HP2 := Lib.hid hP2
          have HB3 := Lib.hid (HB1.out.trans (hB3.mono hs1))
          have hs3' := HB3.out.size
          have hz3 : w.heap.size < w2.heap.size := by omega
          have Hb3 := Lib.hid ((hB3.block w.heap.size (by omega)).trans Hb1.out)
          have Hr3 := Lib.hid hr3
          clear hr3 hP2 HB1 HR1 HU1 Hb1 m0 m1 hB3 Hse
          cases s with
          | none =>
            go_wp2_with fail
            refine HP2.out.mono ?_
            rintro e w5 ⟨A5, c5, cs5, rfl, hO5, hB5⟩
            have HO5 := Lib.hid (hO5.ra.mono (P' := In w.heap.size w5.heap.size) fun b hb => ⟨by have := hb.1; omega, hb.2⟩)
            have HX5 := Lib.hid (HB3.out.trans (hB5.mono hs3'))
            have Hb5 := Lib.hid ((hB5.block w.heap.size hz3).trans Hb3.out)
            clear hO5
            go_wp2
            go_roundw
            case rel => exact ⟨k + 1, putOf out x, A5, c5, by omega, by go_num, rfl, HO5.out, Hlen.out, HJ.out, Hb5.out, HX5.out⟩
            case measure => simp [intOf]; omega
          | some b =>
            go_wp2_with fail
            refine (equal_any _ (fun b => b < w2.heap.size) A3 Au c3 cu b x.2 w2 Hr3.out HU2.out).mono ?_
            by_cases he : b = x.2
            · have hd : decide (b = x.2) = true := by simp [he]
              have HJ := Lib.hid (show ((joinOn (putOf out x) (l.drop (k + 1))).bind fun o => joinOn o t) = R from by simpa [he] using HJ.out)
              rw [hd]
              clear hd he
              rintro e w4 ⟨rfl, rfl⟩
              go_wp2_with fail
              refine HP2.out.mono ?_
              rintro e w5 ⟨A5, c5, cs5, rfl, hO5, hB5⟩
              have HO5 := Lib.hid (hO5.ra.mono (P' := In w.heap.size w5.heap.size) fun b hb => ⟨by have := hb.1; omega, hb.2⟩)
              have HX5 := Lib.hid (HB3.out.trans (hB5.mono hs3'))
              have Hb5 := Lib.hid ((hB5.block w.heap.size hz3).trans Hb3.out)
              clear hO5
              go_wp2
              go_roundw
              case rel => exact ⟨k + 1, putOf out x, A5, c5, by omega, by go_num, rfl, HO5.out, Hlen.out, HJ.out, Hb5.out, HX5.out⟩
              case measure => simp [intOf]; omega
            · have hd : decide (b = x.2) = false := by simp [he]
              have HN := Lib.hid (show R = none from by simpa [he] using HJ.out.symm)
              rw [hd]
              clear hd he
              rintro e w4 ⟨rfl, rfl⟩
              go_wp2
              go_ret2
              exact ⟨joinP_no HN.out, HB3.out⟩
        · obtain rfl : k = l.length := by omega
          have HJ := Lib.hid hJ
          have HRA := Lib.hid hRA
          have Hb2 := Lib.hid hbx
          have HB2 := Lib.hid hB
          clear hJ hRA hbx hB
          go_wp2
          go_roundw
          case rel => exact ⟨1, out, A1, c1, by go_num, rfl, HRA.out, Hb2.out, HB2.out, .inr (.inl ⟨rfl, by omega, by simpa [joinOn] using HJ.out⟩)⟩
          case measure => first | (simp [intOf]; done) | (simp [intOf]; decide)
    · have Hj := Lib.hid hj
      clear hj
      clear x0
      go_wp2
      go_loopw [6, 23] (fun v i wr => ∃ (k : Nat) (out : Attrs) (A1 : Option Addr) (c1 : Nat), k ≤ t.length ∧ i = .int .i64 k ∧ v = .slice A1 out.length c1 ∧ RA wr (In w.heap.size wr.heap.size) A1 c1 out ∧ out.length ≤ 2000 + k ∧ joinOn out (t.drop k) = R ∧ wr.heap[w.heap.size]? = some (.cells #[.slice A l.length c, .slice A' t.length c'] 24 (0, 0)) ∧ Below w.heap.size w wr) (fun _ i _ => t.length - (intOf i).toNat)
      case atStart => exact ⟨0, out0, A0, c0, Nat.zero_le _, rfl, rfl, HRA0.out, by omega, Hj.out, Hbx.out, HB.out⟩
      case round =>
        clear HB HRA0 Hbx x1
        obtain ⟨k, out, A1, c1, hk, rfl, rfl, hRA, hlen, hJ, hbx, hB⟩ := hrel
        have hs := hB.size
        have hzr := blk_lt hbx
        by_cases hlt : k < t.length
        · have hvr := hv'.below hB hP'
          obtain ⟨ad, Au, cu, rfl, hb, hc1, hc2, hu⟩ := hvr.at_ hlt
          have hP1 : ∀ b, P' b → b < wr.heap.size := fun b hb => Nat.lt_of_lt_of_le (hP' b hb) hs
          obtain ⟨x, hx⟩ : ∃ x, t[k] = x := ⟨_, rfl⟩
          rw [hx] at hc1 hc2 hu
          rw [join_step hlt hx] at hJ
          have hol : out.length ≤ 100000 := by omega
          have Hlen := Lib.hid (show (putOf out x).length ≤ 2000 + (k + 1) from Nat.le_trans (length_putOf out x) (by omega))
          have hz1 : wr.heap.size < (wr.alloc (.cells #[.int .i64 x.1, .slice Au x.2.length cu] 37)).heap.size := by simp
          have hW1 : Below wr.heap.size wr (wr.alloc (.cells #[.int .i64 x.1, .slice Au x.2.length cu] 37)) := (Below.refl _ _).alloc (Nat.le_refl _) _
          have m0 : (wr.alloc (.cells #[.int .i64 x.1, .slice Au x.2.length cu] 37)).cell? ⟨wr.heap.size, 0, none⟩ = some (.int .i64 x.1) := by simp [go_sem]
          have m1 : (wr.alloc (.cells #[.int .i64 x.1, .slice Au x.2.length cu] 37)).cell? ⟨wr.heap.size, 1, none⟩ = some (.slice Au x.2.length cu) := by simp [go_sem]
          have hb1 := (hW1.block w.heap.size hzr).trans hbx
          have hU1 := hu.below hW1 hP1
          have hR1 := hRA.below hW1 fun b hb => hb.2
          have hB1 := hB.trans (hW1.mono hs)
          have HB1 := Lib.hid hB1
          have HR1 := Lib.hid (hR1.mono (P' := fun b => b < (wr.alloc (.cells #[.int .i64 x.1, .slice Au x.2.length cu] 37)).heap.size) fun b hb => Nat.lt_trans hb.2 hz1)
          have HU1 := Lib.hid (hU1.mono (P' := fun b => b < (wr.alloc (.cells #[.int .i64 x.1, .slice Au x.2.length cu] 37)).heap.size) fun b hb => Nat.lt_trans (hP1 b hb) hz1)
          have Hb1 := Lib.hid hb1
          have hs1 := hB1.size
          obtain ⟨s, hse⟩ : ∃ s, seek out x.1 = s := ⟨_, rfl⟩
          rw [hse] at hJ
          have Hse := Lib.hid hse
          have HJ := Lib.hid hJ
          clear hx hse hJ hbx hB hvr hu hRA hU1 hR1 hb1 hP1 hB1 hW1
          go_wp2_with fail
          generalize wr.alloc (.cells #[.int .i64 x.1, .slice Au x.2.length cu] 37) = W1 at *
          refine (get_any _ A1 c1 out x.1 W1 HR1.out (fun b hb => hb)).mono ?_
          rw [Hse.out]
          rintro e w2 ⟨A3, c3, rfl, hr3, hB3⟩
          have hs3 := hB3.size
          have n0 := (hB3.cell (p := ⟨wr.heap.size, 0, none⟩) hz1).trans m0
          have n1 := (hB3.cell (p := ⟨wr.heap.size, 1, none⟩) hz1).trans m1
          have HU2 := Lib.hid ((HU1.out.below hB3 fun b hb => hb).mono (P' := fun b => b < w2.heap.size) fun b hb => Nat.lt_of_lt_of_le hb hs3)
          have hP2 := put_any (fun b => b < w2.heap.size) A1 c1 out x Au cu w2 ((HR1.out.below hB3 fun b hb => hb).mono fun b hb => Nat.lt_of_lt_of_le hb hs3) HU2.out (fun b hb => hb) hol
          have HP2 := Lib.hid hP2
          have HB3 := Lib.hid (HB1.out.trans (hB3.mono hs1))
          have hs3' := HB3.out.size
          have hz3 : w.heap.size < w2.heap.size := by omega
          have Hb3 := Lib.hid ((hB3.block w.heap.size (by omega)).trans Hb1.out)
          have Hr3 := Lib.hid hr3
          clear hr3 hP2 HB1 HR1 HU1 Hb1 m0 m1 hB3 Hse
          cases s with
          | none =>
            go_wp2_with fail
            refine HP2.out.mono ?_
            rintro e w5 ⟨A5, c5, cs5, rfl, hO5, hB5⟩
            have HO5 := Lib.hid (hO5.ra.mono (P' := In w.heap.size w5.heap.size) fun b hb => ⟨by have := hb.1; omega, hb.2⟩)
            have HX5 := Lib.hid (HB3.out.trans (hB5.mono hs3'))
            have Hb5 := Lib.hid ((hB5.block w.heap.size hz3).trans Hb3.out)
            clear hO5
            go_wp2
            go_roundw
            case rel => exact ⟨k + 1, putOf out x, A5, c5, by omega, by go_num, rfl, HO5.out, Hlen.out, HJ.out, Hb5.out, HX5.out⟩
            case measure => simp [intOf]; omega
          | some b =>
            go_wp2_with fail
            refine (equal_any _ (fun b => b < w2.heap.size) A3 Au c3 cu b x.2 w2 Hr3.out HU2.out).mono ?_
            by_cases he : b = x.2
            · have hd : decide (b = x.2) = true := by simp [he]
              have HJ := Lib.hid (show joinOn (putOf out x) (t.drop (k + 1)) = R from by simpa [he] using HJ.out)
              rw [hd]
              clear hd he
              rintro e w4 ⟨rfl, rfl⟩
              go_wp2_with fail
              refine HP2.out.mono ?_
              rintro e w5 ⟨A5, c5, cs5, rfl, hO5, hB5⟩
              have HO5 := Lib.hid (hO5.ra.mono (P' := In w.heap.size w5.heap.size) fun b hb => ⟨by have := hb.1; omega, hb.2⟩)
              have HX5 := Lib.hid (HB3.out.trans (hB5.mono hs3'))
              have Hb5 := Lib.hid ((hB5.block w.heap.size hz3).trans Hb3.out)
              clear hO5
              go_wp2
              go_roundw
              case rel => exact ⟨k + 1, putOf out x, A5, c5, by omega, by go_num, rfl, HO5.out, Hlen.out, HJ.out, Hb5.out, HX5.out⟩
              case measure => simp [intOf]; omega
            · have hd : decide (b = x.2) = false := by simp [he]
              have HN := Lib.hid (show R = none from by simpa [he] using HJ.out.symm)
              rw [hd]
              clear hd he
              rintro e w4 ⟨rfl, rfl⟩
              go_wp2
              go_ret2
              exact ⟨joinP_no HN.out, HB3.out⟩
        · obtain rfl : k = t.length := by omega
          have HJ := Lib.hid hJ
          have HRA := Lib.hid hRA
          have Hb2 := Lib.hid hbx
          have HB2 := Lib.hid hB
          clear hJ hRA hbx hB
          go_wp2
          go_roundw
          case rel => exact ⟨2, out, A1, c1, by go_num, rfl, HRA.out, Hb2.out, HB2.out, .inr (.inr ⟨rfl, by simpa [joinOn] using HJ.out⟩)⟩
          case measure => first | (simp [intOf]; done) | (simp [intOf]; decide)
end Go.Proofs.YtendnkpiidhogaaGreat.At

namespace Go.Proofs.YtendnkpiidhogaaGreat.At
open Go.RowKit Go.Shelf

set_option maxHeartbeats 1000000 in
theorem head_nil (A : Option Addr) (c : Nat) (w : World) :
 Calls Tryz.prog 233 #[.slice A 0 c] w fun e w' => e = .returned (.tuple #[.int .i64 0, .slice none 0 0, .slice none 0 0, .bool false]) ∧ w = w' := by
 go_enter Tryz.func233, Tryz.ntmps233
 go_wp2
 refine bodyPost_ret (v := .tuple #[.int .i64 0, .slice none 0 0, .slice none 0 0, .bool false]) (by simp [results, Tryz.results233, go_sem]) rfl ?_
 exact ⟨rfl, rfl⟩

set_option maxRecDepth 100000 in
set_option maxHeartbeats 4000000 in
theorem node_nil (g : Nat) (n : Int) (A : Option Addr) (c : Nat) (w : World) (h : w.heap[g]? = some (.cells #[.int .i64 n] 241 (0, 0))) (hn : 1 ≤ n ∧ n ≤ 1024) :
 Calls Tryz.prog 218 #[.pointer (some ⟨g, 0, none⟩), .slice A 0 c, .int .i64 0] w fun e w' => e = .returned (.tuple #[.agg #[.int .i64 0, .slice none 0 0, .slice none 0 0], .slice none 0 0, .bool false]) ∧ Below g w w' := by
 have hg := blk_lt h
 have x0 := (Below.heap_alloc w (.cells #[.int .i64 0, .slice none 0 0, .slice none 0 0] 172) g hg).trans h
 have y0 := blk_cell x0 0
 have f0 := blk_free x0 0
 simp at y0
 have x1 := bset x0 0 (.int .i64 (n - 1))
 have z0 := blk_cell x1 0
 simp at z0
 have hr := heap_alloc_new w (.cells #[.int .i64 0, .slice none 0 0, .slice none 0 0] 172)
 have hr1 := (Below.heap_setCell (w.alloc (.cells #[.int .i64 0, .slice none 0 0, .slice none 0 0] 172)) ⟨g, 0, none⟩ (.int .i64 (n - 1)) w.heap.size (Nat.ne_of_gt hg)).trans hr
 have hB0 : Below g w ((w.alloc (.cells #[.int .i64 0, .slice none 0 0, .slice none 0 0] 172)).setCell ⟨g, 0, none⟩ (.int .i64 (n - 1))) := ((Below.refl g w).alloc (Nat.le_of_lt hg) _).setCell (p := ⟨g, 0, none⟩) (Nat.le_refl _) _
 have HB0 := Lib.hid hB0
 have Hr := Lib.hid hr1
 obtain ⟨s, hs⟩ : ∃ s, w.heap.size = s := ⟨_, rfl⟩
 have hgs : g < s := by omega
 rw [hs] at Hr
 have Hs := Lib.hid hs
 have Hz : Hid (s < ((w.alloc (.cells #[.int .i64 0, .slice none 0 0, .slice none 0 0] 172)).setCell ⟨g, 0, none⟩ (.int .i64 (n - 1))).heap.size) := Lib.hid (by simp; omega)
 clear x0 x1 h hr hr1 hB0 hg hs
 have k1 : ¬ n - 1 < 0 := by omega
 go_enter Tryz.func218, Tryz.ntmps218
 go_wp2
 go_step3
 go_wp2_with fail
 rw [Hs.out]
 generalize (w.alloc (.cells #[.int .i64 0, .slice none 0 0, .slice none 0 0] 172)).setCell ⟨g, 0, none⟩ (.int .i64 (n - 1)) = W1 at *
 refine (head_nil A c W1).mono ?_
 rintro e w1 ⟨rfl, rfl⟩
 have q0 := blk_cell Hr.out 0
 have q1 := blk_cell Hr.out 1
 have q2 := blk_cell Hr.out 2
 have p0 := blk_free Hr.out 0
 have p1 := blk_free Hr.out 1
 have p2 := blk_free Hr.out 2
 simp at q0 q1 q2
 go_wp2
 rw [Exit.noGoto_ret]
 refine bodyPost_ret (v := .tuple #[.agg #[.int .i64 0, .slice none 0 0, .slice none 0 0], .slice none 0 0, .bool false]) (by simp [results, Tryz.results218, go_sem, q0, q1, q2]) rfl ⟨rfl, ?_⟩
 exact ((HB0.out.setCell (p := ⟨s, 0, none⟩) (by simp; omega) _).setCell (p := ⟨s, 1, none⟩) (by simp; omega) _).setCell (p := ⟨s, 2, none⟩) (by simp; omega) _
end Go.Proofs.YtendnkpiidhogaaGreat.At

namespace Go.Proofs.YtendnkpiidhogaaGreat.At
open Go.RowKit Go.Shelf

theorem set3 {w : World} {s : Nat} {t : TypeId} {a b c : Value} (h : w.heap[s]? = some (.cells #[a, b, c] t (0, 0))) (u v x : Value) : (((w.setCell ⟨s, 0, none⟩ u).setCell ⟨s, 1, none⟩ v).setCell ⟨s, 2, none⟩ x).heap[s]? = some (.cells #[u, v, x] t (0, 0)) := by
 simpa using bset (bset (bset h 0 u) 1 v) 2 x
theorem set3a {w : World} {s : Nat} {t : TypeId} {a b c : Value} (h : w.heap[s]? = some (.cells #[a, b, c] t (0, 0))) (u v x : Value) (o : Obj) : ((((w.setCell ⟨s, 0, none⟩ u).setCell ⟨s, 1, none⟩ v).setCell ⟨s, 2, none⟩ x).alloc o).heap[s]? = some (.cells #[u, v, x] t (0, 0)) :=
 (Below.heap_alloc _ _ _ (blk_lt (set3 h u v x))).trans (set3 h u v x)

set_option maxRecDepth 100000 in
set_option maxHeartbeats 4000000 in
theorem derRead_nil (A : Option Addr) (c : Nat) (w : World) :
 Calls Tryz.prog 185 #[.slice A 0 c] w fun e w' => e = .returned (.tuple #[.agg #[.int .i64 0, .slice none 0 0, .slice none 0 0], .int .i64 0, .bool false]) ∧ Below w.heap.size w w' := by
 have hB := ((Below.refl w.heap.size w).alloc (Nat.le_refl _) (.cells #[.int .i64 0, .slice none 0 0, .slice none 0 0] 172)).alloc (by simp) (.cells #[.int .i64 1024] 241)
 have h0 := (Below.heap_alloc (w.alloc (.cells #[.int .i64 0, .slice none 0 0, .slice none 0 0] 172)) (.cells #[.int .i64 1024] 241) w.heap.size (by simp)).trans (heap_alloc_new w _)
 have h1 := heap_alloc_new (w.alloc (.cells #[.int .i64 0, .slice none 0 0, .slice none 0 0] 172)) (.cells #[.int .i64 1024] 241)
 rw [World.size_alloc] at h1
 have hz : ((w.alloc (.cells #[.int .i64 0, .slice none 0 0, .slice none 0 0] 172)).alloc (.cells #[.int .i64 1024] 241)).heap.size = w.heap.size + 2 := by simp
 have HB := Lib.hid hB
 have H0 := Lib.hid h0
 have H1 := Lib.hid h1
 have Hz := Lib.hid hz
 clear hB h0 h1 hz
 go_enter Tryz.func185, Tryz.ntmps185
 go_wp2_with fail
 obtain ⟨s, hs⟩ : ∃ s, w.heap.size = s := ⟨_, rfl⟩
 rw [hs] at HB H0 H1 Hz ⊢
 have Hs := Lib.hid hs
 clear hs
 generalize (w.alloc (.cells #[.int .i64 0, .slice none 0 0, .slice none 0 0] 172)).alloc (.cells #[.int .i64 1024] 241) = W1 at *
 refine (node_nil (s + 1) 1024 A c W1 H1.out (by omega)).mono ?_
 rintro e w2 ⟨rfl, hB2⟩
 have h2 := (hB2.block s (by omega)).trans H0.out
 have hz2 := hB2.size
 have hlt : s < w2.heap.size := by have := Hz.out; omega
 have hB3 := HB.out.trans (hB2.mono (by omega))
 have H2 := Lib.hid h2
 have HB3 := Lib.hid hB3
 clear h2 hB3 hB2 H0 H1
 have h3 := H2.out
 have hB3 := HB3.out.alloc (Nat.le_of_lt hlt) (.cells #[.int .i64 0, .slice none 0 0, .slice none 0 0] 172)
 have q0 := blk_cell h3 0
 have q1 := blk_cell h3 1
 have q2 := blk_cell h3 2
 have p0 := blk_free h3 0
 have p1 := blk_free h3 1
 have p2 := blk_free h3 2
 simp only [List.getElem?_toArray, List.getElem?_cons_zero, List.getElem?_cons_succ] at q0 q1 q2
 have HB5 := Lib.hid HB3.out
 clear h3 hB3 HB3
 go_wp2
 have r := set3a H2.out (.int .i64 0) (.slice none 0 0) (.slice none 0 0) (.cells #[.int .i64 0, .slice none 0 0, .slice none 0 0] 172)
 have r0 := blk_cell r 0
 have r1 := blk_cell r 1
 have r2 := blk_cell r 2
 simp only [List.getElem?_toArray, List.getElem?_cons_zero, List.getElem?_cons_succ] at r0 r1 r2
 refine bodyPost_ret (v := .tuple #[.agg #[.int .i64 0, .slice none 0 0, .slice none 0 0], .int .i64 0, .bool false]) (by simp [results, Tryz.results185, go_sem, r0, r1, r2]) rfl ⟨rfl, ?_⟩
 rw [Hs.out]
 exact (((HB5.out.setCell (p := ⟨s, 0, none⟩) (by simp) _).setCell (p := ⟨s, 1, none⟩) (by simp) _).setCell (p := ⟨s, 2, none⟩) (by simp) _).alloc (by simp; omega) _
end Go.Proofs.YtendnkpiidhogaaGreat.At

namespace Go.Proofs.YtendnkpiidhogaaGreat

def val (B : Nat) : List Nat → Nat
 | [] => 0
 | x :: l => x + B * val B l
def digs (B : Nat) (n : Nat) : List Nat := if _h : 2 ≤ B ∧ 0 < n then n % B :: digs B (n / B) else []
termination_by n
decreasing_by exact Nat.div_lt_self _h.2 _h.1

@[simp] theorem val_nil (B : Nat) : val B [] = 0 := rfl
@[simp] theorem val_cons (B x : Nat) (l : List Nat) : val B (x :: l) = x + B * val B l := rfl
theorem digs_zero (B : Nat) : digs B 0 = [] := by rw [digs]; simp
theorem digs_pos {B n : Nat} (hB : 2 ≤ B) (hn : 0 < n) : digs B n = n % B :: digs B (n / B) := by rw [digs]; simp [hB, hn]
theorem val_digs {B : Nat} (hB : 2 ≤ B) (n : Nat) : val B (digs B n) = n := by
  induction n using Nat.strongRecOn with
  | ind n ih =>
    rcases Nat.eq_zero_or_pos n with h | h
    · subst h; rw [digs_zero]; rfl
    · rw [digs_pos hB h, val_cons, ih _ (Nat.div_lt_self h hB)]
      exact Nat.mod_add_div n B
theorem digs_lt {B : Nat} (hB : 2 ≤ B) (n : Nat) : ∀ x ∈ digs B n, x < B := by
  induction n using Nat.strongRecOn with
  | ind n ih =>
    rcases Nat.eq_zero_or_pos n with h | h
    · subst h; rw [digs_zero]; simp
    · rw [digs_pos hB h]
      intro x hx
      rcases List.mem_cons.1 hx with rfl | hx
      · exact Nat.mod_lt _ (by omega)
      · exact ih _ (Nat.div_lt_self h hB) x hx
theorem val_append (B : Nat) (l m : List Nat) : val B (l ++ m) = val B l + B ^ l.length * val B m := by
 induction l with
 | nil => simp
 | cons x l ih => simp [ih, Nat.pow_succ, Nat.mul_add, Nat.mul_assoc, Nat.mul_comm, Nat.add_assoc]
theorem val_lt {B : Nat} {l : List Nat} (h : ∀ x ∈ l, x < B) : val B l < B ^ l.length := by
  induction l with
  | nil => simp
  | cons x l ih =>
    have h1 := h x (by simp)
    have h2 := ih fun y hy => h y (by simp [hy])
    simp only [val_cons, List.length_cons, Nat.pow_succ]
    have : B * (val B l + 1) ≤ B * B ^ l.length := Nat.mul_le_mul_left _ h2
    rw [Nat.mul_add] at this
    rw [Nat.mul_comm (B ^ l.length)]
    omega
theorem val_zeros {B : Nat} {l : List Nat} (h : ∀ x ∈ l, x = 0) : val B l = 0 := by
 induction l with
 | nil => rfl
 | cons x l ih => rw [val_cons, h x (by simp), ih fun y hy => h y (by simp [hy])]; simp
theorem val_replicate (B n : Nat) : val B (List.replicate n 0) = 0 := val_zeros (by simp)
theorem val_take_drop (B : Nat) (l : List Nat) {n : Nat} (hn : n ≤ l.length) : val B l = val B (l.take n) + B ^ n * val B (l.drop n) := by
 have := val_append B (l.take n) (l.drop n)
 rwa [List.take_append_drop, List.length_take, Nat.min_eq_left hn] at this
theorem val_take_succ (B : Nat) {l : List Nat} {n : Nat} (hn : n < l.length) : val B (l.take (n + 1)) = val B (l.take n) + B ^ n * l[n] := by
 rw [List.take_succ_eq_append_getElem hn, val_append, List.length_take, Nat.min_eq_left (by omega)]
 simp
theorem val_set (B : Nat) {l : List Nat} {n : Nat} (hn : n < l.length) (x : Nat) : val B (l.set n x) + B ^ n * l[n] = val B l + B ^ n * x := by
 have h1 := val_take_drop B l (Nat.le_of_lt hn)
 have h2 := val_take_drop B (l.set n x) (n := n) (by simp; omega)
 have h3 : l.drop n = l[n] :: l.drop (n + 1) := List.drop_eq_getElem_cons hn
 have h4 : (l.set n x).drop n = x :: l.drop (n + 1) := by
  rw [List.drop_set, if_neg (Nat.lt_irrefl _), h3, Nat.sub_self, List.set_cons_zero]
 have h5 : (l.set n x).take n = l.take n := by rw [List.take_set]; apply List.set_eq_of_length_le; simp; omega
 rw [h4, h5, val_cons] at h2
 rw [h3, val_cons] at h1
 rw [h1, h2]
 simp only [Nat.mul_add]
 omega
theorem digs_val {B : Nat} (hB : 2 ≤ B) : ∀ {l : List Nat}, (∀ x ∈ l, x < B) → (∀ h : l ≠ [], l.getLast h ≠ 0) → digs B (val B l) = l
  | [], _, _ => digs_zero B
  | x :: l, h, hl => by
    have hx := h x (by simp)
    have hpos : 0 < val B (x :: l) := by
      rcases Nat.eq_zero_or_pos (val B (x :: l)) with h0 | h0
      · exfalso
        have hz : ∀ (m : List Nat) (hm : m ≠ []), val B m = 0 → m.getLast hm = 0 := by
          intro m
          induction m with
          | nil => intro hm; exact absurd rfl hm
          | cons y m ih =>
            intro hm hv
            rw [val_cons] at hv
            have hy : y = 0 := by omega
            have hB0 : B * val B m = 0 := by omega
            rcases Nat.mul_eq_zero.1 hB0 with h' | h'
            · omega
            · rcases m with _ | ⟨z, m⟩
              · simpa using hy
              · rw [List.getLast_cons (by simp)]; exact ih (by simp) h'
        exact hl (by simp) (hz _ _ h0)
      · exact h0
    rw [digs_pos hB hpos]
    have e1 : val B (x :: l) % B = x := by rw [val_cons, Nat.add_mul_mod_self_left, Nat.mod_eq_of_lt hx]
    have e2 : val B (x :: l) / B = val B l := by rw [val_cons, Nat.add_mul_div_left _ _ (by omega), Nat.div_eq_of_lt hx]; omega
    rw [e1, e2, digs_val hB (fun y hy => h y (by simp [hy])) fun hne => by
      have := hl (by simp)
      rwa [List.getLast_cons hne] at this]
theorem digs_last {B : Nat} (hB : 2 ≤ B) (n : Nat) (h : digs B n ≠ []) : (digs B n).getLast h ≠ 0 := by
  induction n using Nat.strongRecOn with
  | ind n ih =>
    rcases Nat.eq_zero_or_pos n with h0 | h0
    · subst h0; exact absurd (digs_zero B) h
    · rcases Nat.eq_zero_or_pos (n / B) with h1 | h1
      · have e : digs B n = [n % B] := by rw [digs_pos hB h0, h1, digs_zero]
        have hlt : n < B := by rcases Nat.lt_or_ge n B with h | h; exact h; have := Nat.div_pos h (by omega); omega
        simp only [e, List.getLast_singleton]
        rw [Nat.mod_eq_of_lt hlt]; omega
      · have e := digs_pos hB h0
        have hne : digs B (n / B) ≠ [] := by rw [digs_pos hB h1]; simp
        simp only [e, List.getLast_cons hne]
        exact ih _ (Nat.div_lt_self h0 hB) hne
theorem take_digs {B : Nat} (hB : 2 ≤ B) {l : List Nat} (hl : ∀ x ∈ l, x < B) {n : Nat} (hn : n ≤ l.length) (hz : ∀ x ∈ l.drop n, x = 0) (h0 : 0 < n → l.getD (n - 1) 0 ≠ 0) : l.take n = digs B (val B l) := by
 have e : val B l = val B (l.take n) := by rw [val_take_drop B l hn, val_zeros hz]; simp
 rw [e]
 refine (digs_val hB (fun x hx => hl x (List.mem_of_mem_take hx)) fun hne => ?_).symm
 have hn0 : 0 < n := by
  rcases Nat.eq_zero_or_pos n with h | h
  · subst h; simp at hne
  · exact h
 have := h0 hn0
 rw [List.getLast_eq_getElem, List.getElem_take]
 simp only [List.length_take, Nat.min_eq_left hn]
 rwa [List.getD_eq_getElem?_getD, List.getElem?_eq_getElem (by omega), Option.getD_some] at this
theorem digs_length_le {B : Nat} (hB : 2 ≤ B) {l : List Nat} (hl : ∀ x ∈ l, x < B) : (digs B (val B l)).length ≤ l.length := by
  rcases Nat.lt_or_ge l.length (digs B (val B l)).length with h | h
  · exfalso
    have h1 := val_lt hl
    have hne : digs B (val B l) ≠ [] := by intro e; rw [e] at h; simp at h
    have h2 : B ^ ((digs B (val B l)).length - 1) ≤ val B l := by
      generalize val B l = v at hne ⊢
      have := digs_last hB v hne
      have h3 := val_digs hB v
      obtain ⟨m, x, hm⟩ : ∃ m x, digs B v = m ++ [x] := ⟨_, _, (List.dropLast_concat_getLast hne).symm⟩
      have hx : x ≠ 0 := by have h4 : (digs B v).getLast hne = x := by simp [hm]
                            rw [h4] at this; exact this
      rw [hm, val_append] at h3
      rw [hm]
      simp at h3 ⊢
      rw [← h3]
      have : B ^ m.length * 1 ≤ B ^ m.length * x := Nat.mul_le_mul_left _ (by omega)
      omega
    have h3 : B ^ l.length ≤ B ^ ((digs B (val B l)).length - 1) := Nat.pow_le_pow_right (by omega) (by omega)
    omega
  · exact h
theorem pow_digs_le {B : Nat} (hB : 2 ≤ B) {v : Nat} (hv : 0 < v) : B ^ ((digs B v).length - 1) ≤ v := by
 have hne : digs B v ≠ [] := by rw [digs_pos hB hv]; simp
 have := digs_last hB v hne
 have h3 := val_digs hB v
 obtain ⟨m, x, hm⟩ : ∃ m x, digs B v = m ++ [x] := ⟨_, _, (List.dropLast_concat_getLast hne).symm⟩
 have hx : x ≠ 0 := by
  have h4 : (digs B v).getLast hne = x := by simp [hm]
  rw [h4] at this; exact this
 rw [hm, val_append] at h3
 rw [hm]
 simp at h3 ⊢
 rw [← h3]
 have : B ^ m.length * 1 ≤ B ^ m.length * x := Nat.mul_le_mul_left _ (by omega)
 omega
theorem lt_pow_digs {B : Nat} (hB : 2 ≤ B) (v : Nat) : v < B ^ (digs B v).length := by
 have := val_lt (digs_lt hB v)
 rwa [val_digs hB] at this
theorem digs_length_of_lt {B : Nat} (hB : 2 ≤ B) {v n : Nat} (h : v < B ^ n) : (digs B v).length ≤ n := by
 rcases Nat.eq_zero_or_pos v with h0 | h0
 · subst h0; rw [digs_zero]; simp
 · have h1 := pow_digs_le hB h0
   rcases Nat.lt_or_ge n (digs B v).length with h2 | h2
   · have : B ^ n ≤ B ^ ((digs B v).length - 1) := Nat.pow_le_pow_right (by omega) (by omega)
     omega
   · exact h2
theorem digs_length_mono {B : Nat} (hB : 2 ≤ B) {m n : Nat} (h : m ≤ n) : (digs B m).length ≤ (digs B n).length :=
 digs_length_of_lt hB (Nat.lt_of_le_of_lt h (lt_pow_digs hB n))
theorem lt_of_digs_length {B : Nat} (hB : 2 ≤ B) {m n : Nat} (h : (digs B m).length < (digs B n).length) : m < n := by
 rcases Nat.lt_or_ge m n with h1 | h1
 · exact h1
 · have := digs_length_mono hB h1; omega
theorem val_lt_of {B : Nat} {l m : List Nat} (hl : ∀ x ∈ l, x < B) (hlen : l.length = m.length) {i : Nat} (hi : i < l.length) (hd : l.drop (i + 1) = m.drop (i + 1)) (h : l[i] < m[i]'(by omega)) : val B l < val B m := by
 have h1 := val_take_drop B l (n := i + 1) (by omega)
 have h2 := val_take_drop B m (n := i + 1) (by omega)
 rw [val_take_succ B hi] at h1
 rw [val_take_succ B (by omega)] at h2
 have h3 : val B (l.take i) < B ^ i := by
  have := val_lt (B := B) (l := l.take i) fun x hx => hl x (List.mem_of_mem_take hx)
  rwa [List.length_take, Nat.min_eq_left (by omega)] at this
 have h4 : B ^ i * (l[i] + 1) ≤ B ^ i * m[i]'(by omega) := Nat.mul_le_mul_left _ h
 rw [Nat.mul_add] at h4
 rw [hd] at h1
 omega
end Go.Proofs.YtendnkpiidhogaaGreat

namespace Go.Proofs.YtendnkpiidhogaaGreat

def dg (l : List Nat) (i : Nat) : Nat := l.getD i 0

theorem getD_eq' {l : List Nat} {i : Nat} (h : i < l.length) : l.getD i 0 = l[i] := by
 rw [List.getD_eq_getElem?_getD, List.getElem?_eq_getElem h, Option.getD_some]
theorem val_take_getD (B : Nat) (l : List Nat) (k : Nat) : val B (l.take (k + 1)) = val B (l.take k) + B ^ k * dg l k := by
 rcases Nat.lt_or_ge k l.length with h | h
 · rw [val_take_succ B h, dg, List.getD_eq_getElem?_getD, List.getElem?_eq_getElem h, Option.getD_some]
 · rw [List.take_of_length_le (by omega), List.take_of_length_le h, dg, List.getD_eq_getElem?_getD, List.getElem?_eq_none h]
   simp
theorem val_take_set (B : Nat) {o : List Nat} {k : Nat} (h : k < o.length) (s : Nat) : val B ((o.set k s).take (k + 1)) = val B (o.take k) + B ^ k * s := by
 rw [val_take_getD, List.take_set, List.set_eq_of_length_le (by simp; omega), dg, List.getD_eq_getElem?_getD, List.getElem?_set_self h, Option.getD_some]
def AddAt (B : Nat) (a b o : List Nat) (k c : Nat) : Prop := val B (o.take k) + B ^ k * c = val B (a.take k) + val B (b.take k)
theorem AddAt.zero (B : Nat) (a b o : List Nat) : AddAt B a b o 0 0 := by simp [AddAt]
theorem AddAt.step {B : Nat} {a b o : List Nat} {k c s c' : Nat} (h : AddAt B a b o k c) (hk : k < o.length) (he : s + B * c' = dg a k + dg b k + c) : AddAt B a b (o.set k s) (k + 1) c' := by
 unfold AddAt at *
 rw [val_take_set B hk, val_take_getD, val_take_getD, Nat.pow_succ]
 have : B ^ k * (s + B * c') = B ^ k * (dg a k + dg b k + c) := by rw [he]
 simp only [Nat.mul_add, ← Nat.mul_assoc] at this
 omega
theorem AddAt.fin {B : Nat} {a b o : List Nat} {k c : Nat} (h : AddAt B a b o k c) (hk : o.length = k + 1) (ha : a.length ≤ k) (hb : b.length ≤ k) : val B (o.set k c) = val B a + val B b := by
 unfold AddAt at h
 rw [List.take_of_length_le ha, List.take_of_length_le hb] at h
 have := val_take_set B (o := o) (k := k) (by omega) c
 rw [List.take_of_length_le (by simp; omega)] at this
 rw [this, h]
def SubAt (B : Nat) (a b o : List Nat) (k c : Nat) : Prop := val B (o.take k) + val B (b.take k) = val B (a.take k) + B ^ k * c
theorem SubAt.zero (B : Nat) (a b o : List Nat) : SubAt B a b o 0 0 := by simp [SubAt]
theorem SubAt.step {B : Nat} {a b o : List Nat} {k c s c' : Nat} (h : SubAt B a b o k c) (hk : k < o.length) (he : s + dg b k + c = dg a k + B * c') : SubAt B a b (o.set k s) (k + 1) c' := by
 unfold SubAt at *
 rw [val_take_set B hk, val_take_getD, val_take_getD, Nat.pow_succ]
 have : B ^ k * (s + dg b k + c) = B ^ k * (dg a k + B * c') := by rw [he]
 simp only [Nat.mul_add, ← Nat.mul_assoc] at this
 omega
theorem SubAt.fin {B : Nat} {a b o : List Nat} {k c : Nat} (h : SubAt B a b o k c) (hk : o.length = k) (ho : ∀ x ∈ o, x < B) (ha : a.length = k) (hb : b.length ≤ k) (hle : val B b ≤ val B a) : val B o = val B a - val B b := by
 unfold SubAt at h
 rw [List.take_of_length_le (by omega), List.take_of_length_le hb, List.take_of_length_le (by omega)] at h
 have h1 := val_lt ho
 rw [hk] at h1
 rcases Nat.eq_zero_or_pos c with h0 | h0
 · subst h0; omega
 · have : B ^ k * 1 ≤ B ^ k * c := Nat.mul_le_mul_left _ h0
   omega
def MulAt (B : Nat) (o0 b : List Nat) (x i : Nat) (o : List Nat) (j c : Nat) : Prop :=
 o.length = o0.length ∧ val B o + B ^ (i + j) * c = val B o0 + B ^ i * (x * val B (b.take j)) ∧ (∀ n, i + j ≤ n → dg o n = dg o0 n)
theorem MulAt.zero (B : Nat) (o0 b : List Nat) (x i : Nat) : MulAt B o0 b x i o0 0 0 := by simp [MulAt]
theorem getD_set_ne {l : List Nat} {i j x : Nat} (h : i ≠ j) : dg (l.set i x) j = dg l j := by
 simp [dg, List.getD_eq_getElem?_getD, List.getElem?_set_ne h]
theorem getD_set_eq {l : List Nat} {i x : Nat} (h : i < l.length) : dg (l.set i x) i = x := by
 simp [dg, List.getD_eq_getElem?_getD, List.getElem?_set_self h]
theorem getD_eq {l : List Nat} {i : Nat} (h : i < l.length) : dg l i = l[i] := by
 rw [dg, List.getD_eq_getElem?_getD, List.getElem?_eq_getElem h, Option.getD_some]
theorem val_set' (B : Nat) {l : List Nat} {n : Nat} (hn : n < l.length) (x : Nat) : val B (l.set n x) + B ^ n * dg l n = val B l + B ^ n * x := by
 rw [getD_eq hn]; exact val_set B hn x
theorem MulAt.step {B : Nat} {o0 b o : List Nat} {x i j c s c' : Nat} (h : MulAt B o0 b x i o j c) (hk : i + j < o.length) (he : s + B * c' = x * dg b j + dg o (i + j) + c) :
 MulAt B o0 b x i (o.set (i + j) s) (j + 1) c' := by
 obtain ⟨h1, h2, h3⟩ := h
 refine ⟨by simpa using h1, ?_, fun n hn => by rw [getD_set_ne (by omega), h3 n (by omega)]⟩
 have hs := val_set' B hk s
 rw [val_take_getD, ← Nat.add_assoc, Nat.pow_succ]
 have e1 : B ^ (i + j) * (s + B * c') = B ^ (i + j) * (x * dg b j + dg o (i + j) + c) := by rw [he]
 simp only [Nat.mul_add, ← Nat.mul_assoc] at e1 ⊢
 have e2 : B ^ i * x * B ^ j * dg b j = B ^ (i + j) * x * dg b j := by
  rw [Nat.pow_add]; simp only [Nat.mul_comm, Nat.mul_assoc]
 simp only [← Nat.mul_assoc] at h2
 omega
theorem MulAt.fin {B : Nat} {o0 b o : List Nat} {x i n c : Nat} (h : MulAt B o0 b x i o n c) (hn : b.length = n) (hk : i + n < o.length) (h0 : dg o0 (i + n) = 0) : val B (o.set (i + n) c) = val B o0 + B ^ i * (x * val B b) := by
 obtain ⟨h1, h2, h3⟩ := h
 have hs := val_set' B hk c
 rw [h3 _ (Nat.le_refl _), h0] at hs
 rw [List.take_of_length_le (by omega)] at h2
 omega
def RowAt (B : Nat) (a b o : List Nat) (i : Nat) : Prop := o.length = a.length + b.length ∧ val B o = val B (a.take i) * val B b ∧ ∀ n, i + b.length ≤ n → dg o n = 0
theorem RowAt.zero (B : Nat) (a b : List Nat) : RowAt B a b (List.replicate (a.length + b.length) 0) 0 := by
 refine ⟨by simp, by simp [val_replicate], fun n _ => ?_⟩
 rw [dg, List.getD_eq_getElem?_getD, List.getElem?_replicate]
 split <;> rfl
theorem RowAt.step {B : Nat} {a b o0 o : List Nat} {i c : Nat} (h : RowAt B a b o0 i) (hi : i < a.length) (hm : MulAt B o0 b (dg a i) i o b.length c) : RowAt B a b (o.set (i + b.length) c) (i + 1) := by
 obtain ⟨h1, h2, h3⟩ := h
 have hl := hm.1
 refine ⟨by simpa [hl] using h1, ?_, fun n hn => ?_⟩
 · rw [hm.fin rfl (by omega) (h3 _ (Nat.le_refl _)), h2, val_take_getD, Nat.add_mul, Nat.mul_assoc]
 · rw [getD_set_ne (by omega), hm.2.2 n (by omega), h3 n (by omega)]
theorem RowAt.fin {B : Nat} {a b o : List Nat} (h : RowAt B a b o a.length) : val B o = val B a * val B b := by
 have := h.2.1
 rwa [List.take_length] at this
theorem set_lt {B : Nat} {o : List Nat} (h : ∀ x ∈ o, x < B) {k s : Nat} (hs : s < B) : ∀ x ∈ o.set k s, x < B := by
 intro x hx
 rcases List.mem_or_eq_of_mem_set hx with hx | rfl
 · exact h x hx
 · exact hs
theorem getD_lt {B : Nat} (hB : 0 < B) {l : List Nat} (h : ∀ x ∈ l, x < B) (i : Nat) : dg l i < B := by
 rcases Nat.lt_or_ge i l.length with hi | hi
 · rw [getD_eq hi]; exact h _ (List.getElem_mem hi)
 · rw [dg, List.getD_eq_getElem?_getD, List.getElem?_eq_none hi]; exact hB
end Go.Proofs.YtendnkpiidhogaaGreat

namespace Go.Proofs
open Go.Shelf
def Tryz.lays129_ren : Go.Shelf.Ren := ⟨fun | 129 => 135 | n => n, fun | 53 => 139 | 3 => 3 | 4 => 4 | 46 => 96 | 5 => 5 | 9 => 9 | n => n, fun | n => n⟩
theorem Tryz.lays129 : Go.Proofs.Lays.n129 Tryz.prog Tryz.lays129_ren := {
 mixed := by kernel_rfl
 f129 := Tryz.func135.trans (congrArg some (by kernel_rfl))
 t3 := Tryz.underlying3
 a3 := Tryz.isAgg3
 z3 := Tryz.sizeOf3
 v3 := Tryz.zeroValue3
 t4 := Tryz.underlying4
 a4 := Tryz.isAgg4
 z4 := Tryz.sizeOf4
 v4 := Tryz.zeroValue4
 t5 := Tryz.underlying5
 a5 := Tryz.isAgg5
 z5 := Tryz.sizeOf5
 v5 := Tryz.zeroValue5
 t9 := Tryz.underlying9
 a9 := Tryz.isAgg9
 z9 := Tryz.sizeOf9
 v9 := Tryz.zeroValue9
 t46 := Tryz.underlying96
 a46 := Tryz.isAgg96
 z46 := Tryz.sizeOf96
 v46 := Tryz.zeroValue96
 t53 := Tryz.underlying139
 a53 := Tryz.isAgg139
 z53 := Tryz.sizeOf139
 v53 := Tryz.zeroValue139 }
theorem Tryz.bits_Len64 (x : Int) (w : World) (h0 : 0 ≤ x) (h1 : x ≤ 18446744073709551615) :
 Calls Tryz.prog 135 #[.int .u64 x] w fun e w' => e = .returned (.int .i64 (Lib.bitLen x.toNat)) ∧ w' = w := Any.bits_Len64 Tryz.lays129 x w h0 h1
end Go.Proofs

namespace Go.Proofs.YtendnkpiidhogaaGreat
open Go.RowKit

theorem eqB {a b : Int} (h : a ≠ b) : (a == b) = false := by simpa using h
theorem neB {a b : Int} (h : a ≠ b) : (a != b) = true := by simpa using h
theorem drewN_add (w : World) (n m : Nat) : (w.drewN n).drewN m = w.drewN (n + m) := by simp [World.drewN, Nat.add_assoc]
theorem drewN_3 (w : World) (n m k : Nat) : ((w.drewN n).drewN m).drewN k = w.drewN (n + m + k) := by simp [World.drewN, Nat.add_assoc]
theorem dr1 (w : World) (n : Nat) : ∃ k, w.drewN n = w.drewN k := ⟨n, rfl⟩
theorem dr3 (w : World) (n m k : Nat) : ∃ d, ((w.drewN n).drewN m).drewN k = w.drewN d := ⟨_, drewN_3 _ _ _ _⟩
theorem add_blk (g j : Nat) : (⟨g, 0, none⟩ : Addr).add j = ⟨g, j, none⟩ := by
 rcases Nat.eq_zero_or_pos j with h | h
 · subst h; rfl
 · simp [Addr.add, Nat.pos_iff_ne_zero.1 h]
def nts (l : List Nat) : List Value := l.map fun x : Nat => .int .u64 (x : Int)
theorem nts_get {l : List Nat} {i : Nat} (h : i < l.length) : (nts l)[i]? = some (.int .u64 (dg l i : Int)) := by
 rw [getD_eq h]; simp [nts, List.getElem?_eq_getElem h]
theorem nts_take (l : List Nat) (n : Nat) : (nts l).take n = nts (l.take n) := by simp [nts]
theorem oneCell_nts (l : List Nat) : ∀ u ∈ nts l, u.oneCell' = true := by
 intro u hu
 obtain ⟨x, _, rfl⟩ := List.mem_map.1 hu
 rfl

def Lim (l : List Nat) : Prop := (∀ x ∈ l, x < 18446744073709551616) ∧ l.length ≤ 1000000
def RN (w : World) (P : Nat → Prop) (A : Option Addr) (c : Nat) (l : List Nat) : Prop := RS w P 1 A l.length c (nts l) ∧ Lim l
def Blk (w : World) (g : Nat) (l : List Nat) : Prop := w.heap[g]? = some (.cells (nts l).toArray 139 (0, 0))
def OB (w : World) (base : Nat) (A : Option Addr) (c : Nat) (l : List Nat) : Prop :=
 Lim l ∧ l.length ≤ c ∧ c ≤ maxLen ∧ (0 < l.length → ∃ g cur, A = some ⟨g, 0, none⟩ ∧ base ≤ g ∧ w.heap[g]? = some (.cells cur 139 (0, 0)) ∧ ∀ (j : Nat) u, (nts l)[j]? = some u → cur[j]? = some u)

section
variable {w w' : World} {P P' : Nat → Prop} {A : Option Addr} {c g base : Nat} {l : List Nat}
theorem Lim.nil_ : Lim [] := ⟨by simp, by simp⟩
theorem Lim.take (h : Lim l) (n : Nat) : Lim (l.take n) := ⟨fun x hx => h.1 x (List.mem_of_mem_take hx), by rw [List.length_take]; have := h.2; omega⟩
theorem Lim.set (h : Lim l) (i x : Nat) (hx : x < 18446744073709551616) : Lim (l.set i x) := ⟨set_lt h.1 hx, by simpa using h.2⟩
theorem Lim.dgLt (h : Lim l) (i : Nat) : dg l i < 18446744073709551616 := getD_lt (by omega) h.1 i
theorem Lim.digs {B v : Nat} (hB : 2 ≤ B) (hB' : B ≤ 18446744073709551616) (hl : v < B ^ 1000000) : Lim (digs B v) := ⟨fun x hx => Nat.lt_of_lt_of_le (digs_lt hB v x hx) hB', digs_length_of_lt hB hl⟩
theorem Lim.trim (h : Lim l) : ∃ n, n ≤ l.length ∧ Go.Proofs.YtendnkpiidhogaaGreat.digs 18446744073709551616 (val 18446744073709551616 l) = l.take n := by
  refine ⟨(Go.Proofs.YtendnkpiidhogaaGreat.digs 18446744073709551616 (val 18446744073709551616 l)).length, digs_length_le (by omega) h.1, ?_⟩
  obtain ⟨n, hn, hz, h0⟩ : ∃ n, n ≤ l.length ∧ (∀ x ∈ l.drop n, x = 0) ∧ (0 < n → dg l (n - 1) ≠ 0) := by
    have : ∀ k, k ≤ l.length → (∀ x ∈ l.drop k, x = 0) → ∃ n, n ≤ l.length ∧ (∀ x ∈ l.drop n, x = 0) ∧ (0 < n → dg l (n - 1) ≠ 0) := by
      intro k
      induction k with
      | zero => intro _ hz; exact ⟨0, by omega, hz, by omega⟩
      | succ k ih =>
        intro hk hz
        by_cases h : dg l k = 0
        · refine ih (by omega) fun x hx => ?_
          rw [List.drop_eq_getElem_cons (by omega : k < l.length)] at hx
          rcases List.mem_cons.1 hx with rfl | hx
          · rwa [getD_eq (by omega)] at h
          · exact hz x hx
        · exact ⟨k + 1, hk, hz, fun _ => by simpa using h⟩
    exact this l.length (Nat.le_refl _) (by simp)
  have h1 := take_digs (B := 18446744073709551616) (by omega) h.1 hn hz h0
  rw [← h1, List.length_take, Nat.min_eq_left hn]
theorem RN.keep (h : RN w P A c l) (hk : ∀ p : Addr, P p.block → w'.cell? p = w.cell? p) : RN w' P A c l := ⟨h.1.keep hk, h.2⟩
theorem RN.mono (h : RN w P A c l) (hp : ∀ b, P b → P' b) : RN w P' A c l := ⟨h.1.mono hp, h.2⟩
theorem RN.below {B : Nat} (h : RN w P A c l) (hb : Below B w w') (hB : ∀ b, P b → b < B) : RN w' P A c l := ⟨h.1.below hb hB, h.2⟩
theorem RN.drewN (h : RN w P A c l) (n : Nat) : RN (w.drewN n) P A c l := h
theorem RN.cap (h : RN w P A c l) : l.length ≤ c ∧ c ≤ 9223372036854775807 ∧ l.length ≤ 1000000 := ⟨h.1.1, h.1.2.1, h.2.2⟩
theorem RN.nil_ (w : World) (P : Nat → Prop) : RN w P none 0 [] := ⟨RS.nil_ _ _ _, Lim.nil_⟩
theorem RN.take (h : RN w P A c l) (n : Nat) : RN w P A c (l.take n) := by
 by_cases hn : n ≤ l.length
 · refine ⟨?_, h.2.take n⟩
   have := h.1.pre hn
   rw [Nat.mul_one, nts_take] at this
   rwa [List.length_take, Nat.min_eq_left hn]
 · rw [List.take_of_length_le (by omega)]; exact h
theorem RN.at_ (h : RN w P A c l) {i : Nat} (hi' : i < l.length) : ∃ ad, A = some ad ∧ P ad.block ∧ w.cell? (ad.add i) = some (.int .u64 (dg l i : Int)) := by
 obtain ⟨⟨h1, h2, h3, h4⟩, h5⟩ := h
 obtain ⟨ad, rfl, hb, hc⟩ := h4 (by omega)
 exact ⟨ad, rfl, hb, hc _ _ (nts_get hi')⟩
theorem RN.cells {ad : Addr} (h : RN w P (some ad) c l) : ∀ i, i < l.length → w.cell? (ad.add i) = some (.int .u64 (dg l i : Int)) := by
 intro i hi
 obtain ⟨ad', e, _, hc⟩ := h.at_ hi
 cases e
 exact hc
theorem RN.lt (h : RN w P A c l) (i : Nat) : (dg l i : Int) < 18446744073709551616 := by have := h.2.dgLt i; omega
theorem Blk.cell (h : Blk w g l) {i : Nat} (hi : i < l.length) : w.cell? ⟨g, i, none⟩ = some (.int .u64 (dg l i : Int)) := by
 rw [blk_cell h i, List.getElem?_toArray, nts_get hi]
theorem Blk.free (h : Blk w g l) (i : Nat) : w.frozen? ⟨g, i, none⟩ = false := blk_free h i
theorem Blk.lt (h : Blk w g l) : g < w.heap.size := blk_lt h
theorem Blk.set (h : Blk w g l) (i : Nat) (x : Nat) : Blk (w.setCell ⟨g, i, none⟩ (.int .u64 (x : Int))) g (l.set i x) := by
 unfold Blk at *
 simp [World.setCell, Array.getElem?_modify, h, nts]
theorem Blk.below {B : Nat} (h : Blk w g l) (hb : Below B w w') (hg : g < B) : Blk w' g l := (hb.block g hg).trans h
theorem Blk.drewN (h : Blk w g l) (n : Nat) : Blk (w.drewN n) g l := h
theorem Blk.alloc (h : Blk w g l) (o : Obj) : Blk (w.alloc o) g l := (Below.heap_alloc w o g (blk_lt h)).trans h
theorem Blk.made (w : World) (n : Nat) : Blk (w.alloc (.cells (madeCells #[.int .u64 0] n) 139)) w.heap.size (List.replicate n 0) := by
 unfold Blk
 rw [heap_alloc_new]
 congr 1
 congr 1
 apply Array.ext_getElem?
 intro i
 by_cases hi : i < n
 · have hs : i < (madeCells #[Value.int .u64 0] n).size := by rw [size_madeCells]; simpa using hi
   rw [Array.getElem?_eq_getElem hs]
   simp [madeCells, nts, hi, Nat.mod_one]
 · rw [Array.getElem?_eq_none (by rw [size_madeCells]; omega), Array.getElem?_eq_none (by simp [nts]; omega)]
theorem OB.rn (h : OB w base A c l) : RN w (In base w.heap.size) A c l := by
 obtain ⟨h1, h2, h3, h4⟩ := h
 refine ⟨⟨h2, h3, by simp [nts], fun hn => ?_⟩, h1⟩
 obtain ⟨g, cur, rfl, hg, hh, hc⟩ := h4 hn
 refine ⟨_, rfl, ⟨hg, blk_lt hh⟩, fun j u hu => ?_⟩
 have := blk_cell hh j
 rw [hc j u hu] at this
 rw [add_blk]
 exact this
theorem OB.nil_ (w : World) (base : Nat) : OB w base none 0 [] := ⟨Lim.nil_, Nat.le_refl _, by unfold maxLen; omega, fun h => absurd h (by simp)⟩
theorem OB.below {B : Nat} (h : OB w base A c l) (hb : Below B w w') (hB : w.heap.size ≤ B) : OB w' base A c l := by
 obtain ⟨h1, h2, h3, h4⟩ := h
 refine ⟨h1, h2, h3, fun hn => ?_⟩
 obtain ⟨g, cur, rfl, hg, hh, hc⟩ := h4 hn
 exact ⟨g, cur, rfl, hg, (hb.block g (Nat.lt_of_lt_of_le (blk_lt hh) hB)).trans hh, hc⟩
theorem OB.drewN (h : OB w base A c l) (n : Nat) : OB (w.drewN n) base A c l := h
theorem OB.mono {base' : Nat} (h : OB w base A c l) (hb : base' ≤ base) : OB w base' A c l := by
 obtain ⟨h1, h2, h3, h4⟩ := h
 refine ⟨h1, h2, h3, fun hn => ?_⟩
 obtain ⟨g, cur, e, hg, hh, hc⟩ := h4 hn
 exact ⟨g, cur, e, by omega, hh, hc⟩
theorem OB.cap (h : OB w base A c l) : l.length ≤ c ∧ c ≤ 9223372036854775807 ∧ l.length ≤ 1000000 := ⟨h.2.1, h.2.2.1, h.1.2⟩
theorem OB.take (h : OB w base A c l) (n : Nat) : OB w base A c (l.take n) := by
 obtain ⟨h1, h2, h3, h4⟩ := h
 refine ⟨h1.take n, by rw [List.length_take]; omega, h3, fun hn => ?_⟩
 obtain ⟨g, cur, e, hg, hh, hc⟩ := h4 (by rw [List.length_take] at hn; omega)
 refine ⟨g, cur, e, hg, hh, fun j u hu => hc j u ?_⟩
 rw [← nts_take, List.getElem?_take] at hu
 split at hu
 · exact hu
 · cases hu
theorem OB.of_blk (h : Blk w g l) (hg : base ≤ g) (hl : Lim l) {c : Nat} (hc : l.length ≤ c) (hc' : c ≤ maxLen) : OB w base (some ⟨g, 0, none⟩) c l :=
 ⟨hl, hc, hc', fun _ => ⟨g, _, rfl, hg, h, fun j u hu => by rw [List.getElem?_toArray]; exact hu⟩⟩
theorem OB.of_own (h : w.ownsRow base 139 1 (.slice A l.length c) l.length (nts l)) (hl : Lim l) : OB w base A c l := by
 obtain ⟨h0, ⟨e1, e2⟩ | ⟨g, cap, cur, e1, hg, hh, h5, h6, h7, h8⟩⟩ := h
 · injection e1 with e1 e3 e4
   have : l = [] := List.eq_nil_of_length_eq_zero e2
   subst e1 e4 this
   exact OB.nil_ w base
 · injection e1 with e1 e2 e3
   subst e1 e3
   refine ⟨hl, h5, h6, fun _ => ⟨g, cur, rfl, hg, hh, fun j u hu => ?_⟩⟩
   rw [← h8, List.getElem?_take] at hu
   split at hu
   · rwa [Array.getElem?_toList] at hu
   · cases hu
end

theorem info64 : (Tryz.prog.info? 139).map (fun i => (i.zero, i.size, i.bytes)) = some (some (.int .u64 0), 1, 8) := by kernel_rfl
end Go.Proofs.YtendnkpiidhogaaGreat

namespace Go.Proofs.YtendnkpiidhogaaGreat
open Go.RowKit

def CutAt (l : List Nat) (k : Nat) : Prop := k ≤ l.length ∧ ∀ x ∈ l.drop k, x = 0
theorem CutAt.zero (l : List Nat) : CutAt l l.length := ⟨Nat.le_refl _, by simp⟩
theorem CutAt.step {l : List Nat} {k : Nat} (h : CutAt l (k + 1)) (h0 : dg l k = 0) : CutAt l k := by
 obtain ⟨h1, h2⟩ := h
 refine ⟨by omega, fun x hx => ?_⟩
 rw [List.drop_eq_getElem_cons (by omega : k < l.length)] at hx
 rcases List.mem_cons.1 hx with rfl | hx
 · rwa [getD_eq (by omega)] at h0
 · exact h2 x hx
theorem CutAt.fin {B : Nat} (hB : 2 ≤ B) {l : List Nat} (hl : ∀ x ∈ l, x < B) {k : Nat} (h : CutAt l k) (h0 : 0 < k → dg l (k - 1) ≠ 0) : l.take k = digs B (val B l) :=
 take_digs hB hl h.1 h.2 h0
theorem CutAt.len {B : Nat} (hB : 2 ≤ B) {l : List Nat} (hl : ∀ x ∈ l, x < B) {k : Nat} (h : CutAt l k) (h0 : 0 < k → dg l (k - 1) ≠ 0) : (digs B (val B l)).length = k := by
 rw [← h.fin hB hl h0, List.length_take, Nat.min_eq_left h.1]

set_option maxHeartbeats 400000 in
theorem trim_any (P : Nat → Prop) (A : Option Addr) (c : Nat) (l : List Nat) (w : World) (h : RN w P A c l) :
 Calls Tryz.prog 134 #[.slice A l.length c] w fun e w' => e = .returned (.slice A (digs 18446744073709551616 (val 18446744073709551616 l)).length c) ∧ w = w' := by
 obtain ⟨h1, h2, h3⟩ := h.cap
 go_enter Tryz.func134, Tryz.ntmps134
 go_wp2
 go_loop [3] (fun n => ∃ k : Nat, CutAt l k ∧ n = .int .i64 k) (fun n => (intOf n).toNat)
 case atStart => exact ⟨l.length, CutAt.zero l, rfl⟩
 case round =>
  obtain ⟨k, hk, rfl⟩ := hrel
  rcases k with _ | k
  · have hl := Lib.hid (hk.len (B := 18446744073709551616) (by omega) h.2.1 (by omega))
    go_wp2
    go_ret
    rw [hl.out]
    exact ⟨rfl, rfl⟩
  · obtain ⟨ad, rfl, _, hc⟩ := h.at_ (i := k) (by have := hk.1; omega)
    have hkl := hk.1
    by_cases h0 : dg l k = 0
    · rw [h0] at hc
      have hk' := hk.step h0
      clear hk h0
      go_wp2
      go_round
      case rel => exact ⟨k, hk', by go_num⟩
      case measure => simp [intOf]
    · have hl := Lib.hid (hk.len (B := 18446744073709551616) (by omega) h.2.1 (fun _ => h0))
      have h0' : (((dg l k : Nat) : Int) == 0) = false := eqB (by omega)
      clear h0
      go_wp2
      go_ret
      rw [hl.out]
      exact ⟨rfl, rfl⟩

theorem RN.trim {w : World} {P : Nat → Prop} {A : Option Addr} {c : Nat} {l : List Nat} (h : RN w P A c l) : RN w P A c (digs 18446744073709551616 (val 18446744073709551616 l)) := by
 obtain ⟨n, _, e⟩ := h.2.trim
 rw [e]
 exact h.take n
theorem OB.trim {w : World} {base : Nat} {A : Option Addr} {c : Nat} {l : List Nat} (h : OB w base A c l) : OB w base A c (digs 18446744073709551616 (val 18446744073709551616 l)) := by
 obtain ⟨n, _, e⟩ := h.1.trim
 rw [e]
 exact h.take n

def Dig (l : List Nat) : Prop := ∀ x ∈ l, x < 4294967296
set_option maxHeartbeats 400000 in
theorem made_any (P : Nat → Prop) (A : Option Addr) (c : Nat) (l : List Nat) (w : World) (h : RN w P A c l) :
 Calls Tryz.prog 205 #[.slice A l.length c] w fun e w' => ∃ A' c', e = .returned (.slice A' (digs 18446744073709551616 (val 18446744073709551616 l)).length c') ∧ OB w' w.heap.size A' c' (digs 18446744073709551616 (val 18446744073709551616 l)) ∧ Below w.heap.size w w' := by
 obtain ⟨i0, hi, hz0, hz1, hz2⟩ := info_parts info64
 have ht := h.trim
 obtain ⟨n, _, e⟩ := h.2.trim
 have hcap := ht.cap
 obtain ⟨d, hd⟩ : ∃ d, digs 18446744073709551616 (val 18446744073709551616 l) = d := ⟨_, rfl⟩
 have Htr := Lib.hid (trim_any P A c l w h)
 rw [hd] at ht hcap Htr ⊢
 obtain ⟨h1, h2, h3⟩ := hcap
 clear hd e
 go_enter Tryz.func205, Tryz.ntmps205
 go_wp2_with fail
 refine Htr.out.mono ?_
 rintro e w1 ⟨rfl, rfl⟩
 go_wp2_with (at_builtin; refine wpList_append_rs _ rfl _ _ 106 rfl w.heap.size 139 i0 (.int .u64 0) 1 8 Tryz.underlying106 hi hz0 hz1 hz2 rfl (by decide) _ 0 [] rfl (World.ownsRow_nil _ _ _ _) P A d.length c (nts d) rfl ht.1 (oneCell_nts d) d.length (by omega) (by unfold maxLen; omega) (by omega) (Nat.le_refl _) ?_)
 intro A' c' w1 hown hgrow hblk
 go_wp2
 go_ret
 exact ⟨A', c', rfl, OB.of_own (by simpa using hown) ht.2, (Below.refl _ w).grown hgrow (Nat.le_refl _) (by intro k hk; simp [Value.ownBlock] at hk)⟩

end Go.Proofs.YtendnkpiidhogaaGreat

namespace Go.Proofs.YtendnkpiidhogaaGreat
open Go.RowKit

def cmpV (x y : Nat) : Int := if x < y then -1 else if x = y then 0 else 1
theorem cmpV_lt {x y : Nat} (h : x < y) : cmpV x y = -1 := by simp [cmpV, h]
theorem cmpV_gt {x y : Nat} (h : y < x) : cmpV x y = 1 := by simp [cmpV, show ¬ x < y by omega, show ¬ x = y by omega]
theorem cmpV_eq (x : Nat) : cmpV x x = 0 := by simp [cmpV]
def CmpAt (l m : List Nat) (k : Nat) (i : Int) : Prop := k ≤ l.length ∧ l.drop k = m.drop k ∧ ((k = 0 ∧ i = -1) ∨ ∃ j : Nat, k = j + 1 ∧ i = (j : Int))
theorem CmpAt.start {l m : List Nat} (h : l.length = m.length) : CmpAt l m l.length ((l.length : Int) - 1) := by
 refine ⟨Nat.le_refl _, by rw [List.drop_length, h, List.drop_length], ?_⟩
 rcases hl : l.length with _ | n
 · exact .inl ⟨rfl, by simp⟩
 · exact .inr ⟨n, rfl, by omega⟩
theorem CmpAt.step {l m : List Nat} {j : Nat} {i : Int} (h : CmpAt l m (j + 1) i) (hl : l.length = m.length) (he : dg l j = dg m j) : CmpAt l m j ((j : Int) - 1) := by
 obtain ⟨h1, h2, _⟩ := h
 refine ⟨by omega, ?_, ?_⟩
 · rw [List.drop_eq_getElem_cons (by omega : j < l.length), List.drop_eq_getElem_cons (by omega : j < m.length), h2]
   rw [dg, dg, getD_eq' (by omega), getD_eq' (by omega)] at he
   rw [he]
 · rcases j with _ | j
   · exact .inl ⟨rfl, by simp⟩
   · exact .inr ⟨j, rfl, by omega⟩
theorem CmpAt.done {l m : List Nat} {i : Int} (h : CmpAt l m 0 i) : l = m := by simpa using h.2.1
theorem CmpAt.lt {B : Nat} {l m : List Nat} {j : Nat} {i : Int} (h : CmpAt l m (j + 1) i) (hl : l.length = m.length) (hB : ∀ x ∈ l, x < B) (hd : dg l j < dg m j) : val B l < val B m := by
 obtain ⟨h1, h2, _⟩ := h
 refine val_lt_of hB hl (i := j) (by omega) h2 ?_
 rwa [dg, dg, getD_eq' (by omega), getD_eq' (by omega)] at hd
theorem CmpAt.gt {B : Nat} {l m : List Nat} {j : Nat} {i : Int} (h : CmpAt l m (j + 1) i) (hl : l.length = m.length) (hB : ∀ x ∈ m, x < B) (hd : dg m j < dg l j) : val B m < val B l := by
 obtain ⟨h1, h2, _⟩ := h
 refine val_lt_of hB hl.symm (i := j) (by omega) h2.symm ?_
 rwa [dg, dg, getD_eq' (by omega), getD_eq' (by omega)] at hd

set_option maxHeartbeats 1000000 in
theorem cmp_any (P P' : Nat → Prop) (A A' : Option Addr) (c c' : Nat) (a b : List Nat) (w : World) (h : RN w P A c a) (h' : RN w P' A' c' b) :
 Calls Tryz.prog 128 #[.slice A a.length c, .slice A' b.length c'] w fun e w' => e = .returned (.int .i64 (cmpV (val 18446744073709551616 a) (val 18446744073709551616 b))) ∧ ∃ n, w' = w.drewN n := by
 have ta := Lib.hid (trim_any P A c a w h)
 have tb := Lib.hid (trim_any P' A' c' b w h')
 replace h := h.trim
 replace h' := h'.trim
 generalize val 18446744073709551616 a = x at *
 generalize val 18446744073709551616 b = y at *
 have hx := val_digs (B := 18446744073709551616) (by omega) x
 have hy := val_digs (B := 18446744073709551616) (by omega) y
 have bx := digs_lt (B := 18446744073709551616) (by omega) x
 have byy := digs_lt (B := 18446744073709551616) (by omega) y
 have hlt := lt_of_digs_length (B := 18446744073709551616) (m := x) (n := y) (by omega)
 have hgt := lt_of_digs_length (B := 18446744073709551616) (m := y) (n := x) (by omega)
 generalize digs 18446744073709551616 x = l at *
 generalize digs 18446744073709551616 y = m at *
 obtain ⟨h1, h2, h3⟩ := h.cap
 obtain ⟨g1, g2, g3⟩ := h'.cap
 have Hx := Lib.hid hx
 have Hy := Lib.hid hy
 clear hx hy
 by_cases hl : l.length = m.length
 · have hs := CmpAt.start hl
   have Hl := Lib.hid hl
   have hl1 : ((l.length : Int) != (m.length : Int)) = false := by simp [hl]
   clear hl hlt hgt
   have Hs := Lib.hid hs
   clear hs
   go_enter Tryz.func128, Tryz.ntmps128
   go_wp2_with fail
   refine ta.out.mono ?_
   rintro e w1 ⟨rfl, rfl⟩
   go_wp2_with fail
   refine tb.out.mono ?_
   rintro e w1 ⟨rfl, rfl⟩
   go_wp2
   go_loopw [5] (fun i wr => ∃ (k n : Nat) (z : Int), CmpAt l m k z ∧ i = .int .i64 z ∧ wr = w.drewN n) (fun i _ => (intOf i + 1).toNat)
   case atStart => exact ⟨l.length, 0, _, Hs.out, rfl, rfl⟩
   case round =>
    obtain ⟨k, n, z, hk, rfl, rfl⟩ := hrel
    obtain ⟨hk1, hk2, ⟨rfl, rfl⟩ | ⟨j, rfl, rfl⟩⟩ := hk
    · have he : l = m := by simpa using hk2
      have hxy : x = y := by rw [← Hx.out, ← Hy.out, he]
      have hc := Lib.hid (show cmpV x y = 0 by rw [hxy]; exact cmpV_eq y)
      clear he hxy hk2
      go_wp2
      go_ret
      rw [hc.out]
      exact ⟨rfl, n, rfl⟩
    · have hlm := Hl.out
      obtain ⟨ad, rfl, _, q1⟩ := h.at_ (i := j) (by omega)
      obtain ⟨ae, rfl, _, q2⟩ := h'.at_ (i := j) (by omega)
      have hj1 : (j : Int) < (l.length : Int) := by omega
      have hj2 : (j : Int) < (m.length : Int) := by omega
      have hkk : CmpAt l m (j + 1) (j : Int) := ⟨hk1, hk2, .inr ⟨j, rfl, rfl⟩⟩
      rcases Nat.lt_trichotomy (dg l j) (dg m j) with hd | hd | hd
      · have hv := hkk.lt hlm bx hd
        rw [Hx.out, Hy.out] at hv
        have hc := Lib.hid (cmpV_lt hv)
        have hd0 : (((dg l j : Nat) : Int) != ((dg m j : Nat) : Int)) = true := neB (by omega)
        have hd1 : decide (dg l j < dg m j) = true := by simpa using hd
        clear hkk hk1 hk2 hlm hd hv
        go_wp2
        go_quiet (fail)
        go_wp2
        go_quiet (fail)
        go_wp2
        go_ret
        rw [hc.out]
        exact ⟨rfl, by first | exact dr3 _ _ _ _ | exact dr1 _ _⟩
      · have hkk' := hkk.step hlm hd
        rw [← hd] at q2
        clear hkk hk1 hk2 hlm hd
        go_wp2
        go_quiet (fail)
        go_wp2
        go_roundw
        case rel => exact ⟨j, _, _, hkk', rfl, by first | rfl | exact drewN_add _ _ _⟩
        case measure => simp [intOf]
      · have hv := hkk.gt hlm byy hd
        rw [Hx.out, Hy.out] at hv
        have hc := Lib.hid (cmpV_gt hv)
        have hd0 : (((dg l j : Nat) : Int) != ((dg m j : Nat) : Int)) = true := neB (by omega)
        have hd1 : decide (dg l j < dg m j) = false := by simp; omega
        clear hkk hk1 hk2 hlm hd hv
        go_wp2
        go_quiet (fail)
        go_wp2
        go_quiet (fail)
        go_wp2
        go_ret
        rw [hc.out]
        exact ⟨rfl, by first | exact dr3 _ _ _ _ | exact dr1 _ _⟩
 · have hl1 : ((l.length : Int) != (m.length : Int)) = true := neB (by omega)
   rcases Nat.lt_or_ge l.length m.length with hd | hd
   · have hc := Lib.hid (cmpV_lt (hlt hd))
     clear hl hlt hgt
     go_enter Tryz.func128, Tryz.ntmps128
     go_wp2_with fail
     refine ta.out.mono ?_
     rintro e w1 ⟨rfl, rfl⟩
     go_wp2_with fail
     refine tb.out.mono ?_
     rintro e w1 ⟨rfl, rfl⟩
     go_wp2
     go_ret
     rw [hc.out]
     exact ⟨rfl, 0, rfl⟩
   · have hc := Lib.hid (cmpV_gt (hgt (by omega)))
     clear hl hlt hgt
     go_enter Tryz.func128, Tryz.ntmps128
     go_wp2_with fail
     refine ta.out.mono ?_
     rintro e w1 ⟨rfl, rfl⟩
     go_wp2_with fail
     refine tb.out.mono ?_
     rintro e w1 ⟨rfl, rfl⟩
     go_wp2
     go_ret
     rw [hc.out]
     exact ⟨rfl, 0, rfl⟩
end Go.Proofs.YtendnkpiidhogaaGreat

namespace Go.Proofs.YtendnkpiidhogaaGreat
open Go.RowKit

theorem Dig.set {l : List Nat} (h : Dig l) (i x : Nat) (hx : x < 4294967296) : Dig (l.set i x) := set_lt h hx
theorem Dig.dgLt {l : List Nat} (h : Dig l) (i : Nat) : dg l i < 4294967296 := getD_lt (by omega) h i
theorem Dig.digs (x : Nat) : Dig (Go.Proofs.YtendnkpiidhogaaGreat.digs 4294967296 x) := digs_lt (by omega) x

def FromAt (l o : List Nat) (i : Nat) : Prop := o.length = 2 * l.length ∧ Dig o ∧ val 4294967296 (o.take (2 * i)) = val 18446744073709551616 (l.take i)
theorem pow_two_mul (i : Nat) : 4294967296 ^ (2 * i) = 18446744073709551616 ^ i := by
 rw [Nat.pow_mul]
theorem FromAt.zero (l : List Nat) : FromAt l (List.replicate (2 * l.length) 0) 0 := ⟨by simp, by intro x hx; simp at hx; omega, by simp⟩
theorem FromAt.step {l o : List Nat} {i p q : Nat} (h : FromAt l o i) (hi : i < l.length) (hp : p < 4294967296) (hq : q < 4294967296) (he : p + 4294967296 * q = dg l i) : FromAt l ((o.set (2 * i) p).set (2 * i + 1) q) (i + 1) := by
 obtain ⟨h1, h2, h3⟩ := h
 refine ⟨by simpa using h1, (h2.set _ _ hp).set _ _ hq, ?_⟩
 rw [show 2 * (i + 1) = 2 * i + 1 + 1 by omega, val_take_set _ (by simp; omega), val_take_set _ (by omega), h3, val_take_getD, ← he, Nat.pow_succ, pow_two_mul]
 simp only [Nat.mul_add, Nat.mul_assoc, Nat.add_assoc]
theorem FromAt.fin {l o : List Nat} (h : FromAt l o l.length) : val 4294967296 o = val 18446744073709551616 l := by
 obtain ⟨h1, _, h3⟩ := h
 rwa [List.take_of_length_le (by omega), List.take_length] at h3

theorem take_succ_dg {l : List Nat} {k : Nat} (h : k < l.length) : l.take (k + 1) = l.take k ++ [dg l k] := by
 rw [List.take_succ_eq_append_getElem h, dg, getD_eq' h]

end Go.Proofs.YtendnkpiidhogaaGreat

namespace Go.Proofs.YtendnkpiidhogaaGreat
open Go.RowKit

def SameTo (l m : List Nat) (k : Nat) : Prop := ∀ j, j < k → dg l j = dg m j
theorem SameTo.step {l m : List Nat} {k : Nat} (h : SameTo l m k) (he : dg l k = dg m k) : SameTo l m (k + 1) := fun j hj => by
 rcases Nat.lt_or_ge j k with h1 | h1
 · exact h j h1
 · obtain rfl : j = k := by omega
   exact he
theorem SameTo.fin {l m : List Nat} (h : SameTo l m l.length) (hl : l.length = m.length) : l = m := by
 apply List.ext_getElem hl
 intro i h1 h2
 have := h i h1
 rwa [dg, dg, getD_eq' h1, getD_eq' h2] at this

def RL (w : World) (P : Nat → Prop) (A : Option Addr) (c : Nat) (l : List Nat) : Prop := RS w P 1 A l.length c (nts l) ∧ (∀ x ∈ l, x < 18446744073709551616) ∧ l.length ≤ 17592186044416
theorem RL.take {w : World} {P : Nat → Prop} {A : Option Addr} {c : Nat} {l : List Nat} (h : RL w P A c l) {n : Nat} (hn : n ≤ 1000000) (hn' : n ≤ l.length) : RN w P A c (l.take n) := by
 have := h.1.pre hn'
 rw [Nat.mul_one, nts_take] at this
 refine ⟨by rw [List.length_take, Nat.min_eq_left hn']; exact this, fun x hx => h.2.1 x (List.mem_of_mem_take hx), by rw [List.length_take]; omega⟩
theorem RL.below {w w' : World} {P : Nat → Prop} {A : Option Addr} {c B : Nat} {l : List Nat} (h : RL w P A c l) (hb : Below B w w') (hB : ∀ b, P b → b < B) : RL w' P A c l := ⟨h.1.below hb hB, h.2⟩

end Go.Proofs.YtendnkpiidhogaaGreat

namespace Go.Proofs.YtendnkpiidhogaaGreat

def GuessAt (b u u1 y1 y0 q r : Nat) : Prop := q * y1 + r = u ∧ (u * b + u1) / (y1 * b + y0) ≤ q ∧ q ≤ b + 1
structure GuessOk (b u u1 y1 y0 : Nat) : Prop where
 hb : 2 ≤ b
 hy : b ≤ 2 * y1
 hy1 : y1 < b
 hy0 : y0 < b
 hu1 : u1 < b
 hu : u < y1 * b + y0
section
variable {b u u1 y1 y0 q r : Nat}
theorem GuessOk.start (h : GuessOk b u u1 y1 y0) : GuessAt b u u1 y1 y0 (u / y1) (u - u / y1 * y1) ∧ u - u / y1 * y1 < b ∧ u / y1 * y1 ≤ u := by
 obtain ⟨hb, hy, hy1, hy0, hu1, hu⟩ := h
 have h1 : u / y1 * y1 ≤ u := Nat.div_mul_le_self u y1
 have h2 : u < u / y1 * y1 + y1 := Nat.lt_div_mul_add (by omega)
 generalize hG : u / y1 = G at *
 have h3 : G ≤ b + 1 := by
  rcases Nat.lt_or_ge (b + 1) G with h | h
  · have h6 : (b + 2) * y1 ≤ G * y1 := Nat.mul_le_mul_right _ h
    rw [Nat.add_mul, Nat.mul_comm b] at h6
    omega
  · exact h
 have h4 : (u * b + u1) / (y1 * b + y0) ≤ G := by
  apply Nat.le_of_lt_succ
  apply Nat.div_lt_of_lt_mul
  have h5 : (y1 * b + y0) * (G + 1) = (G * y1 + y1) * b + y0 * (G + 1) := by
   rw [Nat.mul_add, Nat.add_mul, Nat.mul_one, Nat.mul_add, Nat.mul_one, Nat.add_mul, Nat.mul_right_comm, Nat.mul_comm y1 G]
   omega
  have h7 : (u + 1) * b ≤ (G * y1 + y1) * b := Nat.mul_le_mul_right _ h2
  rw [Nat.add_mul, Nat.one_mul] at h7
  show _ < _ * (G + 1)
  rw [h5]
  omega
 unfold GuessAt
 generalize G * y1 = p at *
 exact ⟨⟨by omega, h4, h3⟩, by omega, h1⟩
theorem GuessOk.quo_lt (h : GuessOk b u u1 y1 y0) : (u * b + u1) / (y1 * b + y0) < b := by
 obtain ⟨hb, hy, hy1, hy0, hu1, hu⟩ := h
 apply Nat.div_lt_of_lt_mul
 have h1 : (u + 1) * b ≤ (y1 * b + y0) * b := Nat.mul_le_mul_right _ hu
 rw [Nat.add_mul, Nat.one_mul] at h1
 omega
theorem GuessAt.le (h : GuessOk b u u1 y1 y0) (hg : GuessAt b u u1 y1 y0 q r) (hd : q * y0 ≤ b * r + u1) : q = (u * b + u1) / (y1 * b + y0) := by
 obtain ⟨h1, h2, h3⟩ := hg
 have hD : 0 < y1 * b + y0 := by have := Nat.mul_pos (show 0 < y1 by have := h.hy; have := h.hb; omega) (show 0 < b by have := h.hb; omega); omega
 refine Nat.le_antisymm ((Nat.le_div_iff_mul_le hD).2 ?_) h2
 have e : q * (y1 * b + y0) = q * y1 * b + q * y0 := by rw [Nat.mul_add, Nat.mul_assoc]
 have e2 : u * b = q * y1 * b + b * r := by rw [← h1, Nat.add_mul, Nat.mul_comm r]
 omega
theorem GuessAt.gt (h : GuessOk b u u1 y1 y0) (hg : GuessAt b u u1 y1 y0 q r) (hd : b ≤ q ∨ b * r + u1 < q * y0) : (u * b + u1) / (y1 * b + y0) < q := by
 obtain ⟨h1, h2, h3⟩ := hg
 rcases hd with hd | hd
 · have := h.quo_lt; omega
 · apply Nat.div_lt_of_lt_mul
   have e : (y1 * b + y0) * q = q * y1 * b + q * y0 := by rw [Nat.mul_comm, Nat.mul_add, Nat.mul_assoc]
   have e2 : u * b = q * y1 * b + b * r := by rw [← h1, Nat.add_mul, Nat.mul_comm r]
   omega
theorem GuessAt.step (h : GuessOk b u u1 y1 y0) (hg : GuessAt b u u1 y1 y0 q r) (hd : b ≤ q ∨ b * r + u1 < q * y0) : GuessAt b u u1 y1 y0 (q - 1) (r + y1) ∧ 1 ≤ q := by
 have h4 := hg.gt h hd
 obtain ⟨h1, h2, h3⟩ := hg
 obtain ⟨n, rfl⟩ : ∃ n, q = n + 1 := ⟨q - 1, by have := Nat.zero_le ((u * b + u1) / (y1 * b + y0)); omega⟩
 refine ⟨⟨?_, by rw [Nat.add_sub_cancel]; exact Nat.le_of_lt_succ h4, by omega⟩, by omega⟩
 rw [Nat.add_mul] at h1
 rw [Nat.add_sub_cancel]
 omega
theorem GuessAt.out (h : GuessOk b u u1 y1 y0) (hg : GuessAt b u u1 y1 y0 q r) (hq : q ≤ b) (hr : b ≤ r) : q = (u * b + u1) / (y1 * b + y0) := by
 refine hg.le h ?_
 have h1 : q * y0 ≤ b * b := Nat.mul_le_mul hq (by have := h.hy0; omega)
 have h2 : b * b ≤ b * r := Nat.mul_le_mul_left _ hr
 omega
end
end Go.Proofs.YtendnkpiidhogaaGreat

namespace Go.Proofs.YtendnkpiidhogaaGreat
open Go.RowKit

theorem or_shift (i a b : Nat) (h : b < 2 ^ i) : a * 2 ^ i ||| b = a * 2 ^ i + b := by
 rw [Nat.mul_comm, Nat.two_pow_add_eq_or_of_lt h]
end Go.Proofs.YtendnkpiidhogaaGreat

namespace Go.Proofs.YtendnkpiidhogaaGreat
open Go.RowKit

def Below1 (k : Nat) (i : Int) : Prop := (k = 0 ∧ i = -1) ∨ ∃ j : Nat, k = j + 1 ∧ i = (j : Int)
theorem Below1.start (n : Nat) : Below1 n ((n : Int) - 1) := by
 rcases n with _ | n
 · exact .inl ⟨rfl, by simp⟩
 · exact .inr ⟨n, rfl, by omega⟩
def SmallAt (B : Nat) (l o : List Nat) (d k r : Nat) : Prop := o.length = l.length ∧ val B (l.drop k) = d * val B (o.drop k) + r
theorem SmallAt.start {B : Nat} {l o : List Nat} (d : Nat) (h : o.length = l.length) : SmallAt B l o d l.length 0 := by
 refine ⟨h, ?_⟩
 rw [List.drop_length, ← h, List.drop_length]
 simp
theorem drop_dg {l : List Nat} {k : Nat} (h : k < l.length) : l.drop k = dg l k :: l.drop (k + 1) := by
 rw [List.drop_eq_getElem_cons h, dg, getD_eq' h]
theorem drop_set {l : List Nat} {k x : Nat} (h : k < l.length) : (l.set k x).drop k = x :: l.drop (k + 1) := by
 rw [List.drop_set, if_neg (Nat.lt_irrefl _), drop_dg h, Nat.sub_self, List.set_cons_zero]
theorem SmallAt.step {B : Nat} {l o : List Nat} {d k r q r' : Nat} (h : SmallAt B l o d (k + 1) r) (hk : k < l.length) (he : r * B + dg l k = d * q + r') : SmallAt B l (o.set k q) d k r' := by
 obtain ⟨h1, h2⟩ := h
 refine ⟨by simpa using h1, ?_⟩
 rw [drop_dg hk, drop_set (by omega), val_cons, val_cons, h2]
 have e : B * (d * val B (o.drop (k + 1)) + r) = d * (B * val B (o.drop (k + 1))) + r * B := by
  rw [Nat.mul_add, Nat.mul_left_comm, Nat.mul_comm B r]
 rw [e, Nat.mul_add]
 omega
theorem SmallAt.fin {B : Nat} {l o : List Nat} {d r : Nat} (h : SmallAt B l o d 0 r) (hr : r < d) : val B o = val B l / d ∧ r = val B l % d := by
 have := h.2
 simp only [List.drop_zero] at this
 rw [this]
 refine ⟨?_, ?_⟩
 · rw [Nat.mul_add_div (by omega), Nat.div_eq_of_lt hr, Nat.add_zero]
 · rw [Nat.mul_add_mod, Nat.mod_eq_of_lt hr]

set_option maxRecDepth 100000 in
set_option maxHeartbeats 1000000 in
theorem quo_lt (P P' : Nat → Prop) (A A' : Option Addr) (c c' : Nat) (a b : List Nat) (w : World) (h : RN w P A c a) (h' : RN w P' A' c' b) (hlt : val 18446744073709551616 a < val 18446744073709551616 b) :
 Calls Tryz.prog 169 #[.slice A a.length c, .slice A' b.length c'] w fun e w' => ∃ A1 c1, e = .returned (.tuple #[.slice none 0 0, .slice A1 (digs 18446744073709551616 (val 18446744073709551616 a)).length c1, .bool true]) ∧
  OB w' w.heap.size A1 c1 (digs 18446744073709551616 (val 18446744073709551616 a)) ∧ Below w.heap.size w w' := by
 have ta := Lib.hid (trim_any P A c a w h)
 have tb := Lib.hid (trim_any P' A' c' b w h')
 have tc := cmp_any P P' A A' c c' _ _ w h.trim h'.trim
 have tm := fun n => made_any P A c _ (World.drewN w n) (h.trim.drewN n)
 rw [val_digs (by omega), val_digs (by omega), cmpV_lt hlt] at tc
 rw [val_digs (by omega)] at tm
 have Tc := Lib.hid tc
 have Tm := Lib.hid tm
 have hne : 0 < (digs 18446744073709551616 (val 18446744073709551616 b)).length := by
  rw [digs_pos (by omega) (by omega)]; simp
 clear tc tm h h' hlt
 generalize digs 18446744073709551616 (val 18446744073709551616 a) = l at *
 generalize digs 18446744073709551616 (val 18446744073709551616 b) = m at *
 have hne' : ((m.length : Int) == 0) = false := eqB (by omega)
 clear hne
 go_enter Tryz.func169, Tryz.ntmps169
 go_wp2_with fail
 refine ta.out.mono ?_
 rintro e w1 ⟨rfl, rfl⟩
 go_wp2_with fail
 refine tb.out.mono ?_
 rintro e w1 ⟨rfl, rfl⟩
 go_wp2_with fail
 refine Tc.out.mono ?_
 rintro e w1 ⟨rfl, n, rfl⟩
 go_wp2_with fail
 refine (Tm.out n).mono ?_
 rintro e w1 ⟨A1, c1, rfl, hO, hB⟩
 go_wp2
 go_ret3
 exact ⟨A1, c1, rfl, hO, ⟨hB.os, hB.tape, hB.output, hB.size, hB.block⟩⟩

end Go.Proofs.YtendnkpiidhogaaGreat

namespace Go.Proofs.YtendnkpiidhogaaGreat

def TakesAt (B : Nat) (L0 y : List Nat) (q f : Nat) (L : List Nat) (j c b : Nat) : Prop :=
 L.length = L0.length ∧ val B L + B ^ f * (q * val B (y.take j)) = val B L0 + B ^ (f + j) * (c + b) ∧ ∀ i, f + j ≤ i → dg L i = dg L0 i
theorem TakesAt.zero (B : Nat) (L y : List Nat) (q f : Nat) : TakesAt B L y q f L 0 0 0 := by simp [TakesAt]
theorem TakesAt.step {B : Nat} {L0 y L : List Nat} {q f j c b lo c' x b' : Nat} (h : TakesAt B L0 y q f L j c b) (hL : f + j < L.length) (h1 : lo + B * c' = q * dg y j + c) (h2 : x + lo + b = dg L (f + j) + B * b') :
 TakesAt B L0 y q f (L.set (f + j) x) (j + 1) c' b' := by
 obtain ⟨g1, g2, g3⟩ := h
 refine ⟨by simpa using g1, ?_, fun i hi => by rw [getD_set_ne (by omega)]; exact g3 i (by omega)⟩
 have hs := val_set' B hL x
 rw [val_take_getD, Nat.mul_add, Nat.mul_add, ← Nat.add_assoc f j 1, Nat.pow_succ]
 have e1 : B ^ f * (q * (B ^ j * dg y j)) = B ^ (f + j) * (q * dg y j) := by
  rw [Nat.pow_add, Nat.mul_left_comm q, ← Nat.mul_assoc]
 have e2 : B ^ (f + j) * (lo + B * c') = B ^ (f + j) * (q * dg y j + c) := by rw [h1]
 have e3 : B ^ (f + j) * (x + lo + b) = B ^ (f + j) * (dg L (f + j) + B * b') := by rw [h2]
 rw [e1, Nat.mul_assoc, Nat.mul_add]
 rw [Nat.mul_add] at g2
 simp only [Nat.mul_add] at e2 e3 ⊢
 generalize B ^ (f + j) * (B * c') = p1 at *
 generalize B ^ (f + j) * (B * b') = p2 at *
 generalize B ^ (f + j) * lo = p3 at *
 generalize B ^ (f + j) * (q * dg y j) = p4 at *
 generalize B ^ (f + j) * c = p5 at *
 generalize B ^ (f + j) * b = p6 at *
 generalize B ^ (f + j) * x = p7 at *
 generalize B ^ (f + j) * dg L (f + j) = p8 at *
 generalize B ^ f * (q * val B (y.take j)) = p9 at *
 generalize val B (L.set (f + j) x) = p10 at *
 generalize val B L = p11 at *
 generalize val B L0 = p12 at *
 omega
theorem TakesAt.fin {B : Nat} {L0 y L : List Nat} {q f n c b x b' : Nat} (h : TakesAt B L0 y q f L n c b) (hn : y.length = n) (hL : f + n < L.length) (h2 : x + c + b = dg L (f + n) + B * b') :
 (L.set (f + n) x).length = L0.length ∧ val B (L.set (f + n) x) + B ^ f * (q * val B y) = val B L0 + B ^ (f + n + 1) * b' ∧ ∀ i, f + n + 1 ≤ i → dg (L.set (f + n) x) i = dg L0 i := by
 obtain ⟨g1, g2, g3⟩ := h
 refine ⟨by simpa using g1, ?_, fun i hi => by rw [getD_set_ne (by omega)]; exact g3 i (by omega)⟩
 rw [List.take_of_length_le (by omega)] at g2
 have hs := val_set' B hL x
 have e3 : B ^ (f + n) * (x + c + b) = B ^ (f + n) * (dg L (f + n) + B * b') := by rw [h2]
 rw [Nat.pow_succ, Nat.mul_assoc]
 simp only [Nat.mul_add] at e3 g2
 generalize B ^ (f + n) * (B * b') = p2 at *
 generalize B ^ (f + n) * c = p5 at *
 generalize B ^ (f + n) * b = p6 at *
 generalize B ^ (f + n) * x = p7 at *
 generalize B ^ (f + n) * dg L (f + n) = p8 at *
 generalize B ^ f * (q * val B y) = p9 at *
 generalize val B (L.set (f + n) x) = p10 at *
 generalize val B L = p11 at *
 generalize val B L0 = p12 at *
 omega
def GivesAt (B : Nat) (L0 y : List Nat) (f : Nat) (L : List Nat) (j c : Nat) : Prop :=
 L.length = L0.length ∧ val B L + B ^ (f + j) * c = val B L0 + B ^ f * val B (y.take j) ∧ ∀ i, f + j ≤ i → dg L i = dg L0 i
theorem GivesAt.zero (B : Nat) (L y : List Nat) (f : Nat) : GivesAt B L y f L 0 0 := by simp [GivesAt]
theorem GivesAt.step {B : Nat} {L0 y L : List Nat} {f j c x c' : Nat} (h : GivesAt B L0 y f L j c) (hL : f + j < L.length) (h1 : x + B * c' = dg L (f + j) + dg y j + c) : GivesAt B L0 y f (L.set (f + j) x) (j + 1) c' := by
 obtain ⟨g1, g2, g3⟩ := h
 refine ⟨by simpa using g1, ?_, fun i hi => by rw [getD_set_ne (by omega)]; exact g3 i (by omega)⟩
 have hs := val_set' B hL x
 rw [val_take_getD, Nat.mul_add, ← Nat.mul_assoc, ← Nat.pow_add, ← Nat.add_assoc f j 1, Nat.pow_succ, Nat.mul_assoc]
 have e2 : B ^ (f + j) * (x + B * c') = B ^ (f + j) * (dg L (f + j) + dg y j + c) := by rw [h1]
 simp only [Nat.mul_add] at e2 ⊢
 generalize B ^ (f + j) * (B * c') = p1 at *
 generalize B ^ (f + j) * dg y j = p4 at *
 generalize B ^ (f + j) * c = p5 at *
 generalize B ^ (f + j) * x = p7 at *
 generalize B ^ (f + j) * dg L (f + j) = p8 at *
 generalize B ^ f * val B (y.take j) = p9 at *
 generalize val B (L.set (f + j) x) = p10 at *
 generalize val B L = p11 at *
 generalize val B L0 = p12 at *
 omega
theorem GivesAt.fin {B : Nat} {L0 y L : List Nat} {f n c x c' : Nat} (h : GivesAt B L0 y f L n c) (hn : y.length = n) (hL : f + n < L.length) (h1 : x + B * c' = dg L (f + n) + c) :
 (L.set (f + n) x).length = L0.length ∧ val B (L.set (f + n) x) + B ^ (f + n + 1) * c' = val B L0 + B ^ f * val B y ∧ ∀ i, f + n + 1 ≤ i → dg (L.set (f + n) x) i = dg L0 i := by
 obtain ⟨g1, g2, g3⟩ := h
 refine ⟨by simpa using g1, ?_, fun i hi => by rw [getD_set_ne (by omega)]; exact g3 i (by omega)⟩
 rw [List.take_of_length_le (by omega)] at g2
 have hs := val_set' B hL x
 have e3 : B ^ (f + n) * (x + B * c') = B ^ (f + n) * (dg L (f + n) + c) := by rw [h1]
 rw [Nat.pow_succ, Nat.mul_assoc]
 simp only [Nat.mul_add] at e3
 generalize B ^ (f + n) * (B * c') = p2 at *
 generalize B ^ (f + n) * c = p5 at *
 generalize B ^ (f + n) * x = p7 at *
 generalize B ^ (f + n) * dg L (f + n) = p8 at *
 generalize B ^ f * val B y = p9 at *
 generalize val B (L.set (f + n) x) = p10 at *
 generalize val B L = p11 at *
 generalize val B L0 = p12 at *
 omega
theorem val_lt_of_zero {B : Nat} (hB : 0 < B) {L : List Nat} (h : ∀ x ∈ L, x < B) {m : Nat} (hz : ∀ i, m ≤ i → dg L i = 0) : val B L < B ^ m := by
 rcases Nat.lt_or_ge L.length m with h1 | h1
 · exact Nat.lt_of_lt_of_le (val_lt h) (Nat.pow_le_pow_right hB (by omega))
 · have e := val_take_drop B L h1
   have hd : val B (L.drop m) = 0 := by
    apply val_zeros
    intro x hx
    obtain ⟨i, hi, rfl⟩ := List.getElem_of_mem hx
    rw [List.getElem_drop]
    have := hz (m + i) (by omega)
    rwa [dg, getD_eq' (by simp at hi; omega)] at this
   rw [hd, Nat.mul_zero, Nat.add_zero] at e
   rw [e]
   have := val_lt (B := B) (l := L.take m) fun x hx => h x (List.mem_of_mem_take hx)
   rwa [List.length_take, Nat.min_eq_left h1] at this
theorem dg_of_val {B : Nat} {L : List Nat} (h : ∀ x ∈ L, x < B) (i : Nat) (hi : i < L.length) : dg L i = val B L / B ^ i % B := by
 have hB : 0 < B := Nat.lt_of_le_of_lt (Nat.zero_le _) (h _ (List.getElem_mem hi))
 have e := val_take_drop B L (Nat.le_of_lt hi)
 have h2 := val_lt (B := B) (l := L.take i) fun x hx => h x (List.mem_of_mem_take hx)
 rw [List.length_take, Nat.min_eq_left (by omega)] at h2
 rw [List.drop_eq_getElem_cons hi, val_cons] at e
 rw [e, Nat.add_mul_div_left _ _ (Nat.pow_pos hB), Nat.div_eq_of_lt h2, Nat.zero_add, Nat.add_mul_mod_self_left, dg, getD_eq' hi, Nat.mod_eq_of_lt (h _ (List.getElem_mem hi))]
theorem zero_of_val_lt {B : Nat} {L : List Nat} (h : ∀ x ∈ L, x < B) {m : Nat} (hm : val B L < B ^ m) {i : Nat} (hi : m ≤ i) : dg L i = 0 := by
 rcases Nat.lt_or_ge i L.length with h1 | h1
 · have hB : 0 < B := Nat.lt_of_le_of_lt (Nat.zero_le _) (h _ (List.getElem_mem h1))
   rw [dg_of_val h i h1, Nat.div_eq_of_lt (Nat.lt_of_lt_of_le hm (Nat.pow_le_pow_right hB hi)), Nat.zero_mod]
 · rw [dg, List.getD_eq_getElem?_getD, List.getElem?_eq_none h1]; rfl
end Go.Proofs.YtendnkpiidhogaaGreat

namespace Go.Proofs.YtendnkpiidhogaaGreat
open Go.RowKit

def Guessed (u u1 y1 y0 G : Nat) : Prop := G < 18446744073709551616 ∧ ∀ q, q < 18446744073709551616 → q * (y1 * 18446744073709551616 + y0) ≤ u * 18446744073709551616 + u1 → q ≤ G
theorem Guessed.top (u u1 y1 y0 : Nat) : Guessed u u1 y1 y0 18446744073709551615 := ⟨by omega, fun q hq _ => by omega⟩
end Go.Proofs.YtendnkpiidhogaaGreat

namespace Go.Proofs.YtendnkpiidhogaaGreat
open Go.RowKit

def Row (w : World) (g : Nat) (l : List Nat) : Prop := ∃ cur, w.heap[g]? = some (.cells cur 139 (0, 0)) ∧ ∀ (j : Nat) u, (nts l)[j]? = some u → cur[j]? = some u
section
variable {w w' w'' : World} {g f : Nat} {l : List Nat} {p : Addr}
theorem add_off (g f j : Nat) : (⟨g, f, none⟩ : Addr).add j = ⟨g, f + j, none⟩ := by
 rcases Nat.eq_zero_or_pos j with h | h
 · subst h; rfl
 · simp [Addr.add, Nat.pos_iff_ne_zero.1 h]
theorem Row.cell (h : Row w g l) (hp : p = ⟨g, f, none⟩) {j : Nat} (hj : f + j < l.length) : w.cell? (p.add j) = some (.int .u64 (dg l (f + j) : Int)) := by
 obtain ⟨cur, h1, h2⟩ := h
 rw [hp, add_off, blk_cell h1, h2 _ _ (nts_get hj)]
theorem Row.free (h : Row w g l) (hp : p = ⟨g, f, none⟩) (j : Nat) : w.frozen? (p.add j) = false := by
 obtain ⟨cur, h1, h2⟩ := h
 rw [hp, add_off, blk_free h1]
theorem Row.set (h : Row w g l) (hp : p = ⟨g, f, none⟩) (j x : Nat) : Row (w.setCell (p.add j) (.int .u64 (x : Int))) g (l.set (f + j) x) := by
 obtain ⟨cur, h1, h2⟩ := h
 rw [hp, add_off]
 refine ⟨cur.setIfInBounds (f + j) (.int .u64 (x : Int)), by simp [World.setCell, Array.getElem?_modify, h1], fun i u hu => ?_⟩
 rw [nts, List.map_set, List.getElem?_set] at hu
 rw [Array.getElem?_setIfInBounds]
 by_cases e : f + j = i
 · rw [if_pos e] at hu ⊢
   split at hu
   · rename_i hl
     have := h2 i _ (nts_get (by rw [← e]; simpa using hl))
     have hi := (Array.getElem?_eq_some_iff.1 this).1
     rw [if_pos (by omega)]
     exact hu
   · cases hu
 · rw [if_neg e] at hu ⊢
   exact h2 i u hu
theorem Row.lt (h : Row w g l) : g < w.heap.size := by obtain ⟨cur, h1, h2⟩ := h; exact blk_lt h1
theorem Row.drewN (h : Row w g l) (n : Nat) : Row (w.drewN n) g l := h
theorem Row.of_heap (h : Row w g l) (he : w'.heap[g]? = w.heap[g]?) : Row w' g l := by
 obtain ⟨cur, h1, h2⟩ := h
 exact ⟨cur, he.trans h1, h2⟩
theorem Row.below {B : Nat} (h : Row w g l) (hb : Below B w w') (hg : g < B) : Row w' g l := h.of_heap (hb.block g hg)
theorem Row.ob (h : Row w g l) {base c : Nat} (hg : base ≤ g) (hl : Lim l) (hc : l.length ≤ c) (hc' : c ≤ maxLen) : OB w base (some ⟨g, 0, none⟩) c l := by
 obtain ⟨cur, h1, h2⟩ := h
 exact ⟨hl, hc, hc', fun _ => ⟨g, cur, rfl, hg, h1, h2⟩⟩
theorem OB.row {base c : Nat} {A : Option Addr} (h : OB w base A c l) (h0 : 0 < l.length) : ∃ g, A = some ⟨g, 0, none⟩ ∧ base ≤ g ∧ Row w g l := by
 obtain ⟨h1, h2, h3, h4⟩ := h
 obtain ⟨g, cur, e, hg, h5, h6⟩ := h4 h0
 exact ⟨g, e, hg, cur, h5, h6⟩
structure Only (g : Nat) (w w' : World) : Prop where
 os : w'.os = w.os
 tape : w'.tape = w.tape
 output : w'.output = w.output
 size : w'.heap.size = w.heap.size
 block : ∀ k, k ≠ g → w'.heap[k]? = w.heap[k]?
theorem Only.refl (g : Nat) (w : World) : Only g w w := ⟨rfl, rfl, rfl, rfl, fun _ _ => rfl⟩
theorem Only.trans (h : Only g w w') (k : Only g w' w'') : Only g w w'' := ⟨k.os.trans h.os, k.tape.trans h.tape, k.output.trans h.output, k.size.trans h.size, fun i hi => (k.block i hi).trans (h.block i hi)⟩
theorem Only.setCell (h : Only g w w') (hp : p = ⟨g, f, none⟩) (j : Nat) (v : Value) : Only g w (w'.setCell (p.add j) v) := by
 have e : (p.add j).block = g := by rw [hp, add_off]
 refine ⟨h.os, h.tape, h.output, ?_, fun k hk => (Below.heap_setCell _ _ _ _ (by rw [e]; exact hk)).trans (h.block k hk)⟩
 have : (w'.setCell (p.add j) v).heap.size = w'.heap.size := by unfold World.setCell; split <;> simp
 exact this.trans h.size
theorem Only.drewN (h : Only g w w') (n : Nat) : Only g w (w'.drewN n) := ⟨h.os, h.tape, h.output, h.size, h.block⟩
theorem Only.below {B : Nat} (h : Only g w w') (hB : B ≤ g) : Below B w w' := ⟨h.os, h.tape, h.output, Nat.le_of_eq h.size.symm, fun k hk => h.block k (by omega)⟩
theorem RN.only {P : Nat → Prop} {A : Option Addr} {c : Nat} (h : RN w P A c l) (ho : Only g w w') (hP : ∀ b, P b → b ≠ g) : RN w' P A c l := h.keep fun q hq => World.cell?_of_block (w := w) (ho.block q.block (hP _ hq))
theorem Row.only {g' : Nat} (h : Row w g' l) (ho : Only g w w') (hg : g' ≠ g) : Row w' g' l := h.of_heap (ho.block g' hg)
end
end Go.Proofs.YtendnkpiidhogaaGreat

namespace Go.Proofs.YtendnkpiidhogaaGreat

def FixAt (B V i n D : Nat) (L : List Nat) (g : Nat) (too : Bool) : Prop :=
 V / (B ^ i * D) ≤ g ∧ g < B ∧ (∀ j, i + n + 1 ≤ j → dg L j = 0) ∧ val B L + B ^ i * (g * D) = V + if too then B ^ (i + n + 1) else 0
section
variable {B V i n D g : Nat} {L L' : List Nat}
theorem FixAt.start {b : Nat} (hq : V / (B ^ i * D) ≤ g) (hg : g < B) (hz : ∀ j, i + n + 1 ≤ j → dg L' j = dg L j) (hz0 : ∀ j, i + n + 1 ≤ j → dg L j = 0) (he : val B L' + B ^ i * (g * D) = V + B ^ (i + n + 1) * b) (hL' : ∀ x ∈ L', x < B) (hB : 2 ≤ B) (hD : D < B ^ n) :
 FixAt B V i n D L' g (decide (0 < b)) := by
 have hz' : ∀ j, i + n + 1 ≤ j → dg L' j = 0 := fun j hj => (hz j hj).trans (hz0 j hj)
 refine ⟨hq, hg, hz', ?_⟩
 have h1 := val_lt_of_zero (by omega) hL' hz'
 rw [he]
 have h2 : B ^ i * (g * D) < B ^ (i + n + 1) := by
  rw [Nat.add_assoc, Nat.pow_add, Nat.pow_succ, Nat.mul_comm (B ^ n)]
  refine Nat.mul_lt_mul_of_pos_left ?_ (Nat.pow_pos (by omega))
  exact Nat.lt_of_le_of_lt (Nat.mul_le_mul_left g (Nat.le_of_lt hD)) (Nat.mul_lt_mul_of_pos_right hg (Nat.pow_pos (by omega)))
 rcases Nat.lt_or_ge b 2 with hb | hb
 · have : b = 0 ∨ b = 1 := by omega
   rcases this with rfl | rfl <;> simp
 · exfalso
   have h3 : B ^ (i + n + 1) * 2 ≤ B ^ (i + n + 1) * b := Nat.mul_le_mul_left _ hb
   omega
theorem FixAt.pos (h : FixAt B V i n D L g true) (hL : ∀ x ∈ L, x < B) (hB : 2 ≤ B) : V / (B ^ i * D) < g := by
 obtain ⟨h1, h2, h3, h4⟩ := h
 have h5 := val_lt_of_zero (by omega) hL h3
 apply Nat.div_lt_of_lt_mul
 simp only [if_true] at h4
 rw [Nat.mul_assoc, Nat.mul_comm D]
 omega
theorem FixAt.step {c : Nat} (h : FixAt B V i n D L (g + 1) true) (hL : ∀ x ∈ L, x < B) (hL' : ∀ x ∈ L', x < B) (hB : 2 ≤ B) (hD : 0 < D) (hDn : D < B ^ n)
 (he : val B L' + B ^ (i + n + 1) * c = val B L + B ^ i * D) (hz : ∀ j, i + n + 1 ≤ j → dg L' j = dg L j) : FixAt B V i n D L' g (decide (dg L' (i + n) ≠ 0)) := by
 have hp := h.pos hL hB
 obtain ⟨h1, h2, h3, h4⟩ := h
 have hz' : ∀ j, i + n + 1 ≤ j → dg L' j = 0 := fun j hj => (hz j hj).trans (h3 j hj)
 have h5 := val_lt_of_zero (by omega) hL h3
 have h6 := val_lt_of_zero (by omega) hL' hz'
 have hDi : B ^ i * D < B ^ (i + n) := by rw [Nat.pow_add]; exact Nat.mul_lt_mul_of_pos_left hDn (Nat.pow_pos (by omega))
 have hBB : B ^ (i + n + 1) = B ^ (i + n) * B := Nat.pow_succ _ _
 have hBB2 : B ^ (i + n) * 2 ≤ B ^ (i + n) * B := Nat.mul_le_mul_left _ hB
 have hV : V < B ^ i * D * (g + 1) := by
  have := Nat.lt_mul_div_succ V (show 0 < B ^ i * D from Nat.mul_pos (Nat.pow_pos (by omega)) hD)
  exact Nat.lt_of_lt_of_le this (Nat.mul_le_mul_left _ (by omega))
 simp only [if_true] at h4
 have e1 : B ^ i * ((g + 1) * D) = B ^ i * (g * D) + B ^ i * D := by rw [Nat.add_mul, Nat.one_mul, Nat.mul_add]
 have e2 : B ^ i * D * (g + 1) = B ^ i * (g * D) + B ^ i * D := by rw [← e1, Nat.mul_assoc, Nat.mul_comm D]
 have hgD : B ^ i * (g * D) + B ^ (i + n) * 2 ≤ B ^ (i + n + 1) + B ^ (i + n) := by
  obtain ⟨m, hm⟩ : ∃ m, B = m + 2 := ⟨B - 2, by omega⟩
  have k1 : g * D ≤ m * B ^ n := Nat.mul_le_mul (by omega) (Nat.le_of_lt hDn)
  have k2 : B ^ i * (g * D) ≤ B ^ i * (m * B ^ n) := Nat.mul_le_mul_left _ k1
  have k3 : B ^ i * (m * B ^ n) = B ^ (i + n) * m := by rw [Nat.mul_comm m, ← Nat.mul_assoc, ← Nat.pow_add]
  have k4 : B ^ (i + n) * B = B ^ (i + n) * m + B ^ (i + n) * 2 := by rw [← Nat.mul_add, ← hm]
  omega
 rw [e1] at h4
 rw [e2] at hV
 refine ⟨by omega, by omega, hz', ?_⟩
 rcases Nat.eq_zero_or_pos c with rfl | hc
 · rw [Nat.mul_zero, Nat.add_zero] at he
   have hbig : B ^ (i + n) ≤ val B L' := by omega
   have hne : dg L' (i + n) ≠ 0 := fun h0 => by
    have := val_lt_of_zero (B := B) (m := i + n) (by omega) hL' fun j hj => by
     rcases Nat.lt_or_ge (i + n) j with h | h
     · exact hz' j (by omega)
     · obtain rfl : j = i + n := by omega
       exact h0
    omega
   rw [decide_eq_true hne, if_pos rfl]
   omega
 · have hc1 : c = 1 := by
    rcases Nat.lt_or_ge c 2 with h | h
    · omega
    · have : B ^ (i + n + 1) * 2 ≤ B ^ (i + n + 1) * c := Nat.mul_le_mul_left _ h
      omega
   subst hc1
   rw [Nat.mul_one] at he
   have hsmall : val B L' < B ^ (i + n) := by omega
   have h0 := zero_of_val_lt hL' hsmall (Nat.le_refl _)
   rw [decide_eq_false (by simp [h0]), if_neg (by simp)]
   omega
theorem FixAt.fin (h : FixAt B V i n D L g false) (hB : 2 ≤ B) (hD : 0 < D) : val B L + B ^ i * (g * D) = V ∧ val B L < B ^ i * D := by
 obtain ⟨h1, h2, h3, h4⟩ := h
 simp only [Bool.false_eq_true, if_false, Nat.add_zero] at h4
 refine ⟨h4, ?_⟩
 have h5 := Nat.lt_mul_div_succ V (show 0 < B ^ i * D from Nat.mul_pos (Nat.pow_pos (by omega)) hD)
 have h6 : B ^ i * D * (V / (B ^ i * D) + 1) ≤ B ^ i * D * (g + 1) := Nat.mul_le_mul_left _ (by omega)
 have e : B ^ i * D * (g + 1) = B ^ i * (g * D) + B ^ i * D := by rw [Nat.mul_add, Nat.mul_one, Nat.mul_assoc, Nat.mul_comm D]
 omega
end
def QuoAt (B X D : Nat) (L qs : List Nat) (k : Nat) : Prop := val B L + D * (B ^ k * val B (qs.drop k)) = X ∧ val B L < B ^ k * D
theorem QuoAt.start {B D m : Nat} {L qs : List Nat} (hq : qs.length = m) (h : val B L < B ^ m * D) : QuoAt B (val B L) D L qs m := by
 refine ⟨?_, h⟩
 rw [← hq, List.drop_length]
 simp
theorem QuoAt.step {B X D k g : Nat} {L L' qs : List Nat} (h : QuoAt B X D L qs (k + 1)) (hk : k < qs.length) (h1 : val B L' + B ^ k * (g * D) = val B L) (h2 : val B L' < B ^ k * D) : QuoAt B X D L' (qs.set k g) k := by
 obtain ⟨g1, g2⟩ := h
 refine ⟨?_, h2⟩
 have e : (qs.set k g).drop k = g :: qs.drop (k + 1) := by
  rw [List.drop_set, if_neg (Nat.lt_irrefl _), List.drop_eq_getElem_cons hk, Nat.sub_self, List.set_cons_zero]
 rw [e, val_cons, Nat.mul_add, Nat.mul_add, ← g1, ← h1, Nat.pow_succ]
 have e1 : D * (B ^ k * g) = B ^ k * (g * D) := by rw [Nat.mul_left_comm, Nat.mul_comm D]
 rw [e1, Nat.mul_assoc (B ^ k)]
 omega
theorem QuoAt.fin {B X D : Nat} {L qs : List Nat} (h : QuoAt B X D L qs 0) : val B qs = X / D ∧ val B L = X % D := by
 obtain ⟨g1, g2⟩ := h
 simp only [Nat.pow_zero, Nat.one_mul, List.drop_zero] at g1 g2
 rw [← g1]
 refine ⟨?_, ?_⟩
 · rw [Nat.add_comm, Nat.mul_add_div (by omega), Nat.div_eq_of_lt g2, Nat.add_zero]
 · rw [Nat.add_comm, Nat.mul_add_mod, Nat.mod_eq_of_lt g2]
end Go.Proofs.YtendnkpiidhogaaGreat

namespace Go.Proofs.YtendnkpiidhogaaGreat

theorem dg_drop (u : List Nat) (k i : Nat) : dg (u.drop k) i = dg u (k + i) := by
 simp [dg, List.getD_eq_getElem?_getD, List.getElem?_drop]
def LessAt (B : Nat) (u v W : List Nat) (k g i c b : Nat) : Prop := W.length = v.length + 1 ∧ val B (W.take i) + g * val B (v.take i) = val B ((u.drop k).take i) + B ^ i * (c + b)
section
variable {B k g i c b : Nat} {u v W : List Nat}
theorem LessAt.zero (h : W.length = v.length + 1) : LessAt B u v W k g 0 0 0 := ⟨h, by simp⟩
theorem LessAt.step {lo c' x b' : Nat} (h : LessAt B u v W k g i c b) (hi : i < W.length) (h1 : lo + B * c' = c + g * dg v i) (h2 : x + (lo + b) = dg u (k + i) + B * b') : LessAt B u v (W.set i x) k g (i + 1) c' b' := by
 obtain ⟨g1, g2⟩ := h
 refine ⟨by simpa using g1, ?_⟩
 rw [val_take_set B hi, val_take_getD, val_take_getD, dg_drop, Nat.pow_succ]
 have e1 : g * (B ^ i * dg v i) = B ^ i * (g * dg v i) := Nat.mul_left_comm _ _ _
 have e2 : B ^ i * (lo + B * c') = B ^ i * (c + g * dg v i) := by rw [h1]
 have e3 : B ^ i * (x + (lo + b)) = B ^ i * (dg u (k + i) + B * b') := by rw [h2]
 rw [Nat.mul_add g, e1, Nat.mul_assoc, Nat.mul_add B, Nat.mul_add (B ^ i) (B * c')]
 simp only [Nat.mul_add] at e2 e3 g2 ⊢
 generalize B ^ i * (B * c') = p1 at *
 generalize B ^ i * (B * b') = p2 at *
 generalize B ^ i * lo = p3 at *
 generalize B ^ i * (g * dg v i) = p4 at *
 generalize B ^ i * c = p5 at *
 generalize B ^ i * b = p6 at *
 generalize B ^ i * x = p7 at *
 generalize B ^ i * dg u (k + i) = p8 at *
 omega
def putAt (u W : List Nat) (k : Nat) : List Nat := u.take k ++ W ++ u.drop (k + W.length)
def TimesAt (B : Nat) (a o : List Nat) (m i c : Nat) : Prop := o.length = a.length + 1 ∧ val B (o.take i) + B ^ i * c = m * val B (a.take i)
theorem TimesAt.step {a o : List Nat} {m x c' : Nat} (h : TimesAt B a o m i c) (hi : i < o.length) (h1 : x + B * c' = c + dg a i * m) : TimesAt B a (o.set i x) m (i + 1) c' := by
 obtain ⟨g1, g2⟩ := h
 refine ⟨by simpa using g1, ?_⟩
 rw [val_take_set B hi, val_take_getD, Nat.mul_add, ← g2, Nat.pow_succ, Nat.mul_assoc]
 have e1 : m * (B ^ i * dg a i) = B ^ i * (dg a i * m) := by rw [Nat.mul_left_comm, Nat.mul_comm m]
 have e2 : B ^ i * (x + B * c') = B ^ i * (c + dg a i * m) := by rw [h1]
 rw [e1]
 simp only [Nat.mul_add] at e2
 omega
theorem TimesAt.fin {a o : List Nat} {m : Nat} (h : TimesAt B a o m a.length c) : val B (o.set a.length c) = m * val B a := by
 obtain ⟨g1, g2⟩ := h
 have e : (o.set a.length c).length = a.length + 1 := by simpa using g1
 have e2 : val B (o.set a.length c) = val B ((o.set a.length c).take (a.length + 1)) := by rw [← e, List.take_length]
 rw [e2, val_take_set B (by omega), g2, List.take_length]
end
end Go.Proofs.YtendnkpiidhogaaGreat

namespace Go.Proofs.YtendnkpiidhogaaGreat
open Go.RowKit

theorem wp_copy_eq {P : Program} (w : World) {o : Oper} {a : Act} {K : Act → World → Prop} {Q : Exit → Act → World → Prop} (d s : Operand) (t t' : TypeId)
 (ho : o.op = .call { callee := .builtin .copy, args := #[d, s], argTypes := #[t, t'] }) (v u : Value) (hd : a.eval d = v) (hs : a.eval s = u) {v' : Value} {w' : World}
 (hr : (Builtin.copy_ #[t, t'] o.type #[v, u]).run P w = .ok v' w') (h : K (a.put o.dst v') w') : o.wp P a w K Q := by
 unfold Oper.wp execOp
 simp only [ho, resolve, invoke, builtin, Sem.run_bind, Sem.run_pure, Result.andThen_ok, List.map_toArray, List.map_cons, List.map_nil, hd, hs, hr]
 exact h
theorem wpList_copy_eq {P : Program} (w : World) {ops : Array Oper} {rest : List Oper} {o : Oper} {a : Act} {Q : Exit → Act → World → Prop} (hgd : o.guard = none) (d s : Operand) (t t' : TypeId)
 (ho : o.op = .call { callee := .builtin .copy, args := #[d, s], argTypes := #[t, t'] }) (v u : Value) (hd : a.eval d = v) (hs : a.eval s = u) {v' : Value} {w' : World}
 (hr : (Builtin.copy_ #[t, t'] o.type #[v, u]).run P w = .ok v' w') (h : wpList P ops Q rest (a.put o.dst v') w') : wpList P ops Q (o :: rest) a w :=
 wpList_plain hgd fun _ hK => wp_copy_eq w d s t t' ho v u hd hs hr (hK _ _ h)
theorem Blk.put {w : World} {g : Nat} {u : List Nat} (h : Blk w g u) (v : List Nat) : Blk (w.setRow g (nts v).toArray) g v := setRow_heap w g _ _ _ _ h
theorem Only.put {w w' : World} {g : Nat} (h : Only g w w') (v : Array Value) : Only g w (w'.setRow g v) :=
  ⟨h.os, h.tape, h.output, by have : (w'.setRow g v).heap.size = w'.heap.size := by simp [World.setRow]
                              exact this.trans h.size, fun k hk => by
    have : (w'.setRow g v).heap[k]? = w'.heap[k]? := by simp [World.setRow, Array.getElem?_modify, Ne.symm hk]
    exact this.trans (h.block k hk)⟩
structure Two (g g' : Nat) (w w' : World) : Prop where
 os : w'.os = w.os
 tape : w'.tape = w.tape
 output : w'.output = w.output
 size : w'.heap.size = w.heap.size
 block : ∀ k, k ≠ g → k ≠ g' → w'.heap[k]? = w.heap[k]?
theorem Two.below {g g' B : Nat} {w w' : World} (h : Two g g' w w') (hg : B ≤ g) (hg' : B ≤ g') : Below B w w' := ⟨h.os, h.tape, h.output, Nat.le_of_eq h.size.symm, fun k hk => h.block k (by omega) (by omega)⟩
theorem Only.two {g g' : Nat} {w w' w'' : World} (h : Only g' w w') (k : Only g w' w'') : Two g g' w w'' := ⟨k.os.trans h.os, k.tape.trans h.tape, k.output.trans h.output, k.size.trans h.size, fun i hi hi' => (k.block i hi).trans (h.block i hi')⟩
theorem RN.two {g g' : Nat} {w w' : World} {P : Nat → Prop} {A : Option Addr} {c : Nat} {l : List Nat} (h : RN w P A c l) (ho : Two g g' w w') (hP : ∀ b, P b → b ≠ g ∧ b ≠ g') : RN w' P A c l := h.keep fun q hq => World.cell?_of_block (w := w) (ho.block q.block (hP _ hq).1 (hP _ hq).2)

end Go.Proofs.YtendnkpiidhogaaGreat
