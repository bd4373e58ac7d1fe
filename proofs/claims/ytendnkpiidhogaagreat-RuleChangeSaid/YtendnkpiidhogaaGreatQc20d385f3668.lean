/- joined: a template and what the mechanism gives. Nothing is read as DER: no node; no curve. Nothing is read as DER: der.Read and keyfmt.read. Plain arithmetic of digits, the lowest first, to a base: nothing of the program. Plain arithmetic of the rounds of sums, differences and products: nothing of the program. The library contracts of math/bits at this program, as the shelf lays them. Words for memory that holds limbs: a slice that reads as limbs; a block that is known whole; a slice of one's own. What limb.trim, made, Of, Norm and the reference's trim compute. What limb.Cmp and the reference's compute: the order of two numbers. What limb.Sub computes. What the reference's From, Of, To and Is compute. What the reference's Is, and the laws' Cut and few, compute. What the reference's Add and Sub compute. What the reference's Sub and Mul compute. Plain arithmetic of bits.Div64: one step of a division of three halves by two; nothing of the program. What bits.Div64 computes. What limb.small and the easy cases of limb.Quo compute. -/
import Derived.Test.YtendnkpiidhogaaGreatQ71e33449e040
import Derived.WalkMore
import Derived.Lib.Hide
import Derived.Shelf.Small.Bits
import Derived.Shelf.Strconv.Itoa0
import Derived.Shelf.Bits.Mul64
import Derived.Test.YtendnkpiidhogaaGreatProg
import Derived.Shelf.Spec.BitsCarry
import Derived.Test.YtendnkpiidhogaaGreatRows
import Derived.Deep.OwnRows
import Derived.Deep.DeepCutAuto
import Derived.Deep.QuietTactic
import Derived.BigQuiet
import Derived.Lib.BitFns
import Derived.Lib.ItoaNum
import Derived.Deep.CutBlock
import Derived.IntWalk
import Derived.Laws.Bits64b
namespace Go.Proofs.YtendnkpiidhogaaGreat.At
open Go.RowKit Go.Shelf

def JoinP (R : Option Attrs) (base : Nat) (e : Ending) (w' : World) : Prop :=
 match R with
 | some x => ∃ A c, e = .returned (.tuple #[.slice A x.length c, .bool true]) ∧ RA w' (In base w'.heap.size) A c x
 | none => e = .returned (.tuple #[.slice none 0 0, .bool false])
theorem joinP_no {R : Option Attrs} {base : Nat} {w' : World} (h : R = none) : JoinP R base (.returned (.tuple #[.slice none 0 0, .bool false])) w' := by rw [h]; rfl
theorem joinP_yes {R : Option Attrs} {x : Attrs} {A : Option Addr} {c : Nat} {base : Nat} {w' : World} (h : R = some x) (hx : RA w' (In base w'.heap.size) A c x) : JoinP R base (.returned (.tuple #[.slice A x.length c, .bool true])) w' := by
 rw [h]; exact ⟨A, c, rfl, hx⟩
theorem join_step {l out : Attrs} {k : Nat} {x : Int × List Nat} (hk : k < l.length) (hx : l[k] = x) :
 joinOn out (l.drop k) = match seek out x.1 with | none => joinOn (putOf out x) (l.drop (k + 1)) | some b => if b = x.2 then joinOn (putOf out x) (l.drop (k + 1)) else none := by
 rw [List.drop_eq_getElem_cons hk, hx, joinOn, came]
 cases seek out x.1 with
 | none => simp
 | some b => by_cases h : b = x.2 <;> simp [h]

set_option maxRecDepth 100000 in
set_option maxHeartbeats 4000000 in
theorem joined_any (P P' : Nat → Prop) (A A' : Option Addr) (c c' : Nat) (l t : Attrs) (w : World) (hv : RA w P A c l) (hP : ∀ b, P b → b < w.heap.size) (hv' : RA w P' A' c' t) (hP' : ∀ b, P' b → b < w.heap.size) (hl : l.length ≤ 1000) (htl : t.length ≤ 1000) :
    Calls Tryz.prog 49 #[.slice A l.length c, .slice A' t.length c'] w fun e w' => JoinP (joinedOf l t) w.heap.size e w' ∧ Below w.heap.size w w' := by
  obtain ⟨R, hR0⟩ : ∃ R, joinedOf l t = R := ⟨_, rfl⟩
  rw [hR0]
  have HR0 := Lib.hid (show ((joinOn [] (l.drop 0)).bind fun o => joinOn o t) = R from hR0)
  clear hR0
  obtain ⟨hlc, hc⟩ := hv.cap
  obtain ⟨hlc', hc'⟩ := hv'.cap
  have hb0 := heap_alloc_new w (.cells #[.slice A l.length c, .slice A' t.length c'] 42)
  have hb0 := heap_alloc_new w (.cells #[.slice A l.length c, .slice A' t.length c'] 24)
  have hB0 : Below w.heap.size w (w.alloc (.cells #[.slice A l.length c, .slice A' t.length c'] 24)) := (Below.refl _ w).alloc (Nat.le_refl _) _
  have HB0 := Lib.hid hB0
  have Hb0 := Lib.hid hb0
  clear hB0 hb0
  go_enter Tryz.func49, Tryz.ntmps49
  go_wp2
  go_loopw [6, 17] (fun v i wr => ∃ (z : Int) (out : Attrs) (A1 : Option Addr) (c1 : Nat), i = .int .i64 z ∧ v = .slice A1 out.length c1 ∧ RA wr (In w.heap.size wr.heap.size) A1 c1 out ∧ wr.heap[w.heap.size]? = some (.cells #[.slice A l.length c, .slice A' t.length c'] 24 (0, 0)) ∧ Below w.heap.size w wr ∧
      ((z = 0 ∧ out = []) ∨ (z = 1 ∧ out.length ≤ 2000 ∧ joinOn out (t.drop 0) = R) ∨ (z = 2 ∧ some out = R))) (fun _ i _ => 2 - (intOf i).toNat)
  case atStart => exact ⟨0, [], none, 0, rfl, rfl, RA.nil_ _ _, by simpa using Hb0.out, by simpa using HB0.out, .inl ⟨rfl, rfl⟩⟩
  case round =>
    clear HB0 Hb0
    obtain ⟨z, out0, A0, c0, rfl, rfl, hRA0, hbx, hB, hz⟩ := hrel
    obtain ⟨wo, rfl⟩ : ∃ wo, wo = wr := ⟨_, rfl⟩
    have x0 := blk_cell hbx 0
    have x1 := blk_cell hbx 1
    simp at x0 x1
    have HB := Lib.hid hB
    have HRA0 := Lib.hid hRA0
    have Hbx := Lib.hid hbx
    clear hB hRA0 hbx
    rcases hz with ⟨rfl, rfl⟩ | ⟨rfl, hlo, hj⟩ | ⟨rfl, hR⟩
    rotate_right
    · have HR := Lib.hid hR
      clear hR
      go_wp2
      go_ret2
      exact ⟨joinP_yes HR.out.symm HRA0.out, HB.out⟩
    · skip
      clear x1
      go_wp2
      go_loopw [6, 23] (fun v i wr => ∃ (k : Nat) (out : Attrs) (A1 : Option Addr) (c1 : Nat), k ≤ l.length ∧ i = .int .i64 k ∧ v = .slice A1 out.length c1 ∧ RA wr (In w.heap.size wr.heap.size) A1 c1 out ∧ out.length ≤ 0 + k ∧ ((joinOn out (l.drop k)).bind fun o => joinOn o t) = R ∧ wr.heap[w.heap.size]? = some (.cells #[.slice A l.length c, .slice A' t.length c'] 24 (0, 0)) ∧ Below w.heap.size w wr) (fun _ i _ => l.length - (intOf i).toNat)
      case atStart => exact ⟨0, [], A0, c0, Nat.zero_le _, rfl, rfl, HRA0.out, by simp, HR0.out, Hbx.out, HB.out⟩
      case round =>
        clear HB HRA0 Hbx x0
        obtain ⟨k, out, A1, c1, hk, rfl, rfl, hRA, hlen, hJ, hbx, hB⟩ := hrel
        have hs := hB.size
        have hzr := blk_lt hbx
        by_cases hlt : k < l.length
        · have hvr := hv.below hB hP
          obtain ⟨ad, Au, cu, rfl, hb, hc1, hc2, hu⟩ := hvr.at_ hlt
          have hP1 : ∀ b, P b → b < wr.heap.size := fun b hb => Nat.lt_of_lt_of_le (hP b hb) hs
          obtain ⟨x, hx⟩ : ∃ x, l[k] = x := ⟨_, rfl⟩
          rw [hx] at hc1 hc2 hu
          rw [join_step hlt hx] at hJ
          have hol : out.length ≤ 100000 := by omega
          have Hlen := Lib.hid (show (putOf out x).length ≤ 0 + (k + 1) from Nat.le_trans (length_putOf out x) (by omega))
          have hz1 : wr.heap.size < (wr.alloc (.cells #[.int .i64 x.1, .slice Au x.2.length cu] 37)).heap.size := by simp
          have hW1 : Below wr.heap.size wr (wr.alloc (.cells #[.int .i64 x.1, .slice Au x.2.length cu] 37)) := (Below.refl _ _).alloc (Nat.le_refl _) _
          have m0 : (wr.alloc (.cells #[.int .i64 x.1, .slice Au x.2.length cu] 37)).cell? ⟨wr.heap.size, 0, none⟩ = some (.int .i64 x.1) := by simp [go_sem]
          have m1 : (wr.alloc (.cells #[.int .i64 x.1, .slice Au x.2.length cu] 37)).cell? ⟨wr.heap.size, 1, none⟩ = some (.slice Au x.2.length cu) := by simp [go_sem]
          have hb1 := (hW1.block w.heap.size hzr).trans hbx
          have hU1 := hu.below hW1 hP1
          have hR1 := hRA.below hW1 fun b hb => hb.2
          have hB1 := hB.trans (hW1.mono hs)
          have HB1 := Lib.hid hB1
          have HR1 := Lib.hid (hR1.mono (P' := fun b => b < (wr.alloc (.cells #[.int .i64 x.1, .slice Au x.2.length cu] 37)).heap.size) fun b hb => Nat.lt_trans hb.2 hz1)
          have HU1 := Lib.hid (hU1.mono (P' := fun b => b < (wr.alloc (.cells #[.int .i64 x.1, .slice Au x.2.length cu] 37)).heap.size) fun b hb => Nat.lt_trans (hP1 b hb) hz1)
          have Hb1 := Lib.hid hb1
          have hs1 := hB1.size
          obtain ⟨s, hse⟩ : ∃ s, seek out x.1 = s := ⟨_, rfl⟩
          rw [hse] at hJ
          have Hse := Lib.hid hse
          have HJ := Lib.hid hJ
          clear hx hse hJ hbx hB hvr hu hRA hU1 hR1 hb1 hP1 hB1 hW1
          go_wp2_with fail
          generalize wr.alloc (.cells #[.int .i64 x.1, .slice Au x.2.length cu] 37) = W1 at *
          refine (get_any _ A1 c1 out x.1 W1 HR1.out (fun b hb => hb)).mono ?_
          rw [Hse.out]
          rintro e w2 ⟨A3, c3, rfl, hr3, hB3⟩
          have hs3 := hB3.size
          have n0 := (hB3.cell (p := ⟨wr.heap.size, 0, none⟩) hz1).trans m0
          have n1 := (hB3.cell (p := ⟨wr.heap.size, 1, none⟩) hz1).trans m1
          have HU2 := Lib.hid ((HU1.out.below hB3 fun b hb => hb).mono (P' := fun b => b < w2.heap.size) fun b hb => Nat.lt_of_lt_of_le hb hs3)
          have hP2 := put_any (fun b => b < w2.heap.size) A1 c1 out x Au cu w2 ((HR1.out.below hB3 fun b hb => hb).mono fun b hb => Nat.lt_of_lt_of_le hb hs3) HU2.out (fun b hb => hb) hol
          have HP2 := Lib.hid hP2
          have HB3 := Lib.hid (HB1.out.trans (hB3.mono hs1))
          have hs3' := HB3.out.size
          have hz3 : w.heap.size < w2.heap.size := by omega
          have Hb3 := Lib.hid ((hB3.block w.heap.size (by omega)).trans Hb1.out)
          have Hr3 := Lib.hid hr3
          clear hr3 hP2 HB1 HR1 HU1 Hb1 m0 m1 hB3 Hse
          cases s with
          | none =>
            go_wp2_with fail
            refine HP2.out.mono ?_
            rintro e w5 ⟨A5, c5, cs5, rfl, hO5, hB5⟩
            have HO5 := Lib.hid (hO5.ra.mono (P' := In w.heap.size w5.heap.size) fun b hb => ⟨by have := hb.1; omega, hb.2⟩)
            have HX5 := Lib.hid (HB3.out.trans (hB5.mono hs3'))
            have Hb5 := Lib.hid ((hB5.block w.heap.size hz3).trans Hb3.out)
            clear hO5
            go_wp2
            go_roundw
            case rel => exact ⟨k + 1, putOf out x, A5, c5, by omega, by go_num, rfl, HO5.out, Hlen.out, HJ.out, Hb5.out, HX5.out⟩
            case measure => simp [intOf]; omega
          | some b =>
            go_wp2_with fail
            refine (equal_any _ (fun b => b < w2.heap.size) A3 Au c3 cu b x.2 w2 Hr3.out HU2.out).mono ?_
            by_cases he : b = x.2
            · have hd : decide (b = x.2) = true := by simp [he]
              have HJ := Lib.hid (show ((joinOn (putOf out x) (l.drop (k + 1))).bind fun o => joinOn o t) = R from by simpa [he] using HJ.out)
              rw [hd]
              clear hd he
              rintro e w4 ⟨rfl, rfl⟩
              go_wp2_with fail
              refine HP2.out.mono ?_
              rintro e w5 ⟨A5, c5, cs5, rfl, hO5, hB5⟩
              have HO5 := Lib.hid (hO5.ra.mono (P' := In w.heap.size w5.heap.size) fun b hb => ⟨by have := hb.1; omega, hb.2⟩)
              have HX5 := Lib.hid (HB3.out.trans (hB5.mono hs3'))
              have Hb5 := Lib.hid ((hB5.block w.heap.size hz3).trans Hb3.out)
              clear hO5
              go_wp2
              go_roundw
              case rel => exact ⟨k + 1, putOf out x, A5, c5, by omega, by go_num, rfl, HO5.out, Hlen.out, HJ.out, Hb5.out, HX5.out⟩
              case measure => simp [intOf]; omega
            · have hd : decide (b = x.2) = false := by simp [he]
              have HN := Lib.hid (show R = none from by simpa [he] using HJ.out.symm)
              rw [hd]
              clear hd he
              rintro e w4 ⟨rfl, rfl⟩
              go_wp2
              go_ret2
              exact ⟨joinP_no HN.out, HB3.out⟩
        · obtain rfl : k = l.length := by omega
          have HJ := Lib.hid hJ
          have HRA := Lib.hid hRA
          have Hb2 := Lib.hid hbx
          have HB2 := Lib.hid hB
          clear hJ hRA hbx hB
          go_wp2
          go_roundw
          case rel => exact ⟨1, out, A1, c1, by go_num, rfl, HRA.out, Hb2.out, HB2.out, .inr (.inl ⟨rfl, by omega, by simpa [joinOn] using HJ.out⟩)⟩
          case measure => first | (simp [intOf]; done) | (simp [intOf]; decide)
    · have Hj := Lib.hid hj
      clear hj
      clear x0
      go_wp2
      go_loopw [6, 23] (fun v i wr => ∃ (k : Nat) (out : Attrs) (A1 : Option Addr) (c1 : Nat), k ≤ t.length ∧ i = .int .i64 k ∧ v = .slice A1 out.length c1 ∧ RA wr (In w.heap.size wr.heap.size) A1 c1 out ∧ out.length ≤ 2000 + k ∧ joinOn out (t.drop k) = R ∧ wr.heap[w.heap.size]? = some (.cells #[.slice A l.length c, .slice A' t.length c'] 24 (0, 0)) ∧ Below w.heap.size w wr) (fun _ i _ => t.length - (intOf i).toNat)
      case atStart => exact ⟨0, out0, A0, c0, Nat.zero_le _, rfl, rfl, HRA0.out, by omega, Hj.out, Hbx.out, HB.out⟩
      case round =>
        clear HB HRA0 Hbx x1
        obtain ⟨k, out, A1, c1, hk, rfl, rfl, hRA, hlen, hJ, hbx, hB⟩ := hrel
        have hs := hB.size
        have hzr := blk_lt hbx
        by_cases hlt : k < t.length
        · have hvr := hv'.below hB hP'
          obtain ⟨ad, Au, cu, rfl, hb, hc1, hc2, hu⟩ := hvr.at_ hlt
          have hP1 : ∀ b, P' b → b < wr.heap.size := fun b hb => Nat.lt_of_lt_of_le (hP' b hb) hs
          obtain ⟨x, hx⟩ : ∃ x, t[k] = x := ⟨_, rfl⟩
          rw [hx] at hc1 hc2 hu
          rw [join_step hlt hx] at hJ
          have hol : out.length ≤ 100000 := by omega
          have Hlen := Lib.hid (show (putOf out x).length ≤ 2000 + (k + 1) from Nat.le_trans (length_putOf out x) (by omega))
          have hz1 : wr.heap.size < (wr.alloc (.cells #[.int .i64 x.1, .slice Au x.2.length cu] 37)).heap.size := by simp
          have hW1 : Below wr.heap.size wr (wr.alloc (.cells #[.int .i64 x.1, .slice Au x.2.length cu] 37)) := (Below.refl _ _).alloc (Nat.le_refl _) _
          have m0 : (wr.alloc (.cells #[.int .i64 x.1, .slice Au x.2.length cu] 37)).cell? ⟨wr.heap.size, 0, none⟩ = some (.int .i64 x.1) := by simp [go_sem]
          have m1 : (wr.alloc (.cells #[.int .i64 x.1, .slice Au x.2.length cu] 37)).cell? ⟨wr.heap.size, 1, none⟩ = some (.slice Au x.2.length cu) := by simp [go_sem]
          have hb1 := (hW1.block w.heap.size hzr).trans hbx
          have hU1 := hu.below hW1 hP1
          have hR1 := hRA.below hW1 fun b hb => hb.2
          have hB1 := hB.trans (hW1.mono hs)
          have HB1 := Lib.hid hB1
          have HR1 := Lib.hid (hR1.mono (P' := fun b => b < (wr.alloc (.cells #[.int .i64 x.1, .slice Au x.2.length cu] 37)).heap.size) fun b hb => Nat.lt_trans hb.2 hz1)
          have HU1 := Lib.hid (hU1.mono (P' := fun b => b < (wr.alloc (.cells #[.int .i64 x.1, .slice Au x.2.length cu] 37)).heap.size) fun b hb => Nat.lt_trans (hP1 b hb) hz1)
          have Hb1 := Lib.hid hb1
          have hs1 := hB1.size
          obtain ⟨s, hse⟩ : ∃ s, seek out x.1 = s := ⟨_, rfl⟩
          rw [hse] at hJ
          have Hse := Lib.hid hse
          have HJ := Lib.hid hJ
          clear hx hse hJ hbx hB hvr hu hRA hU1 hR1 hb1 hP1 hB1 hW1
          go_wp2_with fail
          generalize wr.alloc (.cells #[.int .i64 x.1, .slice Au x.2.length cu] 37) = W1 at *
          refine (get_any _ A1 c1 out x.1 W1 HR1.out (fun b hb => hb)).mono ?_
          rw [Hse.out]
          rintro e w2 ⟨A3, c3, rfl, hr3, hB3⟩
          have hs3 := hB3.size
          have n0 := (hB3.cell (p := ⟨wr.heap.size, 0, none⟩) hz1).trans m0
          have n1 := (hB3.cell (p := ⟨wr.heap.size, 1, none⟩) hz1).trans m1
          have HU2 := Lib.hid ((HU1.out.below hB3 fun b hb => hb).mono (P' := fun b => b < w2.heap.size) fun b hb => Nat.lt_of_lt_of_le hb hs3)
          have hP2 := put_any (fun b => b < w2.heap.size) A1 c1 out x Au cu w2 ((HR1.out.below hB3 fun b hb => hb).mono fun b hb => Nat.lt_of_lt_of_le hb hs3) HU2.out (fun b hb => hb) hol
          have HP2 := Lib.hid hP2
          have HB3 := Lib.hid (HB1.out.trans (hB3.mono hs1))
          have hs3' := HB3.out.size
          have hz3 : w.heap.size < w2.heap.size := by omega
          have Hb3 := Lib.hid ((hB3.block w.heap.size (by omega)).trans Hb1.out)
          have Hr3 := Lib.hid hr3
          clear hr3 hP2 HB1 HR1 HU1 Hb1 m0 m1 hB3 Hse
          cases s with
          | none =>
            go_wp2_with fail
            refine HP2.out.mono ?_
            rintro e w5 ⟨A5, c5, cs5, rfl, hO5, hB5⟩
            have HO5 := Lib.hid (hO5.ra.mono (P' := In w.heap.size w5.heap.size) fun b hb => ⟨by have := hb.1; omega, hb.2⟩)
            have HX5 := Lib.hid (HB3.out.trans (hB5.mono hs3'))
            have Hb5 := Lib.hid ((hB5.block w.heap.size hz3).trans Hb3.out)
            clear hO5
            go_wp2
            go_roundw
            case rel => exact ⟨k + 1, putOf out x, A5, c5, by omega, by go_num, rfl, HO5.out, Hlen.out, HJ.out, Hb5.out, HX5.out⟩
            case measure => simp [intOf]; omega
          | some b =>
            go_wp2_with fail
            refine (equal_any _ (fun b => b < w2.heap.size) A3 Au c3 cu b x.2 w2 Hr3.out HU2.out).mono ?_
            by_cases he : b = x.2
            · have hd : decide (b = x.2) = true := by simp [he]
              have HJ := Lib.hid (show joinOn (putOf out x) (t.drop (k + 1)) = R from by simpa [he] using HJ.out)
              rw [hd]
              clear hd he
              rintro e w4 ⟨rfl, rfl⟩
              go_wp2_with fail
              refine HP2.out.mono ?_
              rintro e w5 ⟨A5, c5, cs5, rfl, hO5, hB5⟩
              have HO5 := Lib.hid (hO5.ra.mono (P' := In w.heap.size w5.heap.size) fun b hb => ⟨by have := hb.1; omega, hb.2⟩)
              have HX5 := Lib.hid (HB3.out.trans (hB5.mono hs3'))
              have Hb5 := Lib.hid ((hB5.block w.heap.size hz3).trans Hb3.out)
              clear hO5
              go_wp2
              go_roundw
              case rel => exact ⟨k + 1, putOf out x, A5, c5, by omega, by go_num, rfl, HO5.out, Hlen.out, HJ.out, Hb5.out, HX5.out⟩
              case measure => simp [intOf]; omega
            · have hd : decide (b = x.2) = false := by simp [he]
              have HN := Lib.hid (show R = none from by simpa [he] using HJ.out.symm)
              rw [hd]
              clear hd he
              rintro e w4 ⟨rfl, rfl⟩
              go_wp2
              go_ret2
              exact ⟨joinP_no HN.out, HB3.out⟩
        · obtain rfl : k = t.length := by omega
          have HJ := Lib.hid hJ
          have HRA := Lib.hid hRA
          have Hb2 := Lib.hid hbx
          have HB2 := Lib.hid hB
          clear hJ hRA hbx hB
          go_wp2
          go_roundw
          case rel => exact ⟨2, out, A1, c1, by go_num, rfl, HRA.out, Hb2.out, HB2.out, .inr (.inr ⟨rfl, by simpa [joinOn] using HJ.out⟩)⟩
          case measure => first | (simp [intOf]; done) | (simp [intOf]; decide)
end Go.Proofs.YtendnkpiidhogaaGreat.At

namespace Go.Proofs.YtendnkpiidhogaaGreat.At
open Go.RowKit Go.Shelf

set_option maxHeartbeats 1000000 in
theorem head_nil (A : Option Addr) (c : Nat) (w : World) :
 Calls Tryz.prog 233 #[.slice A 0 c] w fun e w' => e = .returned (.tuple #[.int .i64 0, .slice none 0 0, .slice none 0 0, .bool false]) ∧ w = w' := by
 go_enter Tryz.func233, Tryz.ntmps233
 go_wp2
 refine bodyPost_ret (v := .tuple #[.int .i64 0, .slice none 0 0, .slice none 0 0, .bool false]) (by simp [results, Tryz.results233, go_sem]) rfl ?_
 exact ⟨rfl, rfl⟩

set_option maxRecDepth 100000 in
set_option maxHeartbeats 4000000 in
theorem node_nil (g : Nat) (n : Int) (A : Option Addr) (c : Nat) (w : World) (h : w.heap[g]? = some (.cells #[.int .i64 n] 241 (0, 0))) (hn : 1 ≤ n ∧ n ≤ 1024) :
 Calls Tryz.prog 218 #[.pointer (some ⟨g, 0, none⟩), .slice A 0 c, .int .i64 0] w fun e w' => e = .returned (.tuple #[.agg #[.int .i64 0, .slice none 0 0, .slice none 0 0], .slice none 0 0, .bool false]) ∧ Below g w w' := by
 have hg := blk_lt h
 have x0 := (Below.heap_alloc w (.cells #[.int .i64 0, .slice none 0 0, .slice none 0 0] 172) g hg).trans h
 have y0 := blk_cell x0 0
 have f0 := blk_free x0 0
 simp at y0
 have x1 := bset x0 0 (.int .i64 (n - 1))
 have z0 := blk_cell x1 0
 simp at z0
 have hr := heap_alloc_new w (.cells #[.int .i64 0, .slice none 0 0, .slice none 0 0] 172)
 have hr1 := (Below.heap_setCell (w.alloc (.cells #[.int .i64 0, .slice none 0 0, .slice none 0 0] 172)) ⟨g, 0, none⟩ (.int .i64 (n - 1)) w.heap.size (Nat.ne_of_gt hg)).trans hr
 have hB0 : Below g w ((w.alloc (.cells #[.int .i64 0, .slice none 0 0, .slice none 0 0] 172)).setCell ⟨g, 0, none⟩ (.int .i64 (n - 1))) := ((Below.refl g w).alloc (Nat.le_of_lt hg) _).setCell (p := ⟨g, 0, none⟩) (Nat.le_refl _) _
 have HB0 := Lib.hid hB0
 have Hr := Lib.hid hr1
 obtain ⟨s, hs⟩ : ∃ s, w.heap.size = s := ⟨_, rfl⟩
 have hgs : g < s := by omega
 rw [hs] at Hr
 have Hs := Lib.hid hs
 have Hz : Hid (s < ((w.alloc (.cells #[.int .i64 0, .slice none 0 0, .slice none 0 0] 172)).setCell ⟨g, 0, none⟩ (.int .i64 (n - 1))).heap.size) := Lib.hid (by simp; omega)
 clear x0 x1 h hr hr1 hB0 hg hs
 have k1 : ¬ n - 1 < 0 := by omega
 go_enter Tryz.func218, Tryz.ntmps218
 go_wp2
 go_step3
 go_wp2_with fail
 rw [Hs.out]
 generalize (w.alloc (.cells #[.int .i64 0, .slice none 0 0, .slice none 0 0] 172)).setCell ⟨g, 0, none⟩ (.int .i64 (n - 1)) = W1 at *
 refine (head_nil A c W1).mono ?_
 rintro e w1 ⟨rfl, rfl⟩
 have q0 := blk_cell Hr.out 0
 have q1 := blk_cell Hr.out 1
 have q2 := blk_cell Hr.out 2
 have p0 := blk_free Hr.out 0
 have p1 := blk_free Hr.out 1
 have p2 := blk_free Hr.out 2
 simp at q0 q1 q2
 go_wp2
 rw [Exit.noGoto_ret]
 refine bodyPost_ret (v := .tuple #[.agg #[.int .i64 0, .slice none 0 0, .slice none 0 0], .slice none 0 0, .bool false]) (by simp [results, Tryz.results218, go_sem, q0, q1, q2]) rfl ⟨rfl, ?_⟩
 exact ((HB0.out.setCell (p := ⟨s, 0, none⟩) (by simp; omega) _).setCell (p := ⟨s, 1, none⟩) (by simp; omega) _).setCell (p := ⟨s, 2, none⟩) (by simp; omega) _
end Go.Proofs.YtendnkpiidhogaaGreat.At

namespace Go.Proofs.YtendnkpiidhogaaGreat.At
open Go.RowKit Go.Shelf

theorem set3 {w : World} {s : Nat} {t : TypeId} {a b c : Value} (h : w.heap[s]? = some (.cells #[a, b, c] t (0, 0))) (u v x : Value) : (((w.setCell ⟨s, 0, none⟩ u).setCell ⟨s, 1, none⟩ v).setCell ⟨s, 2, none⟩ x).heap[s]? = some (.cells #[u, v, x] t (0, 0)) := by
 simpa using bset (bset (bset h 0 u) 1 v) 2 x
theorem set3a {w : World} {s : Nat} {t : TypeId} {a b c : Value} (h : w.heap[s]? = some (.cells #[a, b, c] t (0, 0))) (u v x : Value) (o : Obj) : ((((w.setCell ⟨s, 0, none⟩ u).setCell ⟨s, 1, none⟩ v).setCell ⟨s, 2, none⟩ x).alloc o).heap[s]? = some (.cells #[u, v, x] t (0, 0)) :=
 (Below.heap_alloc _ _ _ (blk_lt (set3 h u v x))).trans (set3 h u v x)

set_option maxRecDepth 100000 in
set_option maxHeartbeats 4000000 in
theorem derRead_nil (A : Option Addr) (c : Nat) (w : World) :
 Calls Tryz.prog 185 #[.slice A 0 c] w fun e w' => e = .returned (.tuple #[.agg #[.int .i64 0, .slice none 0 0, .slice none 0 0], .int .i64 0, .bool false]) ∧ Below w.heap.size w w' := by
 have hB := ((Below.refl w.heap.size w).alloc (Nat.le_refl _) (.cells #[.int .i64 0, .slice none 0 0, .slice none 0 0] 172)).alloc (by simp) (.cells #[.int .i64 1024] 241)
 have h0 := (Below.heap_alloc (w.alloc (.cells #[.int .i64 0, .slice none 0 0, .slice none 0 0] 172)) (.cells #[.int .i64 1024] 241) w.heap.size (by simp)).trans (heap_alloc_new w _)
 have h1 := heap_alloc_new (w.alloc (.cells #[.int .i64 0, .slice none 0 0, .slice none 0 0] 172)) (.cells #[.int .i64 1024] 241)
 rw [World.size_alloc] at h1
 have hz : ((w.alloc (.cells #[.int .i64 0, .slice none 0 0, .slice none 0 0] 172)).alloc (.cells #[.int .i64 1024] 241)).heap.size = w.heap.size + 2 := by simp
 have HB := Lib.hid hB
 have H0 := Lib.hid h0
 have H1 := Lib.hid h1
 have Hz := Lib.hid hz
 clear hB h0 h1 hz
 go_enter Tryz.func185, Tryz.ntmps185
 go_wp2_with fail
 obtain ⟨s, hs⟩ : ∃ s, w.heap.size = s := ⟨_, rfl⟩
 rw [hs] at HB H0 H1 Hz ⊢
 have Hs := Lib.hid hs
 clear hs
 generalize (w.alloc (.cells #[.int .i64 0, .slice none 0 0, .slice none 0 0] 172)).alloc (.cells #[.int .i64 1024] 241) = W1 at *
 refine (node_nil (s + 1) 1024 A c W1 H1.out (by omega)).mono ?_
 rintro e w2 ⟨rfl, hB2⟩
 have h2 := (hB2.block s (by omega)).trans H0.out
 have hz2 := hB2.size
 have hlt : s < w2.heap.size := by have := Hz.out; omega
 have hB3 := HB.out.trans (hB2.mono (by omega))
 have H2 := Lib.hid h2
 have HB3 := Lib.hid hB3
 clear h2 hB3 hB2 H0 H1
 have h3 := H2.out
 have hB3 := HB3.out.alloc (Nat.le_of_lt hlt) (.cells #[.int .i64 0, .slice none 0 0, .slice none 0 0] 172)
 have q0 := blk_cell h3 0
 have q1 := blk_cell h3 1
 have q2 := blk_cell h3 2
 have p0 := blk_free h3 0
 have p1 := blk_free h3 1
 have p2 := blk_free h3 2
 simp only [List.getElem?_toArray, List.getElem?_cons_zero, List.getElem?_cons_succ] at q0 q1 q2
 have HB5 := Lib.hid HB3.out
 clear h3 hB3 HB3
 go_wp2
 have r := set3a H2.out (.int .i64 0) (.slice none 0 0) (.slice none 0 0) (.cells #[.int .i64 0, .slice none 0 0, .slice none 0 0] 172)
 have r0 := blk_cell r 0
 have r1 := blk_cell r 1
 have r2 := blk_cell r 2
 simp only [List.getElem?_toArray, List.getElem?_cons_zero, List.getElem?_cons_succ] at r0 r1 r2
 refine bodyPost_ret (v := .tuple #[.agg #[.int .i64 0, .slice none 0 0, .slice none 0 0], .int .i64 0, .bool false]) (by simp [results, Tryz.results185, go_sem, r0, r1, r2]) rfl ⟨rfl, ?_⟩
 rw [Hs.out]
 exact (((HB5.out.setCell (p := ⟨s, 0, none⟩) (by simp) _).setCell (p := ⟨s, 1, none⟩) (by simp) _).setCell (p := ⟨s, 2, none⟩) (by simp) _).alloc (by simp; omega) _
end Go.Proofs.YtendnkpiidhogaaGreat.At

namespace Go.Proofs.YtendnkpiidhogaaGreat

def val (B : Nat) : List Nat → Nat
 | [] => 0
 | x :: l => x + B * val B l
def digs (B : Nat) (n : Nat) : List Nat := if _h : 2 ≤ B ∧ 0 < n then n % B :: digs B (n / B) else []
termination_by n
decreasing_by exact Nat.div_lt_self _h.2 _h.1

@[simp] theorem val_nil (B : Nat) : val B [] = 0 := rfl
@[simp] theorem val_cons (B x : Nat) (l : List Nat) : val B (x :: l) = x + B * val B l := rfl
theorem digs_zero (B : Nat) : digs B 0 = [] := by rw [digs]; simp
theorem digs_pos {B n : Nat} (hB : 2 ≤ B) (hn : 0 < n) : digs B n = n % B :: digs B (n / B) := by rw [digs]; simp [hB, hn]
theorem val_digs {B : Nat} (hB : 2 ≤ B) (n : Nat) : val B (digs B n) = n := by
  induction n using Nat.strongRecOn with
  | ind n ih =>
    rcases Nat.eq_zero_or_pos n with h | h
    · subst h; rw [digs_zero]; rfl
    · rw [digs_pos hB h, val_cons, ih _ (Nat.div_lt_self h hB)]
      exact Nat.mod_add_div n B
theorem digs_lt {B : Nat} (hB : 2 ≤ B) (n : Nat) : ∀ x ∈ digs B n, x < B := by
  induction n using Nat.strongRecOn with
  | ind n ih =>
    rcases Nat.eq_zero_or_pos n with h | h
    · subst h; rw [digs_zero]; simp
    · rw [digs_pos hB h]
      intro x hx
      rcases List.mem_cons.1 hx with rfl | hx
      · exact Nat.mod_lt _ (by omega)
      · exact ih _ (Nat.div_lt_self h hB) x hx
theorem val_append (B : Nat) (l m : List Nat) : val B (l ++ m) = val B l + B ^ l.length * val B m := by
 induction l with
 | nil => simp
 | cons x l ih => simp [ih, Nat.pow_succ, Nat.mul_add, Nat.mul_assoc, Nat.mul_comm, Nat.add_assoc]
theorem val_lt {B : Nat} {l : List Nat} (h : ∀ x ∈ l, x < B) : val B l < B ^ l.length := by
  induction l with
  | nil => simp
  | cons x l ih =>
    have h1 := h x (by simp)
    have h2 := ih fun y hy => h y (by simp [hy])
    simp only [val_cons, List.length_cons, Nat.pow_succ]
    have : B * (val B l + 1) ≤ B * B ^ l.length := Nat.mul_le_mul_left _ h2
    rw [Nat.mul_add] at this
    rw [Nat.mul_comm (B ^ l.length)]
    omega
theorem val_zeros {B : Nat} {l : List Nat} (h : ∀ x ∈ l, x = 0) : val B l = 0 := by
 induction l with
 | nil => rfl
 | cons x l ih => rw [val_cons, h x (by simp), ih fun y hy => h y (by simp [hy])]; simp
theorem val_replicate (B n : Nat) : val B (List.replicate n 0) = 0 := val_zeros (by simp)
theorem val_take_drop (B : Nat) (l : List Nat) {n : Nat} (hn : n ≤ l.length) : val B l = val B (l.take n) + B ^ n * val B (l.drop n) := by
 have := val_append B (l.take n) (l.drop n)
 rwa [List.take_append_drop, List.length_take, Nat.min_eq_left hn] at this
theorem val_take_succ (B : Nat) {l : List Nat} {n : Nat} (hn : n < l.length) : val B (l.take (n + 1)) = val B (l.take n) + B ^ n * l[n] := by
 rw [List.take_succ_eq_append_getElem hn, val_append, List.length_take, Nat.min_eq_left (by omega)]
 simp
theorem val_set (B : Nat) {l : List Nat} {n : Nat} (hn : n < l.length) (x : Nat) : val B (l.set n x) + B ^ n * l[n] = val B l + B ^ n * x := by
 have h1 := val_take_drop B l (Nat.le_of_lt hn)
 have h2 := val_take_drop B (l.set n x) (n := n) (by simp; omega)
 have h3 : l.drop n = l[n] :: l.drop (n + 1) := List.drop_eq_getElem_cons hn
 have h4 : (l.set n x).drop n = x :: l.drop (n + 1) := by
  rw [List.drop_set, if_neg (Nat.lt_irrefl _), h3, Nat.sub_self, List.set_cons_zero]
 have h5 : (l.set n x).take n = l.take n := by rw [List.take_set]; apply List.set_eq_of_length_le; simp; omega
 rw [h4, h5, val_cons] at h2
 rw [h3, val_cons] at h1
 rw [h1, h2]
 simp only [Nat.mul_add]
 omega
theorem digs_val {B : Nat} (hB : 2 ≤ B) : ∀ {l : List Nat}, (∀ x ∈ l, x < B) → (∀ h : l ≠ [], l.getLast h ≠ 0) → digs B (val B l) = l
  | [], _, _ => digs_zero B
  | x :: l, h, hl => by
    have hx := h x (by simp)
    have hpos : 0 < val B (x :: l) := by
      rcases Nat.eq_zero_or_pos (val B (x :: l)) with h0 | h0
      · exfalso
        have hz : ∀ (m : List Nat) (hm : m ≠ []), val B m = 0 → m.getLast hm = 0 := by
          intro m
          induction m with
          | nil => intro hm; exact absurd rfl hm
          | cons y m ih =>
            intro hm hv
            rw [val_cons] at hv
            have hy : y = 0 := by omega
            have hB0 : B * val B m = 0 := by omega
            rcases Nat.mul_eq_zero.1 hB0 with h' | h'
            · omega
            · rcases m with _ | ⟨z, m⟩
              · simpa using hy
              · rw [List.getLast_cons (by simp)]; exact ih (by simp) h'
        exact hl (by simp) (hz _ _ h0)
      · exact h0
    rw [digs_pos hB hpos]
    have e1 : val B (x :: l) % B = x := by rw [val_cons, Nat.add_mul_mod_self_left, Nat.mod_eq_of_lt hx]
    have e2 : val B (x :: l) / B = val B l := by rw [val_cons, Nat.add_mul_div_left _ _ (by omega), Nat.div_eq_of_lt hx]; omega
    rw [e1, e2, digs_val hB (fun y hy => h y (by simp [hy])) fun hne => by
      have := hl (by simp)
      rwa [List.getLast_cons hne] at this]
theorem digs_last {B : Nat} (hB : 2 ≤ B) (n : Nat) (h : digs B n ≠ []) : (digs B n).getLast h ≠ 0 := by
  induction n using Nat.strongRecOn with
  | ind n ih =>
    rcases Nat.eq_zero_or_pos n with h0 | h0
    · subst h0; exact absurd (digs_zero B) h
    · rcases Nat.eq_zero_or_pos (n / B) with h1 | h1
      · have e : digs B n = [n % B] := by rw [digs_pos hB h0, h1, digs_zero]
        have hlt : n < B := by rcases Nat.lt_or_ge n B with h | h; exact h; have := Nat.div_pos h (by omega); omega
        simp only [e, List.getLast_singleton]
        rw [Nat.mod_eq_of_lt hlt]; omega
      · have e := digs_pos hB h0
        have hne : digs B (n / B) ≠ [] := by rw [digs_pos hB h1]; simp
        simp only [e, List.getLast_cons hne]
        exact ih _ (Nat.div_lt_self h0 hB) hne
theorem take_digs {B : Nat} (hB : 2 ≤ B) {l : List Nat} (hl : ∀ x ∈ l, x < B) {n : Nat} (hn : n ≤ l.length) (hz : ∀ x ∈ l.drop n, x = 0) (h0 : 0 < n → l.getD (n - 1) 0 ≠ 0) : l.take n = digs B (val B l) := by
 have e : val B l = val B (l.take n) := by rw [val_take_drop B l hn, val_zeros hz]; simp
 rw [e]
 refine (digs_val hB (fun x hx => hl x (List.mem_of_mem_take hx)) fun hne => ?_).symm
 have hn0 : 0 < n := by
  rcases Nat.eq_zero_or_pos n with h | h
  · subst h; simp at hne
  · exact h
 have := h0 hn0
 rw [List.getLast_eq_getElem, List.getElem_take]
 simp only [List.length_take, Nat.min_eq_left hn]
 rwa [List.getD_eq_getElem?_getD, List.getElem?_eq_getElem (by omega), Option.getD_some] at this
theorem digs_length_le {B : Nat} (hB : 2 ≤ B) {l : List Nat} (hl : ∀ x ∈ l, x < B) : (digs B (val B l)).length ≤ l.length := by
  rcases Nat.lt_or_ge l.length (digs B (val B l)).length with h | h
  · exfalso
    have h1 := val_lt hl
    have hne : digs B (val B l) ≠ [] := by intro e; rw [e] at h; simp at h
    have h2 : B ^ ((digs B (val B l)).length - 1) ≤ val B l := by
      generalize val B l = v at hne ⊢
      have := digs_last hB v hne
      have h3 := val_digs hB v
      obtain ⟨m, x, hm⟩ : ∃ m x, digs B v = m ++ [x] := ⟨_, _, (List.dropLast_concat_getLast hne).symm⟩
      have hx : x ≠ 0 := by have h4 : (digs B v).getLast hne = x := by simp [hm]
                            rw [h4] at this; exact this
      rw [hm, val_append] at h3
      rw [hm]
      simp at h3 ⊢
      rw [← h3]
      have : B ^ m.length * 1 ≤ B ^ m.length * x := Nat.mul_le_mul_left _ (by omega)
      omega
    have h3 : B ^ l.length ≤ B ^ ((digs B (val B l)).length - 1) := Nat.pow_le_pow_right (by omega) (by omega)
    omega
  · exact h
theorem pow_digs_le {B : Nat} (hB : 2 ≤ B) {v : Nat} (hv : 0 < v) : B ^ ((digs B v).length - 1) ≤ v := by
 have hne : digs B v ≠ [] := by rw [digs_pos hB hv]; simp
 have := digs_last hB v hne
 have h3 := val_digs hB v
 obtain ⟨m, x, hm⟩ : ∃ m x, digs B v = m ++ [x] := ⟨_, _, (List.dropLast_concat_getLast hne).symm⟩
 have hx : x ≠ 0 := by
  have h4 : (digs B v).getLast hne = x := by simp [hm]
  rw [h4] at this; exact this
 rw [hm, val_append] at h3
 rw [hm]
 simp at h3 ⊢
 rw [← h3]
 have : B ^ m.length * 1 ≤ B ^ m.length * x := Nat.mul_le_mul_left _ (by omega)
 omega
theorem lt_pow_digs {B : Nat} (hB : 2 ≤ B) (v : Nat) : v < B ^ (digs B v).length := by
 have := val_lt (digs_lt hB v)
 rwa [val_digs hB] at this
theorem digs_length_of_lt {B : Nat} (hB : 2 ≤ B) {v n : Nat} (h : v < B ^ n) : (digs B v).length ≤ n := by
 rcases Nat.eq_zero_or_pos v with h0 | h0
 · subst h0; rw [digs_zero]; simp
 · have h1 := pow_digs_le hB h0
   rcases Nat.lt_or_ge n (digs B v).length with h2 | h2
   · have : B ^ n ≤ B ^ ((digs B v).length - 1) := Nat.pow_le_pow_right (by omega) (by omega)
     omega
   · exact h2
theorem digs_length_mono {B : Nat} (hB : 2 ≤ B) {m n : Nat} (h : m ≤ n) : (digs B m).length ≤ (digs B n).length :=
 digs_length_of_lt hB (Nat.lt_of_le_of_lt h (lt_pow_digs hB n))
theorem lt_of_digs_length {B : Nat} (hB : 2 ≤ B) {m n : Nat} (h : (digs B m).length < (digs B n).length) : m < n := by
 rcases Nat.lt_or_ge m n with h1 | h1
 · exact h1
 · have := digs_length_mono hB h1; omega
theorem val_lt_of {B : Nat} {l m : List Nat} (hl : ∀ x ∈ l, x < B) (hlen : l.length = m.length) {i : Nat} (hi : i < l.length) (hd : l.drop (i + 1) = m.drop (i + 1)) (h : l[i] < m[i]'(by omega)) : val B l < val B m := by
 have h1 := val_take_drop B l (n := i + 1) (by omega)
 have h2 := val_take_drop B m (n := i + 1) (by omega)
 rw [val_take_succ B hi] at h1
 rw [val_take_succ B (by omega)] at h2
 have h3 : val B (l.take i) < B ^ i := by
  have := val_lt (B := B) (l := l.take i) fun x hx => hl x (List.mem_of_mem_take hx)
  rwa [List.length_take, Nat.min_eq_left (by omega)] at this
 have h4 : B ^ i * (l[i] + 1) ≤ B ^ i * m[i]'(by omega) := Nat.mul_le_mul_left _ h
 rw [Nat.mul_add] at h4
 rw [hd] at h1
 omega
end Go.Proofs.YtendnkpiidhogaaGreat

namespace Go.Proofs.YtendnkpiidhogaaGreat

def dg (l : List Nat) (i : Nat) : Nat := l.getD i 0

theorem getD_eq' {l : List Nat} {i : Nat} (h : i < l.length) : l.getD i 0 = l[i] := by
 rw [List.getD_eq_getElem?_getD, List.getElem?_eq_getElem h, Option.getD_some]
theorem val_take_getD (B : Nat) (l : List Nat) (k : Nat) : val B (l.take (k + 1)) = val B (l.take k) + B ^ k * dg l k := by
 rcases Nat.lt_or_ge k l.length with h | h
 · rw [val_take_succ B h, dg, List.getD_eq_getElem?_getD, List.getElem?_eq_getElem h, Option.getD_some]
 · rw [List.take_of_length_le (by omega), List.take_of_length_le h, dg, List.getD_eq_getElem?_getD, List.getElem?_eq_none h]
   simp
theorem val_take_set (B : Nat) {o : List Nat} {k : Nat} (h : k < o.length) (s : Nat) : val B ((o.set k s).take (k + 1)) = val B (o.take k) + B ^ k * s := by
 rw [val_take_getD, List.take_set, List.set_eq_of_length_le (by simp; omega), dg, List.getD_eq_getElem?_getD, List.getElem?_set_self h, Option.getD_some]
def AddAt (B : Nat) (a b o : List Nat) (k c : Nat) : Prop := val B (o.take k) + B ^ k * c = val B (a.take k) + val B (b.take k)
theorem AddAt.zero (B : Nat) (a b o : List Nat) : AddAt B a b o 0 0 := by simp [AddAt]
theorem AddAt.step {B : Nat} {a b o : List Nat} {k c s c' : Nat} (h : AddAt B a b o k c) (hk : k < o.length) (he : s + B * c' = dg a k + dg b k + c) : AddAt B a b (o.set k s) (k + 1) c' := by
 unfold AddAt at *
 rw [val_take_set B hk, val_take_getD, val_take_getD, Nat.pow_succ]
 have : B ^ k * (s + B * c') = B ^ k * (dg a k + dg b k + c) := by rw [he]
 simp only [Nat.mul_add, ← Nat.mul_assoc] at this
 omega
theorem AddAt.fin {B : Nat} {a b o : List Nat} {k c : Nat} (h : AddAt B a b o k c) (hk : o.length = k + 1) (ha : a.length ≤ k) (hb : b.length ≤ k) : val B (o.set k c) = val B a + val B b := by
 unfold AddAt at h
 rw [List.take_of_length_le ha, List.take_of_length_le hb] at h
 have := val_take_set B (o := o) (k := k) (by omega) c
 rw [List.take_of_length_le (by simp; omega)] at this
 rw [this, h]
def SubAt (B : Nat) (a b o : List Nat) (k c : Nat) : Prop := val B (o.take k) + val B (b.take k) = val B (a.take k) + B ^ k * c
theorem SubAt.zero (B : Nat) (a b o : List Nat) : SubAt B a b o 0 0 := by simp [SubAt]
theorem SubAt.step {B : Nat} {a b o : List Nat} {k c s c' : Nat} (h : SubAt B a b o k c) (hk : k < o.length) (he : s + dg b k + c = dg a k + B * c') : SubAt B a b (o.set k s) (k + 1) c' := by
 unfold SubAt at *
 rw [val_take_set B hk, val_take_getD, val_take_getD, Nat.pow_succ]
 have : B ^ k * (s + dg b k + c) = B ^ k * (dg a k + B * c') := by rw [he]
 simp only [Nat.mul_add, ← Nat.mul_assoc] at this
 omega
theorem SubAt.fin {B : Nat} {a b o : List Nat} {k c : Nat} (h : SubAt B a b o k c) (hk : o.length = k) (ho : ∀ x ∈ o, x < B) (ha : a.length = k) (hb : b.length ≤ k) (hle : val B b ≤ val B a) : val B o = val B a - val B b := by
 unfold SubAt at h
 rw [List.take_of_length_le (by omega), List.take_of_length_le hb, List.take_of_length_le (by omega)] at h
 have h1 := val_lt ho
 rw [hk] at h1
 rcases Nat.eq_zero_or_pos c with h0 | h0
 · subst h0; omega
 · have : B ^ k * 1 ≤ B ^ k * c := Nat.mul_le_mul_left _ h0
   omega
def MulAt (B : Nat) (o0 b : List Nat) (x i : Nat) (o : List Nat) (j c : Nat) : Prop :=
 o.length = o0.length ∧ val B o + B ^ (i + j) * c = val B o0 + B ^ i * (x * val B (b.take j)) ∧ (∀ n, i + j ≤ n → dg o n = dg o0 n)
theorem MulAt.zero (B : Nat) (o0 b : List Nat) (x i : Nat) : MulAt B o0 b x i o0 0 0 := by simp [MulAt]
theorem getD_set_ne {l : List Nat} {i j x : Nat} (h : i ≠ j) : dg (l.set i x) j = dg l j := by
 simp [dg, List.getD_eq_getElem?_getD, List.getElem?_set_ne h]
theorem getD_set_eq {l : List Nat} {i x : Nat} (h : i < l.length) : dg (l.set i x) i = x := by
 simp [dg, List.getD_eq_getElem?_getD, List.getElem?_set_self h]
theorem getD_eq {l : List Nat} {i : Nat} (h : i < l.length) : dg l i = l[i] := by
 rw [dg, List.getD_eq_getElem?_getD, List.getElem?_eq_getElem h, Option.getD_some]
theorem val_set' (B : Nat) {l : List Nat} {n : Nat} (hn : n < l.length) (x : Nat) : val B (l.set n x) + B ^ n * dg l n = val B l + B ^ n * x := by
 rw [getD_eq hn]; exact val_set B hn x
theorem MulAt.step {B : Nat} {o0 b o : List Nat} {x i j c s c' : Nat} (h : MulAt B o0 b x i o j c) (hk : i + j < o.length) (he : s + B * c' = x * dg b j + dg o (i + j) + c) :
 MulAt B o0 b x i (o.set (i + j) s) (j + 1) c' := by
 obtain ⟨h1, h2, h3⟩ := h
 refine ⟨by simpa using h1, ?_, fun n hn => by rw [getD_set_ne (by omega), h3 n (by omega)]⟩
 have hs := val_set' B hk s
 rw [val_take_getD, ← Nat.add_assoc, Nat.pow_succ]
 have e1 : B ^ (i + j) * (s + B * c') = B ^ (i + j) * (x * dg b j + dg o (i + j) + c) := by rw [he]
 simp only [Nat.mul_add, ← Nat.mul_assoc] at e1 ⊢
 have e2 : B ^ i * x * B ^ j * dg b j = B ^ (i + j) * x * dg b j := by
  rw [Nat.pow_add]; simp only [Nat.mul_comm, Nat.mul_assoc]
 simp only [← Nat.mul_assoc] at h2
 omega
theorem MulAt.fin {B : Nat} {o0 b o : List Nat} {x i n c : Nat} (h : MulAt B o0 b x i o n c) (hn : b.length = n) (hk : i + n < o.length) (h0 : dg o0 (i + n) = 0) : val B (o.set (i + n) c) = val B o0 + B ^ i * (x * val B b) := by
 obtain ⟨h1, h2, h3⟩ := h
 have hs := val_set' B hk c
 rw [h3 _ (Nat.le_refl _), h0] at hs
 rw [List.take_of_length_le (by omega)] at h2
 omega
def RowAt (B : Nat) (a b o : List Nat) (i : Nat) : Prop := o.length = a.length + b.length ∧ val B o = val B (a.take i) * val B b ∧ ∀ n, i + b.length ≤ n → dg o n = 0
theorem RowAt.zero (B : Nat) (a b : List Nat) : RowAt B a b (List.replicate (a.length + b.length) 0) 0 := by
 refine ⟨by simp, by simp [val_replicate], fun n _ => ?_⟩
 rw [dg, List.getD_eq_getElem?_getD, List.getElem?_replicate]
 split <;> rfl
theorem RowAt.step {B : Nat} {a b o0 o : List Nat} {i c : Nat} (h : RowAt B a b o0 i) (hi : i < a.length) (hm : MulAt B o0 b (dg a i) i o b.length c) : RowAt B a b (o.set (i + b.length) c) (i + 1) := by
 obtain ⟨h1, h2, h3⟩ := h
 have hl := hm.1
 refine ⟨by simpa [hl] using h1, ?_, fun n hn => ?_⟩
 · rw [hm.fin rfl (by omega) (h3 _ (Nat.le_refl _)), h2, val_take_getD, Nat.add_mul, Nat.mul_assoc]
 · rw [getD_set_ne (by omega), hm.2.2 n (by omega), h3 n (by omega)]
theorem RowAt.fin {B : Nat} {a b o : List Nat} (h : RowAt B a b o a.length) : val B o = val B a * val B b := by
 have := h.2.1
 rwa [List.take_length] at this
theorem set_lt {B : Nat} {o : List Nat} (h : ∀ x ∈ o, x < B) {k s : Nat} (hs : s < B) : ∀ x ∈ o.set k s, x < B := by
 intro x hx
 rcases List.mem_or_eq_of_mem_set hx with hx | rfl
 · exact h x hx
 · exact hs
theorem mul_bound {B x y u c : Nat} (hx : x < B) (hy : y < B) (hu : u < B) (hc : c < B) : x * y + u + c < B * B := by
 obtain ⟨n, rfl⟩ : ∃ n, B = n + 1 := ⟨B - 1, by omega⟩
 have : x * y ≤ n * n := Nat.mul_le_mul (by omega) (by omega)
 simp only [Nat.add_mul, Nat.mul_add, Nat.mul_one, Nat.one_mul]
 omega
theorem getD_lt {B : Nat} (hB : 0 < B) {l : List Nat} (h : ∀ x ∈ l, x < B) (i : Nat) : dg l i < B := by
 rcases Nat.lt_or_ge i l.length with hi | hi
 · rw [getD_eq hi]; exact h _ (List.getElem_mem hi)
 · rw [dg, List.getD_eq_getElem?_getD, List.getElem?_eq_none hi]; exact hB
end Go.Proofs.YtendnkpiidhogaaGreat

namespace Go.Proofs
open Go.Shelf
def Tryz.lays129_ren : Go.Shelf.Ren := ⟨fun | 129 => 135 | n => n, fun | 53 => 139 | 3 => 3 | 4 => 4 | 46 => 96 | 5 => 5 | 9 => 9 | n => n, fun | n => n⟩
theorem Tryz.lays129 : Go.Proofs.Lays.n129 Tryz.prog Tryz.lays129_ren := {
 mixed := by kernel_rfl
 f129 := Tryz.func135.trans (congrArg some (by kernel_rfl))
 t3 := Tryz.underlying3
 a3 := Tryz.isAgg3
 z3 := Tryz.sizeOf3
 v3 := Tryz.zeroValue3
 t4 := Tryz.underlying4
 a4 := Tryz.isAgg4
 z4 := Tryz.sizeOf4
 v4 := Tryz.zeroValue4
 t5 := Tryz.underlying5
 a5 := Tryz.isAgg5
 z5 := Tryz.sizeOf5
 v5 := Tryz.zeroValue5
 t9 := Tryz.underlying9
 a9 := Tryz.isAgg9
 z9 := Tryz.sizeOf9
 v9 := Tryz.zeroValue9
 t46 := Tryz.underlying96
 a46 := Tryz.isAgg96
 z46 := Tryz.sizeOf96
 v46 := Tryz.zeroValue96
 t53 := Tryz.underlying139
 a53 := Tryz.isAgg139
 z53 := Tryz.sizeOf139
 v53 := Tryz.zeroValue139 }
theorem Tryz.bits_Len64 (x : Int) (w : World) (h0 : 0 ≤ x) (h1 : x ≤ 18446744073709551615) :
 Calls Tryz.prog 135 #[.int .u64 x] w fun e w' => e = .returned (.int .i64 (Lib.bitLen x.toNat)) ∧ w' = w := Any.bits_Len64 Tryz.lays129 x w h0 h1
end Go.Proofs

namespace Go.Proofs.YtendnkpiidhogaaGreat
open Go.RowKit

theorem eqB {a b : Int} (h : a ≠ b) : (a == b) = false := by simpa using h
theorem neB {a b : Int} (h : a ≠ b) : (a != b) = true := by simpa using h
theorem drewN_add (w : World) (n m : Nat) : (w.drewN n).drewN m = w.drewN (n + m) := by simp [World.drewN, Nat.add_assoc]
theorem drewN_3 (w : World) (n m k : Nat) : ((w.drewN n).drewN m).drewN k = w.drewN (n + m + k) := by simp [World.drewN, Nat.add_assoc]
theorem dr1 (w : World) (n : Nat) : ∃ k, w.drewN n = w.drewN k := ⟨n, rfl⟩
theorem dr2 (w : World) (n m : Nat) : ∃ k, (w.drewN n).drewN m = w.drewN k := ⟨_, drewN_add _ _ _⟩
theorem dr3 (w : World) (n m k : Nat) : ∃ d, ((w.drewN n).drewN m).drewN k = w.drewN d := ⟨_, drewN_3 _ _ _ _⟩
theorem add_blk (g j : Nat) : (⟨g, 0, none⟩ : Addr).add j = ⟨g, j, none⟩ := by
 rcases Nat.eq_zero_or_pos j with h | h
 · subst h; rfl
 · simp [Addr.add, Nat.pos_iff_ne_zero.1 h]
def nts (l : List Nat) : List Value := l.map fun x : Nat => .int .u64 (x : Int)
theorem nts_length (l : List Nat) : (nts l).length = l.length := by simp [nts]
theorem nts_get {l : List Nat} {i : Nat} (h : i < l.length) : (nts l)[i]? = some (.int .u64 (dg l i : Int)) := by
 rw [getD_eq h]; simp [nts, List.getElem?_eq_getElem h]
theorem nts_take (l : List Nat) (n : Nat) : (nts l).take n = nts (l.take n) := by simp [nts]
theorem oneCell_nts (l : List Nat) : ∀ u ∈ nts l, u.oneCell' = true := by
 intro u hu
 obtain ⟨x, _, rfl⟩ := List.mem_map.1 hu
 rfl

def Lim (l : List Nat) : Prop := (∀ x ∈ l, x < 18446744073709551616) ∧ l.length ≤ 1000000
def RN (w : World) (P : Nat → Prop) (A : Option Addr) (c : Nat) (l : List Nat) : Prop := RS w P 1 A l.length c (nts l) ∧ Lim l
def Blk (w : World) (g : Nat) (l : List Nat) : Prop := w.heap[g]? = some (.cells (nts l).toArray 139 (0, 0))
def OB (w : World) (base : Nat) (A : Option Addr) (c : Nat) (l : List Nat) : Prop :=
 Lim l ∧ l.length ≤ c ∧ c ≤ maxLen ∧ (0 < l.length → ∃ g cur, A = some ⟨g, 0, none⟩ ∧ base ≤ g ∧ w.heap[g]? = some (.cells cur 139 (0, 0)) ∧ ∀ (j : Nat) u, (nts l)[j]? = some u → cur[j]? = some u)

section
variable {w w' : World} {P P' : Nat → Prop} {A : Option Addr} {c g base : Nat} {l : List Nat}
theorem Lim.nil_ : Lim [] := ⟨by simp, by simp⟩
theorem Lim.take (h : Lim l) (n : Nat) : Lim (l.take n) := ⟨fun x hx => h.1 x (List.mem_of_mem_take hx), by rw [List.length_take]; have := h.2; omega⟩
theorem Lim.set (h : Lim l) (i x : Nat) (hx : x < 18446744073709551616) : Lim (l.set i x) := ⟨set_lt h.1 hx, by simpa using h.2⟩
theorem Lim.dgLt (h : Lim l) (i : Nat) : dg l i < 18446744073709551616 := getD_lt (by omega) h.1 i
theorem Lim.digs {B v : Nat} (hB : 2 ≤ B) (hB' : B ≤ 18446744073709551616) (hl : v < B ^ 1000000) : Lim (digs B v) := ⟨fun x hx => Nat.lt_of_lt_of_le (digs_lt hB v x hx) hB', digs_length_of_lt hB hl⟩
theorem Lim.trim (h : Lim l) : ∃ n, n ≤ l.length ∧ Go.Proofs.YtendnkpiidhogaaGreat.digs 18446744073709551616 (val 18446744073709551616 l) = l.take n := by
  refine ⟨(Go.Proofs.YtendnkpiidhogaaGreat.digs 18446744073709551616 (val 18446744073709551616 l)).length, digs_length_le (by omega) h.1, ?_⟩
  obtain ⟨n, hn, hz, h0⟩ : ∃ n, n ≤ l.length ∧ (∀ x ∈ l.drop n, x = 0) ∧ (0 < n → dg l (n - 1) ≠ 0) := by
    have : ∀ k, k ≤ l.length → (∀ x ∈ l.drop k, x = 0) → ∃ n, n ≤ l.length ∧ (∀ x ∈ l.drop n, x = 0) ∧ (0 < n → dg l (n - 1) ≠ 0) := by
      intro k
      induction k with
      | zero => intro _ hz; exact ⟨0, by omega, hz, by omega⟩
      | succ k ih =>
        intro hk hz
        by_cases h : dg l k = 0
        · refine ih (by omega) fun x hx => ?_
          rw [List.drop_eq_getElem_cons (by omega : k < l.length)] at hx
          rcases List.mem_cons.1 hx with rfl | hx
          · rwa [getD_eq (by omega)] at h
          · exact hz x hx
        · exact ⟨k + 1, hk, hz, fun _ => by simpa using h⟩
    exact this l.length (Nat.le_refl _) (by simp)
  have h1 := take_digs (B := 18446744073709551616) (by omega) h.1 hn hz h0
  rw [← h1, List.length_take, Nat.min_eq_left hn]
theorem RN.keep (h : RN w P A c l) (hk : ∀ p : Addr, P p.block → w'.cell? p = w.cell? p) : RN w' P A c l := ⟨h.1.keep hk, h.2⟩
theorem RN.mono (h : RN w P A c l) (hp : ∀ b, P b → P' b) : RN w P' A c l := ⟨h.1.mono hp, h.2⟩
theorem RN.below {B : Nat} (h : RN w P A c l) (hb : Below B w w') (hB : ∀ b, P b → b < B) : RN w' P A c l := ⟨h.1.below hb hB, h.2⟩
theorem RN.drewN (h : RN w P A c l) (n : Nat) : RN (w.drewN n) P A c l := h
theorem RN.cap (h : RN w P A c l) : l.length ≤ c ∧ c ≤ 9223372036854775807 ∧ l.length ≤ 1000000 := ⟨h.1.1, h.1.2.1, h.2.2⟩
theorem RN.nil_ (w : World) (P : Nat → Prop) : RN w P none 0 [] := ⟨RS.nil_ _ _ _, Lim.nil_⟩
theorem RN.take (h : RN w P A c l) (n : Nat) : RN w P A c (l.take n) := by
 by_cases hn : n ≤ l.length
 · refine ⟨?_, h.2.take n⟩
   have := h.1.pre hn
   rw [Nat.mul_one, nts_take] at this
   rwa [List.length_take, Nat.min_eq_left hn]
 · rw [List.take_of_length_le (by omega)]; exact h
theorem RN.at_ (h : RN w P A c l) {i : Nat} (hi' : i < l.length) : ∃ ad, A = some ad ∧ P ad.block ∧ w.cell? (ad.add i) = some (.int .u64 (dg l i : Int)) := by
 obtain ⟨⟨h1, h2, h3, h4⟩, h5⟩ := h
 obtain ⟨ad, rfl, hb, hc⟩ := h4 (by omega)
 exact ⟨ad, rfl, hb, hc _ _ (nts_get hi')⟩
theorem RN.cells {ad : Addr} (h : RN w P (some ad) c l) : ∀ i, i < l.length → w.cell? (ad.add i) = some (.int .u64 (dg l i : Int)) := by
 intro i hi
 obtain ⟨ad', e, _, hc⟩ := h.at_ hi
 cases e
 exact hc
theorem RN.lt (h : RN w P A c l) (i : Nat) : (dg l i : Int) < 18446744073709551616 := by have := h.2.dgLt i; omega
theorem Blk.cell (h : Blk w g l) {i : Nat} (hi : i < l.length) : w.cell? ⟨g, i, none⟩ = some (.int .u64 (dg l i : Int)) := by
 rw [blk_cell h i, List.getElem?_toArray, nts_get hi]
theorem Blk.free (h : Blk w g l) (i : Nat) : w.frozen? ⟨g, i, none⟩ = false := blk_free h i
theorem Blk.lt (h : Blk w g l) : g < w.heap.size := blk_lt h
theorem Blk.set (h : Blk w g l) (i : Nat) (x : Nat) : Blk (w.setCell ⟨g, i, none⟩ (.int .u64 (x : Int))) g (l.set i x) := by
 unfold Blk at *
 simp [World.setCell, Array.getElem?_modify, h, nts]
theorem Blk.below {B : Nat} (h : Blk w g l) (hb : Below B w w') (hg : g < B) : Blk w' g l := (hb.block g hg).trans h
theorem Blk.drewN (h : Blk w g l) (n : Nat) : Blk (w.drewN n) g l := h
theorem Blk.other (h : Blk w g l) {p : Addr} (hp : g ≠ p.block) (v : Value) : Blk (w.setCell p v) g l := (Below.heap_setCell w p v g hp).trans h
theorem Blk.alloc (h : Blk w g l) (o : Obj) : Blk (w.alloc o) g l := (Below.heap_alloc w o g (blk_lt h)).trans h
theorem Blk.made (w : World) (n : Nat) : Blk (w.alloc (.cells (madeCells #[.int .u64 0] n) 139)) w.heap.size (List.replicate n 0) := by
 unfold Blk
 rw [heap_alloc_new]
 congr 1
 congr 1
 apply Array.ext_getElem?
 intro i
 by_cases hi : i < n
 · have hs : i < (madeCells #[Value.int .u64 0] n).size := by rw [size_madeCells]; simpa using hi
   rw [Array.getElem?_eq_getElem hs]
   simp [madeCells, nts, hi, Nat.mod_one]
 · rw [Array.getElem?_eq_none (by rw [size_madeCells]; omega), Array.getElem?_eq_none (by simp [nts]; omega)]
theorem OB.rn (h : OB w base A c l) : RN w (In base w.heap.size) A c l := by
 obtain ⟨h1, h2, h3, h4⟩ := h
 refine ⟨⟨h2, h3, by simp [nts], fun hn => ?_⟩, h1⟩
 obtain ⟨g, cur, rfl, hg, hh, hc⟩ := h4 hn
 refine ⟨_, rfl, ⟨hg, blk_lt hh⟩, fun j u hu => ?_⟩
 have := blk_cell hh j
 rw [hc j u hu] at this
 rw [add_blk]
 exact this
theorem OB.nil_ (w : World) (base : Nat) : OB w base none 0 [] := ⟨Lim.nil_, Nat.le_refl _, by unfold maxLen; omega, fun h => absurd h (by simp)⟩
theorem OB.below {B : Nat} (h : OB w base A c l) (hb : Below B w w') (hB : w.heap.size ≤ B) : OB w' base A c l := by
 obtain ⟨h1, h2, h3, h4⟩ := h
 refine ⟨h1, h2, h3, fun hn => ?_⟩
 obtain ⟨g, cur, rfl, hg, hh, hc⟩ := h4 hn
 exact ⟨g, cur, rfl, hg, (hb.block g (Nat.lt_of_lt_of_le (blk_lt hh) hB)).trans hh, hc⟩
theorem OB.drewN (h : OB w base A c l) (n : Nat) : OB (w.drewN n) base A c l := h
theorem OB.mono {base' : Nat} (h : OB w base A c l) (hb : base' ≤ base) : OB w base' A c l := by
 obtain ⟨h1, h2, h3, h4⟩ := h
 refine ⟨h1, h2, h3, fun hn => ?_⟩
 obtain ⟨g, cur, e, hg, hh, hc⟩ := h4 hn
 exact ⟨g, cur, e, by omega, hh, hc⟩
theorem OB.cap (h : OB w base A c l) : l.length ≤ c ∧ c ≤ 9223372036854775807 ∧ l.length ≤ 1000000 := ⟨h.2.1, h.2.2.1, h.1.2⟩
theorem OB.take (h : OB w base A c l) (n : Nat) : OB w base A c (l.take n) := by
 obtain ⟨h1, h2, h3, h4⟩ := h
 refine ⟨h1.take n, by rw [List.length_take]; omega, h3, fun hn => ?_⟩
 obtain ⟨g, cur, e, hg, hh, hc⟩ := h4 (by rw [List.length_take] at hn; omega)
 refine ⟨g, cur, e, hg, hh, fun j u hu => hc j u ?_⟩
 rw [← nts_take, List.getElem?_take] at hu
 split at hu
 · exact hu
 · cases hu
theorem OB.of_blk (h : Blk w g l) (hg : base ≤ g) (hl : Lim l) {c : Nat} (hc : l.length ≤ c) (hc' : c ≤ maxLen) : OB w base (some ⟨g, 0, none⟩) c l :=
 ⟨hl, hc, hc', fun _ => ⟨g, _, rfl, hg, h, fun j u hu => by rw [List.getElem?_toArray]; exact hu⟩⟩
theorem OB.of_own (h : w.ownsRow base 139 1 (.slice A l.length c) l.length (nts l)) (hl : Lim l) : OB w base A c l := by
 obtain ⟨h0, ⟨e1, e2⟩ | ⟨g, cap, cur, e1, hg, hh, h5, h6, h7, h8⟩⟩ := h
 · injection e1 with e1 e3 e4
   have : l = [] := List.eq_nil_of_length_eq_zero e2
   subst e1 e4 this
   exact OB.nil_ w base
 · injection e1 with e1 e2 e3
   subst e1 e3
   refine ⟨hl, h5, h6, fun _ => ⟨g, cur, rfl, hg, hh, fun j u hu => ?_⟩⟩
   rw [← h8, List.getElem?_take] at hu
   split at hu
   · rwa [Array.getElem?_toList] at hu
   · cases hu
end

theorem info64 : (Tryz.prog.info? 139).map (fun i => (i.zero, i.size, i.bytes)) = some (some (.int .u64 0), 1, 8) := by kernel_rfl
end Go.Proofs.YtendnkpiidhogaaGreat

namespace Go.Proofs.YtendnkpiidhogaaGreat
open Go.RowKit

def CutAt (l : List Nat) (k : Nat) : Prop := k ≤ l.length ∧ ∀ x ∈ l.drop k, x = 0
theorem CutAt.zero (l : List Nat) : CutAt l l.length := ⟨Nat.le_refl _, by simp⟩
theorem CutAt.step {l : List Nat} {k : Nat} (h : CutAt l (k + 1)) (h0 : dg l k = 0) : CutAt l k := by
 obtain ⟨h1, h2⟩ := h
 refine ⟨by omega, fun x hx => ?_⟩
 rw [List.drop_eq_getElem_cons (by omega : k < l.length)] at hx
 rcases List.mem_cons.1 hx with rfl | hx
 · rwa [getD_eq (by omega)] at h0
 · exact h2 x hx
theorem CutAt.fin {B : Nat} (hB : 2 ≤ B) {l : List Nat} (hl : ∀ x ∈ l, x < B) {k : Nat} (h : CutAt l k) (h0 : 0 < k → dg l (k - 1) ≠ 0) : l.take k = digs B (val B l) :=
 take_digs hB hl h.1 h.2 h0
theorem CutAt.len {B : Nat} (hB : 2 ≤ B) {l : List Nat} (hl : ∀ x ∈ l, x < B) {k : Nat} (h : CutAt l k) (h0 : 0 < k → dg l (k - 1) ≠ 0) : (digs B (val B l)).length = k := by
 rw [← h.fin hB hl h0, List.length_take, Nat.min_eq_left h.1]

set_option maxHeartbeats 400000 in
theorem trim_any (P : Nat → Prop) (A : Option Addr) (c : Nat) (l : List Nat) (w : World) (h : RN w P A c l) :
 Calls Tryz.prog 134 #[.slice A l.length c] w fun e w' => e = .returned (.slice A (digs 18446744073709551616 (val 18446744073709551616 l)).length c) ∧ w = w' := by
 obtain ⟨h1, h2, h3⟩ := h.cap
 go_enter Tryz.func134, Tryz.ntmps134
 go_wp2
 go_loop [3] (fun n => ∃ k : Nat, CutAt l k ∧ n = .int .i64 k) (fun n => (intOf n).toNat)
 case atStart => exact ⟨l.length, CutAt.zero l, rfl⟩
 case round =>
  obtain ⟨k, hk, rfl⟩ := hrel
  rcases k with _ | k
  · have hl := Lib.hid (hk.len (B := 18446744073709551616) (by omega) h.2.1 (by omega))
    go_wp2
    go_ret
    rw [hl.out]
    exact ⟨rfl, rfl⟩
  · obtain ⟨ad, rfl, _, hc⟩ := h.at_ (i := k) (by have := hk.1; omega)
    have hkl := hk.1
    by_cases h0 : dg l k = 0
    · rw [h0] at hc
      have hk' := hk.step h0
      clear hk h0
      go_wp2
      go_round
      case rel => exact ⟨k, hk', by go_num⟩
      case measure => simp [intOf]
    · have hl := Lib.hid (hk.len (B := 18446744073709551616) (by omega) h.2.1 (fun _ => h0))
      have h0' : (((dg l k : Nat) : Int) == 0) = false := eqB (by omega)
      clear h0
      go_wp2
      go_ret
      rw [hl.out]
      exact ⟨rfl, rfl⟩

theorem RN.trim {w : World} {P : Nat → Prop} {A : Option Addr} {c : Nat} {l : List Nat} (h : RN w P A c l) : RN w P A c (digs 18446744073709551616 (val 18446744073709551616 l)) := by
 obtain ⟨n, _, e⟩ := h.2.trim
 rw [e]
 exact h.take n
theorem OB.trim {w : World} {base : Nat} {A : Option Addr} {c : Nat} {l : List Nat} (h : OB w base A c l) : OB w base A c (digs 18446744073709551616 (val 18446744073709551616 l)) := by
 obtain ⟨n, _, e⟩ := h.1.trim
 rw [e]
 exact h.take n

def Dig (l : List Nat) : Prop := ∀ x ∈ l, x < 4294967296
theorem Dig.cut {l : List Nat} (h : Dig l) : ∃ n, n ≤ l.length ∧ l.take n = digs 4294967296 (val 4294967296 l) := by
  have : ∀ k, k ≤ l.length → (∀ x ∈ l.drop k, x = 0) → ∃ n, n ≤ l.length ∧ (∀ x ∈ l.drop n, x = 0) ∧ (0 < n → l.getD (n - 1) 0 ≠ 0) := by
    intro k
    induction k with
    | zero => intro _ hz; exact ⟨0, by omega, hz, by omega⟩
    | succ k ih =>
      intro hk hz
      by_cases h : l.getD k 0 = 0
      · refine ih (by omega) fun x hx => ?_
        rw [List.drop_eq_getElem_cons (by omega : k < l.length)] at hx
        rcases List.mem_cons.1 hx with rfl | hx
        · rwa [show l.getD k 0 = l[k] from getD_eq (by omega)] at h
        · exact hz x hx
      · exact ⟨k + 1, hk, hz, fun _ => by simpa using h⟩
  obtain ⟨n, hn, hz, h0⟩ := this l.length (Nat.le_refl _) (by simp)
  exact ⟨n, hn, take_digs (by omega) h hn hz h0⟩
theorem RS.recap {w : World} {P : Nat → Prop} {size : Nat} {A : Option Addr} {n c c' : Nat} {cs : List Value} (h : RS w P size A n c cs) (hc : n ≤ c') (hc' : c' ≤ maxLen) : RS w P size A n c' cs := ⟨hc, hc', h.2.2⟩
theorem RN.trim32 {w : World} {P : Nat → Prop} {A : Option Addr} {c : Nat} {l : List Nat} (h : RN w P A c l) (hl : Dig l) : RN w P A (digs 4294967296 (val 4294967296 l)).length (digs 4294967296 (val 4294967296 l)) := by
 obtain ⟨n, _, e⟩ := hl.cut
 rw [← e]
 have := h.take n
 exact ⟨this.1.recap (Nat.le_refl _) (by have := this.cap; unfold maxLen; omega), this.2⟩
theorem RN.recap {w : World} {P : Nat → Prop} {A : Option Addr} {c c' : Nat} {l : List Nat} (h : RN w P A c l) (hc : l.length ≤ c') (hc' : c' ≤ maxLen) : RN w P A c' l := ⟨h.1.recap hc hc', h.2⟩

set_option maxHeartbeats 400000 in
theorem refTrim_any (P : Nat → Prop) (A : Option Addr) (c : Nat) (l : List Nat) (w : World) (h : RN w P A c l) (hd : Dig l) :
 Calls Tryz.prog 160 #[.slice A l.length c] w fun e w' => e = .returned (.slice A (digs 4294967296 (val 4294967296 l)).length (digs 4294967296 (val 4294967296 l)).length) ∧ w = w' := by
 obtain ⟨h1, h2, h3⟩ := h.cap
 go_enter Tryz.func160, Tryz.ntmps160
 go_wp2
 go_loop [3] (fun n => ∃ k : Nat, CutAt l k ∧ n = .int .i64 k) (fun n => (intOf n).toNat)
 case atStart => exact ⟨l.length, CutAt.zero l, rfl⟩
 case round =>
  obtain ⟨k, hk, rfl⟩ := hrel
  rcases k with _ | k
  · have hl := Lib.hid (hk.len (B := 4294967296) (by omega) hd (by omega))
    go_wp2
    go_ret
    rw [hl.out]
    exact ⟨rfl, rfl⟩
  · obtain ⟨ad, rfl, _, hc⟩ := h.at_ (i := k) (by have := hk.1; omega)
    have hkl := hk.1
    by_cases h0 : dg l k = 0
    · rw [h0] at hc
      have hk' := hk.step h0
      clear hk h0
      go_wp2
      go_round
      case rel => exact ⟨k, hk', by go_num⟩
      case measure => simp [intOf]
    · have hl := Lib.hid (hk.len (B := 4294967296) (by omega) hd (fun _ => h0))
      have h0' : (((dg l k : Nat) : Int) == 0) = false := eqB (by omega)
      clear h0
      go_wp2
      go_ret
      rw [hl.out]
      exact ⟨rfl, rfl⟩

set_option maxHeartbeats 400000 in
theorem made_any (P : Nat → Prop) (A : Option Addr) (c : Nat) (l : List Nat) (w : World) (h : RN w P A c l) :
 Calls Tryz.prog 205 #[.slice A l.length c] w fun e w' => ∃ A' c', e = .returned (.slice A' (digs 18446744073709551616 (val 18446744073709551616 l)).length c') ∧ OB w' w.heap.size A' c' (digs 18446744073709551616 (val 18446744073709551616 l)) ∧ Below w.heap.size w w' := by
 obtain ⟨i0, hi, hz0, hz1, hz2⟩ := info_parts info64
 have ht := h.trim
 obtain ⟨n, _, e⟩ := h.2.trim
 have hcap := ht.cap
 obtain ⟨d, hd⟩ : ∃ d, digs 18446744073709551616 (val 18446744073709551616 l) = d := ⟨_, rfl⟩
 have Htr := Lib.hid (trim_any P A c l w h)
 rw [hd] at ht hcap Htr ⊢
 obtain ⟨h1, h2, h3⟩ := hcap
 clear hd e
 go_enter Tryz.func205, Tryz.ntmps205
 go_wp2_with fail
 refine Htr.out.mono ?_
 rintro e w1 ⟨rfl, rfl⟩
 go_wp2_with (at_builtin; refine wpList_append_rs _ rfl _ _ 106 rfl w.heap.size 139 i0 (.int .u64 0) 1 8 Tryz.underlying106 hi hz0 hz1 hz2 rfl (by decide) _ 0 [] rfl (World.ownsRow_nil _ _ _ _) P A d.length c (nts d) rfl ht.1 (oneCell_nts d) d.length (by omega) (by unfold maxLen; omega) (by omega) (Nat.le_refl _) ?_)
 intro A' c' w1 hown hgrow hblk
 go_wp2
 go_ret
 exact ⟨A', c', rfl, OB.of_own (by simpa using hown) ht.2, (Below.refl _ w).grown hgrow (Nat.le_refl _) (by intro k hk; simp [Value.ownBlock] at hk)⟩

end Go.Proofs.YtendnkpiidhogaaGreat

namespace Go.Proofs.YtendnkpiidhogaaGreat
open Go.RowKit

def cmpV (x y : Nat) : Int := if x < y then -1 else if x = y then 0 else 1
theorem cmpV_lt {x y : Nat} (h : x < y) : cmpV x y = -1 := by simp [cmpV, h]
theorem cmpV_gt {x y : Nat} (h : y < x) : cmpV x y = 1 := by simp [cmpV, show ¬ x < y by omega, show ¬ x = y by omega]
theorem cmpV_eq (x : Nat) : cmpV x x = 0 := by simp [cmpV]
theorem cmpV_cases (x y : Nat) : (x < y ∧ cmpV x y = -1) ∨ (x = y ∧ cmpV x y = 0) ∨ (y < x ∧ cmpV x y = 1) := by
 rcases Nat.lt_trichotomy x y with h | h | h
 · exact .inl ⟨h, cmpV_lt h⟩
 · exact .inr (.inl ⟨h, by rw [h]; exact cmpV_eq y⟩)
 · exact .inr (.inr ⟨h, cmpV_gt h⟩)

def CmpAt (l m : List Nat) (k : Nat) (i : Int) : Prop := k ≤ l.length ∧ l.drop k = m.drop k ∧ ((k = 0 ∧ i = -1) ∨ ∃ j : Nat, k = j + 1 ∧ i = (j : Int))
theorem CmpAt.start {l m : List Nat} (h : l.length = m.length) : CmpAt l m l.length ((l.length : Int) - 1) := by
 refine ⟨Nat.le_refl _, by rw [List.drop_length, h, List.drop_length], ?_⟩
 rcases hl : l.length with _ | n
 · exact .inl ⟨rfl, by simp⟩
 · exact .inr ⟨n, rfl, by omega⟩
theorem CmpAt.step {l m : List Nat} {j : Nat} {i : Int} (h : CmpAt l m (j + 1) i) (hl : l.length = m.length) (he : dg l j = dg m j) : CmpAt l m j ((j : Int) - 1) := by
 obtain ⟨h1, h2, _⟩ := h
 refine ⟨by omega, ?_, ?_⟩
 · rw [List.drop_eq_getElem_cons (by omega : j < l.length), List.drop_eq_getElem_cons (by omega : j < m.length), h2]
   rw [dg, dg, getD_eq' (by omega), getD_eq' (by omega)] at he
   rw [he]
 · rcases j with _ | j
   · exact .inl ⟨rfl, by simp⟩
   · exact .inr ⟨j, rfl, by omega⟩
theorem CmpAt.done {l m : List Nat} {i : Int} (h : CmpAt l m 0 i) : l = m := by simpa using h.2.1
theorem CmpAt.lt {B : Nat} {l m : List Nat} {j : Nat} {i : Int} (h : CmpAt l m (j + 1) i) (hl : l.length = m.length) (hB : ∀ x ∈ l, x < B) (hd : dg l j < dg m j) : val B l < val B m := by
 obtain ⟨h1, h2, _⟩ := h
 refine val_lt_of hB hl (i := j) (by omega) h2 ?_
 rwa [dg, dg, getD_eq' (by omega), getD_eq' (by omega)] at hd
theorem CmpAt.gt {B : Nat} {l m : List Nat} {j : Nat} {i : Int} (h : CmpAt l m (j + 1) i) (hl : l.length = m.length) (hB : ∀ x ∈ m, x < B) (hd : dg m j < dg l j) : val B m < val B l := by
 obtain ⟨h1, h2, _⟩ := h
 refine val_lt_of hB hl.symm (i := j) (by omega) h2.symm ?_
 rwa [dg, dg, getD_eq' (by omega), getD_eq' (by omega)] at hd

set_option maxHeartbeats 1000000 in
theorem refCmp_any (P P' : Nat → Prop) (A A' : Option Addr) (c c' : Nat) (x y : Nat) (w : World) (h : RN w P A c (digs 4294967296 x)) (h' : RN w P' A' c' (digs 4294967296 y)) :
 Calls Tryz.prog 120 #[.slice A (digs 4294967296 x).length c, .slice A' (digs 4294967296 y).length c'] w fun e w' => e = .returned (.int .i64 (cmpV x y)) ∧ ∃ n, w' = w.drewN n := by
 have hx := val_digs (B := 4294967296) (by omega) x
 have hy := val_digs (B := 4294967296) (by omega) y
 have bx := digs_lt (B := 4294967296) (by omega) x
 have byy := digs_lt (B := 4294967296) (by omega) y
 have hlt := lt_of_digs_length (B := 4294967296) (m := x) (n := y) (by omega)
 have hgt := lt_of_digs_length (B := 4294967296) (m := y) (n := x) (by omega)
 generalize digs 4294967296 x = l at *
 generalize digs 4294967296 y = m at *
 obtain ⟨h1, h2, h3⟩ := h.cap
 obtain ⟨g1, g2, g3⟩ := h'.cap
 have Hx := Lib.hid hx
 have Hy := Lib.hid hy
 clear hx hy
 by_cases hl : l.length = m.length
 · have hs := CmpAt.start hl
   have Hl := Lib.hid hl
   have hl1 : ((l.length : Int) != (m.length : Int)) = false := by simp [hl]
   clear hl hlt hgt
   have Hs := Lib.hid hs
   clear hs
   go_enter Tryz.func120, Tryz.ntmps120
   go_wp2
   go_loopw [5] (fun i wr => ∃ (k n : Nat) (z : Int), CmpAt l m k z ∧ i = .int .i64 z ∧ wr = w.drewN n) (fun i _ => (intOf i + 1).toNat)
   case atStart => exact ⟨l.length, 0, _, Hs.out, rfl, rfl⟩
   case round =>
    obtain ⟨k, n, z, hk, rfl, rfl⟩ := hrel
    obtain ⟨hk1, hk2, ⟨rfl, rfl⟩ | ⟨j, rfl, rfl⟩⟩ := hk
    · have he : l = m := by simpa using hk2
      have hxy : x = y := by rw [← Hx.out, ← Hy.out, he]
      have hc := Lib.hid (show cmpV x y = 0 by rw [hxy]; exact cmpV_eq y)
      clear he hxy hk2
      go_wp2
      go_ret
      rw [hc.out]
      exact ⟨rfl, n, rfl⟩
    · have hlm := Hl.out
      obtain ⟨ad, rfl, _, q1⟩ := h.at_ (i := j) (by omega)
      obtain ⟨ae, rfl, _, q2⟩ := h'.at_ (i := j) (by omega)
      have hj1 : (j : Int) < (l.length : Int) := by omega
      have hj2 : (j : Int) < (m.length : Int) := by omega
      have hkk : CmpAt l m (j + 1) (j : Int) := ⟨hk1, hk2, .inr ⟨j, rfl, rfl⟩⟩
      rcases Nat.lt_trichotomy (dg l j) (dg m j) with hd | hd | hd
      · have hv := hkk.lt hlm bx hd
        rw [Hx.out, Hy.out] at hv
        have hc := Lib.hid (cmpV_lt hv)
        have hd1 : decide (dg l j < dg m j) = true := by simpa using hd
        clear hkk hk1 hk2 hlm hd hv
        go_wp2
        go_quiet (fail)
        go_wp2
        go_ret
        rw [hc.out]
        exact ⟨rfl, by first | exact dr2 _ _ _ | exact dr1 _ _⟩
      · have hkk' := hkk.step hlm hd
        rw [← hd] at q2
        clear hkk hk1 hk2 hlm hd
        go_wp2
        go_quiet (fail)
        go_wp2
        go_quiet (fail)
        go_wp2
        go_roundw
        case rel => exact ⟨j, _, _, hkk', rfl, by first | rfl | exact drewN_3 _ _ _ _⟩
        case measure => simp [intOf]
      · have hv := hkk.gt hlm byy hd
        rw [Hx.out, Hy.out] at hv
        have hc := Lib.hid (cmpV_gt hv)
        have hd1 : decide (dg l j < dg m j) = false := by simp; omega
        have hd2 : decide (dg m j < dg l j) = true := by simpa using hd
        clear hkk hk1 hk2 hlm hd hv
        go_wp2
        go_quiet (fail)
        go_wp2
        go_quiet (fail)
        go_wp2
        go_ret
        rw [hc.out]
        exact ⟨rfl, by first | exact dr3 _ _ _ _ | exact dr1 _ _⟩
 · have hl1 : ((l.length : Int) != (m.length : Int)) = true := neB (by omega)
   rcases Nat.lt_or_ge l.length m.length with hd | hd
   · have hc := Lib.hid (cmpV_lt (hlt hd))
     clear hl hlt hgt
     go_enter Tryz.func120, Tryz.ntmps120
     go_wp2
     go_ret
     rw [hc.out]
     exact ⟨rfl, 0, rfl⟩
   · have hc := Lib.hid (cmpV_gt (hgt (by omega)))
     clear hl hlt hgt
     go_enter Tryz.func120, Tryz.ntmps120
     go_wp2
     go_ret
     rw [hc.out]
     exact ⟨rfl, 0, rfl⟩

set_option maxHeartbeats 1000000 in
theorem cmp_any (P P' : Nat → Prop) (A A' : Option Addr) (c c' : Nat) (a b : List Nat) (w : World) (h : RN w P A c a) (h' : RN w P' A' c' b) :
 Calls Tryz.prog 128 #[.slice A a.length c, .slice A' b.length c'] w fun e w' => e = .returned (.int .i64 (cmpV (val 18446744073709551616 a) (val 18446744073709551616 b))) ∧ ∃ n, w' = w.drewN n := by
 have ta := Lib.hid (trim_any P A c a w h)
 have tb := Lib.hid (trim_any P' A' c' b w h')
 replace h := h.trim
 replace h' := h'.trim
 generalize val 18446744073709551616 a = x at *
 generalize val 18446744073709551616 b = y at *
 have hx := val_digs (B := 18446744073709551616) (by omega) x
 have hy := val_digs (B := 18446744073709551616) (by omega) y
 have bx := digs_lt (B := 18446744073709551616) (by omega) x
 have byy := digs_lt (B := 18446744073709551616) (by omega) y
 have hlt := lt_of_digs_length (B := 18446744073709551616) (m := x) (n := y) (by omega)
 have hgt := lt_of_digs_length (B := 18446744073709551616) (m := y) (n := x) (by omega)
 generalize digs 18446744073709551616 x = l at *
 generalize digs 18446744073709551616 y = m at *
 obtain ⟨h1, h2, h3⟩ := h.cap
 obtain ⟨g1, g2, g3⟩ := h'.cap
 have Hx := Lib.hid hx
 have Hy := Lib.hid hy
 clear hx hy
 by_cases hl : l.length = m.length
 · have hs := CmpAt.start hl
   have Hl := Lib.hid hl
   have hl1 : ((l.length : Int) != (m.length : Int)) = false := by simp [hl]
   clear hl hlt hgt
   have Hs := Lib.hid hs
   clear hs
   go_enter Tryz.func128, Tryz.ntmps128
   go_wp2_with fail
   refine ta.out.mono ?_
   rintro e w1 ⟨rfl, rfl⟩
   go_wp2_with fail
   refine tb.out.mono ?_
   rintro e w1 ⟨rfl, rfl⟩
   go_wp2
   go_loopw [5] (fun i wr => ∃ (k n : Nat) (z : Int), CmpAt l m k z ∧ i = .int .i64 z ∧ wr = w.drewN n) (fun i _ => (intOf i + 1).toNat)
   case atStart => exact ⟨l.length, 0, _, Hs.out, rfl, rfl⟩
   case round =>
    obtain ⟨k, n, z, hk, rfl, rfl⟩ := hrel
    obtain ⟨hk1, hk2, ⟨rfl, rfl⟩ | ⟨j, rfl, rfl⟩⟩ := hk
    · have he : l = m := by simpa using hk2
      have hxy : x = y := by rw [← Hx.out, ← Hy.out, he]
      have hc := Lib.hid (show cmpV x y = 0 by rw [hxy]; exact cmpV_eq y)
      clear he hxy hk2
      go_wp2
      go_ret
      rw [hc.out]
      exact ⟨rfl, n, rfl⟩
    · have hlm := Hl.out
      obtain ⟨ad, rfl, _, q1⟩ := h.at_ (i := j) (by omega)
      obtain ⟨ae, rfl, _, q2⟩ := h'.at_ (i := j) (by omega)
      have hj1 : (j : Int) < (l.length : Int) := by omega
      have hj2 : (j : Int) < (m.length : Int) := by omega
      have hkk : CmpAt l m (j + 1) (j : Int) := ⟨hk1, hk2, .inr ⟨j, rfl, rfl⟩⟩
      rcases Nat.lt_trichotomy (dg l j) (dg m j) with hd | hd | hd
      · have hv := hkk.lt hlm bx hd
        rw [Hx.out, Hy.out] at hv
        have hc := Lib.hid (cmpV_lt hv)
        have hd0 : (((dg l j : Nat) : Int) != ((dg m j : Nat) : Int)) = true := neB (by omega)
        have hd1 : decide (dg l j < dg m j) = true := by simpa using hd
        clear hkk hk1 hk2 hlm hd hv
        go_wp2
        go_quiet (fail)
        go_wp2
        go_quiet (fail)
        go_wp2
        go_ret
        rw [hc.out]
        exact ⟨rfl, by first | exact dr3 _ _ _ _ | exact dr1 _ _⟩
      · have hkk' := hkk.step hlm hd
        rw [← hd] at q2
        clear hkk hk1 hk2 hlm hd
        go_wp2
        go_quiet (fail)
        go_wp2
        go_roundw
        case rel => exact ⟨j, _, _, hkk', rfl, by first | rfl | exact drewN_add _ _ _⟩
        case measure => simp [intOf]
      · have hv := hkk.gt hlm byy hd
        rw [Hx.out, Hy.out] at hv
        have hc := Lib.hid (cmpV_gt hv)
        have hd0 : (((dg l j : Nat) : Int) != ((dg m j : Nat) : Int)) = true := neB (by omega)
        have hd1 : decide (dg l j < dg m j) = false := by simp; omega
        clear hkk hk1 hk2 hlm hd hv
        go_wp2
        go_quiet (fail)
        go_wp2
        go_quiet (fail)
        go_wp2
        go_ret
        rw [hc.out]
        exact ⟨rfl, by first | exact dr3 _ _ _ _ | exact dr1 _ _⟩
 · have hl1 : ((l.length : Int) != (m.length : Int)) = true := neB (by omega)
   rcases Nat.lt_or_ge l.length m.length with hd | hd
   · have hc := Lib.hid (cmpV_lt (hlt hd))
     clear hl hlt hgt
     go_enter Tryz.func128, Tryz.ntmps128
     go_wp2_with fail
     refine ta.out.mono ?_
     rintro e w1 ⟨rfl, rfl⟩
     go_wp2_with fail
     refine tb.out.mono ?_
     rintro e w1 ⟨rfl, rfl⟩
     go_wp2
     go_ret
     rw [hc.out]
     exact ⟨rfl, 0, rfl⟩
   · have hc := Lib.hid (cmpV_gt (hgt (by omega)))
     clear hl hlt hgt
     go_enter Tryz.func128, Tryz.ntmps128
     go_wp2_with fail
     refine ta.out.mono ?_
     rintro e w1 ⟨rfl, rfl⟩
     go_wp2_with fail
     refine tb.out.mono ?_
     rintro e w1 ⟨rfl, rfl⟩
     go_wp2
     go_ret
     rw [hc.out]
     exact ⟨rfl, 0, rfl⟩
end Go.Proofs.YtendnkpiidhogaaGreat

namespace Go.Proofs.YtendnkpiidhogaaGreat
open Go.RowKit

theorem dg_none {l : List Nat} {k : Nat} (h : l.length ≤ k) : dg l k = 0 := by
 rw [dg, List.getD_eq_getElem?_getD, List.getElem?_eq_none h]; rfl


end Go.Proofs.YtendnkpiidhogaaGreat

namespace Go.Proofs.YtendnkpiidhogaaGreat
open Go.RowKit

theorem OB.recap {w : World} {base : Nat} {A : Option Addr} {c c' : Nat} {l : List Nat} (h : OB w base A c l) (hc : l.length ≤ c') (hc' : c' ≤ maxLen) : OB w base A c' l := ⟨h.1, hc, hc', h.2.2.2⟩
theorem OB.trim32 {w : World} {base : Nat} {A : Option Addr} {c : Nat} {l : List Nat} (h : OB w base A c l) (hl : Dig l) : OB w base A (digs 4294967296 (val 4294967296 l)).length (digs 4294967296 (val 4294967296 l)) := by
 obtain ⟨n, _, e⟩ := hl.cut
 rw [← e]
 have := h.take n
 exact this.recap (Nat.le_refl _) (by have := this.cap; unfold maxLen; omega)
theorem Dig.set {l : List Nat} (h : Dig l) (i x : Nat) (hx : x < 4294967296) : Dig (l.set i x) := set_lt h hx
theorem Dig.dgLt {l : List Nat} (h : Dig l) (i : Nat) : dg l i < 4294967296 := getD_lt (by omega) h i
theorem Dig.digs (x : Nat) : Dig (Go.Proofs.YtendnkpiidhogaaGreat.digs 4294967296 x) := digs_lt (by omega) x

def FromAt (l o : List Nat) (i : Nat) : Prop := o.length = 2 * l.length ∧ Dig o ∧ val 4294967296 (o.take (2 * i)) = val 18446744073709551616 (l.take i)
theorem pow_two_mul (i : Nat) : 4294967296 ^ (2 * i) = 18446744073709551616 ^ i := by
 rw [Nat.pow_mul]
theorem FromAt.zero (l : List Nat) : FromAt l (List.replicate (2 * l.length) 0) 0 := ⟨by simp, by intro x hx; simp at hx; omega, by simp⟩
theorem FromAt.step {l o : List Nat} {i p q : Nat} (h : FromAt l o i) (hi : i < l.length) (hp : p < 4294967296) (hq : q < 4294967296) (he : p + 4294967296 * q = dg l i) : FromAt l ((o.set (2 * i) p).set (2 * i + 1) q) (i + 1) := by
 obtain ⟨h1, h2, h3⟩ := h
 refine ⟨by simpa using h1, (h2.set _ _ hp).set _ _ hq, ?_⟩
 rw [show 2 * (i + 1) = 2 * i + 1 + 1 by omega, val_take_set _ (by simp; omega), val_take_set _ (by omega), h3, val_take_getD, ← he, Nat.pow_succ, pow_two_mul]
 simp only [Nat.mul_add, Nat.mul_assoc, Nat.add_assoc]
theorem FromAt.fin {l o : List Nat} (h : FromAt l o l.length) : val 4294967296 o = val 18446744073709551616 l := by
 obtain ⟨h1, _, h3⟩ := h
 rwa [List.take_of_length_le (by omega), List.take_length] at h3

set_option maxRecDepth 100000 in
set_option maxHeartbeats 1000000 in
theorem from_any (P : Nat → Prop) (A : Option Addr) (c : Nat) (l : List Nat) (w : World) (h : RN w P A c l) (hP : ∀ b, P b → b < w.heap.size) (hl : l.length < 100000) :
 Calls Tryz.prog 153 #[.slice A l.length c] w fun e w' => ∃ A1 c1, e = .returned (.slice A1 (digs 4294967296 (val 18446744073709551616 l)).length c1) ∧
  OB w' w.heap.size A1 c1 (digs 4294967296 (val 18446744073709551616 l)) ∧ Below w.heap.size w w' := by
 obtain ⟨h1, h2, h3⟩ := h.cap
 have hmk := run_make_row' (P := Tryz.prog) 90 139 (.int .u64 0) 8 Tryz.underlying90 info64 rfl .i64 .i64 (2 * l.length) (by omega) (by omega)
 simp only [Int.natCast_mul, Int.cast_ofNat_Int] at hmk
 go_enter Tryz.func153, Tryz.ntmps153
 go_wp2
 go_loopw [4] (fun iv wr => ∃ (i : Nat) (o : List Nat), iv = .int .i64 (i : Int) ∧ i ≤ l.length ∧ FromAt l o i ∧ Lim o ∧ Blk wr w.heap.size o ∧ Below w.heap.size w wr) (fun iv _ => l.length - (intOf iv).toNat)
 case atStart => exact ⟨0, List.replicate (2 * l.length) 0, rfl, by omega, FromAt.zero _, ⟨by simp, by simp; omega⟩, Blk.made w _, (Below.refl _ w).alloc (Nat.le_refl _) _⟩
 case round =>
  obtain ⟨i, o, rfl, hi, hF, hLo, hblk, hB⟩ := hrel
  by_cases hlt : i < l.length
  · obtain ⟨ad, rfl, had, q1⟩ := (h.below hB hP).at_ hlt
    have hol := hF.1
    have hxi := h.2.dgLt i
    obtain ⟨p, q, hp, hq, he, e1, e2⟩ : ∃ p q : Nat, p < 4294967296 ∧ q < 4294967296 ∧ p + 4294967296 * q = dg l i ∧ (dg l i : Int) % 4294967296 = (p : Int) ∧ (dg l i : Int) / 4294967296 = (q : Int) :=
     ⟨dg l i % 4294967296, dg l i / 4294967296, by omega, by omega, by omega, by omega, by omega⟩
    have q3 := hblk.cell (i := 2 * i) (by omega)
    have q4 := hblk.free (2 * i)
    have hblk1 := hblk.set (2 * i) p
    have q5 := hblk1.cell (i := 2 * i + 1) (by simp; omega)
    have q6 := hblk1.free (2 * i + 1)
    have hblk2 := hblk1.set (2 * i + 1) q
    have hLo' := (hLo.set (2 * i) p (by omega)).set (2 * i + 1) q (by omega)
    have hB1 := hB.setCell (p := ⟨w.heap.size, 2 * i, none⟩) (Nat.le_refl _) (.int .u64 (p : Int))
    have q7 := ((h.below hB1 hP).cells i hlt)
    have hB2 := hB1.setCell (p := ⟨w.heap.size, 2 * i + 1, none⟩) (Nat.le_refl _) (.int .u64 (q : Int))
    have hF' := hF.step hlt hp hq he
    have k1 : (2 : Int) * (i : Int) < 2 * (l.length : Int) := by omega
    have k2 : (2 : Int) * (i : Int) + 1 < 2 * (l.length : Int) := by omega
    clear hF hLo hblk hB hblk1 hB1 he hol hp hq
    go_wp2
    go_roundw
    case rel => exact ⟨i + 1, (o.set (2 * i) p).set (2 * i + 1) q, by go_num, by omega, hF', hLo', hblk2, hB2⟩
    case measure => simp [intOf]; omega
  · obtain rfl : i = l.length := by omega
    have hfin := hF.fin
    have hOB : OB wr w.heap.size (some ⟨w.heap.size, 0, none⟩) (2 * l.length) o := OB.of_blk hblk (Nat.le_refl _) hLo (by have := hF.1; omega) (by unfold maxLen; omega)
    have ht := refTrim_any _ _ _ _ _ hOB.rn hF.2.1
    have hOB' := hOB.trim32 hF.2.1
    rw [hfin, hF.1] at ht
    rw [hfin] at hOB'
    have Ht := Lib.hid ht
    clear hblk hLo ht hfin hOB hF
    go_wp2_with fail
    refine Ht.out.mono ?_
    rintro e w1 ⟨rfl, rfl⟩
    go_wp2
    go_ret
    exact ⟨_, _, rfl, hOB', hB⟩

set_option maxHeartbeats 400000 in
theorem refOf_any (x : Nat) (w : World) (hx : x < 18446744073709551616) :
 Calls Tryz.prog 121 #[.int .u64 (x : Int)] w fun e w' => ∃ A' c', e = .returned (.slice A' (digs 4294967296 x).length c') ∧ OB w' w.heap.size A' c' (digs 4294967296 x) ∧ Below w.heap.size w w' := by
 have hv : val 18446744073709551616 [x] = x := by simp
 have hm := fun P A c w h hP => from_any P A c [x] w h hP (by simp)
 rw [hv] at hm
 have Hm := Lib.hid hm
 clear hm hv
 go_enter Tryz.func121, Tryz.ntmps121
 go_wp2_with fail
 refine (Hm.out (In w.heap.size (w.heap.size + 1)) _ _ _ ⟨RS.fresh #[.int .u64 (x : Int)] 139 1 1 rfl (by unfold maxLen; omega) ⟨Nat.le_refl _, by omega⟩, by simpa [Lim] using hx⟩ (fun b hb => by have := hb.2; simp; omega)).mono ?_
 rintro e w1 ⟨A', c', rfl, hO, hB⟩
 go_wp2
 go_ret
 exact ⟨A', c', rfl, hO.mono (by simp), ((Below.refl _ w).alloc (Nat.le_refl _) _).trans (hB.mono (by simp))⟩

theorem take_succ_dg {l : List Nat} {k : Nat} (h : k < l.length) : l.take (k + 1) = l.take k ++ [dg l k] := by
 rw [List.take_succ_eq_append_getElem h, dg, getD_eq' h]

end Go.Proofs.YtendnkpiidhogaaGreat

namespace Go.Proofs.YtendnkpiidhogaaGreat
open Go.RowKit

def SameTo (l m : List Nat) (k : Nat) : Prop := ∀ j, j < k → dg l j = dg m j
theorem SameTo.step {l m : List Nat} {k : Nat} (h : SameTo l m k) (he : dg l k = dg m k) : SameTo l m (k + 1) := fun j hj => by
 rcases Nat.lt_or_ge j k with h1 | h1
 · exact h j h1
 · obtain rfl : j = k := by omega
   exact he
theorem SameTo.fin {l m : List Nat} (h : SameTo l m l.length) (hl : l.length = m.length) : l = m := by
 apply List.ext_getElem hl
 intro i h1 h2
 have := h i h1
 rwa [dg, dg, getD_eq' h1, getD_eq' h2] at this

def RL (w : World) (P : Nat → Prop) (A : Option Addr) (c : Nat) (l : List Nat) : Prop := RS w P 1 A l.length c (nts l) ∧ (∀ x ∈ l, x < 18446744073709551616) ∧ l.length ≤ 17592186044416
theorem RL.take {w : World} {P : Nat → Prop} {A : Option Addr} {c : Nat} {l : List Nat} (h : RL w P A c l) {n : Nat} (hn : n ≤ 1000000) (hn' : n ≤ l.length) : RN w P A c (l.take n) := by
 have := h.1.pre hn'
 rw [Nat.mul_one, nts_take] at this
 refine ⟨by rw [List.length_take, Nat.min_eq_left hn']; exact this, fun x hx => h.2.1 x (List.mem_of_mem_take hx), by rw [List.length_take]; omega⟩
theorem RL.below {w w' : World} {P : Nat → Prop} {A : Option Addr} {c B : Nat} {l : List Nat} (h : RL w P A c l) (hb : Below B w w') (hB : ∀ b, P b → b < B) : RL w' P A c l := ⟨h.1.below hb hB, h.2⟩

end Go.Proofs.YtendnkpiidhogaaGreat

namespace Go.Proofs.YtendnkpiidhogaaGreat
open Go.RowKit

set_option maxRecDepth 100000 in
set_option maxHeartbeats 2000000 in
theorem refAdd_any (P P' : Nat → Prop) (A A' : Option Addr) (c c' : Nat) (x y : Nat) (w : World) (h : RN w P A c (digs 4294967296 x)) (h' : RN w P' A' c' (digs 4294967296 y)) (hP : ∀ b, P b → b < w.heap.size) (hP' : ∀ b, P' b → b < w.heap.size)
 (hl : (digs 4294967296 x).length < 100000) (hl' : (digs 4294967296 y).length < 100000) :
 Calls Tryz.prog 188 #[.slice A (digs 4294967296 x).length c, .slice A' (digs 4294967296 y).length c'] w fun e w' => ∃ A1 c1, e = .returned (.slice A1 (digs 4294967296 (x + y)).length c1) ∧
  OB w' w.heap.size A1 c1 (digs 4294967296 (x + y)) ∧ Below w.heap.size w w' := by
 have hx := val_digs (B := 4294967296) (by omega) x
 have hy := val_digs (B := 4294967296) (by omega) y
 have dx := Dig.digs x
 have dy := Dig.digs y
 generalize digs 4294967296 x = l at *
 generalize digs 4294967296 y = m at *
 have Hx := Lib.hid hx
 have Hy := Lib.hid hy
 clear hx hy
 obtain ⟨h1, h2, h3⟩ := h.cap
 obtain ⟨g1, g2, g3⟩ := h'.cap
 go_enter Tryz.func188, Tryz.ntmps188
 go_upto_if 14 with fail
 go_cut [5] (fun s5 wx => ∃ n : Nat, s5 = .int .i64 (n : Int) ∧ l.length ≤ n ∧ m.length ≤ n ∧ n < 100000 ∧ w = wx)
 case first =>
  by_cases hs : l.length < m.length
  · go_wp2_with fail
    go_meet
    case rel => exact ⟨m.length, rfl, by omega, by omega, by omega, rfl⟩
  · go_wp2_with fail
    go_meet
    case rel => exact ⟨l.length, rfl, by omega, by omega, by omega, rfl⟩
 case rest =>
  obtain ⟨n, rfl, hln, hmn, hn, rfl⟩ := hcut
  have hmk := run_make_row' (P := Tryz.prog) 90 139 (.int .u64 0) 8 Tryz.underlying90 info64 rfl .i64 .i64 (n + 1) (by omega) (by omega)
  simp only [Int.natCast_add, Int.cast_ofNat_Int] at hmk
  go_wp2
  go_loopw [7, 8] (fun cv iv wr => ∃ (k cr : Nat) (o : List Nat), iv = .int .i64 (k : Int) ∧ cv = .int .u64 (cr : Int) ∧ k ≤ n + 1 ∧ (k ≤ n → cr ≤ 1) ∧ (k = n + 1 → cr = 0) ∧ AddAt 4294967296 l m o k cr ∧ Hid (o.length = n + 1) ∧ Dig o ∧ Blk wr w.heap.size o ∧ Below w.heap.size w wr) (fun _ iv _ => n + 1 - (intOf iv).toNat)
  case atStart => exact ⟨0, 0, List.replicate (n + 1) 0, rfl, rfl, by omega, by omega, by omega, AddAt.zero _ _ _ _, Lib.hid (by simp), by intro x hx; simp at hx; omega, Blk.made w _, (Below.refl _ w).alloc (Nat.le_refl _) _⟩
  case round =>
   obtain ⟨k, cr, o, rfl, rfl, hk, hcr, hcr0, hA, Ho, hD, hblk, hB⟩ := hrel
   by_cases hlt : k ≤ n
   · have hok : k < o.length := by have := Ho.out; omega
     have q3 := hblk.cell hok
     have q4 := hblk.free k
     have hcr1 := hcr hlt
     have b1 := dx.dgLt k
     have b2 := dy.dgLt k
     obtain ⟨s, cr', hs, hcr', he, hend⟩ : ∃ s c' : Nat, s < 4294967296 ∧ c' ≤ 1 ∧ s + 4294967296 * c' = dg l k + dg m k + cr ∧ (k = n → c' = 0) := by
      refine ⟨(dg l k + dg m k + cr) % 4294967296, (dg l k + dg m k + cr) / 4294967296, by omega, by omega, by omega, fun e => ?_⟩
      rw [dg_none (by omega : l.length ≤ k), dg_none (by omega : m.length ≤ k)]
      omega
     have hA' := hA.step hok he
     have hblk' := hblk.set k s
     have hD' := hD.set k s hs
     have hB' := hB.setCell (p := ⟨w.heap.size, k, none⟩) (Nat.le_refl _) (.int .u64 (s : Int))
     have Ho' : Hid ((o.set k s).length = n + 1) := Lib.hid (by rw [List.length_set]; exact Ho.out)
     have k1 : (k : Int) < (n : Int) + 1 := by omega
     by_cases hm1 : k < l.length
     · obtain ⟨ad, rfl, had, q1⟩ := (h.below hB hP).at_ hm1
       by_cases hm2 : k < m.length
       · obtain ⟨ae, rfl, hae, q2⟩ := (h'.below hB hP').at_ hm2
         have e1 : ((cr : Int) + (dg l k : Int) + (dg m k : Int)) % 4294967296 = (s : Int) := by omega
         have e2 : ((cr : Int) + (dg l k : Int) + (dg m k : Int)) / 4294967296 = (cr' : Int) := by omega
         clear he hA hblk hD hB hok hcr
         go_wp2
         go_roundw
         case rel => exact ⟨k + 1, cr', o.set k s, by go_num, (by first | rfl | exact congrArg (Value.int .u64) e2), by omega, fun _ => hcr', fun e => hend (by omega), hA', Ho', hD', hblk', hB'⟩
         case measure => simp [intOf]; omega
       · have e0 : dg m k = 0 := dg_none (by omega)
         have e1 : ((cr : Int) + (dg l k : Int)) % 4294967296 = (s : Int) := by omega
         have e2 : ((cr : Int) + (dg l k : Int)) / 4294967296 = (cr' : Int) := by omega
         clear he hA hblk hD hB hok hcr e0
         go_wp2
         go_roundw
         case rel => exact ⟨k + 1, cr', o.set k s, by go_num, (by first | rfl | exact congrArg (Value.int .u64) e2), by omega, fun _ => hcr', fun e => hend (by omega), hA', Ho', hD', hblk', hB'⟩
         case measure => simp [intOf]; omega
     · by_cases hm2 : k < m.length
       · obtain ⟨ae, rfl, hae, q2⟩ := (h'.below hB hP').at_ hm2
         have e0 : dg l k = 0 := dg_none (by omega)
         have e1 : ((cr : Int) + (dg m k : Int)) % 4294967296 = (s : Int) := by omega
         have e2 : ((cr : Int) + (dg m k : Int)) / 4294967296 = (cr' : Int) := by omega
         clear he hA hblk hD hB hok hcr e0
         go_wp2
         go_roundw
         case rel => exact ⟨k + 1, cr', o.set k s, by go_num, (by first | rfl | exact congrArg (Value.int .u64) e2), by omega, fun _ => hcr', fun e => hend (by omega), hA', Ho', hD', hblk', hB'⟩
         case measure => simp [intOf]; omega
       · have e0 : dg l k = 0 := dg_none (by omega)
         have e00 : dg m k = 0 := dg_none (by omega)
         have e1 : ((cr : Int)) % 4294967296 = (s : Int) := by omega
         have e2 : ((cr : Int)) / 4294967296 = (cr' : Int) := by omega
         clear he hA hblk hD hB hok hcr e0 e00
         go_wp2
         go_roundw
         case rel => exact ⟨k + 1, cr', o.set k s, by go_num, (by first | rfl | exact congrArg (Value.int .u64) e2), by omega, fun _ => hcr', fun e => hend (by omega), hA', Ho', hD', hblk', hB'⟩
         case measure => simp [intOf]; omega
   · obtain rfl : k = n + 1 := by omega
     have hcr1 := hcr0 rfl
     subst hcr1
     have hfin : val 4294967296 o = x + y := by
      have := hA
      unfold AddAt at this
      rwa [List.take_of_length_le (by rw [Ho.out]; omega), List.take_of_length_le (by omega), List.take_of_length_le (by omega), Hx.out, Hy.out, Nat.mul_zero, Nat.add_zero] at this
     have hLo : Lim o := ⟨fun z hz => by have := hD z hz; omega, by rw [Ho.out]; omega⟩
     have hOB : OB wr w.heap.size (some ⟨w.heap.size, 0, none⟩) (n + 1) o := OB.of_blk hblk (Nat.le_refl _) hLo (by have := Ho.out; omega) (by unfold maxLen; omega)
     have ht := refTrim_any _ _ _ _ _ hOB.rn hD
     have hOB' := hOB.trim32 hD
     rw [hfin, Ho.out] at ht
     rw [hfin] at hOB'
     have Ht := Lib.hid ht
     clear hblk hLo ht hfin hOB hA hcr hcr0
     go_wp2_with fail
     refine Ht.out.mono ?_
     rintro e w1 ⟨rfl, rfl⟩
     go_wp2
     go_ret
     exact ⟨_, _, rfl, hOB', hB⟩
end Go.Proofs.YtendnkpiidhogaaGreat

namespace Go.Proofs.YtendnkpiidhogaaGreat
open Go.RowKit

set_option maxRecDepth 100000 in
set_option maxHeartbeats 2000000 in
theorem refSub_any (P P' : Nat → Prop) (A A' : Option Addr) (c c' : Nat) (x y : Nat) (w : World) (h : RN w P A c (digs 4294967296 x)) (h' : RN w P' A' c' (digs 4294967296 y)) (hP : ∀ b, P b → b < w.heap.size) (hP' : ∀ b, P' b → b < w.heap.size)
 (hl : (digs 4294967296 x).length < 100000) (hle : y ≤ x) :
 Calls Tryz.prog 159 #[.slice A (digs 4294967296 x).length c, .slice A' (digs 4294967296 y).length c'] w fun e w' => ∃ A1 c1, e = .returned (.slice A1 (digs 4294967296 (x - y)).length c1) ∧
  OB w' w.heap.size A1 c1 (digs 4294967296 (x - y)) ∧ Below w.heap.size w w' := by
 have hx := val_digs (B := 4294967296) (by omega) x
 have hy := val_digs (B := 4294967296) (by omega) y
 have hml := digs_length_mono (B := 4294967296) (by omega) hle
 have dx := Dig.digs x
 have dy := Dig.digs y
 generalize digs 4294967296 x = l at *
 generalize digs 4294967296 y = m at *
 have Hx := Lib.hid hx
 have Hy := Lib.hid hy
 clear hx hy
 obtain ⟨h1, h2, h3⟩ := h.cap
 obtain ⟨g1, g2, g3⟩ := h'.cap
 have hmk := run_make_row' (P := Tryz.prog) 90 139 (.int .u64 0) 8 Tryz.underlying90 info64 rfl .i64 .i64 l.length (by omega) (by omega)
 go_enter Tryz.func159, Tryz.ntmps159
 go_wp2
 go_loopw [6, 7] (fun cv iv wr => ∃ (k cr : Nat) (o : List Nat), iv = .int .i64 (k : Int) ∧ cv = .int .u64 (cr : Int) ∧ k ≤ l.length ∧ cr ≤ 1 ∧ SubAt 4294967296 l m o k cr ∧ Hid (o.length = l.length) ∧ Dig o ∧ Blk wr w.heap.size o ∧ Below w.heap.size w wr) (fun _ iv _ => l.length - (intOf iv).toNat)
 case atStart => exact ⟨0, 0, List.replicate l.length 0, rfl, rfl, by omega, by omega, SubAt.zero _ _ _ _, Lib.hid (by simp), by intro x hx; simp at hx; omega, Blk.made w _, (Below.refl _ w).alloc (Nat.le_refl _) _⟩
 case round =>
  obtain ⟨k, cr, o, rfl, rfl, hk, hcr, hA, Ho, hD, hblk, hB⟩ := hrel
  by_cases hlt : k < l.length
  · have hok : k < o.length := by have := Ho.out; omega
    have q3 := hblk.cell hok
    have q4 := hblk.free k
    have b1 := dx.dgLt k
    have b2 := dy.dgLt k
    obtain ⟨ad, rfl, had, q1⟩ := (h.below hB hP).at_ hlt
    by_cases hm2 : k < m.length
    · obtain ⟨ae, rfl, hae, q2⟩ := (h'.below hB hP').at_ hm2
      by_cases hb : dg l k < cr + dg m k
      · obtain ⟨s, hs, e1⟩ : ∃ s : Nat, s < 4294967296 ∧ (dg l k : Int) + 4294967296 - ((cr : Int) + (dg m k : Int)) = (s : Int) := ⟨dg l k + 4294967296 - (cr + dg m k), by omega, by omega⟩
        have hA' := hA.step (s := s) (c' := 1) hok (by omega)
        have hblk' := hblk.set k s
        have hD' := hD.set k s hs
        have hB' := hB.setCell (p := ⟨w.heap.size, k, none⟩) (Nat.le_refl _) (.int .u64 (s : Int))
        have Ho' : Hid ((o.set k s).length = l.length) := Lib.hid (by rw [List.length_set]; exact Ho.out)
        have t1 : (dg l k : Int) < (cr : Int) + (dg m k : Int) := by omega
        clear hA hblk hD hB hok hb
        go_wp2
        go_roundw
        case rel => exact ⟨k + 1, 1, o.set k s, by go_num, by go_num, by omega, by omega, hA', Ho', hD', hblk', hB'⟩
        case measure => simp [intOf]; omega
      · obtain ⟨s, hs, e1⟩ : ∃ s : Nat, s < 4294967296 ∧ (dg l k : Int) - ((cr : Int) + (dg m k : Int)) = (s : Int) := ⟨dg l k - (cr + dg m k), by omega, by omega⟩
        have hA' := hA.step (s := s) (c' := 0) hok (by omega)
        have hblk' := hblk.set k s
        have hD' := hD.set k s hs
        have hB' := hB.setCell (p := ⟨w.heap.size, k, none⟩) (Nat.le_refl _) (.int .u64 (s : Int))
        have Ho' : Hid ((o.set k s).length = l.length) := Lib.hid (by rw [List.length_set]; exact Ho.out)
        have t1 : ¬ (dg l k : Int) < (cr : Int) + (dg m k : Int) := by omega
        clear hA hblk hD hB hok hb
        go_wp2
        go_roundw
        case rel => exact ⟨k + 1, 0, o.set k s, by go_num, by go_num, by omega, by omega, hA', Ho', hD', hblk', hB'⟩
        case measure => simp [intOf]; omega
    · have e0 : dg m k = 0 := dg_none (by omega)
      by_cases hb : dg l k < cr
      · obtain ⟨s, hs, e1⟩ : ∃ s : Nat, s < 4294967296 ∧ (dg l k : Int) + 4294967296 - (cr : Int) = (s : Int) := ⟨dg l k + 4294967296 - cr, by omega, by omega⟩
        have hA' := hA.step (s := s) (c' := 1) hok (by omega)
        have hblk' := hblk.set k s
        have hD' := hD.set k s hs
        have hB' := hB.setCell (p := ⟨w.heap.size, k, none⟩) (Nat.le_refl _) (.int .u64 (s : Int))
        have Ho' : Hid ((o.set k s).length = l.length) := Lib.hid (by rw [List.length_set]; exact Ho.out)
        clear hA hblk hD hB hok e0
        go_wp2
        go_roundw
        case rel => exact ⟨k + 1, 1, o.set k s, by go_num, by go_num, by omega, by omega, hA', Ho', hD', hblk', hB'⟩
        case measure => simp [intOf]; omega
      · obtain ⟨s, hs, e1⟩ : ∃ s : Nat, s < 4294967296 ∧ (dg l k : Int) - (cr : Int) = (s : Int) := ⟨dg l k - cr, by omega, by omega⟩
        have hA' := hA.step (s := s) (c' := 0) hok (by omega)
        have hblk' := hblk.set k s
        have hD' := hD.set k s hs
        have hB' := hB.setCell (p := ⟨w.heap.size, k, none⟩) (Nat.le_refl _) (.int .u64 (s : Int))
        have Ho' : Hid ((o.set k s).length = l.length) := Lib.hid (by rw [List.length_set]; exact Ho.out)
        clear hA hblk hD hB hok e0
        go_wp2
        go_roundw
        case rel => exact ⟨k + 1, 0, o.set k s, by go_num, by go_num, by omega, by omega, hA', Ho', hD', hblk', hB'⟩
        case measure => simp [intOf]; omega
  · obtain rfl : k = l.length := by omega
    have hfin := hA.fin Ho.out hD rfl hml (by rw [Hx.out, Hy.out]; exact hle)
    rw [Hx.out, Hy.out] at hfin
    have hLo : Lim o := ⟨fun z hz => by have := hD z hz; omega, by rw [Ho.out]; omega⟩
    have hOB : OB wr w.heap.size (some ⟨w.heap.size, 0, none⟩) l.length o := OB.of_blk hblk (Nat.le_refl _) hLo (by have := Ho.out; omega) (by unfold maxLen; omega)
    have ht := refTrim_any _ _ _ _ _ hOB.rn hD
    have hOB' := hOB.trim32 hD
    rw [hfin, Ho.out] at ht
    rw [hfin] at hOB'
    have Ht := Lib.hid ht
    clear hblk hLo ht hfin hOB hA
    go_wp2_with fail
    refine Ht.out.mono ?_
    rintro e w1 ⟨rfl, rfl⟩
    go_wp2
    go_ret
    exact ⟨_, _, rfl, hOB', hB⟩

set_option maxRecDepth 100000 in
set_option maxHeartbeats 2000000 in
theorem refMul_any (P P' : Nat → Prop) (A A' : Option Addr) (c c' : Nat) (x y : Nat) (w : World) (h : RN w P A c (digs 4294967296 x)) (h' : RN w P' A' c' (digs 4294967296 y)) (hP : ∀ b, P b → b < w.heap.size) (hP' : ∀ b, P' b → b < w.heap.size)
 (hl : (digs 4294967296 x).length < 100000) (hl' : (digs 4294967296 y).length < 100000) :
 Calls Tryz.prog 156 #[.slice A (digs 4294967296 x).length c, .slice A' (digs 4294967296 y).length c'] w fun e w' => ∃ A1 c1, e = .returned (.slice A1 (digs 4294967296 (x * y)).length c1) ∧
  OB w' w.heap.size A1 c1 (digs 4294967296 (x * y)) ∧ Below w.heap.size w w' := by
 have hx := val_digs (B := 4294967296) (by omega) x
 have hy := val_digs (B := 4294967296) (by omega) y
 have dx := Dig.digs x
 have dy := Dig.digs y
 generalize digs 4294967296 x = l at *
 generalize digs 4294967296 y = m at *
 have Hx := Lib.hid hx
 have Hy := Lib.hid hy
 clear hx hy
 obtain ⟨h1, h2, h3⟩ := h.cap
 obtain ⟨g1, g2, g3⟩ := h'.cap
 have hmk := run_make_row' (P := Tryz.prog) 90 139 (.int .u64 0) 8 Tryz.underlying90 info64 rfl .i64 .i64 (l.length + m.length) (by omega) (by omega)
 simp only [Int.natCast_add] at hmk
 go_enter Tryz.func156, Tryz.ntmps156
 go_wp2
 go_loopw [6] (fun iv wr => ∃ (i : Nat) (o : List Nat), iv = .int .i64 (i : Int) ∧ i ≤ l.length ∧ RowAt 4294967296 l m o i ∧ Dig o ∧ Blk wr w.heap.size o ∧ Below w.heap.size w wr) (fun iv _ => l.length - (intOf iv).toNat)
 case atStart => exact ⟨0, List.replicate (l.length + m.length) 0, rfl, by omega, RowAt.zero _ _ _, by intro x hx; simp at hx; omega, Blk.made w _, (Below.refl _ w).alloc (Nat.le_refl _) _⟩
 case round =>
  obtain ⟨i, o0, rfl, hi, hR, hD, hblk, hB⟩ := hrel
  obtain ⟨wo, rfl⟩ : ∃ wo, wo = wr := ⟨_, rfl⟩
  by_cases hlt : i < l.length
  · obtain ⟨ad, rfl, had, q1⟩ := (h.below hB hP).at_ hlt
    have hxi := dx.dgLt i
    go_wp2
    go_loopw [7, 9] (fun cv jv wr => ∃ (j cr : Nat) (o : List Nat), jv = .int .i64 (j : Int) ∧ cv = .int .u64 (cr : Int) ∧ j ≤ m.length ∧ cr < 4294967296 ∧ MulAt 4294967296 o0 m (dg l i) i o j cr ∧ Dig o ∧ Blk wr w.heap.size o ∧ Below w.heap.size w wr) (fun _ jv _ => m.length - (intOf jv).toNat)
    case atStart => exact ⟨0, 0, o0, rfl, rfl, by omega, by omega, MulAt.zero _ _ _ _ _, hD, hblk, hB⟩
    case round =>
     clear q1 hB hblk hD
     obtain ⟨j, cr, o, rfl, rfl, hj, hcr, hM, hD, hblk, hB⟩ := hrel
     have hol : o.length = l.length + m.length := hM.1.trans hR.1
     by_cases hjt : j < m.length
     · obtain ⟨ae, rfl, hae, q2⟩ := (h'.below hB hP').at_ hjt
       have hok : i + j < o.length := by omega
       have q3 := hblk.cell hok
       have q4 := hblk.free (i + j)
       have b2 := dy.dgLt j
       have b3 := hD.dgLt (i + j)
       have hb := mul_bound hxi b2 b3 hcr
       obtain ⟨pr, hpr⟩ : ∃ pr, dg l i * dg m j = pr := ⟨_, rfl⟩
       have Hpr := Lib.hid (show (dg l i : Int) * (dg m j : Int) = (pr : Int) by rw [← hpr, Int.natCast_mul])
       rw [hpr] at hb
       obtain ⟨s, cr', hs, hcr', he⟩ : ∃ s c' : Nat, s < 4294967296 ∧ c' < 4294967296 ∧ s + 4294967296 * c' = pr + dg o (i + j) + cr :=
        ⟨(pr + dg o (i + j) + cr) % 4294967296, (pr + dg o (i + j) + cr) / 4294967296, by omega, by omega, by omega⟩
       have e1 : ((cr : Int) + ((dg o (i + j) : Int) + (pr : Int))) % 4294967296 = (s : Int) := by omega
       have e2 : ((cr : Int) + ((dg o (i + j) : Int) + (pr : Int))) / 4294967296 = (cr' : Int) := by omega
       have hM' := hM.step hok (by rw [hpr]; exact he)
       have hblk' := hblk.set (i + j) s
       have hD' := hD.set (i + j) s hs
       have hB' := hB.setCell (p := ⟨w.heap.size, i + j, none⟩) (Nat.le_refl _) (.int .u64 (s : Int))
       have k1 : (i : Int) + (j : Int) < (l.length : Int) + (m.length : Int) := by omega
       have k3 : (pr : Int) < 18446744073709551616 := by omega
       have k4 : (cr : Int) + ((dg o (i + j) : Int) + (pr : Int)) < 18446744073709551616 := by omega
       clear he hM hblk hD hB hok hol hb hpr
       have hpr := Hpr.out
       go_wp2
       go_quiet (fail)
       go_wp2
       go_roundw
       case rel => exact ⟨j + 1, cr', o.set (i + j) s, by go_num, (by first | rfl | exact congrArg (Value.int .u64) e2), by omega, hcr', hM', hD', hblk', below_drewN hB' _⟩
       case measure => simp [intOf]; omega
     · obtain rfl : j = m.length := by omega
       have hR' := hR.step hlt hM
       have q3 := hblk.cell (i := i + m.length) (by omega)
       have q4 := hblk.free (i + m.length)
       have hblk' := hblk.set (i + m.length) cr
       have hD' := hD.set (i + m.length) cr hcr
       have hB' := hB.setCell (p := ⟨w.heap.size, i + m.length, none⟩) (Nat.le_refl _) (.int .u64 (cr : Int))
       have k1 : (i : Int) + (m.length : Int) < (l.length : Int) + (m.length : Int) := by omega
       clear hM hblk hD hB hol
       go_wp2
       go_roundw
       case rel => exact ⟨i + 1, o.set (i + m.length) cr, by go_num, by omega, hR', hD', hblk', hB'⟩
       case measure => simp [intOf]; omega
  · obtain rfl : i = l.length := by omega
    have hfin := hR.fin
    rw [Hx.out, Hy.out] at hfin
    have hol := hR.1
    have hLo : Lim o0 := ⟨fun z hz => by have := hD z hz; omega, by omega⟩
    have hOB : OB wo w.heap.size (some ⟨w.heap.size, 0, none⟩) (l.length + m.length) o0 := OB.of_blk hblk (Nat.le_refl _) hLo (by omega) (by unfold maxLen; omega)
    have ht := refTrim_any _ _ _ _ _ hOB.rn hD
    have hOB' := hOB.trim32 hD
    rw [hfin, hol] at ht
    rw [hfin] at hOB'
    have Ht := Lib.hid ht
    clear hblk hLo ht hfin hOB hR hol
    go_wp2_with fail
    refine Ht.out.mono ?_
    rintro e w1 ⟨rfl, rfl⟩
    go_wp2
    go_ret
    exact ⟨_, _, rfl, hOB', hB⟩
end Go.Proofs.YtendnkpiidhogaaGreat

namespace Go.Proofs.YtendnkpiidhogaaGreat

def GuessAt (b u u1 y1 y0 q r : Nat) : Prop := q * y1 + r = u ∧ (u * b + u1) / (y1 * b + y0) ≤ q ∧ q ≤ b + 1
structure GuessOk (b u u1 y1 y0 : Nat) : Prop where
 hb : 2 ≤ b
 hy : b ≤ 2 * y1
 hy1 : y1 < b
 hy0 : y0 < b
 hu1 : u1 < b
 hu : u < y1 * b + y0
section
variable {b u u1 y1 y0 q r : Nat}
theorem GuessOk.start (h : GuessOk b u u1 y1 y0) : GuessAt b u u1 y1 y0 (u / y1) (u - u / y1 * y1) ∧ u - u / y1 * y1 < b ∧ u / y1 * y1 ≤ u := by
 obtain ⟨hb, hy, hy1, hy0, hu1, hu⟩ := h
 have h1 : u / y1 * y1 ≤ u := Nat.div_mul_le_self u y1
 have h2 : u < u / y1 * y1 + y1 := Nat.lt_div_mul_add (by omega)
 generalize hG : u / y1 = G at *
 have h3 : G ≤ b + 1 := by
  rcases Nat.lt_or_ge (b + 1) G with h | h
  · have h6 : (b + 2) * y1 ≤ G * y1 := Nat.mul_le_mul_right _ h
    rw [Nat.add_mul, Nat.mul_comm b] at h6
    omega
  · exact h
 have h4 : (u * b + u1) / (y1 * b + y0) ≤ G := by
  apply Nat.le_of_lt_succ
  apply Nat.div_lt_of_lt_mul
  have h5 : (y1 * b + y0) * (G + 1) = (G * y1 + y1) * b + y0 * (G + 1) := by
   rw [Nat.mul_add, Nat.add_mul, Nat.mul_one, Nat.mul_add, Nat.mul_one, Nat.add_mul, Nat.mul_right_comm, Nat.mul_comm y1 G]
   omega
  have h7 : (u + 1) * b ≤ (G * y1 + y1) * b := Nat.mul_le_mul_right _ h2
  rw [Nat.add_mul, Nat.one_mul] at h7
  show _ < _ * (G + 1)
  rw [h5]
  omega
 unfold GuessAt
 generalize G * y1 = p at *
 exact ⟨⟨by omega, h4, h3⟩, by omega, h1⟩
theorem GuessOk.quo_lt (h : GuessOk b u u1 y1 y0) : (u * b + u1) / (y1 * b + y0) < b := by
 obtain ⟨hb, hy, hy1, hy0, hu1, hu⟩ := h
 apply Nat.div_lt_of_lt_mul
 have h1 : (u + 1) * b ≤ (y1 * b + y0) * b := Nat.mul_le_mul_right _ hu
 rw [Nat.add_mul, Nat.one_mul] at h1
 omega
theorem GuessAt.le (h : GuessOk b u u1 y1 y0) (hg : GuessAt b u u1 y1 y0 q r) (hd : q * y0 ≤ b * r + u1) : q = (u * b + u1) / (y1 * b + y0) := by
 obtain ⟨h1, h2, h3⟩ := hg
 have hD : 0 < y1 * b + y0 := by have := Nat.mul_pos (show 0 < y1 by have := h.hy; have := h.hb; omega) (show 0 < b by have := h.hb; omega); omega
 refine Nat.le_antisymm ((Nat.le_div_iff_mul_le hD).2 ?_) h2
 have e : q * (y1 * b + y0) = q * y1 * b + q * y0 := by rw [Nat.mul_add, Nat.mul_assoc]
 have e2 : u * b = q * y1 * b + b * r := by rw [← h1, Nat.add_mul, Nat.mul_comm r]
 omega
theorem GuessAt.gt (h : GuessOk b u u1 y1 y0) (hg : GuessAt b u u1 y1 y0 q r) (hd : b ≤ q ∨ b * r + u1 < q * y0) : (u * b + u1) / (y1 * b + y0) < q := by
 obtain ⟨h1, h2, h3⟩ := hg
 rcases hd with hd | hd
 · have := h.quo_lt; omega
 · apply Nat.div_lt_of_lt_mul
   have e : (y1 * b + y0) * q = q * y1 * b + q * y0 := by rw [Nat.mul_comm, Nat.mul_add, Nat.mul_assoc]
   have e2 : u * b = q * y1 * b + b * r := by rw [← h1, Nat.add_mul, Nat.mul_comm r]
   omega
theorem GuessAt.step (h : GuessOk b u u1 y1 y0) (hg : GuessAt b u u1 y1 y0 q r) (hd : b ≤ q ∨ b * r + u1 < q * y0) : GuessAt b u u1 y1 y0 (q - 1) (r + y1) ∧ 1 ≤ q := by
 have h4 := hg.gt h hd
 obtain ⟨h1, h2, h3⟩ := hg
 obtain ⟨n, rfl⟩ : ∃ n, q = n + 1 := ⟨q - 1, by have := Nat.zero_le ((u * b + u1) / (y1 * b + y0)); omega⟩
 refine ⟨⟨?_, by rw [Nat.add_sub_cancel]; exact Nat.le_of_lt_succ h4, by omega⟩, by omega⟩
 rw [Nat.add_mul] at h1
 rw [Nat.add_sub_cancel]
 omega
theorem GuessAt.out (h : GuessOk b u u1 y1 y0) (hg : GuessAt b u u1 y1 y0 q r) (hq : q ≤ b) (hr : b ≤ r) : q = (u * b + u1) / (y1 * b + y0) := by
 refine hg.le h ?_
 have h1 : q * y0 ≤ b * b := Nat.mul_le_mul hq (by have := h.hy0; omega)
 have h2 : b * b ≤ b * r := Nat.mul_le_mul_left _ hr
 omega
end
end Go.Proofs.YtendnkpiidhogaaGreat

namespace Go.Proofs.YtendnkpiidhogaaGreat
open Go.RowKit

theorem or_shift (i a b : Nat) (h : b < 2 ^ i) : a * 2 ^ i ||| b = a * 2 ^ i + b := by
 rw [Nat.mul_comm, Nat.two_pow_add_eq_or_of_lt h]
end Go.Proofs.YtendnkpiidhogaaGreat

namespace Go.Proofs.YtendnkpiidhogaaGreat
open Go.RowKit

def Below1 (k : Nat) (i : Int) : Prop := (k = 0 ∧ i = -1) ∨ ∃ j : Nat, k = j + 1 ∧ i = (j : Int)
theorem Below1.start (n : Nat) : Below1 n ((n : Int) - 1) := by
 rcases n with _ | n
 · exact .inl ⟨rfl, by simp⟩
 · exact .inr ⟨n, rfl, by omega⟩
def SmallAt (B : Nat) (l o : List Nat) (d k r : Nat) : Prop := o.length = l.length ∧ val B (l.drop k) = d * val B (o.drop k) + r
theorem SmallAt.start {B : Nat} {l o : List Nat} (d : Nat) (h : o.length = l.length) : SmallAt B l o d l.length 0 := by
 refine ⟨h, ?_⟩
 rw [List.drop_length, ← h, List.drop_length]
 simp
theorem drop_dg {l : List Nat} {k : Nat} (h : k < l.length) : l.drop k = dg l k :: l.drop (k + 1) := by
 rw [List.drop_eq_getElem_cons h, dg, getD_eq' h]
theorem drop_set {l : List Nat} {k x : Nat} (h : k < l.length) : (l.set k x).drop k = x :: l.drop (k + 1) := by
 rw [List.drop_set, if_neg (Nat.lt_irrefl _), drop_dg h, Nat.sub_self, List.set_cons_zero]
theorem SmallAt.step {B : Nat} {l o : List Nat} {d k r q r' : Nat} (h : SmallAt B l o d (k + 1) r) (hk : k < l.length) (he : r * B + dg l k = d * q + r') : SmallAt B l (o.set k q) d k r' := by
 obtain ⟨h1, h2⟩ := h
 refine ⟨by simpa using h1, ?_⟩
 rw [drop_dg hk, drop_set (by omega), val_cons, val_cons, h2]
 have e : B * (d * val B (o.drop (k + 1)) + r) = d * (B * val B (o.drop (k + 1))) + r * B := by
  rw [Nat.mul_add, Nat.mul_left_comm, Nat.mul_comm B r]
 rw [e, Nat.mul_add]
 omega
theorem SmallAt.fin {B : Nat} {l o : List Nat} {d r : Nat} (h : SmallAt B l o d 0 r) (hr : r < d) : val B o = val B l / d ∧ r = val B l % d := by
 have := h.2
 simp only [List.drop_zero] at this
 rw [this]
 refine ⟨?_, ?_⟩
 · rw [Nat.mul_add_div (by omega), Nat.div_eq_of_lt hr, Nat.add_zero]
 · rw [Nat.mul_add_mod, Nat.mod_eq_of_lt hr]

set_option maxRecDepth 100000 in
set_option maxHeartbeats 1000000 in
theorem quo_lt (P P' : Nat → Prop) (A A' : Option Addr) (c c' : Nat) (a b : List Nat) (w : World) (h : RN w P A c a) (h' : RN w P' A' c' b) (hlt : val 18446744073709551616 a < val 18446744073709551616 b) :
 Calls Tryz.prog 169 #[.slice A a.length c, .slice A' b.length c'] w fun e w' => ∃ A1 c1, e = .returned (.tuple #[.slice none 0 0, .slice A1 (digs 18446744073709551616 (val 18446744073709551616 a)).length c1, .bool true]) ∧
  OB w' w.heap.size A1 c1 (digs 18446744073709551616 (val 18446744073709551616 a)) ∧ Below w.heap.size w w' := by
 have ta := Lib.hid (trim_any P A c a w h)
 have tb := Lib.hid (trim_any P' A' c' b w h')
 have tc := cmp_any P P' A A' c c' _ _ w h.trim h'.trim
 have tm := fun n => made_any P A c _ (World.drewN w n) (h.trim.drewN n)
 rw [val_digs (by omega), val_digs (by omega), cmpV_lt hlt] at tc
 rw [val_digs (by omega)] at tm
 have Tc := Lib.hid tc
 have Tm := Lib.hid tm
 have hne : 0 < (digs 18446744073709551616 (val 18446744073709551616 b)).length := by
  rw [digs_pos (by omega) (by omega)]; simp
 clear tc tm h h' hlt
 generalize digs 18446744073709551616 (val 18446744073709551616 a) = l at *
 generalize digs 18446744073709551616 (val 18446744073709551616 b) = m at *
 have hne' : ((m.length : Int) == 0) = false := eqB (by omega)
 clear hne
 go_enter Tryz.func169, Tryz.ntmps169
 go_wp2_with fail
 refine ta.out.mono ?_
 rintro e w1 ⟨rfl, rfl⟩
 go_wp2_with fail
 refine tb.out.mono ?_
 rintro e w1 ⟨rfl, rfl⟩
 go_wp2_with fail
 refine Tc.out.mono ?_
 rintro e w1 ⟨rfl, n, rfl⟩
 go_wp2_with fail
 refine (Tm.out n).mono ?_
 rintro e w1 ⟨A1, c1, rfl, hO, hB⟩
 go_wp2
 go_ret3
 exact ⟨A1, c1, rfl, hO, ⟨hB.os, hB.tape, hB.output, hB.size, hB.block⟩⟩

end Go.Proofs.YtendnkpiidhogaaGreat
