/- modarith: rest, may, Gcd. What limb.Add computes. Newton's inverse of a limb: plain law. modarith: Inverse. zmont.add: f times b is added to t, in place. zmont.below: the modulus is taken off, if there is too much. zmont's Mul: Montgomery's product. zmont: a modulus's record; fill. zmont's To, From, One. zmont.New. What limb.Each hands back: an iterator over the bits, the highest first. limb.Each's iterator, in the words of a known row of values. zmont's Exp. modarith: Exp modulo an odd number above 1. modarith: candidate. -/
import Derived.Test.YtlaphnlolgokiaaGreatDoorQ29f49f65653c
import Derived.StillTailTactics
import Derived.Deep.RegionHeld3
import Derived.RangeFuncNested
import Derived.RangeFuncBound
import Derived.RangeFuncCalls
import Derived.RangeFuncLeaves
import Derived.Shelf.Abstract
import Derived.Shelf.RegionOpen
import Derived.OwnWalkIn
import Derived.TacticsInMore
import Derived.LoopNIn
import Derived.LoopIn
import Derived.ControlIn
namespace Go.Proofs.YtlaphnlolgokiaaGreatDoor
open Go.RowKit

set_option maxRecDepth 100000 in
set_option maxHeartbeats 1000000 in
theorem rest_any (P P' : Nat → Prop) (A A' : Option Addr) (c c' : Nat) (a b : List Nat) (w : World) (h : RN w P A c a) (h' : RN w P' A' c' b) (hP : ∀ b, P b → b < w.heap.size) (hP' : ∀ b, P' b → b < w.heap.size) (hl : a.length < 90000) (hl' : b.length < 90000) (h0 : 0 < val 18446744073709551616 b) :
 Calls Tryz.prog 64 #[.slice A a.length c, .slice A' b.length c'] w fun e w' => ∃ A1 c1, e = .returned (.slice A1 (digs 18446744073709551616 (val 18446744073709551616 a % val 18446744073709551616 b)).length c1) ∧
  OB w' w.heap.size A1 c1 (digs 18446744073709551616 (val 18446744073709551616 a % val 18446744073709551616 b)) ∧ Below w.heap.size w w' := by
 have hq := Lib.hid (quo_any P P' A A' c c' a b w h h' hP hP' hl hl' h0)
 generalize val 18446744073709551616 a % val 18446744073709551616 b = r at *
 generalize val 18446744073709551616 a / val 18446744073709551616 b = q at *
 clear h0 hl hl'
 go_enter Tryz.func64, Tryz.ntmps64
 go_wp2_with fail
 refine hq.out.mono ?_
 rintro e w1 ⟨A1, c1, A2, c2, rfl, _, hO, hB⟩
 go_wp2
 go_ret
 exact ⟨A2, c2, rfl, hO, hB⟩

def RNN (w : World) (P : Nat → Prop) (A : Option Addr) (c : Nat) (ls : List (List Nat)) (cs : List Value) : Prop :=
 RS w P 1 A ls.length c cs ∧ ls.length ≤ 1000 ∧ ∀ (j : Nat) l, ls[j]? = some l → ∃ A' c', cs[j]? = some (.slice A' l.length c') ∧ RN w P A' c' l

set_option maxRecDepth 100000 in
set_option maxHeartbeats 1000000 in
theorem may_any (P : Nat → Prop) (A : Option Addr) (c : Nat) (ls : List (List Nat)) (cs : List Value) (w : World) (h : RNN w P A c ls cs) :
 Calls Tryz.prog 63 #[.slice A ls.length c] w fun e w' => e = .returned (.bool (ls.all fun l => decide (nbits (val 18446744073709551616 l) ≤ 4096))) ∧ w = w' := by
 obtain ⟨⟨h1, h2, h3, h4⟩, h5, h6⟩ := h
 go_enter Tryz.func63, Tryz.ntmps63
 go_wp2_with fail
 go_loopw [7] (fun iv wr => ∃ k : Nat, iv = .int .i64 (k : Int) ∧ k ≤ ls.length ∧ Hid ((ls.all fun l => decide (nbits (val 18446744073709551616 l) ≤ 4096)) = ((ls.drop k).all fun l => decide (nbits (val 18446744073709551616 l) ≤ 4096))) ∧ w = wr) (fun iv _ => ls.length - (intOf iv).toNat)
 case atStart => exact ⟨0, rfl, by omega, Lib.hid (by simp), rfl⟩
 case round =>
  obtain ⟨k, rfl, hk, hall, rfl⟩ := hrel
  by_cases hlt : k < ls.length
  · obtain ⟨ad, rfl, _, hc⟩ := h4 (by omega)
    obtain ⟨A1, c1, e1, hr⟩ := h6 k _ (List.getElem?_eq_getElem hlt)
    have hx := hc _ _ e1
    have hb := Lib.hid (bits_any P A1 c1 ls[k] w hr)
    have hd : (ls.drop k).all (fun l => decide (nbits (val 18446744073709551616 l) ≤ 4096)) = (decide (nbits (val 18446744073709551616 ls[k]) ≤ 4096) && (ls.drop (k + 1)).all fun l => decide (nbits (val 18446744073709551616 l) ≤ 4096)) := by
     rw [List.drop_eq_getElem_cons hlt, List.all_cons]
    obtain ⟨l, hl⟩ : ∃ l, ls[k] = l := ⟨_, rfl⟩
    rw [hl] at hx hb hd
    obtain ⟨nb, hnb⟩ : ∃ nb, nbits (val 18446744073709551616 l) = nb := ⟨_, rfl⟩
    rw [hnb] at hb hd
    have Hall := hall
    have Hd := Lib.hid hd
    clear hd hl hr e1 hc h4 h6 hnb hall
    go_wp2_with fail
    refine hb.out.mono ?_
    rintro e w' ⟨rfl, rfl⟩
    by_cases hbig : 4096 < nb
    · have hf := Lib.hid (show (ls.all fun l => decide (nbits (val 18446744073709551616 l) ≤ 4096)) = false from Hall.out.trans (by rw [Hd.out, decide_eq_false (by omega : ¬ nb ≤ 4096), Bool.false_and]))
      have t1 : decide ((4096 : Int) < (nb : Int)) = true := decide_eq_true (by omega)
      clear Hall Hd
      go_wp2
      go_ret
      exact ⟨by rw [hf.out]; rfl, rfl⟩
    · have hf := Hall.out.trans (by rw [Hd.out, decide_eq_true (by omega : nb ≤ 4096), Bool.true_and])
      have Hf := Lib.hid hf
      have t1 : decide ((4096 : Int) < (nb : Int)) = false := decide_eq_false (by omega)
      clear Hall Hd hf
      go_wp2
      go_roundw
      case rel => exact ⟨k + 1, by go_num, by omega, Hf, by first | rfl | trivial⟩
      case measure => simp [intOf]; omega
  · have hf := Lib.hid (show (ls.all fun l => decide (nbits (val 18446744073709551616 l) ≤ 4096)) = true from hall.out.trans (by rw [List.drop_of_length_le (by omega), List.all_nil]))
    clear hall h4 h6
    go_wp2
    go_ret
    exact ⟨by rw [hf.out]; rfl, rfl⟩

def readLimbs (w : World) (v : Value) : Nat := match v with
 | .slice (some a) n _ => val 18446744073709551616 ((List.range n).map fun i => match w.cell? (a.add i) with | some (.int _ z) => z.toNat | _ => 0)
 | _ => 0
theorem RN.read {w : World} {P : Nat → Prop} {A : Option Addr} {c : Nat} {l : List Nat} (h : RN w P A c l) : readLimbs w (.slice A l.length c) = val 18446744073709551616 l := by
 rcases Nat.eq_zero_or_pos l.length with h0 | h0
 · obtain rfl := List.eq_nil_of_length_eq_zero h0
   cases A <;> simp [readLimbs]
 · obtain ⟨ad, rfl, _, _⟩ := h.at_ h0
   simp only [readLimbs]
   congr 1
   apply List.ext_getElem?
   intro i
   rw [List.getElem?_map]
   by_cases hi : i < l.length
   · rw [List.getElem?_range hi, List.getElem?_eq_getElem hi, Option.map_some, h.cells i hi, getD_eq hi]
     simp
   · rw [List.getElem?_eq_none (by simp; omega), List.getElem?_eq_none (by omega)]
     rfl

set_option maxRecDepth 100000 in
set_option maxHeartbeats 1000000 in
theorem gcd_any (P P' : Nat → Prop) (A A' : Option Addr) (c c' : Nat) (a b : List Nat) (w : World) (h : RN w P A c a) (h' : RN w P' A' c' b) (_hP : ∀ b, P b → b < w.heap.size) (hP' : ∀ b, P' b → b < w.heap.size) (hl : a.length < 90000) (hl' : b.length < 90000) :
 Calls Tryz.prog 59 #[.slice A a.length c, .slice A' b.length c'] w fun e w' => ∃ A1 c1, e = .returned (.slice A1 (digs 18446744073709551616 (Nat.gcd (val 18446744073709551616 a) (val 18446744073709551616 b))).length c1) ∧
  OB w' w.heap.size A1 c1 (digs 18446744073709551616 (Nat.gcd (val 18446744073709551616 a) (val 18446744073709551616 b))) ∧ Below w.heap.size w w' := by
 have ha := Lib.hid (norm_any P A c a w h)
 have la := digs_length_le (B := 18446744073709551616) (by omega) h.2.1
 have lb := digs_length_le (B := 18446744073709551616) (by omega) h'.2.1
 have hb := Lib.hid (fun w1 (hB : Below w.heap.size w w1) => norm_any P' A' c' b w1 (h'.below hB hP'))
 generalize val 18446744073709551616 a = x at *
 generalize val 18446744073709551616 b = y at *
 go_enter Tryz.func59, Tryz.ntmps59
 go_wp2_with fail
 refine ha.out.mono ?_
 rintro e w1 ⟨A1, c1, rfl, hO1, hB1⟩
 have Hb := Lib.hid (hb.out w1 hB1)
 go_wp2_with fail
 refine Hb.out.mono ?_
 rintro e w2 ⟨A2, c2, rfl, hO2, hB2⟩
 have hs1 := hB1.size
 have hB02 := hB1.trans (hB2.mono hs1)
 have hx0 : OB w2 w.heap.size A1 c1 (digs 18446744073709551616 x) := hO1.below hB2 (Nat.le_refl _)
 have hy0 : OB w2 w.heap.size A2 c2 (digs 18446744073709551616 y) := hO2.mono hs1
 clear ha hb Hb hO1 hO2
 go_wp2_with fail
 go_loopw [0, 1] (fun av bv wr => ∃ (A1 A2 : Option Addr) (c1 c2 u v : Nat), av = .slice A1 (digs 18446744073709551616 u).length c1 ∧ bv = .slice A2 (digs 18446744073709551616 v).length c2 ∧ OB wr w.heap.size A1 c1 (digs 18446744073709551616 u) ∧ OB wr w.heap.size A2 c2 (digs 18446744073709551616 v) ∧ Hid (Nat.gcd u v = Nat.gcd x y) ∧ (digs 18446744073709551616 u).length < 90000 ∧ (digs 18446744073709551616 v).length < 90000 ∧ Below w.heap.size w wr)
  (fun _ bv wr => readLimbs wr bv)
 case atStart => exact ⟨A1, A2, c1, c2, x, y, rfl, rfl, hx0, hy0, Lib.hid rfl, by omega, by omega, hB02⟩
 case round =>
  clear hx0 hy0 hB02
  obtain ⟨A1, A2, c1, c2, u, v, rfl, rfl, hu, hv, hg, hlu, hlv, hB⟩ := hrel
  have hs := hB.size
  by_cases h0 : v = 0
  · subst h0
    rw [digs_zero] at *
    have hg' := hg.out
    rw [Nat.gcd_zero_right] at hg'
    have Hg := Lib.hid hg'
    clear hg hg'
    go_wp2
    go_ret
    exact ⟨A1, c1, by rw [← Hg.out]; rfl, by rw [← Hg.out]; exact hu, hB⟩
  · have hlp : 0 < (digs 18446744073709551616 v).length := by rw [digs_pos (by omega) (by omega)]; simp
    have kp : (0 : Int) < ((digs 18446744073709551616 v).length : Int) := by omega
    have hr := rest_any _ _ A1 A2 c1 c2 _ _ wr hu.rn hv.rn (fun b hb => hb.2) (fun b hb => hb.2) hlu hlv (by rw [val_digs (by omega)]; omega)
    rw [val_digs (by omega), val_digs (by omega)] at hr
    have Hr := Lib.hid hr
    have hrd := hv.rn.read
    rw [val_digs (by omega)] at hrd
    have hmod := Nat.mod_lt u (show 0 < v by omega)
    have hlm : (digs 18446744073709551616 (u % v)).length < 90000 := by have := digs_length_mono (B := 18446744073709551616) (by omega) (Nat.le_of_lt hmod); omega
    have Hg2 := Lib.hid (show Nat.gcd v (u % v) = Nat.gcd x y by rw [← hg.out, Nat.gcd_comm u v, Nat.gcd_rec v u, Nat.gcd_comm])
    have Hrd := Lib.hid hrd
    clear hr hrd hg
    go_wp2_with fail
    refine Hr.out.mono ?_
    rintro e w3 ⟨A3, c3, rfl, hO3, hB3⟩
    have hrd3 := hO3.rn.read
    rw [val_digs (by omega)] at hrd3
    have Hrd3 := Lib.hid hrd3
    have hv3 := hv.below hB3 (Nat.le_refl _)
    have hO3' := hO3.mono hs
    have hB03 := hB.trans (hB3.mono hs)
    clear hrd3
    go_wp2
    go_roundw
    case rel => exact ⟨A2, A3, c2, c3, v, u % v, rfl, rfl, hv3, hO3', Hg2, hlv, hlm, hB03⟩
    case measure => rw [Hrd.out, Hrd3.out]; exact hmod
end Go.Proofs.YtlaphnlolgokiaaGreatDoor

namespace Go.Proofs.YtlaphnlolgokiaaGreatDoor
open Go.RowKit

set_option maxRecDepth 100000 in
set_option maxHeartbeats 1000000 in
theorem add_any (P P' : Nat → Prop) (A A' : Option Addr) (c c' : Nat) (a b : List Nat) (w : World) (h : RN w P A c a) (h' : RN w P' A' c' b) (hP : ∀ b, P b → b < w.heap.size) (hP' : ∀ b, P' b → b < w.heap.size) (hl : a.length < 100000) (hl' : b.length < 100000) :
 Calls Tryz.prog 60 #[.slice A a.length c, .slice A' b.length c'] w fun e w' => ∃ A1 c1, e = .returned (.slice A1 (digs 18446744073709551616 (val 18446744073709551616 a + val 18446744073709551616 b)).length c1) ∧
  OB w' w.heap.size A1 c1 (digs 18446744073709551616 (val 18446744073709551616 a + val 18446744073709551616 b)) ∧ Below w.heap.size w w' := by
 have ta := Lib.hid (trim_any P A c a w h)
 have tb := Lib.hid (trim_any P' A' c' b w h')
 have la := digs_length_le (B := 18446744073709551616) (by omega) h.2.1
 have lb := digs_length_le (B := 18446744073709551616) (by omega) h'.2.1
 replace h := h.trim
 replace h' := h'.trim
 generalize val 18446744073709551616 a = x at *
 generalize val 18446744073709551616 b = y at *
 have hx := val_digs (B := 18446744073709551616) (by omega) x
 have hy := val_digs (B := 18446744073709551616) (by omega) y
 generalize digs 18446744073709551616 x = l at *
 generalize digs 18446744073709551616 y = m at *
 have la' : l.length < 100000 := by omega
 have lb' : m.length < 100000 := by omega
 clear la lb hl hl'
 have Hx := Lib.hid hx
 have Hy := Lib.hid hy
 clear hx hy
 go_enter Tryz.func60, Tryz.ntmps60
 go_wp2_with fail
 refine ta.out.mono ?_
 rintro e w1 ⟨rfl, rfl⟩
 go_wp2_with fail
 refine tb.out.mono ?_
 rintro e w1 ⟨rfl, rfl⟩
 go_upto_if 17 with fail
 go_cut [0, 1] (fun s0 s1 wx => ∃ (A c : _) (l : List Nat) (A' c' : _) (m : List Nat), s0 = .slice A l.length c ∧ s1 = .slice A' m.length c' ∧ m.length ≤ l.length ∧ l.length < 100000 ∧
  RN w (fun b => b < w.heap.size) A c l ∧ RN w (fun b => b < w.heap.size) A' c' m ∧ Hid (val 18446744073709551616 l + val 18446744073709551616 m = x + y) ∧ w = wx)
 case first =>
  by_cases hs : l.length < m.length
  · go_wp2_with fail
    go_meet
    case rel => exact ⟨A', c', m, A, c, l, rfl, rfl, by omega, by omega, h'.mono hP', h.mono hP, Lib.hid (by rw [Hx.out, Hy.out, Nat.add_comm]), rfl⟩
  · go_wp2_with fail
    go_meet
    case rel => exact ⟨A, c, l, A', c', m, rfl, rfl, by omega, by omega, h.mono hP, h'.mono hP', Lib.hid (by rw [Hx.out, Hy.out]), rfl⟩
 case rest =>
  clear ta tb h h' hP hP' Hx Hy la' lb'
  clear A A' c c' l m
  obtain ⟨A, c, l, A', c', m, rfl, rfl, hle, hlen, h, h', Hv, rfl⟩ := hcut
  obtain ⟨h1, h2, h3⟩ := h.cap
  obtain ⟨g1, g2, g3⟩ := h'.cap
  have hmk := run_make_row' (P := Tryz.prog) 23 34 (.int .u64 0) 8 Tryz.underlying23 info64 rfl .i64 .i64 (l.length + 1) (by omega) (by omega)
  simp only [Int.natCast_add, Int.cast_ofNat_Int] at hmk
  go_wp2
  go_loopw [6, 26] (fun cv iv wr => ∃ (k cr : Nat) (o : List Nat), iv = .int .i64 (k : Int) ∧ cv = .int .u64 (cr : Int) ∧ k ≤ l.length ∧ cr ≤ 1 ∧ AddAt 18446744073709551616 l m o k cr ∧ Hid (o.length = l.length + 1) ∧ Lim o ∧ Blk wr w.heap.size o ∧ Below w.heap.size w wr) (fun _ iv _ => l.length - (intOf iv).toNat)
  case atStart => exact ⟨0, 0, List.replicate (l.length + 1) 0, rfl, rfl, by omega, by omega, AddAt.zero _ _ _ _, Lib.hid (by simp), ⟨by simp, by simp; omega⟩, Blk.made w _, (Below.refl _ w).alloc (Nat.le_refl _) _⟩
  case round =>
   obtain ⟨k, cr, o, rfl, rfl, hk, hcr, hA, Ho, hLo, hblk, hB⟩ := hrel
   by_cases hlt : k < l.length
   · obtain ⟨ad, rfl, _, q1⟩ := (h.below hB (fun b hb => hb)).at_ hlt
     obtain ⟨s, cr', hs, hcr', he⟩ := carry_of (dg l k) (dg m k) cr (h.2.dgLt k) (h'.2.dgLt k) hcr
     have hok : k < o.length := by have := Ho.out; omega
     have q3 := hblk.cell hok
     have q4 := hblk.free k
     have hA' := hA.step hok he
     have hblk' := hblk.set k s
     have hLo' := hLo.set k s hs
     have hB' := hB.setCell (p := ⟨w.heap.size, k, none⟩) (Nat.le_refl _) (.int .u64 (s : Int))
     have Ho' : Hid ((o.set k s).length = l.length + 1) := Lib.hid (by rw [List.length_set]; exact Ho.out)
     by_cases hm : k < m.length
     · obtain ⟨ae, rfl, _, q2⟩ := (h'.below hB (fun b hb => hb)).at_ hm
       have hadd := fun w => add64_at (dg l k) (dg m k) cr s cr' hcr hs he w
       clear he hA hblk hLo hB
       go_wp2
       go_roundw
       case rel => exact ⟨k + 1, cr', o.set k s, by go_num, rfl, by omega, hcr', hA', Ho', hLo', hblk', hB'⟩
       case measure => simp [intOf]; omega
     · have hadd := fun w => add64_at (dg l k) 0 cr s cr' hcr hs (by rw [dg_none (by omega : m.length ≤ k)] at he; exact he) w
       simp only [Int.cast_ofNat_Int] at hadd
       clear he hA hblk hLo hB
       go_wp2
       go_roundw
       case rel => exact ⟨k + 1, cr', o.set k s, by go_num, rfl, by omega, hcr', hA', Ho', hLo', hblk', hB'⟩
       case measure => simp [intOf]; omega
   · obtain rfl : k = l.length := by omega
     have hfin := hA.fin (by rw [Ho.out]) (Nat.le_refl _) hle
     rw [Hv.out] at hfin
     have q4 := hblk.free l.length
     have q3 := hblk.cell (i := l.length) (by have := Ho.out; omega)
     have hblk' := hblk.set l.length cr
     have hLo' := hLo.set l.length cr (by omega)
     have hB' := hB.setCell (p := ⟨w.heap.size, l.length, none⟩) (Nat.le_refl _) (.int .u64 (cr : Int))
     have Ho' : Hid ((o.set l.length cr).length = l.length + 1) := Lib.hid (by rw [List.length_set]; exact Ho.out)
     obtain ⟨o', ho'⟩ : ∃ o', o.set l.length cr = o' := ⟨_, rfl⟩
     rw [ho'] at hfin hblk' hLo' Ho'
     have hOB : OB (wr.setCell ⟨w.heap.size, l.length, none⟩ (.int .u64 (cr : Int))) w.heap.size (some ⟨w.heap.size, 0, none⟩) (l.length + 1) o' := OB.of_blk hblk' (Nat.le_refl _) hLo' (by have := Ho'.out; omega) (by unfold maxLen; omega)
     have ht := trim_any _ _ _ _ _ hOB.rn
     have hOB' := hOB.trim
     rw [hfin, Ho'.out] at ht
     rw [hfin] at hOB'
     have Ht := Lib.hid ht
     clear hA hblk hLo hB ht hfin hOB hblk' hLo' ho'
     go_wp2_with fail
     refine Ht.out.mono ?_
     rintro e w1 ⟨rfl, rfl⟩
     go_wp2
     go_ret
     exact ⟨_, _, rfl, hOB', hB'⟩

end Go.Proofs.YtlaphnlolgokiaaGreatDoor

namespace Go.Proofs.YtlaphnlolgokiaaGreatDoor

def NewtAt (m : Int) (r : Nat) (y : Int) : Prop := ∃ t, m * y = 1 + 2 ^ (2 ^ r) * t
theorem NewtAt.zero {m : Int} (h : m % 2 = 1) : NewtAt m 0 1 := ⟨(m - 1) / 2, by omega⟩
theorem NewtAt.step {m y : Int} {r : Nat} (h : NewtAt m r y) (hr : r < 6) : NewtAt m (r + 1) (y * ((2 - m * y % 18446744073709551616) % 18446744073709551616) % 18446744073709551616) := by
 obtain ⟨t, ht⟩ := h
 obtain ⟨z, hz⟩ := newton_wrap (m := m) (y := y)
 have hj : ∃ j, 2 ^ r + 2 ^ r + j = 64 := by
  have : r = 0 ∨ r = 1 ∨ r = 2 ∨ r = 3 ∨ r = 4 ∨ r = 5 := by omega
  rcases this with rfl | rfl | rfl | rfl | rfl | rfl
  · exact ⟨62, rfl⟩
  · exact ⟨60, rfl⟩
  · exact ⟨56, rfl⟩
  · exact ⟨48, rfl⟩
  · exact ⟨32, rfl⟩
  · exact ⟨0, rfl⟩
 obtain ⟨j, hj⟩ := hj
 obtain ⟨s, hs⟩ := newton (z := z) ht hz hj
 exact ⟨s, by rw [Nat.pow_succ, Nat.mul_two]; exact hs⟩
theorem NewtAt.fin {m : Int} {y : Int} (h : NewtAt m 6 y) : ∃ t, m * y = 1 + 18446744073709551616 * t := by
 obtain ⟨t, ht⟩ := h
 exact ⟨t, ht⟩
theorem val_pow (n : Nat) : val 18446744073709551616 (List.replicate n 0 ++ [1]) = 18446744073709551616 ^ n := by
 rw [val_append, val_replicate, List.length_replicate]; simp
theorem dig_len {v M k : Nat} (h : v ≤ M) (hM : (digs 18446744073709551616 M).length ≤ k) : (digs 18446744073709551616 v).length ≤ k := Nat.le_trans (digs_length_mono (by omega) h) hM
end Go.Proofs.YtlaphnlolgokiaaGreatDoor

namespace Go.Proofs.YtlaphnlolgokiaaGreatDoor
open Go.RowKit

theorem RNN.two {w : World} {P P' : Nat → Prop} {A A' : Option Addr} {c c' : Nat} {a b : List Nat} (h : RN w P A c a) (h' : RN w P' A' c' b) (hP : ∀ b, P b → b < w.heap.size) (hP' : ∀ b, P' b → b < w.heap.size) :
 RNN (w.alloc (.cells #[.slice A a.length c, .slice A' b.length c'] 23)) (fun _ => True) (some ⟨w.heap.size, 0, none⟩) 2 [a, b] [.slice A a.length c, .slice A' b.length c'] := by
 have hB : Below w.heap.size w (w.alloc (.cells #[.slice A a.length c, .slice A' b.length c'] 23)) := (Below.refl _ w).alloc (Nat.le_refl _) _
 refine ⟨RS.fresh (w := w) (P := fun _ => True) #[.slice A a.length c, .slice A' b.length c'] 23 1 2 rfl (by unfold maxLen; omega) trivial, by simp, fun j l hl => ?_⟩
 match j, hl with
 | 0, hl => simp at hl; subst hl; exact ⟨A, c, rfl, (h.below hB hP).mono fun _ _ => trivial⟩
 | 1, hl => simp at hl; subst hl; exact ⟨A', c', rfl, (h'.below hB hP').mono fun _ _ => trivial⟩
 | j + 2, hl => simp at hl

end Go.Proofs.YtlaphnlolgokiaaGreatDoor

namespace Go.Proofs.YtlaphnlolgokiaaGreatDoor
open Go.RowKit

set_option maxRecDepth 100000 in
set_option maxHeartbeats 2000000 in
theorem madd_any (P' : Nat → Prop) (A' : Option Addr) (c' ct g f : Nat) (t b : List Nat) (w : World) (h : Blk w g t) (hL : Lim t) (h' : RN w P' A' c' b) (hP' : ∀ x, P' x → x < w.heap.size ∧ x ≠ g) (hl : t.length = b.length + 2) (hf : f < 18446744073709551616)
 (hv : val 18446744073709551616 t + f * val 18446744073709551616 b < 18446744073709551616 ^ (b.length + 2)) :
 Calls Tryz.prog 89 #[.slice (some ⟨g, 0, none⟩) t.length ct, .slice A' b.length c', .int .u64 (f : Int)] w fun e w' => e = .returned (.tuple #[]) ∧ ∃ o, o.length = t.length ∧ Lim o ∧ val 18446744073709551616 o = val 18446744073709551616 t + f * val 18446744073709551616 b ∧ Blk w' g o ∧ Just g w w' := by
 obtain ⟨g1, g2, g3⟩ := h'.cap
 have hlt2 := hL.2
 have Hv := Lib.hid hv
 have Hl := Lib.hid hl
 clear hv hl
 go_enter Tryz.func89, Tryz.ntmps89
 go_wp2_with fail
 go_loopw [6, 16] (fun cv jv wr => ∃ (j cr : Nat) (o : List Nat), jv = .int .i64 (j : Int) ∧ cv = .int .u64 (cr : Int) ∧ j ≤ b.length ∧ cr < 18446744073709551616 ∧ MulAt 18446744073709551616 t b f 0 o j cr ∧ Lim o ∧ Blk wr g o ∧ Just g w wr) (fun _ jv _ => b.length - (intOf jv).toNat)
 case atStart => exact ⟨0, 0, t, rfl, rfl, by omega, by omega, MulAt.zero _ _ _ _ _, hL, h, Just.refl _ _⟩
 case round =>
  clear h
  obtain ⟨j, cr, o, rfl, rfl, hj, hcr, hM, hLo, hblk, hB⟩ := hrel
  have hol : o.length = t.length := hM.1
  have hl := Hl.out
  by_cases hjt : j < b.length
  · obtain ⟨ae, rfl, _, q2⟩ := (h'.just hB hP').at_ hjt
    have hok : 0 + j < o.length := by omega
    have q3 := hblk.cell hok
    have q4 := hblk.free (0 + j)
    obtain ⟨hi', lo, s1, c1, s2, c2, b1, b2, b3, b4, b5, b6, b7, b8, b9, b10, he⟩ := mul_round f (dg b j) (dg o (0 + j)) cr hf (h'.2.dgLt j) (hLo.dgLt _) hcr
    have hmul := Lib.hid (fun w => mul64_at f (dg b j) hi' lo hf (h'.2.dgLt j) b1 b2 w)
    have hadd1 := fun w => add64_at lo (dg o (0 + j)) 0 s1 c1 (by omega) b3 b4 w
    have hadd2 := fun w => add64_at s1 cr 0 s2 c2 (by omega) b5 b6 w
    simp only [Int.cast_ofNat_Int] at hadd1 hadd2
    have hM' := hM.step hok he
    have hblk' := hblk.set (0 + j) s2
    have hLo' := hLo.set (0 + j) s2 b5
    have hB' := hB.set (0 + j) (.int .u64 (s2 : Int))
    rw [Nat.zero_add] at q3 q4 hadd1 hblk' hLo' hB' hM'
    have k1 : (j : Int) < (t.length : Int) := by omega
    clear he b2 b4 b6 hM hblk hLo hB hok hol hl
    go_wp2_with fail
    refine (hmul.out _).mono ?_
    rintro e w1 ⟨rfl, rfl⟩
    go_wp2
    go_roundw
    case rel => exact ⟨j + 1, hi' + c1 + c2, o.set j s2, by go_num, by go_num, by omega, b10, hM', hLo', hblk', hB'⟩
    case measure => simp [intOf]; omega
  · obtain rfl : j = b.length := by omega
    have q3 := hblk.cell (i := b.length) (by omega)
    have q4 := hblk.free b.length
    have q5 := hblk.cell (i := b.length + 1) (by omega)
    have q6 := hblk.free (b.length + 1)
    obtain ⟨s, c1, hs1, hs2, hs3⟩ := carry_of (dg o b.length) cr 0 (hLo.dgLt _) hcr (by omega)
    have hadd := fun w => add64_at (dg o b.length) cr 0 s c1 (by omega) hs1 hs3 w
    simp only [Int.cast_ofNat_Int] at hadd
    obtain ⟨hx, hfin⟩ := madd_fin (by omega) hM rfl (by omega) (by omega) Hv.out
    have hblk1 := hblk.set b.length s
    have q7 := hblk1.cell (i := b.length + 1) (by simp; omega)
    have q8 := hblk1.free (b.length + 1)
    rw [getD_set_ne (by omega)] at q7
    have hblk2 := hblk1.set (b.length + 1) (dg o (b.length + 1) + c1)
    have hLo2 := (hLo.set b.length s hs1).set (b.length + 1) (dg o (b.length + 1) + c1) hx
    have hB2 := (hB.set b.length (.int .u64 (s : Int))).set (b.length + 1) (.int .u64 ((dg o (b.length + 1) + c1 : Nat) : Int))
    have hx' : (dg o (b.length + 1) : Int) + (c1 : Int) < 18446744073709551616 := by omega
    have k1 : (b.length : Int) < (t.length : Int) := by omega
    have k2 : (b.length : Int) + 1 < (t.length : Int) := by omega
    have hol2 : ((o.set b.length s).set (b.length + 1) (dg o (b.length + 1) + c1)).length = t.length := by simp [hol]
    have Hfin := Lib.hid hfin
    have Hol2 := Lib.hid hol2
    clear hM hblk hblk1 hLo hB hfin hol2 hs3 hl
    go_wp2
    go_end0
    exact ⟨rfl, _, Hol2.out, hLo2, Hfin.out, by simpa using hblk2, by simpa using hB2⟩

set_option maxRecDepth 100000 in
set_option maxHeartbeats 2000000 in
theorem mbelow_any (P Pt : Nat → Prop) (Am At : Option Addr) (cm ct g over : Nat) (ml t : List Nat) (w : World) (h0 : w.cell? ⟨g, 0, none⟩ = some (.slice Am ml.length cm)) (hg : g < w.heap.size) (hm : RN w P Am cm ml) (hP : ∀ b, P b → b < w.heap.size) (ht : RN w Pt At ct t) (hPt : ∀ b, Pt b → b < w.heap.size)
 (hl : t.length = ml.length) (ho : over < 18446744073709551616) (hv : val 18446744073709551616 t + 18446744073709551616 ^ ml.length * over < 2 * val 18446744073709551616 ml) :
 Calls Tryz.prog 90 #[.pointer (some ⟨g, 0, none⟩), .slice At t.length ct, .int .u64 (over : Int)] w fun e w' => ∃ A' c' o, e = .returned (.slice A' ml.length c') ∧ o.length = ml.length ∧ OB w' w.heap.size A' c' o ∧
  val 18446744073709551616 o = offM (val 18446744073709551616 t + 18446744073709551616 ^ ml.length * over) (val 18446744073709551616 ml) ∧ Below w.heap.size w w' := by
 obtain ⟨m1, m2, m3⟩ := hm.cap
 obtain ⟨t1, t2, t3⟩ := ht.cap
 have hmk := run_make_row' (P := Tryz.prog) 22 34 (.int .u64 0) 8 Tryz.underlying22 info64 rfl .i64 .i64 ml.length (by omega) (by omega)
 have hvm := val_lt (B := 18446744073709551616) hm.2.1
 have hvt := val_lt (B := 18446744073709551616) ht.2.1
 rw [hl] at hvt
 have Hv := Lib.hid hv
 have Hl := Lib.hid hl
 clear hv hl
 go_enter Tryz.func90, Tryz.ntmps90
 go_wp2_with fail
 go_loopw [8, 18] (fun cv iv wr => ∃ (k cr : Nat) (o : List Nat), iv = .int .i64 (k : Int) ∧ cv = .int .u64 (cr : Int) ∧ k ≤ ml.length ∧ cr ≤ 1 ∧ SubAt 18446744073709551616 t ml o k cr ∧ Hid (o.length = ml.length) ∧ Lim o ∧ Blk wr w.heap.size o ∧ Below w.heap.size w wr) (fun _ iv _ => ml.length - (intOf iv).toNat)
 case atStart => exact ⟨0, 0, List.replicate ml.length 0, rfl, rfl, by omega, by omega, SubAt.zero _ _ _ _, Lib.hid (by simp), ⟨by simp, by simp; omega⟩, Blk.made w _, (Below.refl _ w).alloc (Nat.le_refl _) _⟩
 case round =>
  obtain ⟨k, cr, o, rfl, rfl, hk, hcr, hA, Ho, hLo, hblk, hB⟩ := hrel
  by_cases hlt : k < ml.length
  · have hlt2 : k < t.length := by have := Hl.out; omega
    obtain ⟨ad, rfl, hb1, q1⟩ := (ht.below hB hPt).at_ hlt2
    obtain ⟨ae, rfl, hb2, q2⟩ := (hm.below hB hP).at_ hlt
    have c0 := (hB.cell (p := ⟨g, 0, none⟩) hg).trans h0
    obtain ⟨s, cr', hs, hcr', he⟩ := borrow_of (dg t k) (dg ml k) cr (ht.2.dgLt k) (hm.2.dgLt k) hcr
    have hok : k < o.length := by have := Ho.out; omega
    have q3 := hblk.cell hok
    have q4 := hblk.free k
    have hA' := hA.step hok he
    have hblk' := hblk.set k s
    have hLo' := hLo.set k s hs
    have hB' := hB.setCell (p := ⟨w.heap.size, k, none⟩) (Nat.le_refl _) (.int .u64 (s : Int))
    have Ho' : Hid ((o.set k s).length = ml.length) := Lib.hid (by rw [List.length_set]; exact Ho.out)
    have hsub := fun w => sub64_at (dg t k) (dg ml k) cr s cr' hcr (ht.2.dgLt k) (hm.2.dgLt k) hs he hcr' w
    have ki : (k : Int) < (t.length : Int) := by omega
    clear he hA hblk hLo hB hok
    go_wp2_with fail
    have hfar : ∀ p : Addr, p.block < w.heap.size → (wr.setCell ⟨w.heap.size, k, none⟩ (.int .u64 (s : Int))).drew.cell? p = wr.cell? p := fun p hp => World.cell?_of_block (Below.heap_setCell _ _ _ _ (by show p.block ≠ w.heap.size; omega))
    have f0 := (hfar ⟨g, 0, none⟩ hg).trans c0
    have f1 := (hfar (ad.add k) (by rw [block_of_add]; exact hPt _ hb1)).trans q1
    have f2 := (hfar (ae.add k) (by rw [block_of_add]; exact hP _ hb2)).trans q2
    clear hfar
    go_region_held3 (fun w' => w'.cell? ⟨g, 0, none⟩ = some (.slice (some ae) ml.length cm) ∧ w'.cell? (ad.add k) = some (.int .u64 (dg t k : Int)) ∧ w'.cell? (ae.add k) = some (.int .u64 (dg ml k : Int))) (first | exact ⟨c0, q1, q2⟩ | exact ⟨f0, f1, f2⟩ | go_keep) (fail)
    go_wp2
    go_roundw
    case rel => exact ⟨k + 1, cr', o.set k s, by go_num, rfl, by omega, hcr', hA', Ho', hLo', hblk', hB'.drew⟩
    case measure => simp [intOf]; omega
  · obtain rfl : k = ml.length := by omega
    have hfin := hA.last Ho.out Hl.out rfl
    have hvo := val_lt (B := 18446744073709551616) hLo.1
    rw [Ho.out] at hvo
    have hv := Hv.out
    by_cases hcase : over < cr
    · obtain rfl : cr = 1 := by omega
      obtain rfl : over = 0 := by omega
      rw [Nat.mul_zero, Nat.add_zero] at hv
      have hoff : offM (val 18446744073709551616 t + 18446744073709551616 ^ ml.length * 0) (val 18446744073709551616 ml) = val 18446744073709551616 t := by rw [Nat.mul_zero, Nat.add_zero, offM, if_pos (by omega)]
      have hpos : 0 < t.length := by
       rcases Nat.eq_zero_or_pos t.length with h | h
       · have h1 := Hl.out
         have : ml = [] := List.eq_nil_of_length_eq_zero (by omega)
         rw [this] at hv
         simp at hv
       · exact h
      have hcp := copy_limbs (dT := 22) (sT := 22) Tryz.underlying22 wr w.heap.size ml.length ml.length t.length ct Pt At o t 3 hblk (ht.below hB hPt) hpos rfl (by have := Hl.out; omega) (by have := Ho.out; omega)
      rw [List.drop_of_length_le (by have := Ho.out; have := Hl.out; omega), List.append_nil] at hcp
      have hb2 := hblk.put t
      have hB2 := setRow_below hB (Nat.le_refl _) (nts t).toArray
      have hO2 : OB (wr.setRow w.heap.size (nts t).toArray) w.heap.size (some ⟨w.heap.size, 0, none⟩) ml.length t := OB.of_blk hb2 (Nat.le_refl _) ht.2 (by have := Hl.out; omega) (by unfold maxLen; omega)
      have Hoff := Lib.hid hoff
      clear hvo hv hfin hvm hvt hoff hA hblk hLo hB hb2 hpos
      go_wp2_with (at_builtin; refine wpList_copy_eq _ rfl _ _ 22 22 rfl _ _ rfl rfl hcp ?_)
      go_ret
      exact ⟨_, _, t, rfl, Hl.out, hO2, Hoff.out.symm, hB2⟩
    · have hoff : val 18446744073709551616 o = offM (val 18446744073709551616 t + 18446744073709551616 ^ ml.length * over) (val 18446744073709551616 ml) := by
       have hcr' : cr = 0 ∨ cr = 1 := by omega
       generalize 18446744073709551616 ^ ml.length = R at *
       rcases Nat.eq_zero_or_pos over with rfl | hpo
       · obtain rfl : cr = 0 := by omega
         rw [Nat.mul_zero, Nat.add_zero] at hfin hv ⊢
         rw [offM, if_neg (by omega)]
         omega
       · have h1 : R * 1 ≤ R * over := Nat.mul_le_mul_left _ hpo
         have h2 : over = 1 := by
          rcases Nat.lt_or_ge over 2 with h | h
          · omega
          · have : R * 2 ≤ R * over := Nat.mul_le_mul_left _ h
            omega
         subst h2
         rw [offM, if_neg (by omega)]
         rcases hcr' with rfl | rfl
         · rw [Nat.mul_zero, Nat.add_zero] at hfin
           omega
         · omega
      have hO2 : OB wr w.heap.size (some ⟨w.heap.size, 0, none⟩) ml.length o := OB.of_blk hblk (Nat.le_refl _) hLo (by have := Ho.out; omega) (by unfold maxLen; omega)
      have Hoff := Lib.hid hoff
      clear hvo hv hfin hvm hvt hoff hA hblk hLo
      go_wp2
      go_ret
      exact ⟨_, _, o, rfl, Ho.out, hO2, Hoff.out, hB⟩
end Go.Proofs.YtlaphnlolgokiaaGreatDoor

namespace Go.Proofs.YtlaphnlolgokiaaGreatDoor
open Go.RowKit

set_option maxRecDepth 100000 in
set_option maxHeartbeats 4000000 in
theorem mmul_any (P Pa Pb : Nat → Prop) (Am Aa Ab : Option Addr) (cm ca cb g inv : Nat) (ml a b : List Nat) (w : World) (h0 : w.cell? ⟨g, 0, none⟩ = some (.slice Am ml.length cm)) (h1 : w.cell? ⟨g, 1, none⟩ = some (.int .u64 (inv : Int))) (hg : g < w.heap.size) (hm : RN w P Am cm ml) (hP : ∀ b, P b → b < w.heap.size)
 (ha : RN w Pa Aa ca a) (hPa : ∀ b, Pa b → b < w.heap.size) (hb : RN w Pb Ab cb b) (hPb : ∀ b, Pb b → b < w.heap.size) (hla : a.length = ml.length) (hlb : b.length = ml.length) (hM : 0 < val 18446744073709551616 ml) (hbM : val 18446744073709551616 b < val 18446744073709551616 ml)
 (_hinv : inv < 18446744073709551616) (hi : (inv * val 18446744073709551616 ml + 1) % 18446744073709551616 = 0) (hsm : ml.length ≤ 100000) :
 Calls Tryz.prog 70 #[.pointer (some ⟨g, 0, none⟩), .slice Aa a.length ca, .slice Ab b.length cb] w fun e w' => ∃ A' c' o, e = .returned (.slice A' ml.length c') ∧ o.length = ml.length ∧ OB w' w.heap.size A' c' o ∧ val 18446744073709551616 o < val 18446744073709551616 ml ∧
  val 18446744073709551616 o * 18446744073709551616 ^ ml.length % val 18446744073709551616 ml = val 18446744073709551616 a * val 18446744073709551616 b % val 18446744073709551616 ml ∧ Below w.heap.size w w' := by
 obtain ⟨m1, m2, m3⟩ := hm.cap
 obtain ⟨a1, a2, a3⟩ := ha.cap
 obtain ⟨b1, b2, b3⟩ := hb.cap
 obtain ⟨n, hn⟩ : ∃ n, ml.length = n := ⟨_, rfl⟩
 have hvm := val_lt (B := 18446744073709551616) hm.2.1
 have hvb := val_lt (B := 18446744073709551616) hb.2.1
 rw [hlb] at hvb
 rw [hn] at hvm hvb
 have hmk := run_make_row' (P := Tryz.prog) 22 34 (.int .u64 0) 8 Tryz.underlying22 info64 rfl .i64 .i64 (n + 2) (by omega) (by omega)
 simp only [Int.natCast_add, Int.cast_ofNat_Int] at hmk
 have Hla := Lib.hid (hla.trans hn)
 have Hlb := Lib.hid (hlb.trans hn)
 have Hn := Lib.hid hn
 have Hlm := Lib.hid (show ml.length ≤ 100000 from hsm)
 have hn0 : 0 < n := by
  rcases Nat.eq_zero_or_pos n with h | h
  · subst h
    have : ml = [] := List.eq_nil_of_length_eq_zero hn
    rw [this] at hM
    simp at hM
  · exact h
 have hns : n ≤ 100000 := by omega
 rw [hn] at h0
 have Hvm := Lib.hid hvm
 have Hvb := Lib.hid hvb
 have HbM := Lib.hid hbM
 have Hi := Lib.hid hi
 have HM := Lib.hid hM
 clear hla hlb hn hsm hvm hvb hbM hi hM
 go_enter Tryz.func70, Tryz.ntmps70
 go_wp2_with fail
 go_loopw [19] (fun iv wr => ∃ (i : Nat) (t : List Nat), iv = .int .i64 (i : Int) ∧ i ≤ n ∧ Hid (MontAt 18446744073709551616 (val 18446744073709551616 ml) a b t i n) ∧ Lim t ∧ Blk wr w.heap.size t ∧ Below w.heap.size w wr) (fun iv _ => n - (intOf iv).toNat)
 case atStart => exact ⟨0, List.replicate (n + 2) 0, rfl, by omega, Lib.hid (MontAt.zero _ _ _ HM.out), ⟨by simp, by simp; omega⟩, Blk.made w _, (Below.refl _ w).alloc (Nat.le_refl _) _⟩
 case round =>
  obtain ⟨i, t, rfl, hil, hMt, hLt, hblk, hB⟩ := hrel
  by_cases hlt : i < n
  · have hlt2 : i < a.length := by have := Hla.out; omega
    obtain ⟨ad, rfl, hba, q1⟩ := (ha.below hB hPa).at_ hlt2
    have hMlen := hMt.out.len
    have zw := hB.size
    have hrt : (t.length : Nat) = b.length + 2 := by have := Hlb.out; omega
    have hail := ha.2.dgLt i
    have hrm : val 18446744073709551616 t + dg a i * val 18446744073709551616 b < 18446744073709551616 ^ (b.length + 2) := by
     rw [Hlb.out, pow_two_more]
     exact mont_room1 (by omega) hMt.out.bound hail (Nat.le_of_lt Hvm.out) Hvb.out
    have c1 := madd_any Pb Ab cb (n + 2) w.heap.size (dg a i) t b wr hblk hLt (hb.below hB hPb) (fun x hx => by have := hPb x hx; omega) hrt hail hrm
    rw [hMlen] at c1
    have C1 := Lib.hid c1
    have hai : (i : Int) < (a.length : Int) := by omega
    clear c1 hrm hblk
    generalize hdi : dg a i = di at *
    have Hdi := Lib.hid hdi
    clear hdi hMlen hrt
    go_wp2_with fail
    refine C1.out.mono ?_
    rintro e w1 ⟨rfl, o1, hl1, hL1, hv1, hb1, hJ1⟩
    have zw1 := hJ1.size
    have hB1 : Below w.heap.size w w1 := hB.trans (hJ1.below (Nat.le_refl _) (by omega))
    have c0 := (hB1.cell (p := ⟨g, 0, none⟩) hg).trans h0
    have c1 := (hB1.cell (p := ⟨g, 1, none⟩) hg).trans h1
    have c2 := hb1.cell (i := 0) (by omega)
    have hrm2 : val 18446744073709551616 o1 + dg o1 0 * inv % 18446744073709551616 * val 18446744073709551616 ml < 18446744073709551616 ^ (ml.length + 2) := by
     rw [hv1, Hn.out, pow_two_more]
     exact mont_room2 (by omega) hMt.out.bound hail (Nat.mod_lt _ (by omega)) (Nat.le_of_lt Hvm.out) Hvb.out
    have d1 := madd_any P Am cm (n + 2) w.heap.size (dg o1 0 * inv % 18446744073709551616) o1 ml w1.drew (hb1.drewN 1) hL1 ((hm.below hB1 hP).drewN 1) (fun x hx => by have := hP x hx; show x < w1.heap.size ∧ _; omega) (by have := Hn.out; omega) (Nat.mod_lt _ (by omega)) hrm2
    rw [hl1, Hn.out] at d1
    have D1 := Lib.hid d1
    have hwq := wrap_mul (dg o1 0) inv
    have Hl1 := Lib.hid hl1
    have Hv1 := Lib.hid hv1
    clear d1 hrm2 hb1 hl1 hv1
    obtain ⟨q, hq⟩ : ∃ q, dg o1 0 * inv % 18446744073709551616 = q := ⟨_, rfl⟩
    rw [hq] at D1 hwq
    have Hq := Lib.hid hq
    have k5 : (0 : Int) < (n : Int) + 2 := by omega
    have k6 : (n : Int) + 1 < (n : Int) + 2 := by omega
    clear hq
    go_wp2_with fail
    go_still_tail 13, (by kernel_rfl)
    change wpList _ _ _ _ _ w1.drew
    go_wp2_with fail
    refine D1.out.mono ?_
    rintro e w2 ⟨rfl, o2, hl2, hL2, hv2, hb2, hJ2⟩
    have hJ2' : Just w.heap.size w1 w2 := ⟨hJ2.os, hJ2.tape, hJ2.output, hJ2.size, hJ2.block⟩
    have hB2 : Below w.heap.size w w2 := hB1.trans (hJ2'.below (Nat.le_refl _) (by omega))
    have hcp := copy_limbs (dT := 22) (sT := 22) Tryz.underlying22 w2 w.heap.size (n + 2) (n + 2) (n + 1) (n + 1) _ (some ⟨w.heap.size, 1, none⟩) o2 (o2.drop 1) 3 hb2 (tail_rn hb2 hL2 hl2) (by rw [List.length_drop]; omega) (by rw [List.length_drop]; omega) (by omega) (by omega)
    have hb3 := hb2.put (o2.drop 1 ++ o2.drop (n + 1))
    have hB3 := setRow_below hB2 (Nat.le_refl _) (nts (o2.drop 1 ++ o2.drop (n + 1))).toArray
    have q3 := hb3.cell (i := n + 1) (by rw [List.length_append, List.length_drop, List.length_drop]; omega)
    have q4 := hb3.free (n + 1)
    have hb4 := hb3.set (n + 1) 0
    rw [shift_list hl2] at hb4
    have hB4 := hB3.setCell (p := ⟨w.heap.size, n + 1, none⟩) (Nat.le_refl _) (.int .u64 ((0 : Nat) : Int))
    have hL4 : Lim (o2.drop 1 ++ [0]) := ⟨fun x hx => by
     rcases List.mem_append.1 hx with h | h
     · exact hL2.1 x (List.mem_of_mem_drop h)
     · simp at h; omega, by simp; have := hL2.2; omega⟩
    have hM4 := hMt.out.step (by omega) (by rw [Hdi.out]; exact hail) Hi.out hl2 hL2.1 (q := q) (by rw [← Hq.out, Hdi.out, ← Hv1.out, dg_zero_mod hL1.1 (by omega)]) (by rw [hv2, Hv1.out, Hdi.out])
    have HM4 := Lib.hid hM4
    simp only [Int.cast_ofNat_Int] at hb4 hB4
    clear hb2 hb3 hB2 hB3 hv2 hJ2 hJ2' hM4 hMt
    generalize o2.drop 1 = D at *
    generalize o2.drop (n + 1) = E at *
    go_wp2_with fail
    go_roundw
    case rel => exact ⟨i + 1, D ++ [0], by go_num, by omega, HM4, hL4, hb4, hB4⟩
    case measure => simp [intOf]; omega
  · obtain rfl : i = n := by omega
    have hMe := hMt.out
    have hMlen := hMe.len
    have q3 := hblk.cell (i := i) (by omega)
    have hvt : val 18446744073709551616 (t.take i) + 18446744073709551616 ^ i * dg t i = val 18446744073709551616 t := by
     have e1 := val_take_getD 18446744073709551616 t i
     have e2 := val_take_getD 18446744073709551616 t (i + 1)
     rw [hMe.top, Nat.mul_zero, Nat.add_zero, List.take_of_length_le (by omega)] at e2
     omega
    have htl : (t.take i).length = i := by rw [List.length_take]; omega
    have hb := mbelow_any P (fun b => b = w.heap.size) Am (some ⟨w.heap.size, 0, none⟩) cm (i + 2) g (dg t i) ml (t.take i) wr.drew (by rw [Hn.out]; exact (hB.cell (p := ⟨g, 0, none⟩) hg).trans h0) (by have := hB.size; show g < wr.heap.size; omega) ((hm.below hB hP).drewN 1) (fun b hb => by have := hP b hb; have := hB.size; show b < wr.heap.size; omega)
     (((OB.of_blk_rn hblk hLt (c := i + 2) (by omega) (by unfold maxLen; omega)).take i).drewN 1) (fun b hb => by have := hblk.lt; show b < wr.heap.size; omega) (by rw [htl]; exact Hn.out.symm) (hLt.dgLt i) (by rw [Hn.out, hvt]; have := hMe.bound; have := HbM.out; omega)
    rw [htl, Hn.out, hvt] at hb
    have Hb := Lib.hid hb
    have hlt3 := offM_lt (v := val 18446744073709551616 t) (M := val 18446744073709551616 ml) (by have := hMe.bound; have := HbM.out; omega)
    obtain ⟨kk, hkk⟩ := hMe.cong
    rw [List.take_of_length_le (by have := Hla.out; omega)] at hkk
    have Hmod := Lib.hid (offM_mod hkk)
    have Hlt3 := Lib.hid hlt3
    have k5 : (i : Int) < (i : Int) + 2 := by omega
    have k6 : (i : Int) ≤ (i : Int) + 2 := by omega
    clear hb hMe hvt htl hkk hMt hblk hlt3 hMlen
    go_wp2_with fail
    go_still_tail 8, (by kernel_rfl)
    change wpList _ _ _ _ _ wr.drew
    go_wp2_with fail
    refine Hb.out.mono ?_
    rintro e w3 ⟨A3, c3, o, rfl, hlo, hO3, hvo, hB3⟩
    go_wp2
    go_ret
    exact ⟨A3, c3, o, by rw [Hn.out]; rfl, by rw [Hn.out]; exact hlo, hO3.mono hB.size, by rw [hvo]; exact Hlt3.out, by rw [hvo, Hn.out]; exact Hmod.out, hB.trans (Below.mono (B' := w.heap.size) ⟨hB3.os, hB3.tape, hB3.output, hB3.size, hB3.block⟩ hB.size)⟩
end Go.Proofs.YtlaphnlolgokiaaGreatDoor

namespace Go.Proofs.YtlaphnlolgokiaaGreatDoor
open Go.RowKit

structure ZM (w : World) (P : Nat → Prop) (g M inv : Nat) (Am Ao Ar : Option Addr) (cm co cr : Nat) (ol rl : List Nat) : Prop where
 blk : w.heap[g]? = some (.cells #[.slice Am (digs 18446744073709551616 M).length cm, .int .u64 (inv : Int), .slice Ao ol.length co, .slice Ar rl.length cr] 117 (0, 0))
 m : RN w P Am cm (digs 18446744073709551616 M)
 one : RN w P Ao co ol
 rr : RN w P Ar cr rl
 oneLen : ol.length = (digs 18446744073709551616 M).length
 rrLen : rl.length = (digs 18446744073709551616 M).length
 oneV : val 18446744073709551616 ol = RM M % M
 rrV : val 18446744073709551616 rl = RM M * RM M % M
 invLt : inv < 18446744073709551616
 invV : (inv * M + 1) % 18446744073709551616 = 0
 big : 1 < M
 small : (digs 18446744073709551616 M).length ≤ 100000
theorem ZM.below {w w' : World} {P : Nat → Prop} {g M inv : Nat} {Am Ao Ar : Option Addr} {cm co cr B : Nat} {ol rl : List Nat} (h : ZM w P g M inv Am Ao Ar cm co cr ol rl) (hb : Below B w w') (hP : ∀ b, P b → b < B) (hg : g < B) : ZM w' P g M inv Am Ao Ar cm co cr ol rl :=
 ⟨(hb.block g hg).trans h.blk, h.m.below hb hP, h.one.below hb hP, h.rr.below hb hP, h.oneLen, h.rrLen, h.oneV, h.rrV, h.invLt, h.invV, h.big, h.small⟩

set_option maxRecDepth 100000 in
set_option maxHeartbeats 1000000 in
theorem fill_any (Pa : Nat → Prop) (Am Aa : Option Addr) (cm ca g n : Nat) (a : List Nat) (w : World) (h0 : w.cell? ⟨g, 0, none⟩ = some (.slice Am n cm)) (ha : RN w Pa Aa ca a) (hPa : ∀ b, Pa b → b < w.heap.size) (hl : a.length ≤ n) (hn : n ≤ 100000) :
 Calls Tryz.prog 87 #[.pointer (some ⟨g, 0, none⟩), .slice Aa a.length ca] w fun e w' => ∃ A' c' o, e = .returned (.slice A' n c') ∧ o.length = n ∧ OB w' w.heap.size A' c' o ∧ val 18446744073709551616 o = val 18446744073709551616 a ∧ Below w.heap.size w w' := by
 have hmk := run_make_row' (P := Tryz.prog) 22 34 (.int .u64 0) 8 Tryz.underlying22 info64 rfl .i64 .i64 n (by omega) (by omega)
 have hb0 := Blk.made w n
 have hB0 : Below w.heap.size w (w.alloc (.cells (madeCells #[.int .u64 0] n) 34)) := (Below.refl _ w).alloc (Nat.le_refl _) _
 have hL0 : Lim (List.replicate n 0) := ⟨by simp, by simp; omega⟩
 rcases Nat.eq_zero_or_pos a.length with hz | hpos
 · have hcp := run_copy_none (P := Tryz.prog) (w.alloc (.cells (madeCells #[.int .u64 0] n) 34)) 22 23 3 34 (some ⟨w.heap.size, 0, none⟩) Aa n n a.length ca Tryz.underlying22 info64size (by rw [hz]; exact Nat.min_eq_left (Nat.zero_le _))
   have hav : val 18446744073709551616 a = 0 := by rw [List.eq_nil_of_length_eq_zero hz]; rfl
   have Hav := Lib.hid hav
   have hO : OB (w.alloc (.cells (madeCells #[.int .u64 0] n) 34)) w.heap.size (some ⟨w.heap.size, 0, none⟩) n (List.replicate n 0) := OB.of_blk hb0 (Nat.le_refl _) hL0 (by simp) (by unfold maxLen; omega)
   clear hz hav hb0
   go_enter Tryz.func87, Tryz.ntmps87
   go_wp2
   go_ret
   exact ⟨_, _, List.replicate n 0, rfl, by simp, hO, by rw [Hav.out, val_replicate], hB0⟩
 · have ha' : RN (w.alloc (.cells (madeCells #[.int .u64 0] n) 34)) Pa Aa ca a := ha.below hB0 hPa
   have hcp := copy_limbs (dT := 22) (sT := 23) Tryz.underlying22 _ w.heap.size n n a.length ca Pa Aa (List.replicate n 0) a 3 hb0 ha' hpos rfl hl (by simp)
   have hb1 := hb0.put (a ++ (List.replicate n 0).drop a.length)
   have hB1 := setRow_below hB0 (Nat.le_refl _) (nts (a ++ (List.replicate n 0).drop a.length)).toArray
   have hlen : (a ++ (List.replicate n 0).drop a.length).length = n := by simp; omega
   have hv : val 18446744073709551616 (a ++ (List.replicate n 0).drop a.length) = val 18446744073709551616 a := by rw [List.drop_replicate, val_pad]
   have hL1 : Lim (a ++ (List.replicate n 0).drop a.length) := ⟨fun x hx => by
    rcases List.mem_append.1 hx with h | h
    · exact ha.2.1 x h
    · have := List.mem_of_mem_drop h; simp at this; omega, by rw [hlen]; omega⟩
   generalize a ++ (List.replicate n 0).drop a.length = o at *
   have hO : OB _ w.heap.size (some ⟨w.heap.size, 0, none⟩) n o := OB.of_blk hb1 (Nat.le_refl _) hL1 (by omega) (by unfold maxLen; omega)
   have Hlen := Lib.hid hlen
   have Hv := Lib.hid hv
   clear hb0 hb1 hlen hv ha' hB0 hL0 hL1 hl
   go_enter Tryz.func87, Tryz.ntmps87
   go_wp2
   go_ret
   exact ⟨_, _, o, rfl, Hlen.out, hO, Hv.out, hB1⟩
end Go.Proofs.YtlaphnlolgokiaaGreatDoor

namespace Go.Proofs.YtlaphnlolgokiaaGreatDoor
open Go.RowKit

theorem to_form {M inv x o : Nat} (hi : (inv * M + 1) % 18446744073709551616 = 0) (ho : o < M) (h : o * 18446744073709551616 ^ nl M % M = x * (RM M * RM M % M) % M) : o = x * RM M % M := by
 have h1 : o * 18446744073709551616 ^ nl M % M = (x * RM M) * 18446744073709551616 ^ nl M % M := by
  rw [h, Nat.mul_mod, Nat.mod_mod, ← Nat.mul_mod, ← Nat.mul_assoc]; rfl
 have h2 := cancelR hi h1
 rwa [Nat.mod_eq_of_lt ho] at h2
theorem from_form {M inv x o v : Nat} (hi : (inv * M + 1) % 18446744073709551616 = 0) (ho : o < M) (h : o * 18446744073709551616 ^ nl M % M = v * 1 % M) (hv : v = x * RM M % M) : o = x % M := by
 have h1 : o * 18446744073709551616 ^ nl M % M = x * 18446744073709551616 ^ nl M % M := by
  rw [h, Nat.mul_one, hv, Nat.mod_mod]; rfl
 have h2 := cancelR hi h1
 rwa [Nat.mod_eq_of_lt ho] at h2
theorem mul_form {M inv x y o u v : Nat} (hi : (inv * M + 1) % 18446744073709551616 = 0) (ho : o < M) (h : o * 18446744073709551616 ^ nl M % M = u * v % M) (hu : u = x * RM M % M) (hv : v = y * RM M % M) : o = x * y * RM M % M := by
 have h1 : o * 18446744073709551616 ^ nl M % M = (x * y * RM M) * 18446744073709551616 ^ nl M % M := by
  rw [h, hu, hv, ← Nat.mul_mod]
  show x * RM M * (y * RM M) % M = x * y * RM M * RM M % M
  congr 1
  simp only [Nat.mul_assoc, Nat.mul_comm, Nat.mul_left_comm]
 have h2 := cancelR hi h1
 rwa [Nat.mod_eq_of_lt ho] at h2

section
variable {w : World} {P : Nat → Prop} {g M inv : Nat} {Am Ao Ar : Option Addr} {cm co cr : Nat} {ol rl : List Nat}
set_option maxRecDepth 100000 in
set_option maxHeartbeats 2000000 in
theorem mto_any (hZ : ZM w P g M inv Am Ao Ar cm co cr ol rl) (hP : ∀ b, P b → b < w.heap.size) (Pa : Nat → Prop) (Aa : Option Addr) (ca : Nat) (a : List Nat) (ha : RN w Pa Aa ca a) (hPa : ∀ b, Pa b → b < w.heap.size) (hl : a.length ≤ (digs 18446744073709551616 M).length) :
 Calls Tryz.prog 67 #[.pointer (some ⟨g, 0, none⟩), .slice Aa a.length ca] w fun e w' => ∃ A' c' o, e = .returned (.slice A' (digs 18446744073709551616 M).length c') ∧ o.length = (digs 18446744073709551616 M).length ∧ OB w' w.heap.size A' c' o ∧ val 18446744073709551616 o = val 18446744073709551616 a * RM M % M ∧ Below w.heap.size w w' := by
 have hg := blk_lt hZ.blk
 have c0 := blk_cell hZ.blk 0
 have c3 := blk_cell hZ.blk 3
 simp at c0 c3
 have hvd := val_digs (B := 18446744073709551616) (by omega) M
 have hf := fill_any Pa Am Aa cm ca g _ a w.drew c0 (ha.drewN 1) hPa hl hZ.small
 have Hf := Lib.hid hf
 have hmul := Lib.hid (fun w1 A1 c1 (o1 : List Nat) (hO : OB w1 w.heap.size A1 c1 o1) (hl1 : o1.length = (digs 18446744073709551616 M).length) (hB : Below w.heap.size w w1) =>
  mmul_any P (In w.heap.size w1.heap.size) P Am A1 Ar cm c1 cr g inv (digs 18446744073709551616 M) o1 rl w1 ((hB.cell (p := ⟨g, 0, none⟩) hg).trans c0) ((hB.cell (p := ⟨g, 1, none⟩) hg).trans (by have := blk_cell hZ.blk 1; simpa using this)) (by have := hB.size; omega)
   (hZ.m.below hB hP) (fun b hb => by have := hP b hb; have := hB.size; omega) hO.rn (fun b hb => hb.2) (hZ.rr.below hB hP) (fun b hb => by have := hP b hb; have := hB.size; omega) hl1 hZ.rrLen (by rw [hvd]; have := hZ.big; omega) (by rw [hvd, hZ.rrV]; exact Nat.mod_lt _ (by have := hZ.big; omega)) hZ.invLt (by rw [hvd]; exact hZ.invV) hZ.small)
 have HZ := Lib.hid hZ
 have Hvd := Lib.hid hvd
 obtain ⟨n, hn⟩ : ∃ n, (digs 18446744073709551616 M).length = n := ⟨_, rfl⟩
 have hrl := hZ.rrLen
 rw [hn] at c0 hrl Hf
 rw [hrl] at c3
 clear hf hvd hZ hl
 go_enter Tryz.func67, Tryz.ntmps67
 go_wp2_with fail
 go_region_held3 (fun w' => w'.cell? ⟨g, 3, none⟩ = some (.slice Ar n cr))
  (first | exact c3 | exact c31 | exact c32 | go_keep)
  (first
   | (go_at_call 87; refine Hf.out.mono ?_; rintro e w1 ⟨A1, c1, o1, rfl, hl1, hO1, hv1, hB1'⟩; have hB1 : Below w.heap.size w w1 := ⟨hB1'.os, hB1'.tape, hB1'.output, hB1'.size, hB1'.block⟩; have c31 := (hB1.cell (p := ⟨g, 3, none⟩) hg).trans c3)
   | (go_at_call 70; have H := hmul.out w1 A1 c1 o1 hO1 (by rw [hn]; exact hl1) hB1; rw [hl1, hrl, hn] at H; refine H.mono ?_; clear H; rintro e w2 ⟨A2, c2, o2, rfl, hl2, hO2, hlt2, hv2, hB2⟩; have c32 := (hB2.cell (p := ⟨g, 3, none⟩) (by have := hB1.size; show g < w1.heap.size; omega)).trans c31))
 have hB12 := hB1.trans (hB2.mono hB1.size)
 rw [Hvd.out] at hlt2
 have hZ := HZ.out
 have hfin : val 18446744073709551616 o2 = val 18446744073709551616 a * RM M % M := by
  rw [Hvd.out] at hv2
  exact to_form hZ.invV hlt2 (by rw [nl, hn, hv2, hv1, hZ.rrV])
 have hO2' := hO2.mono hB1.size
 go_wp2
 go_ret
 exact ⟨A2, c2, o2, by rw [hn]; rfl, by rw [hn]; exact hl2, hO2', hfin, hB12⟩

set_option maxRecDepth 100000 in
set_option maxHeartbeats 2000000 in
theorem mfrom_any (hZ : ZM w P g M inv Am Ao Ar cm co cr ol rl) (hP : ∀ b, P b → b < w.heap.size) (Pa : Nat → Prop) (Aa : Option Addr) (ca : Nat) (a : List Nat) (x : Nat) (ha : RN w Pa Aa ca a) (hPa : ∀ b, Pa b → b < w.heap.size) (hl : a.length = (digs 18446744073709551616 M).length) (hx : val 18446744073709551616 a = x * RM M % M) :
 Calls Tryz.prog 69 #[.pointer (some ⟨g, 0, none⟩), .slice Aa a.length ca] w fun e w' => ∃ A' c', e = .returned (.slice A' (digs 18446744073709551616 (x % M)).length c') ∧ OB w' w.heap.size A' c' (digs 18446744073709551616 (x % M)) ∧ Below w.heap.size w w' := by
 have hg := blk_lt hZ.blk
 have c0 := blk_cell hZ.blk 0
 simp at c0
 have hvd := val_digs (B := 18446744073709551616) (by omega) M
 obtain ⟨n, hn⟩ : ∃ n, (digs 18446744073709551616 M).length = n := ⟨_, rfl⟩
 have hsm := hZ.small
 have hn0 : 0 < n := by
  rcases Nat.eq_zero_or_pos n with h | h
  · have h1 := (digs_nil (B := 18446744073709551616) (by omega)).1 (List.eq_nil_of_length_eq_zero (hn.trans h))
    have := hZ.big
    omega
  · exact h
 rw [hn] at c0 hsm
 have hmk := run_make_row' (P := Tryz.prog) 22 34 (.int .u64 0) 8 Tryz.underlying22 info64 rfl .i64 .i64 n (by omega) (by omega)
 have hb0 := Blk.made w n
 have hB0 : Below w.heap.size w (w.alloc (.cells (madeCells #[.int .u64 0] n) 34)) := (Below.refl _ w).alloc (Nat.le_refl _) _
 have q3 := hb0.cell (i := 0) (by simpa using hn0)
 have q4 := hb0.free 0
 have hb1 := hb0.set 0 1
 have hB1 := hB0.setCell (p := ⟨w.heap.size, 0, none⟩) (Nat.le_refl _) (.int .u64 ((1 : Nat) : Int))
 simp only [Int.natCast_one] at hb1 hB1
 rw [World.setCell_alloc_at _ _ _ _ _ rfl] at hb1 hB1
 have hlen : ((List.replicate n 0).set 0 1).length = n := by simp
 have hv1 : val 18446744073709551616 ((List.replicate n 0).set 0 1) = 1 := by
  obtain ⟨k, rfl⟩ : ∃ k, n = k + 1 := ⟨n - 1, by omega⟩
  rw [List.replicate_succ, List.set_cons_zero, val_cons, val_replicate]
 have hL1 : Lim ((List.replicate n 0).set 0 1) := Lim.set ⟨by simp, by simp; omega⟩ 0 1 (by omega)
 generalize (List.replicate n 0).set 0 1 = one at *
 have hO1 : OB _ w.heap.size (some ⟨w.heap.size, 0, none⟩) n one := OB.of_blk hb1 (Nat.le_refl _) hL1 (by omega) (by unfold maxLen; omega)
 have hmul := mmul_any P Pa _ Am Aa (some ⟨w.heap.size, 0, none⟩) cm ca n g inv (digs 18446744073709551616 M) a one _ (by rw [hn]; exact (hB1.cell (p := ⟨g, 0, none⟩) hg).trans c0) ((hB1.cell (p := ⟨g, 1, none⟩) hg).trans (by have := blk_cell hZ.blk 1; simpa using this)) (by have := hB1.size; omega)
  (hZ.m.below hB1 hP) (fun b hb => by have := hP b hb; have := hB1.size; omega) (ha.below hB1 hPa) (fun b hb => by have := hPa b hb; have := hB1.size; omega) hO1.rn (fun b hb => hb.2) hl (by rw [hlen, hn]) (by rw [hvd]; have := hZ.big; omega) (by rw [hv1, hvd]; exact hZ.big) hZ.invLt (by rw [hvd]; exact hZ.invV) hZ.small
 rw [hlen, hn, hvd, hv1, hx] at hmul
 have Hmul := Lib.hid hmul
 have HZ := Lib.hid hZ
 have Hn := Lib.hid hn
 have kn : (0 : Int) < (n : Int) := by omega
 clear hmul hZ hvd hn hb1 hb0 hO1 hlen hv1 hl hx ha
 go_enter Tryz.func69, Tryz.ntmps69
 go_wp2_with fail
 refine Hmul.out.mono ?_
 rintro e w2 ⟨A2, c2, o2, rfl, hl2, hO2, hlt2, hv2, hB2⟩
 have hfin := from_form (x := x) HZ.out.invV hlt2 (by rw [nl, Hn.out]; rw [hv2]) rfl
 have hnorm := norm_any _ A2 c2 o2 w2 hO2.rn
 rw [hl2, hfin] at hnorm
 have Hnorm := Lib.hid hnorm
 have hw2 := hB1.trans (hB2.mono hB1.size)
 clear hnorm hv2 hB2
 go_wp2_with fail
 refine Hnorm.out.mono ?_
 rintro e w3 ⟨A3, c3, rfl, hO3, hB3⟩
 go_wp2
 go_ret
 exact ⟨A3, c3, rfl, hO3.mono hw2.size, hw2.trans (hB3.mono hw2.size)⟩

set_option maxRecDepth 100000 in
set_option maxHeartbeats 1000000 in
theorem mone_any (hZ : ZM w P g M inv Am Ao Ar cm co cr ol rl) :
 Calls Tryz.prog 88 #[.pointer (some ⟨g, 0, none⟩)] w fun e w' => ∃ A' c', e = .returned (.slice A' ol.length c') ∧ OB w' w.heap.size A' c' ol ∧ Below w.heap.size w w' := by
 obtain ⟨i0, hi, hz0, hz1, hz2⟩ := info_parts info64
 have c2 := blk_cell hZ.blk 2
 simp at c2
 have h1 := hZ.one
 obtain ⟨h2, h3, h4⟩ := h1.cap
 go_enter Tryz.func88, Tryz.ntmps88
 go_wp2_with (at_builtin; refine wpList_append_rs _ rfl _ _ 22 rfl w.heap.size 34 i0 (.int .u64 0) 1 8 Tryz.underlying22 hi hz0 hz1 hz2 rfl (by decide) _ 0 [] rfl (World.ownsRow_nil _ _ _ _) P Ao ol.length co (nts ol) rfl h1.1 (oneCell_nts ol) ol.length (by omega) (by unfold maxLen; omega) (by omega) (Nat.le_refl _) ?_)
 intro A' c' w1 hown hgrow hblk
 go_wp2
 go_ret
 exact ⟨A', c', rfl, OB.of_own (by simpa using hown) h1.2, (Below.refl _ w).grown hgrow (Nat.le_refl _) (by intro k hk; simp [Value.ownBlock] at hk)⟩
end
end Go.Proofs.YtlaphnlolgokiaaGreatDoor

namespace Go.Proofs.YtlaphnlolgokiaaGreatDoor
open Go.RowKit

set_option maxRecDepth 100000 in
set_option maxHeartbeats 4000000 in
theorem mnew_any (P : Nat → Prop) (A : Option Addr) (c : Nat) (a : List Nat) (M : Nat) (w : World) (h : RN w P A c a) (_hP : ∀ b, P b → b < w.heap.size) (hM : val 18446744073709551616 a = M) (h1 : 1 < M) (hodd : M % 2 = 1) (hl : a.length < 40000) :
 Calls Tryz.prog 65 #[.slice A a.length c] w fun e w' => ∃ g inv Am Ao Ar cm co cr ol rl, e = .returned (.pointer (some ⟨g, 0, none⟩)) ∧ w.heap.size ≤ g ∧ ZM w' (In w.heap.size w'.heap.size) g M inv Am Ao Ar cm co cr ol rl ∧ Below w.heap.size w w' := by
 obtain ⟨i0, hi, hz0, hz1, hz2⟩ := info_parts info64
 have hn1 := norm_any P A c a w h
 have hln := digs_length_le (B := 18446744073709551616) (by omega) h.2.1
 rw [hM] at hn1 hln
 have hvd := val_digs (B := 18446744073709551616) (by omega) M
 have hlim := digs_lt (B := 18446744073709551616) (by omega) M
 have hm0 := dg_zero_mod hlim (by omega)
 rw [hvd] at hm0
 obtain ⟨ml, hml⟩ : ∃ ml, digs 18446744073709551616 M = ml := ⟨_, rfl⟩
 rw [hml] at hn1 hln hvd hm0 hlim
 obtain ⟨m0, hm0'⟩ : ∃ m0, dg ml 0 = m0 := ⟨_, rfl⟩
 rw [hm0'] at hm0
 have hm2 : (m0 : Int) % 2 = 1 := by omega
 obtain ⟨n, hn⟩ : ∃ n, ml.length = n := ⟨_, rfl⟩
 have hn0 : 0 < n := by
  rcases Nat.eq_zero_or_pos n with h0 | h0
  · have : ml = [] := List.eq_nil_of_length_eq_zero (hn.trans h0)
    rw [this] at hvd
    simp at hvd
    omega
  · exact h0
 have hns : n < 40000 := by omega
 have kn : (0 : Int) < (n : Int) := by omega
 rw [hn] at hn1
 have Hn1 := Lib.hid hn1
 have Hml := Lib.hid hml
 have Hn := Lib.hid hn
 have Hvd := Lib.hid hvd
 have Hm0 := Lib.hid hm0
 have Hm2 := Lib.hid hm2
 clear hn1 hln hml hn hvd hm0 hm2 hl hodd hM hlim
 go_enter Tryz.func65, Tryz.ntmps65
 go_wp2_with fail
 refine Hn1.out.mono ?_
 rintro e w1 ⟨A1, c1, rfl, hO1, hB1⟩
 have r1 := hO1.rn
 obtain ⟨ad, rfl, hb1, q1⟩ := r1.at_ (i := 0) (by rw [Hn.out]; exact hn0)
 rw [hm0'] at q1
 have q1b : w1.cell? ad = some (.int .u64 (m0 : Int)) := by simpa [Addr.add] using q1
 go_wp2_with fail
 go_loopw [3, 14] (fun iv jv wr => ∃ (y : Int) (r : Nat), jv = .int .i64 (r : Int) ∧ iv = .int .u64 y ∧ r ≤ 6 ∧ NewtAt (m0 : Int) r y ∧ w1 = wr) (fun _ jv _ => 6 - (intOf jv).toNat)
 case atStart => exact ⟨1, 0, rfl, rfl, by omega, NewtAt.zero Hm2.out, rfl⟩
 case round =>
  obtain ⟨y, r, rfl, rfl, hr, hN, rfl⟩ := hrel
  by_cases hlt : r < 6
  · have hN' := hN.step hlt
    have hw1 : IntKind.u64.wrap ((m0 : Int) * y) = (m0 : Int) * y % 18446744073709551616 := IntKind.wrap_u64 _
    have hw2 : IntKind.u64.wrap (2 - (m0 : Int) * y % 18446744073709551616) = (2 - (m0 : Int) * y % 18446744073709551616) % 18446744073709551616 := IntKind.wrap_u64 _
    have hw3 : IntKind.u64.wrap (y * ((2 - (m0 : Int) * y % 18446744073709551616) % 18446744073709551616)) = y * ((2 - (m0 : Int) * y % 18446744073709551616) % 18446744073709551616) % 18446744073709551616 := IntKind.wrap_u64 _
    generalize (m0 : Int) * y % 18446744073709551616 = x1 at *
    generalize (2 - x1) % 18446744073709551616 = x2 at *
    generalize y * x2 % 18446744073709551616 = x3 at *
    have HN := Lib.hid hN'
    clear hN hN'
    go_wp2
    go_roundw
    case rel => exact ⟨x3, r + 1, by go_num, by first | rfl | simp [hw1, hw2, hw3], by omega, HN.out, by first | rfl | trivial⟩
    case measure => simp [intOf]; omega
  · obtain rfl : r = 6 := by omega
    obtain ⟨t, ht⟩ := hN.fin
    have hinv := neg_inv Hm0.out ht
    have h0 : 0 ≤ (-y) % 18446744073709551616 := Int.emod_nonneg _ (by decide)
    have hlt2 : (-y) % 18446744073709551616 < 18446744073709551616 := Int.emod_lt_of_pos _ (by decide)
    obtain ⟨inv, hv⟩ : ∃ inv : Nat, (-y) % 18446744073709551616 = (inv : Int) := ⟨_, (Int.toNat_of_nonneg h0).symm⟩
    have hneg : IntKind.u64.wrap (-y) = (inv : Int) := by rw [IntKind.wrap_u64]; exact hv
    rw [hv, Int.toNat_natCast] at hinv
    rw [hv] at hlt2
    have Hinv := Lib.hid hinv
    have Hlt2 := Lib.hid hlt2
    have hmk := run_make_row' (P := Tryz.prog) 23 34 (.int .u64 0) 8 Tryz.underlying23 info64 rfl .i64 .i64 n (by omega) (by omega)
    clear ht hinv h0 hv hN hlt hlt2
    have hbz := Blk.made (w1.alloc (.cells #[.slice (some ad) n c1, .int .u64 (inv : Int), .slice none 0 0, .slice none 0 0] 117)) n
    have hown : ((w1.alloc (.cells #[.slice (some ad) n c1, .int .u64 (inv : Int), .slice none 0 0, .slice none 0 0] 117)).alloc (.cells (madeCells #[.int .u64 0] n) 34)).ownsRow (w1.heap.size + 1) 34 1 (.slice (some ⟨w1.heap.size + 1, 0, none⟩) n n) n (nts (List.replicate n 0)) :=
     own_of_blk (o := List.replicate n 0) (by rw [World.size_alloc] at hbz; exact hbz) (Nat.le_refl _) (by simp) (by unfold maxLen; omega) (Nat.le_refl _) (by simp) (by simp)
    have hfr : RS (((w1.alloc (.cells #[.slice (some ad) n c1, .int .u64 (inv : Int), .slice none 0 0, .slice none 0 0] 117)).alloc (.cells (madeCells #[.int .u64 0] n) 34)).alloc (.cells #[.int .u64 1] 34)) (fun _ => True) 1 (some ⟨w1.heap.size + 1 + 1, 0, none⟩) 1 1 (nts [1]) := by
     have := RS.fresh (w := ((w1.alloc (.cells #[.slice (some ad) n c1, .int .u64 (inv : Int), .slice none 0 0, .slice none 0 0] 117)).alloc (.cells (madeCells #[.int .u64 0] n) 34))) (P := fun _ => True) #[.int .u64 1] 34 1 1 rfl (by unfold maxLen; omega) trivial
     rw [World.size_alloc, World.size_alloc] at this
     exact this
    have hown' := hown.alloc (.cells #[.int .u64 1] 34)
    have hG := heap_alloc_new w1 (.cells #[.slice (some ad) n c1, .int .u64 (inv : Int), .slice none 0 0, .slice none 0 0] 117)
    have hBG : Below w1.heap.size w1 (((w1.alloc (.cells #[.slice (some ad) n c1, .int .u64 (inv : Int), .slice none 0 0, .slice none 0 0] 117)).alloc (.cells (madeCells #[.int .u64 0] n) 34)).alloc (.cells #[.int .u64 1] 34)) := (((Below.refl _ w1).alloc (Nat.le_refl _) _).alloc (by simp) _).alloc (by simp; omega) _
    replace hG := (Below.heap_alloc ((w1.alloc (.cells #[.slice (some ad) n c1, .int .u64 (inv : Int), .slice none 0 0, .slice none 0 0] 117)).alloc (.cells (madeCells #[.int .u64 0] n) 34)) (.cells #[.int .u64 1] 34) w1.heap.size (by simp; omega)).trans ((Below.heap_alloc (w1.alloc (.cells #[.slice (some ad) n c1, .int .u64 (inv : Int), .slice none 0 0, .slice none 0 0] 117)) (.cells (madeCells #[.int .u64 0] n) 34) w1.heap.size (by simp)).trans hG)
    have hzG : (((w1.alloc (.cells #[.slice (some ad) n c1, .int .u64 (inv : Int), .slice none 0 0, .slice none 0 0] 117)).alloc (.cells (madeCells #[.int .u64 0] n) 34)).alloc (.cells #[.int .u64 1] 34)).heap.size = w1.heap.size + 3 := by simp
    clear hbz hown
    go_upto_region 8 with fail
    go_wp2_with (at_builtin; generalize ((w1.alloc (.cells #[.slice (some ad) n c1, .int .u64 (inv : Int), .slice none 0 0, .slice none 0 0] 117)).alloc (.cells (madeCells #[.int .u64 0] n) 34)).alloc (.cells #[.int .u64 1] 34) = W at *; refine wpList_append_rs _ rfl _ _ 23 rfl (w1.heap.size + 1) 34 i0 (.int .u64 0) 1 8 Tryz.underlying23 hi hz0 hz1 hz2 rfl (by decide) (.slice (some ⟨w1.heap.size + 1, 0, none⟩) n n) n _ rfl hown' (fun _ => True) _ 1 1 (nts [1]) rfl hfr (oneCell_nts [1]) (n + 1) rfl (by unfold maxLen; omega) (by omega) (by omega) ?_; intro A2 c2 w2 hown2 hg2 hor2)
    have hzw2 := hg2.size
    have hBw2 : Below w1.heap.size w1 w2 := hBG.grown hg2 (by omega) (fun k hk => by simp [Value.ownBlock] at hk; omega)
    have hs2 := hBw2.size
    have hG2 := (hg2.block w1.heap.size (by omega) (by simp [Value.ownBlock])).trans hG
    have hLr : Lim (List.replicate n 0 ++ [1]) := ⟨fun x hx => by
     rcases List.mem_append.1 hx with h | h
     · simp at h; omega
     · simp at h; omega, by simp; omega⟩
    have hlr : (List.replicate n 0 ++ [1]).length = n + 1 := by simp
    have hOr : OB w2 (w1.heap.size + 1) A2 c2 (List.replicate n 0 ++ [1]) := OB.of_own (by rw [hlr]; simpa [nts] using hown2) hLr
    have hvr := val_pow n
    generalize List.replicate n 0 ++ [1] = rlst at *
    have hw1 := hB1.size
    have r2 := r1.below hBw2 fun b hb => hb.2
    have hq1 := quo_any _ _ A2 (some ad) c2 c1 rlst ml w2 hOr.rn r2 (fun b hb => hb.2) (fun b hb => by have := hb.2; omega) (by omega) (by have := Hn.out; omega) (by rw [Hvd.out]; omega)
    rw [hvr, Hvd.out, hlr, Hn.out] at hq1
    obtain ⟨v1, hv1⟩ : ∃ v1, 18446744073709551616 ^ n % M = v1 := ⟨_, rfl⟩
    rw [hv1] at hq1
    have hv1M : v1 < M := by rw [← hv1]; exact Nat.mod_lt _ (by omega)
    have hl1 : (digs 18446744073709551616 v1).length ≤ n := by
     have := digs_length_mono (B := 18446744073709551616) (by omega) (Nat.le_of_lt hv1M)
     rw [Hml.out, Hn.out] at this
     exact this
    have Hq1 := Lib.hid hq1
    have Hv1 := Lib.hid hv1
    have hBw := hB1.trans (hBw2.mono hw1)
    clear hq1 hown2 hg2 hor2 hfr hown' hG hBG hzG hOr hvr hlr hLr hmk hv1
    refine Hq1.out.mono ?_
    rintro e w3 ⟨A3, c3, A4, c4, rfl, _, hO4, hB3⟩
    have hG3 := (hB3.block w1.heap.size (blk_lt hG2)).trans hG2
    have hs3 := hB3.size
    have hm1 := mul_any _ _ A4 A4 c4 c4 _ _ w3 hO4.rn hO4.rn (fun b hb => hb.2) (fun b hb => hb.2) (by omega) (by omega)
    rw [val_digs (by omega)] at hm1
    have Hm1 := Lib.hid hm1
    clear hm1
    go_wp2_with fail
    refine Hm1.out.mono ?_
    rintro e w4 ⟨A5, c5, rfl, hO5, hB4⟩
    have hs4 := hB4.size
    have hB24 := hB3.trans (hB4.mono hs3)
    have r4 := r2.below hB24 fun b hb => by have := hb.2; omega
    have hl2 : (digs 18446744073709551616 (v1 * v1)).length < 90000 := by
     have h1 : v1 * v1 < 18446744073709551616 ^ (n + n) := by
      have e1 := lt_pow_digs (B := 18446744073709551616) (by omega) M
      rw [Hml.out, Hn.out] at e1
      have e2 : v1 * v1 ≤ v1 * M := Nat.mul_le_mul_left _ (by omega)
      have e3 : v1 * M < 18446744073709551616 ^ n * 18446744073709551616 ^ n := Nat.mul_lt_mul'' (by omega) e1
      rw [Nat.pow_add]
      omega
     have := digs_length_of_lt (B := 18446744073709551616) (by omega) h1
     omega
    have hq2 := quo_any _ _ A5 (some ad) c5 c1 _ ml w4 hO5.rn r4 (fun b hb => hb.2) (fun b hb => by have := hb.2; omega) hl2 (by have := Hn.out; omega) (by rw [Hvd.out]; omega)
    rw [val_digs (by omega), Hvd.out, Hn.out] at hq2
    obtain ⟨v2, hv2⟩ : ∃ v2, v1 * v1 % M = v2 := ⟨_, rfl⟩
    rw [hv2] at hq2
    have hv2M : v2 < M := by rw [← hv2]; exact Nat.mod_lt _ (by omega)
    have hl3 : (digs 18446744073709551616 v2).length ≤ n := by
     have := digs_length_mono (B := 18446744073709551616) (by omega) (Nat.le_of_lt hv2M)
     rw [Hml.out, Hn.out] at this
     exact this
    have Hq2 := Lib.hid hq2
    have Hv2 := Lib.hid hv2
    clear hq2 hv2 hl2
    go_wp2_with fail
    refine Hq2.out.mono ?_
    rintro e w5 ⟨A6, c6, A7, c7, rfl, _, hO7, hB5⟩
    have hs5 := hB5.size
    have hB35 := hB4.trans (hB5.mono hs4)
    have hG5 := (hB35.block w1.heap.size (blk_lt hG3)).trans hG3
    have g50 := blk_cell hG5 0
    simp at g50
    have hf1 := fill_any _ (some ad) A4 c1 c4 w1.heap.size n _ w5 g50 (hO4.rn.below hB35 fun b hb => hb.2) (fun b hb => by have := hb.2; omega) hl1 (by omega)
    rw [val_digs (by omega)] at hf1
    have Hf1 := Lib.hid hf1
    clear hf1
    go_wp2_with fail
    refine Hf1.out.mono ?_
    rintro e w6 ⟨A8, c8, o1, rfl, hlo1, hO8, hvo1, hB6⟩
    have hs6 := hB6.size
    have hG6 := (hB6.block w1.heap.size (blk_lt hG5)).trans hG5
    have g60 := blk_cell hG6 0
    simp at g60
    have hf2 := fill_any _ (some ad) A7 c1 c7 w1.heap.size n _ w6 g60 (hO7.rn.below hB6 fun b hb => hb.2) (fun b hb => by have := hb.2; omega) hl3 (by omega)
    rw [val_digs (by omega)] at hf2
    have Hf2 := Lib.hid hf2
    clear hf2 g50 g60
    go_wp2_with fail
    refine Hf2.out.mono ?_
    rintro e w7 ⟨A9, c9, o2, rfl, hlo2, hO9, hvo2, hB7⟩
    have hs7 := hB7.size
    have hG7 := (hB7.block w1.heap.size (blk_lt hG6)).trans hG6
    have g2 := blk_cell hG7 2
    have g3 := blk_cell hG7 3
    have f2 := blk_free hG7 2
    have f3 := blk_free hG7 3
    simp at g2 g3
    have hset := blk_set (blk_set hG7 2 (.slice A8 n c8)) 3 (.slice A9 n c9)
    have hB17 := (((((hB3.trans (hB4.mono hs3)).trans (hB5.mono (by omega))).trans (hB6.mono (by omega))).trans (hB7.mono (by omega))))
    have hBw7 : Below w.heap.size w w7 := hBw.trans (hB17.mono (by omega))
    have hB8 : Below w1.heap.size w7 ((w7.setCell ⟨w1.heap.size, 2, none⟩ (.slice A8 n c8)).setCell ⟨w1.heap.size, 3, none⟩ (.slice A9 n c9)) := ((Below.refl _ w7).setCell (p := ⟨w1.heap.size, 2, none⟩) (Nat.le_refl _) _).setCell (p := ⟨w1.heap.size, 3, none⟩) (Nat.le_refl _) _
    have hJ8 : Just w1.heap.size w7 ((w7.setCell ⟨w1.heap.size, 2, none⟩ (.slice A8 n c8)).setCell ⟨w1.heap.size, 3, none⟩ (.slice A9 n c9)) := ((Just.refl _ w7).set 2 _).set 3 _
    have zG := blk_lt hG5
    have hz8 : ((w7.setCell ⟨w1.heap.size, 2, none⟩ (.slice A8 n c8)).setCell ⟨w1.heap.size, 3, none⟩ (.slice A9 n c9)).heap.size = w7.heap.size := by simp [World.setCell]
    have rm8 := (r2.below (hB17) fun b hb => by have := hb.2; omega).just hJ8 (fun b hb => by have := hb.2; omega)
    have rO8 := ((hO8.rn.below hB7 fun b hb => hb.2)).just hJ8 (fun b hb => by have := hb.1; have := hb.2; omega)
    have rO9 := (hO9.rn).just hJ8 (fun b hb => by have := hb.1; have := hb.2; omega)
    have hRM : 18446744073709551616 ^ n = RM M := by rw [RM, nl, Hml.out, Hn.out]
    have hZ : ZM ((w7.setCell ⟨w1.heap.size, 2, none⟩ (.slice A8 n c8)).setCell ⟨w1.heap.size, 3, none⟩ (.slice A9 n c9)) (In w.heap.size w7.heap.size) w1.heap.size M inv (some ad) A8 A9 c1 c8 c9 o1 o2 :=
     ⟨by rw [hset, Hml.out, Hn.out, hlo1, hlo2]; simp, by rw [Hml.out]; exact rm8.mono fun b hb => ⟨hb.1, by have := hb.2; omega⟩, rO8.mono fun b hb => ⟨by have := hb.1; omega, by have := hb.2; omega⟩, rO9.mono fun b hb => ⟨by have := hb.1; omega, hb.2⟩,
      by rw [Hml.out, Hn.out]; exact hlo1, by rw [Hml.out, Hn.out]; exact hlo2, by rw [hvo1, ← Hv1.out, hRM], by rw [hvo2, ← Hv2.out, ← Hv1.out, hRM, ← Nat.mul_mod], by have := Hlt2.out; omega, Hinv.out, h1, by rw [Hml.out, Hn.out]; omega⟩
    have HZ := Lib.hid hZ
    have hBf : Below w.heap.size w ((w7.setCell ⟨w1.heap.size, 2, none⟩ (.slice A8 n c8)).setCell ⟨w1.heap.size, 3, none⟩ (.slice A9 n c9)) := hBw7.trans (hB8.mono hw1)
    have Hz8 := Lib.hid hz8
    clear hset hB8 hJ8 rm8 rO8 rO9 hZ hz8 hG7 hG6 hG5 hG3 hG2
    go_wp2
    go_ret
    exact ⟨w1.heap.size, inv, _, _, _, _, _, _, o1, o2, rfl, hw1, by rw [Hz8.out]; exact HZ.out, hBf⟩
end Go.Proofs.YtlaphnlolgokiaaGreatDoor

namespace Go.Proofs.YtlaphnlolgokiaaGreatDoor
open Go.RowKit Go.Shelf

attribute [local go_sem] Oper.semAt_some

def bitAt (x : Nat) (j : Nat) : Nat × Nat := (nbits x - 1 - j, x / 2 ^ (nbits x - 1 - j) % 2)

set_option maxRecDepth 100000 in
set_option maxHeartbeats 1000000 in
theorem each_any (P : Nat → Prop) (A : Option Addr) (c : Nat) (a : List Nat) (w : World) (h : RN w P A c a) (hP : ∀ b, P b → b < w.heap.size) :
 Calls Tryz.prog 84 #[.slice A a.length c] w fun e w' => ∃ A1 c1, e = .returned (.func (.func 92) #[] #[.pointer (some ⟨w.heap.size, 0, none⟩)]) ∧
  w'.heap[w.heap.size]? = some (.cells #[.slice A1 (digs 18446744073709551616 (val 18446744073709551616 a)).length c1] 23 (0, 0)) ∧ OB w' w.heap.size A1 c1 (digs 18446744073709551616 (val 18446744073709551616 a)) ∧ Below w.heap.size w w' := by
 have hm := Lib.hid (fun w h => made_any P A c a w h)
 have hR : RN (w.alloc (.cells #[.slice A a.length c] 23)) P A c a := h.below ((Below.refl _ w).alloc (Nat.le_refl _) _) hP
 generalize digs 18446744073709551616 (val 18446744073709551616 a) = l at *
 go_enter Tryz.func84, Tryz.ntmps84
 go_wp2_with fail
 refine (hm.out _ hR).mono ?_
 rintro e w1 ⟨A1, c1, rfl, hO, hB⟩
 have hb := (hB.block w.heap.size (by simp)).trans (heap_alloc_new w _)
 have f0 := blk_free hb 0
 have c0 := blk_cell hb 0
 simp at c0
 go_wp2
 go_ret
 refine ⟨A1, c1, rfl, ?_, ?_, (((Below.refl _ w).alloc (Nat.le_refl _) _).trans (hB.mono (by simp))).setCell (p := ⟨w.heap.size, 0, none⟩) (Nat.le_refl _) _⟩
 · simp [World.setCell, Array.getElem?_modify, hb]
 · obtain ⟨h1, h2, h3, h4⟩ := hO
   refine ⟨h1, h2, h3, fun hn => ?_⟩
   obtain ⟨g, cur, e, hg, hh, hc⟩ := h4 hn
   simp at hg
   exact ⟨g, cur, e, by omega, (Below.heap_setCell _ _ _ _ (by show g ≠ w.heap.size; omega)).trans hh, hc⟩

end Go.Proofs.YtlaphnlolgokiaaGreatDoor

namespace Go.Proofs.YtlaphnlolgokiaaGreatDoor
open Go.RowKit Go.Shelf

attribute [local go_sem] Oper.semAt_some

def Stay (lo hi : Nat) (W W' : World) : Prop := W.heap.size ≤ W'.heap.size ∧ ∀ k, lo ≤ k → k < hi → W'.heap[k]? = W.heap[k]?
theorem Stay.trans {lo hi : Nat} {a b c : World} (h : Stay lo hi a b) (k : Stay lo hi b c) : Stay lo hi a c := ⟨Nat.le_trans h.1 k.1, fun i h1 h2 => (k.2 i h1 h2).trans (h.2 i h1 h2)⟩
theorem Stay.refl (lo hi : Nat) (w : World) : Stay lo hi w w := ⟨Nat.le_refl _, fun _ _ _ => rfl⟩

set_option maxRecDepth 100000 in
set_option maxHeartbeats 2000000 in
theorem each_seq (Bs lo n₀ : Nat) (P : Nat → Prop) (A : Option Addr) (c : Nat) (a : List Nat) (w : World) (hP : ∀ b, P b → lo ≤ b ∧ b < n₀) (hlo : lo ≤ Bs) (hBs : Bs < n₀) (hn₀ : n₀ ≤ w.heap.size) (hc0 : w.cell? ⟨Bs, 0, none⟩ = some (.slice A a.length c)) (hR0 : RN w P A c a) :
 SeqAt Tryz.prog 92 #[.pointer (some ⟨Bs, 0, none⟩)] (fun k => #[.int .i64 ((bitAt (val 18446744073709551616 a) k).1 : Int), .int .u64 ((bitAt (val 18446744073709551616 a) k).2 : Int)]) NoNeed TPlain (Stay lo n₀) 0 (nbits (val 18446744073709551616 a)) true w := by
 intro n l' J J' Jx W hn hW _ _ _ _ _ hT _ hY h0
 have hc := (hW.cell (p := ⟨Bs, 0, none⟩) (Nat.lt_of_lt_of_le hBs hn₀)).trans hc0
 have hR := hR0.below hW fun b hb => Nat.lt_of_lt_of_le (hP b hb).2 hn₀
 have zW := hW.size
 clear hc0 hR0
 have hbits := Lib.hid (fun W (h : RN W P A c a) => (callsIn_wide (n := n - 1)).2 (bits_any P A c a W h))
 have hbit := Lib.hid (fun i W (h : RN W P A c a) (hi : i ≤ 9223372036854775807) => (callsIn_wide (n := n - 1)).2 (bit_any P A c a i W h hi))
 have hcap := hR.cap
 have hnb : nbits (val 18446744073709551616 a) ≤ 64 * a.length := by
  apply nbits_le
  have := val_lt hR.2.1
  rwa [show (18446744073709551616 : Nat) = 2 ^ 64 by decide, ← Nat.pow_mul] at this
 have hbv := fun k => (show bitOf (val 18446744073709551616 a) ((k : Nat) : Int) = val 18446744073709551616 a / 2 ^ k % 2 by simp [bitOf, show ¬ (k : Int) < 0 by omega])
 have Hbv := Lib.hid hbv
 clear hbv
 generalize hx : val 18446744073709551616 a = x at *
 have hba := Lib.hid (fun k => (show bitAt x k = (nbits x - 1 - k, x / 2 ^ (nbits x - 1 - k) % 2) by rfl))
 obtain ⟨nb, hnb'⟩ : ∃ nb, nbits x = nb := ⟨_, rfl⟩
 rw [hnb'] at hbits hba hnb hY hT ⊢
 have HT := Lib.hid hT
 have HY := Lib.hid hY
 clear hT hY
 clear hx hnb'
 have hnb1 : nb ≤ 64000000 := by have := hcap.2.2; omega
 clear hnb
 refine callsIn_of_wp Tryz.func92 rfl trivial ?_ rfl
 simp only [Tryz.ntmps92, List.size_toArray, List.length_cons, List.length_nil, Nat.reduceAdd, Nat.reduceSub, Array.replicate_succ, Array.replicate_zero, List.push_toArray, List.append_toArray, List.nil_append, List.cons_append]
 gi_wp2
 refine ⟨trivial, (hbits.out _ hR).mono ?_⟩
 rintro e w' ⟨rfl, rfl⟩
 have Hst := Lib.hid (Below1.start nb)
 gi_wp2
 gi_loopw [3] (fun i wr => ∃ (k : Nat) (z : Int), k ≤ nb ∧ Below1 (nb - k) z ∧ i = .int .i64 z ∧ J k wr ∧ Stay lo n₀ W wr)
  (fun i _ => (intOf i + 1).toNat)
 case atStart => exact ⟨0, _, Nat.zero_le _, Hst.out, rfl, h0, Stay.refl _ _ _⟩
 case round =>
  obtain ⟨k, z, hk, hz, rfl, hJs, hnx⟩ := hrel
  have hcx := (World.cell?_of_block (w' := wr) (a := ⟨Bs, 0, none⟩) (hnx.2 Bs hlo hBs)).trans hc
  have hRx := hR.keep (w' := wr) fun p hp => World.cell?_of_block (hnx.2 _ (hP _ hp).1 (hP _ hp).2)
  rcases hz with ⟨hk0, rfl⟩ | ⟨j, hj, rfl⟩
  · obtain rfl : k = nb := by omega
    have hjn := HT.out k _ _ (Nat.le_refl _) hJs (World.grownBy.refl wr none)
    gi_wp2
    go_end0
    exact ⟨⟨_, rfl⟩, .inl hjn⟩
  · obtain ⟨fn, tmps, assign, body, hy, hRo⟩ := HY.out k wr (HT.out k _ _ hk hJs (World.grownBy.refl wr none)) (by omega) (by have := hnx.1; omega)
    have hb1 := hba.out k
    rw [show nb - 1 - k = j by omega] at hb1
    have hbj := hbit.out (j : Int) wr hRx (by omega)
    rw [Hbv.out j] at hbj
    rw [hb1] at hy
    obtain ⟨bb, hbb⟩ : ∃ bb, x / 2 ^ j % 2 = bb := ⟨_, rfl⟩
    rw [hbb] at hy hb1 hbj
    dsimp only at hy
    have Hbj := Lib.hid hbj
    have Hb1 := Lib.hid hb1
    clear hb1 hbj hbb
    gi_wp2
    refine ⟨trivial, Hbj.out.mono ?_⟩
    rintro e w' ⟨rfl, rfl⟩
    gi_wp2
    refine hRo.mono ?_
    rintro e W3 (⟨rfl, hJ3, hk3, _⟩ | ⟨rfl, hJx3, _⟩)
    · gi_wp2
      go_roundw
      case rel => exact ⟨k + 1, _, by omega, by rw [show nb - (k + 1) = j by omega]; exact Below1.start j, rfl, hJ3, hnx.trans hk3⟩
      case measure => simp [intOf]
    · gi_wp2
      refine bodyPost_ret (results_none rfl _ _ _) rfl ?_
      exact ⟨⟨_, rfl⟩, .inr ⟨k + 1, by omega, by omega, hJx3⟩⟩
end Go.Proofs.YtlaphnlolgokiaaGreatDoor

namespace Go.Proofs.YtlaphnlolgokiaaGreatDoor
open Go.RowKit Go.Shelf

attribute [local go_sem] Oper.semAt_some

def topOf (E k : Nat) : Nat := E / 2 ^ (nbits E - k)
theorem topOf_zero (E : Nat) : topOf E 0 = 0 := by rw [topOf, Nat.sub_zero]; exact Nat.div_eq_of_lt (lt_of_nbits (Nat.le_refl _))
theorem topOf_all (E : Nat) : topOf E (nbits E) = E := by rw [topOf, Nat.sub_self, Nat.pow_zero, Nat.div_one]
theorem topOf_succ {E k : Nat} (hk : k < nbits E) : topOf E (k + 1) = 2 * topOf E k + (bitAt E k).2 := by
 rw [topOf, topOf, bitAt, show nbits E - k = (nbits E - (k + 1)) + 1 by omega, show nbits E - 1 - k = nbits E - (k + 1) by omega, Nat.pow_succ, ← Nat.div_div_eq_div_mul]
 have := Nat.div_add_mod (E / 2 ^ (nbits E - (k + 1))) 2
 omega
theorem pow_top {x E k : Nat} (hk : k < nbits E) (hb : (bitAt E k).2 = 0) : x ^ topOf E (k + 1) = x ^ topOf E k * x ^ topOf E k := by
 rw [topOf_succ hk, hb, Nat.add_zero, Nat.two_mul, Nat.pow_add]
theorem pow_top1 {x E k : Nat} (hk : k < nbits E) (hb : (bitAt E k).2 = 1) : x ^ topOf E (k + 1) = x ^ topOf E k * x ^ topOf E k * x := by
 rw [topOf_succ hk, hb, Nat.pow_succ, Nat.two_mul, Nat.pow_add]
theorem OB.same {w w' : World} {base : Nat} {A : Option Addr} {c : Nat} {l : List Nat} (h : OB w base A c l) (hs : ∀ (b : Nat) (o : Obj), w.heap[b]? = some o → o.isCells = true → w'.heap[b]? = some o) : OB w' base A c l := by
 obtain ⟨h1, h2, h3, h4⟩ := h
 refine ⟨h1, h2, h3, fun hn => ?_⟩
 obtain ⟨g, cur, e, hg, hh, hc⟩ := h4 hn
 exact ⟨g, cur, e, hg, hs g _ hh rfl, hc⟩
theorem OB.put {w : World} {base q : Nat} {A : Option Addr} {c : Nat} {l : List Nat} {cs : Array Value} (h : OB w base A c l) (hq : w.heap[q]? = some (.cells cs 22 (0, 0))) (v : Value) : OB (w.setCell ⟨q, 0, none⟩ v) base A c l := by
 obtain ⟨h1, h2, h3, h4⟩ := h
 refine ⟨h1, h2, h3, fun hn => ?_⟩
 obtain ⟨g, cur, e, hg, hh, hc⟩ := h4 hn
 refine ⟨g, cur, e, hg, (Below.heap_setCell _ _ _ _ (show g ≠ q from fun e' => ?_)).trans hh, hc⟩
 subst e'
 rw [hh] at hq
 injection hq with hq
 injection hq with h1 h2
 exact absurd h2 (by decide)
def OutAt (base q M x E n k : Nat) (X : World) : Prop := ∃ A c o, X.heap[q]? = some (.cells #[.slice A n c] 22 (0, 0)) ∧ o.length = n ∧ val 18446744073709551616 o = x ^ topOf E k * RM M % M ∧ OB X base A c o

set_option maxRecDepth 100000 in
set_option maxHeartbeats 4000000 in
theorem mexp_any {w : World} {P : Nat → Prop} {g M inv : Nat} {Am Ao Ar : Option Addr} {cm co cr : Nat} {ol rl : List Nat} (hZ : ZM w P g M inv Am Ao Ar cm co cr ol rl) (hP : ∀ b, P b → b < w.heap.size) (Pa Pe : Nat → Prop) (Aa Ae : Option Addr) (ca ce : Nat) (a e : List Nat) (x E : Nat)
 (ha : RN w Pa Aa ca a) (hPa : ∀ b, Pa b → b < w.heap.size) (hl : a.length = (digs 18446744073709551616 M).length) (hx : val 18446744073709551616 a = x * RM M % M) (he : RN w Pe Ae ce e) (hPe : ∀ b, Pe b → b < w.heap.size) (hE : val 18446744073709551616 e = E) :
 Calls Tryz.prog 66 #[.pointer (some ⟨g, 0, none⟩), .slice Aa a.length ca, .slice Ae e.length ce] w fun e w' => ∃ A' c' o, e = .returned (.slice A' (digs 18446744073709551616 M).length c') ∧ o.length = (digs 18446744073709551616 M).length ∧ OB w' w.heap.size A' c' o ∧
  val 18446744073709551616 o = x ^ E * RM M % M ∧ Below w.heap.size w w' := by
 obtain ⟨n, hn⟩ : ∃ n, (digs 18446744073709551616 M).length = n := ⟨_, rfl⟩
 obtain ⟨s, hs⟩ : ∃ s, w.heap.size = s := ⟨_, rfl⟩
 rw [hl, hn, hs]
 rw [hn] at hl
 have Hl := Lib.hid hl
 have Hn := Lib.hid hn
 clear hl hn
 have hg := blk_lt hZ.blk
 have m0 := heap_alloc_new w (.cells #[.pointer (some ⟨g, 0, none⟩)] 90)
 have m1 := heap_alloc_new (w.alloc (.cells #[.pointer (some ⟨g, 0, none⟩)] 90)) (.cells #[.slice Aa n ca] 22)
 replace m0 := (Below.heap_alloc (w.alloc (.cells #[.pointer (some ⟨g, 0, none⟩)] 90)) (.cells #[.slice Aa n ca] 22) w.heap.size (by simp)).trans m0
 have hB0 : Below w.heap.size w ((w.alloc (.cells #[.pointer (some ⟨g, 0, none⟩)] 90)).alloc (.cells #[.slice Aa n ca] 22)) := ((Below.refl _ w).alloc (Nat.le_refl _) _).alloc (by simp) _
 have hz0 : ((w.alloc (.cells #[.pointer (some ⟨g, 0, none⟩)] 90)).alloc (.cells #[.slice Aa n ca] 22)).heap.size = s + 2 := by simp [hs]
 rw [World.size_alloc] at m1
 rw [hs] at m0 m1 hB0 hg hP hPa hPe
 refine (callsIn_wide (n := 6)).1 ?_
 refine callsIn_of_wp_marks Tryz.func66 rfl trivial ?_ rfl
 simp only [Tryz.ntmps66, List.size_toArray, List.length_cons, List.length_nil, Nat.reduceAdd, Nat.reduceSub, Array.replicate_succ, Array.replicate_zero, List.push_toArray, List.append_toArray, List.nil_append, List.cons_append]
 gi_wp2
 generalize (w.alloc (.cells #[.pointer (some ⟨g, 0, none⟩)] 90)).alloc (.cells #[.slice Aa n ca] 22) = W0 at *
 have hZ0 := hZ.below hB0 hP hg
 have hone := mone_any hZ0
 rw [hZ0.oneLen, Hn.out] at hone
 refine ⟨trivial, (callsIn_wide.2 hone).mono ?_⟩
 rintro e' w1 ⟨A1, c1, rfl, hO1, hB1⟩
 rw [hz0] at hO1 hB1
 have hB01 := hB0.trans (hB1.mono (by omega))
 obtain ⟨q, hq⟩ : ∃ q, w1.heap.size = q := ⟨_, rfl⟩
 have zq : s + 2 ≤ q := by rw [← hq]; have := hB1.size; omega
 have b1 := heap_alloc_new w1 (.cells #[.slice A1 n c1] 22)
 have hB2 : Below q w1 (w1.alloc (.cells #[.slice A1 n c1] 22)) := by rw [← hq]; exact (Below.refl _ w1).alloc (Nat.le_refl _) _
 have hz2 : (w1.alloc (.cells #[.slice A1 n c1] 22)).heap.size = q + 1 := by simp [hq]
 rw [hq] at b1
 clear hone hZ0
 gi_wp2
 generalize w1.alloc (.cells #[.slice A1 n c1] 22) = W2 at *
 have hBw2 := hB01.trans (hB2.mono (by omega))
 have heach := each_any Pe Ae ce e W2 (he.below hBw2 hPe) (fun b hb => by have := hPe b hb; omega)
 rw [hE, hz2] at heach
 have Hq := Lib.hid hq
 clear hq
 refine ⟨trivial, (callsIn_wide.2 heach).mono ?_⟩
 rintro e' w3 ⟨Ae', ce', rfl, be, hOe, hB3⟩
 have zn : q + 1 < w3.heap.size := blk_lt be
 have hbe := blk_cell be 0
 simp only [List.getElem?_toArray, List.getElem?_cons_zero] at hbe
 have hseq := each_seq (q + 1) (q + 1) w3.heap.size (In (q + 1) w3.heap.size) Ae' ce' (digs 18446744073709551616 E) w3 (fun b hb => hb) (Nat.le_refl _) zn (Nat.le_refl _) hbe hOe.rn
 rw [val_digs (by omega)] at hseq
 have Hseq := Lib.hid hseq
 have hW23 : Below s w w3 := hBw2.trans (hB3.mono (by omega))
 have hB13 : Below q w1 w3 := hB2.trans (hB3.mono (by omega))
 have n0 := (hB13.block s (by omega)).trans ((hB1.block s (by omega)).trans m0)
 have n1 := (hB13.block (s + 1) (by omega)).trans ((hB1.block (s + 1) (by omega)).trans m1)
 have nq := (hB3.block q (by omega)).trans b1
 have hO3 : OB w3 (s + 2) A1 c1 ol := hO1.below hB13 (by have := Hq.out; omega)
 have hout0 : OutAt (s + 2) q M x E n 0 w3 := ⟨A1, c1, ol, nq, hZ.oneLen.trans Hn.out, by rw [hZ.oneV, topOf_zero, Nat.pow_zero, Nat.one_mul], hO3⟩
 have hZw := fun X (h : Below s w X) => hZ.below h hP hg
 have hmul := fun X (h : Below s w X) A2 c2 (o2 : List Nat) (hO : OB X (s + 2) A2 c2 o2) (hlo : o2.length = n) A4 c4 (P4 : Nat → Prop) (o4 : List Nat) (hR4 : RN X P4 A4 c4 o4) (hP4 : ∀ b, P4 b → b < X.heap.size) (hl4 : o4.length = n) (hv4 : val 18446744073709551616 o4 < M) =>
  mmul_any P _ P4 Am A2 A4 cm c2 c4 g inv (digs 18446744073709551616 M) o2 o4 X (by have := blk_cell (hZw X h).blk 0; simpa using this) (by have := blk_cell (hZw X h).blk 1; simpa using this) (blk_lt (hZw X h).blk) (hZw X h).m (fun b hb => by have := hP b hb; have := h.size; omega) hO.rn (fun b hb => hb.2) hR4 hP4 (hlo.trans Hn.out.symm) (hl4.trans Hn.out.symm)
   (by rw [val_digs (by omega)]; have := hZ.big; omega) (by rw [val_digs (by omega)]; exact hv4) hZ.invLt (by rw [val_digs (by omega)]; exact hZ.invV) hZ.small
 have Hmul := Lib.hid hmul
 have HZ := Lib.hid hZ
 clear hseq heach hmul hZw b1 m0 m1 nq hB2 hB1 hO1 hO3 hbe be hOe hB01 hBw2 hz2 hz0 hB13 hB3 hB0
 have hInv : OwnFrom w3.heap.size (fun (k : Nat) X => OutAt (s + 2) q M x E n k X ∧ Below q w3 X) := by
  rintro k X X' row ⟨⟨A, c, o, h1, h2, h3, h4⟩, h5⟩ hg' hr
  have hr' := fun r e => (hr r e).2
  exact ⟨⟨A, c, o, (grownBy_keeps_cells hg' hr' h1 rfl).trans h1, h2, h3, h4.same fun b o' ho hc => (grownBy_keeps_cells hg' hr' ho hc).trans ho⟩, ownFrom_below (by omega) (by omega) k X X' row h5 hg' hr⟩
 gi_wp2
 refine' wpIn_iter (by omega) (gf := 92) (lb := #[.pointer (some ⟨q + 1, 0, none⟩)]) rfl (enters_of Tryz.func92 (by kernel_rfl) rfl)
  Hseq.out (fun h k => Stay.trans h k) (fun X l o o' hl ho _ _ => ⟨by simp, fun i _ hi => World.putObj_heap_other (by omega)⟩) tplain_keeps (Below.refl _ _) (fun _ => rfl)
  (fun k X => OutAt (s + 2) q M x E n k X ∧ Below q w3 X) (fun k X => OutAt (s + 2) q M x E n k X ∧ Below q w3 X) (fun _ _ _ => False)
  hInv hInv (fun _ _ _ _ _ h => h.elim) (fun _ _ _ _ => trivial) (fun B k A C _ _ hi ht => ?hIT) (fun h => by cases h) ⟨hout0, Below.refl _ _⟩ _ ?assign ?body ?done ?stop
 case hIT => exact ownFrom_plain (I := fun k X => OutAt (s + 2) q M x E n k X ∧ Below q w3 X) (B := w3.heap.size) hInv hi ht
 case assign =>
  intro l k X K hK
  gi_wp2
  exact hK
 case body =>
  rintro l k X ⟨⟨A2, c2, o2, h1, h2, h3, h4⟩, h5⟩ hlt _
  have zX := h5.size
  have d0 := blk_cell ((h5.block s (by omega)).trans n0) 0
  have d1 := blk_cell ((h5.block (s + 1) (by omega)).trans n1) 0
  have d2 := blk_cell h1 0
  have d3 := blk_free h1 0
  simp only [List.getElem?_toArray, List.getElem?_cons_zero] at d0 d1 d2
  have hbw := hW23.trans (h5.mono (by omega))
  have hM1 := HZ.out.big
  have hcl := Hmul.out X hbw A2 c2 o2 h4 h2 A2 c2 _ o2 h4.rn (fun b hb => hb.2) h2 (by rw [h3]; exact Nat.mod_lt _ (by omega))
  rw [h2, Hn.out, val_digs (by omega)] at hcl
  have Hcl := Lib.hid hcl
  have H1 := Lib.hid h1
  have H3 := Lib.hid h3
  clear hcl h1 h3 h4
  gi_wp2
  refine ⟨trivial, (callsIn_wide.2 Hcl.out).mono ?_⟩
  rintro e' X1 ⟨A3, c3, o3, rfl, hl3, hO3, hlt3, hv3, hB3⟩
  have hf3 := mul_form HZ.out.invV hlt3 (by rw [nl, Hn.out]; exact hv3) H3.out H3.out
  have zX1 := hB3.size
  have y1 := (hB3.block q (blk_lt H1.out)).trans H1.out
  have y2 := blk_cell y1 0
  have y3 := blk_free y1 0
  have y4 := (hB3.cell (p := ⟨s, 0, none⟩) (by show s < X.heap.size; omega)).trans d0
  have y5 := (hB3.cell (p := ⟨s + 1, 0, none⟩) (by show s + 1 < X.heap.size; omega)).trans d1
  simp only [List.getElem?_toArray, List.getElem?_cons_zero] at y2
  have hO4 := (hO3.mono (base' := s + 2) (by omega)).put y1 (.slice A3 n c3)
  have hq4 : (X1.setCell ⟨q, 0, none⟩ (.slice A3 n c3)).heap[q]? = some (.cells #[.slice A3 n c3] 22 (0, 0)) := by simpa using blk_set y1 0 (.slice A3 n c3)
  have hB4 : Below q w3 (X1.setCell ⟨q, 0, none⟩ (.slice A3 n c3)) := (h5.trans (hB3.mono (by omega))).setCell (p := ⟨q, 0, none⟩) (Nat.le_refl _) _
  have hK4 : Keeps w3.heap.size (w3.heap.size + 2) 0 X (X1.setCell ⟨q, 0, none⟩ (.slice A3 n c3)) := (Keeps.below hB3 (Nat.le_refl _)).trans (Keeps.setCell _ _ _ _ (.inl (by show q < _; omega)) _)
  have hS4 : Stay (q + 1) w3.heap.size X (X1.setCell ⟨q, 0, none⟩ (.slice A3 n c3)) := ⟨by simpa [World.setCell] using zX1, fun b hb1 hb2 => (Below.heap_setCell _ _ _ _ (by show b ≠ q; omega)).trans (hB3.block b (by omega))⟩
  have e0 := (World.cell?_setCell_far X1 ⟨q, 0, none⟩ ⟨s, 0, none⟩ (.slice A3 n c3) (by show q ≠ s; omega)).trans y4
  have e1 := (World.cell?_setCell_far X1 ⟨q, 0, none⟩ ⟨s + 1, 0, none⟩ (.slice A3 n c3) (by show q ≠ s + 1; omega)).trans y5
  have e2 := blk_cell hq4 0
  have e3 := blk_free hq4 0
  simp only [List.getElem?_toArray, List.getElem?_cons_zero] at e2
  have hz4 : (X1.setCell ⟨q, 0, none⟩ (.slice A3 n c3)).heap.size = X1.heap.size := by simp [World.setCell]
  have hbw4 := hW23.trans (hB4.mono (by omega))
  have hcl2 := Hmul.out _ hbw4 A3 c3 o3 hO4 hl3 Aa ca Pa a (ha.below hbw4 hPa) (fun b hb => by have := hPa b hb; omega) Hl.out (by rw [hx]; exact Nat.mod_lt _ (by omega))
  rw [hl3, Hl.out, Hn.out, val_digs (by omega)] at hcl2
  have Hcl2 := Lib.hid hcl2
  have HO4 := Lib.hid hO4
  have HK4 := Lib.hid hK4
  have HS4 := Lib.hid hS4
  have HB4 := Lib.hid hB4
  have Hq4 := Lib.hid hq4
  have Hf3 := Lib.hid hf3
  have Hl3 := Lib.hid hl3
  have hbit : (bitAt E k).2 = 0 ∨ (bitAt E k).2 = 1 := by
   have : (bitAt E k).2 < 2 := Nat.mod_lt _ (by omega)
   omega
  clear hcl2 hO4 hK4 hS4 hB4 hq4 hf3 hv3 y1 hO3
  rcases hbit with hb0 | hb1
  · have hp := Lib.hid (pow_top (x := x) hlt hb0)
    rw [hb0]
    clear hb0
    gi_wp2
    exact ⟨HK4.out, HS4.out, ⟨A3, c3, o3, Hq4.out, Hl3.out, by rw [hp.out]; exact Hf3.out, HO4.out⟩, HB4.out⟩
  · have hp := Lib.hid (pow_top1 (x := x) hlt hb1)
    rw [hb1]
    clear hb1
    gi_wp2
    generalize X1.setCell ⟨q, 0, none⟩ (.slice A3 n c3) = X2 at *
    refine ⟨trivial, (callsIn_wide.2 Hcl2.out).mono ?_⟩
    rintro e' X3 ⟨A5, c5, o5, rfl, hl5, hO5, hlt5, hv5, hB5⟩
    have hf5 := mul_form HZ.out.invV hlt5 (by rw [nl, Hn.out]; exact hv5) Hf3.out hx
    have zX3 := hB5.size
    have x1 := (hB5.block q (blk_lt Hq4.out)).trans Hq4.out
    have x2 := blk_cell x1 0
    have x3 := blk_free x1 0
    simp only [List.getElem?_toArray, List.getElem?_cons_zero] at x2
    have hO6 := (hO5.mono (base' := s + 2) (by omega)).put x1 (.slice A5 n c5)
    have hq6 : (X3.setCell ⟨q, 0, none⟩ (.slice A5 n c5)).heap[q]? = some (.cells #[.slice A5 n c5] 22 (0, 0)) := by simpa using blk_set x1 0 (.slice A5 n c5)
    have hB6 : Below q w3 (X3.setCell ⟨q, 0, none⟩ (.slice A5 n c5)) := (HB4.out.trans (hB5.mono (by omega))).setCell (p := ⟨q, 0, none⟩) (Nat.le_refl _) _
    have hK6 : Keeps w3.heap.size (w3.heap.size + 2) 0 X (X3.setCell ⟨q, 0, none⟩ (.slice A5 n c5)) := HK4.out.trans ((Keeps.below hB5 (Nat.le_refl _)).trans (Keeps.setCell _ _ _ _ (.inl (by show q < _; omega)) _))
    have hS6 : Stay (q + 1) w3.heap.size X (X3.setCell ⟨q, 0, none⟩ (.slice A5 n c5)) := HS4.out.trans ⟨by simpa [World.setCell] using zX3, fun b hb1 hb2 => (Below.heap_setCell _ _ _ _ (by show b ≠ q; omega)).trans (hB5.block b (by omega))⟩
    have HO6 := Lib.hid hO6
    have HK6 := Lib.hid hK6
    have HS6 := Lib.hid hS6
    have HB6 := Lib.hid hB6
    have Hq6 := Lib.hid hq6
    have Hf5 := Lib.hid hf5
    have Hl5 := Lib.hid hl5
    clear hO6 hK6 hS6 hB6 hq6 hf5 hv5 x1 hO5
    gi_wp2
    exact ⟨HK6.out, HS6.out, ⟨A5, c5, o5, Hq6.out, Hl5.out, by rw [hp.out]; exact Hf5.out, HO6.out⟩, HB6.out⟩
 case done =>
  rintro D X hD ⟨⟨A2, c2, o2, h1, h2, h3, h4⟩, h5⟩ hK
  rw [topOf_all] at h3
  have d2 := blk_cell h1 0
  simp only [List.getElem?_toArray, List.getElem?_cons_zero] at d2
  have hbw := hW23.trans (h5.mono (by omega))
  have zD : s ≤ D := by omega
  have hO : OB (X.putObj D (.deferred none)) (s + 2) A2 c2 o2 := h4.same fun b o' ho hc => (World.putObj_heap_other (fun e => by subst e; rw [hK] at ho; cases ho; cases hc)).trans ho
  have HO := Lib.hid (hO.mono (base' := s) (by omega))
  have H3 := Lib.hid h3
  have H2 := Lib.hid h2
  clear h1 h3 h4 hO
  gi_wp2
  go_wp2
  refine ⟨by simp, .inl ⟨_, _, rfl, run_takeDeferred hK, _, results_tmp rfl _ _ _, ⟨A2, c2, o2, rfl, H2.out, HO.out, H3.out, hbw.trans (belowK_b (w := w) (Nat.le_of_eq hs.symm) _ D _ _ (by omega) hK rfl rfl)⟩⟩⟩
 case stop => exact fun _ _ _ _ _ _ _ h _ => h.elim
end Go.Proofs.YtlaphnlolgokiaaGreatDoor

namespace Go.Proofs.YtlaphnlolgokiaaGreatDoor
open Go.RowKit

theorem RNN.three {w : World} {P P' P'' : Nat → Prop} {A A' A'' : Option Addr} {c c' c'' : Nat} {a b d : List Nat} (h : RN w P A c a) (h' : RN w P' A' c' b) (h'' : RN w P'' A'' c'' d) (hP : ∀ b, P b → b < w.heap.size) (hP' : ∀ b, P' b → b < w.heap.size) (hP'' : ∀ b, P'' b → b < w.heap.size) :
 RNN (w.alloc (.cells #[.slice A a.length c, .slice A' b.length c', .slice A'' d.length c''] 23)) (fun _ => True) (some ⟨w.heap.size, 0, none⟩) 3 [a, b, d] [.slice A a.length c, .slice A' b.length c', .slice A'' d.length c''] := by
 have hB : Below w.heap.size w (w.alloc (.cells #[.slice A a.length c, .slice A' b.length c', .slice A'' d.length c''] 23)) := (Below.refl _ w).alloc (Nat.le_refl _) _
 refine ⟨RS.fresh (w := w) (P := fun _ => True) #[.slice A a.length c, .slice A' b.length c', .slice A'' d.length c''] 23 1 3 rfl (by unfold maxLen; omega) trivial, by simp, fun j l hl => ?_⟩
 match j, hl with
 | 0, hl => simp at hl; subst hl; exact ⟨A, c, rfl, (h.below hB hP).mono fun _ _ => trivial⟩
 | 1, hl => simp at hl; subst hl; exact ⟨A', c', rfl, (h'.below hB hP').mono fun _ _ => trivial⟩
 | 2, hl => simp at hl; subst hl; exact ⟨A'', c'', rfl, (h''.below hB hP'').mono fun _ _ => trivial⟩
 | j + 3, hl => simp at hl
theorem bitOf_odd {M : Nat} (h : M % 2 = 1) : bitOf M 0 = 1 := by simp [bitOf, h]

set_option maxRecDepth 100000 in
set_option maxHeartbeats 4000000 in
theorem exp_odd (P Pe P' : Nat → Prop) (A Ae A' : Option Addr) (c ce c' : Nat) (a e b : List Nat) (X E M : Nat) (w : World) (h : RN w P A c a) (he : RN w Pe Ae ce e) (h' : RN w P' A' c' b) (hP : ∀ b, P b → b < w.heap.size) (hPe : ∀ b, Pe b → b < w.heap.size) (hP' : ∀ b, P' b → b < w.heap.size)
 (hX : val 18446744073709551616 a = X) (hE : val 18446744073709551616 e = E) (hM : val 18446744073709551616 b = M) (hM2 : 1 < M) (hodd : M % 2 = 1) (hla : a.length < 40000) (hlb : b.length < 40000) (hmay : nbits X ≤ 4096 ∧ nbits E ≤ 4096 ∧ nbits M ≤ 4096) :
 Calls Tryz.prog 55 #[.slice A a.length c, .slice Ae e.length ce, .slice A' b.length c'] w fun e w' => ∃ A1 c1, e = .returned (.tuple #[.slice A1 (digs 18446744073709551616 (X ^ E % M)).length c1, .bool true]) ∧ OB w' w.heap.size A1 c1 (digs 18446744073709551616 (X ^ E % M)) ∧ Below w.heap.size w w' := by
 obtain ⟨s, hs⟩ : ∃ s, w.heap.size = s := ⟨_, rfl⟩
 have m0 := heap_alloc_new w (.cells #[.slice A a.length c] 23)
 have m1 := heap_alloc_new (w.alloc (.cells #[.slice A a.length c] 23)) (.cells #[.slice A' b.length c'] 23)
 replace m0 := (Below.heap_alloc (w.alloc (.cells #[.slice A a.length c] 23)) (.cells #[.slice A' b.length c'] 23) w.heap.size (by simp)).trans m0
 have hB0 : Below w.heap.size w ((w.alloc (.cells #[.slice A a.length c] 23)).alloc (.cells #[.slice A' b.length c'] 23)) := ((Below.refl _ w).alloc (Nat.le_refl _) _).alloc (by simp) _
 have hz0 : ((w.alloc (.cells #[.slice A a.length c] 23)).alloc (.cells #[.slice A' b.length c'] 23)).heap.size = s + 2 := by simp [hs]
 rw [World.size_alloc] at m1
 rw [hs] at m0 m1 hB0 hP hPe hP' ⊢
 have hlM : (digs 18446744073709551616 M).length ≤ 40000 := by have := digs_length_le (B := 18446744073709551616) (by omega) h'.2.1; rw [hM] at this; omega
 have hnb : 2 ≤ nbits M := by
  rcases Nat.lt_or_ge (nbits M) 2 with h0 | h0
  · have := lt_of_nbits (x := M) (k := 1) (by omega); omega
  · exact h0
 have hb1 := bitOf_odd hodd
 have Hb1 := Lib.hid hb1
 have Hodd := Lib.hid hodd
 have hng : ((nbits M : Int) == 0) = false := by simpa using (by omega : ¬ nbits M = 0)
 have hng2 : decide ((1 : Int) < (nbits M : Int)) = true := decide_eq_true (by omega)
 go_enter Tryz.func55, Tryz.ntmps55
 go_wp2_with fail
 generalize (w.alloc (.cells #[.slice A a.length c] 23)).alloc (.cells #[.slice A' b.length c'] 23) = W0 at *
 have hbits := fun X (hX : Below s w X) => bits_any P' A' c' b X (h'.below hX hP')
 simp only [hM] at hbits
 have Hbits := Lib.hid hbits
 clear hbits
 have d0 := blk_cell m0 0
 have d1 := blk_cell m1 0
 simp only [List.getElem?_toArray, List.getElem?_cons_zero] at d0 d1
 have hmy := may_any _ _ _ _ _ _ (RNN.three (h.below hB0 hP) (he.below hB0 hPe) (h'.below hB0 hP') (fun b hb => by have := hP b hb; omega) (fun b hb => by have := hPe b hb; omega) (fun b hb => by have := hP' b hb; omega))
 rw [show (([a, e, b] : List (List Nat)).all fun l => decide (nbits (val 18446744073709551616 l) ≤ 4096)) = true by simp [hX, hE, hM, hmay.1, hmay.2.1, hmay.2.2]] at hmy
 simp only [List.length_cons, List.length_nil, Nat.zero_add, Nat.reduceAdd] at hmy
 rw [hz0] at hmy
 have Hmy := Lib.hid hmy
 clear hmy hmay
 refine (Hbits.out W0 hB0).mono ?_
 rintro e' w' ⟨rfl, rfl⟩
 go_wp2_with fail
 refine Hmy.out.mono ?_
 rintro e' w' ⟨rfl, rfl⟩
 have hB1 : Below (s + 2) W0 (W0.alloc (.cells #[.slice A a.length c, .slice Ae e.length ce, .slice A' b.length c'] 23)) := (Below.refl _ W0).alloc (by omega) _
 have e0 := (hB1.cell (p := ⟨s, 0, none⟩) (by show s < s + 2; omega)).trans d0
 have e1 := (hB1.cell (p := ⟨s + 1, 0, none⟩) (by show s + 1 < s + 2; omega)).trans d1
 generalize W0.alloc (.cells #[.slice A a.length c, .slice Ae e.length ce, .slice A' b.length c'] 23) = W1 at *
 have hB01 := hB0.trans (hB1.mono (by omega))
 have hr1 := rest_any P P' A A' c c' a b W1 (h.below hB01 hP) (h'.below hB01 hP') (fun b hb => by have := hP b hb; have := hB01.size; omega) (fun b hb => by have := hP' b hb; have := hB01.size; omega) (by omega) (by omega) (by omega)
 rw [hX, hM] at hr1
 have Hr1 := Lib.hid hr1
 clear hr1
 have zW1 := hB1.size
 go_wp2_with fail
 refine Hr1.out.mono ?_
 rintro e' W2 ⟨A2, c2, rfl, hO2, hB2⟩
 have hB02 := hB01.trans (hB2.mono (by omega))
 have n0 := (hB2.block s (by omega)).trans ((hB1.block s (by omega)).trans m0)
 have n1 := (hB2.block (s + 1) (by omega)).trans ((hB1.block (s + 1) (by omega)).trans m1)
 have f0 := blk_cell n0 0
 have f00 := blk_free n0 0
 have f1 := blk_cell n1 0
 simp only [List.getElem?_toArray, List.getElem?_cons_zero] at f0 f1
 generalize hR : X % M = R at *
 have hRM : R < M := by rw [← hR]; exact Nat.mod_lt _ (by omega)
 have hpow : R ^ E % M = X ^ E % M := by rw [← hR, ← Nat.pow_mod]
 generalize hrl : (digs 18446744073709551616 R).length = rl at *
 have hrlM : rl ≤ (digs 18446744073709551616 M).length := by rw [← hrl]; exact digs_length_mono (by omega) (by omega)
 have hB3 : Below (s + 0) W2 (W2.setCell ⟨s, 0, none⟩ (.slice A2 rl c2)) := (Below.refl _ W2).setCell (p := ⟨s, 0, none⟩) (by show s + 0 ≤ s; omega) _
 have hO3 : OB (W2.setCell ⟨s, 0, none⟩ (.slice A2 rl c2)) W1.heap.size A2 c2 (digs 18446744073709551616 R) := by
  obtain ⟨x1, x2, x3, x4⟩ := hO2
  refine ⟨x1, x2, x3, fun hn => ?_⟩
  obtain ⟨g, cur, e, hg, hh, hc⟩ := x4 hn
  exact ⟨g, cur, e, hg, (Below.heap_setCell _ _ _ _ (show g ≠ s by omega)).trans hh, hc⟩
 have k0 := blk_cell (by simpa using blk_set n0 0 (.slice A2 rl c2)) 0
 have k1 := (World.cell?_setCell_far W2 ⟨s, 0, none⟩ ⟨s + 1, 0, none⟩ (.slice A2 rl c2) (by show s ≠ s + 1; omega)).trans f1
 simp only [List.getElem?_toArray, List.getElem?_cons_zero] at k0
 have hBw3 := hB02.trans hB3
 have zW2 := hB2.size
 have zW3 : (W2.setCell ⟨s, 0, none⟩ (.slice A2 rl c2)).heap.size = W2.heap.size := by simp [World.setCell]
 have hb0 := bit_any P' A' c' b 0 _ (h'.below hBw3 hP') (by omega)
 rw [hM, Hb1.out] at hb0
 have Hb0 := Lib.hid hb0
 have Hrl := Lib.hid hrl
 have Hpow := Lib.hid hpow
 clear hb0 hb1 n0 n1 hB1 hrl hpow hR m0 m1 hO2
 go_wp2_with fail
 generalize W2.setCell ⟨s, 0, none⟩ (.slice A2 rl c2) = W3 at *
 refine Hb0.out.mono ?_
 rintro e' w' ⟨rfl, rfl⟩
 go_wp2_with fail
 refine (Hbits.out W3 hBw3).mono ?_
 rintro e' w' ⟨rfl, rfl⟩
 have ltm : ∀ X : World, Below s w X → ∀ b, P' b → b < X.heap.size := fun X hX b hb => by have := hP' b hb; have := hX.size; omega
 have Hnew := Lib.hid (mnew_any P' A' c' b M W3 (h'.below hBw3 hP') (ltm W3 hBw3) hM hM2 Hodd.out hlb)
 go_wp2_with fail
 refine Hnew.out.mono ?_
 rintro e' W4 ⟨g, inv, Am, Ao, Ar, cm, co, cr, ol, zl, rfl, hg, hZ, hB4⟩
 have hB04 := hBw3.trans (hB4.mono (by omega))
 have hz4 := hB4.size
 have i0 := (hB4.cell (p := ⟨s, 0, none⟩) (by show s < W3.heap.size; omega)).trans k0
 have hO4 := hO3.below hB4 (by omega)
 rw [← Hrl.out] at hrlM
 have hto := mto_any hZ (fun b hb => hb.2) _ _ _ _ hO4.rn (fun b hb => hb.2) hrlM
 rw [val_digs (by omega), Hrl.out] at hto
 have Hto := Lib.hid hto
 have Hnl : Hid ((digs 18446744073709551616 M).length = nl M) := Lib.hid rfl
 clear hto Hnew Hb0 k0 k1 f0 f00 f1 e0 e1 d0 d1 hO3
 go_wp2_with fail
 refine Hto.out.mono ?_
 rintro e' W5 ⟨A5, c5, o5, rfl, hl5, hO5, hv5, hB5⟩
 have hB05 := hB04.trans (hB5.mono (by omega))
 have hg4 := blk_lt hZ.blk
 have hZ5 := hZ.below hB5 (fun b hb => hb.2) hg4
 have hz5 := hB5.size
 have hex := mexp_any hZ5 (fun b hb => by have := hb.2; omega) _ Pe A5 Ae c5 ce o5 e R E hO5.rn (fun b hb => hb.2) hl5 hv5 (he.below hB05 hPe) (fun b hb => by have := hPe b hb; have := hB05.size; omega) hE
 rw [hl5] at hex
 have Hex := Lib.hid hex
 have Hl5 := Lib.hid hl5
 clear hex hl5 Hto
 go_wp2_with fail
 refine Hex.out.mono ?_
 rintro e' W6 ⟨A6, c6, o6, rfl, hl6, hO6, hv6, hB6⟩
 have hB06 := hB05.trans (hB6.mono (by omega))
 have hZ6 := hZ5.below hB6 (fun b hb => by have := hb.2; omega) (by omega)
 have hz6 := hB6.size
 have hfr := mfrom_any hZ6 (fun b hb => by have := hb.2; omega) _ A6 c6 o6 (R ^ E) hO6.rn (fun b hb => hb.2) hl6 hv6
 rw [hl6, Hpow.out] at hfr
 have Hfr := Lib.hid hfr
 clear hfr Hex hl6 hv6
 go_wp2_with fail
 refine Hfr.out.mono ?_
 rintro e' W7 ⟨A7, c7, rfl, hO7, hB7⟩
 have hB07 := hB06.trans (hB7.mono (by omega))
 have hO8 := hO7.mono (base' := s) (by omega)
 clear Hfr
 go_wp2
 go_ret2
 exact ⟨A7, c7, rfl, hO8, hB07⟩
end Go.Proofs.YtlaphnlolgokiaaGreatDoor

namespace Go.Proofs.YtlaphnlolgokiaaGreatDoor
open Go.RowKit

theorem RNN.one {w : World} {P : Nat → Prop} {A : Option Addr} {c : Nat} {a : List Nat} (h : RN w P A c a) (hP : ∀ b, P b → b < w.heap.size) :
 RNN (w.alloc (.cells #[.slice A a.length c] 23)) (fun _ => True) (some ⟨w.heap.size, 0, none⟩) 1 [a] [.slice A a.length c] := by
 have hB : Below w.heap.size w (w.alloc (.cells #[.slice A a.length c] 23)) := (Below.refl _ w).alloc (Nat.le_refl _) _
 refine ⟨RS.fresh (w := w) (P := fun _ => True) #[.slice A a.length c] 23 1 1 rfl (by unfold maxLen; omega) trivial, by simp, fun j l hl => ?_⟩
 match j, hl with
 | 0, hl => simp at hl; subst hl; exact ⟨A, c, rfl, (h.below hB hP).mono fun _ _ => trivial⟩
 | j + 1, hl => simp at hl

theorem bitOf_zero (N : Nat) : bitOf N 0 = N % 2 := by simp [bitOf]
theorem nbits_two {N : Nat} (h : 1 < N) : 2 ≤ nbits N := by
 rcases Nat.lt_or_ge (nbits N) 2 with h0 | h0
 · have := lt_of_nbits (x := N) (k := 1) (by omega); omega
 · exact h0

set_option maxRecDepth 100000 in
set_option maxHeartbeats 1000000 in
theorem candidate_no (P : Nat → Prop) (A : Option Addr) (c : Nat) (a : List Nat) (N : Nat) (w : World) (h : RN w P A c a) (hP : ∀ b, P b → b < w.heap.size) (hN : val 18446744073709551616 a = N) (hno : N % 2 = 0 ∨ N < 2) :
 Calls Tryz.prog 44 #[.slice A a.length c] w fun e w' => e = .returned (.tuple #[.bool false, .bool (decide (N = 2))]) ∧ Below w.heap.size w w' := by
 have hb0 := bit_any P A c a 0 w h (by omega)
 have hbs := bits_any P A c a w h
 have hof := of_any 2 w (by omega)
 have hcm := fun A' c' X (hX : Below w.heap.size w X) (hO : OB X w.heap.size A' c' (digs 18446744073709551616 2)) => cmp_any P _ A A' c c' a _ X (h.below hX hP) hO.rn
 rw [hN, bitOf_zero] at hb0
 rw [hN] at hbs
 simp only [hN, val_digs (show 2 ≤ 18446744073709551616 by omega)] at hcm
 have hcv : (cmpV N 2 == 0) = decide (N = 2) := by
  rcases cmpV_cases N 2 with ⟨h1, h2⟩ | ⟨h1, h2⟩ | ⟨h1, h2⟩ <;> rw [h2] <;> simp <;> omega
 have Hb0 := Lib.hid hb0
 have Hbs := Lib.hid hbs
 have Hof := Lib.hid hof
 have Hcm := Lib.hid hcm
 have Hcv := Lib.hid hcv
 have key : Hid (∀ W, W = w → True) := Lib.hid fun _ _ => trivial
 clear hb0 hbs hof hcm hcv key
 generalize hcz : cmpV N 2 = cz at *
 by_cases he : N % 2 = 0
 · have t1 : ((N % 2 : Nat) : Int) = 0 := by omega
   rw [he] at Hb0
   clear hno t1
   go_enter Tryz.func44, Tryz.ntmps44
   go_wp2_with fail
   refine Hb0.out.mono ?_
   rintro e w' ⟨rfl, rfl⟩
   go_wp2_with fail
   refine Hof.out.mono ?_
   rintro e w1 ⟨A1, c1, rfl, hO1, hB1⟩
   have Hc1 := Lib.hid (Hcm.out A1 c1 w1 hB1 hO1)
   go_wp2_with fail
   refine Hc1.out.mono ?_
   rintro e w2 ⟨rfl, n, rfl⟩
   go_wp2
   go_ret2
   exact ⟨by rw [Hcv.out]; rfl, hB1.os, hB1.tape, hB1.output, hB1.size, hB1.block⟩
 · have hlt : N < 2 := by omega
   have hn1 : nbits N ≤ 1 := nbits_le (by omega)
   have t2 : N % 2 = 1 := by omega
   have t3 : decide ((nbits N : Int) < 2) = true := decide_eq_true (by omega)
   rw [t2] at Hb0
   clear hno he t2 hlt
   go_enter Tryz.func44, Tryz.ntmps44
   go_wp2_with fail
   refine Hb0.out.mono ?_
   rintro e w' ⟨rfl, rfl⟩
   go_wp2_with fail
   refine Hbs.out.mono ?_
   rintro e w' ⟨rfl, rfl⟩
   go_wp2_with fail
   refine Hof.out.mono ?_
   rintro e w1 ⟨A1, c1, rfl, hO1, hB1⟩
   have Hc1 := Lib.hid (Hcm.out A1 c1 w1 hB1 hO1)
   go_wp2_with fail
   refine Hc1.out.mono ?_
   rintro e w2 ⟨rfl, n, rfl⟩
   go_wp2
   go_ret2
   exact ⟨by rw [Hcv.out]; rfl, hB1.os, hB1.tape, hB1.output, hB1.size, hB1.block⟩

set_option maxRecDepth 100000 in
set_option maxHeartbeats 1000000 in
theorem candidate_odd (P : Nat → Prop) (A : Option Addr) (c : Nat) (a : List Nat) (N : Nat) (w : World) (h : RN w P A c a) (hP : ∀ b, P b → b < w.heap.size) (hN : val 18446744073709551616 a = N) (hodd : N % 2 = 1) (hgt : 1 < N) :
 Calls Tryz.prog 44 #[.slice A a.length c] w fun e w' => e = .returned (.tuple #[.bool (decide (nbits N ≤ 4096)), .bool false]) ∧ Below w.heap.size w w' := by
 have hb0 := bit_any P A c a 0 w h (by omega)
 have hbs := bits_any P A c a w h
 rw [hN, bitOf_zero, hodd] at hb0
 rw [hN] at hbs
 have hmy := may_any _ _ _ _ _ _ (RNN.one h hP)
 rw [show (([a] : List (List Nat)).all fun l => decide (nbits (val 18446744073709551616 l) ≤ 4096)) = decide (nbits N ≤ 4096) by simp [hN]] at hmy
 simp only [List.length_cons, List.length_nil, Nat.zero_add] at hmy
 have hB0 : Below w.heap.size w (w.alloc (.cells #[.slice A a.length c] 23)) := (Below.refl _ w).alloc (Nat.le_refl _) _
 have hnb := nbits_two hgt
 have t3 : decide ((nbits N : Int) < 2) = false := decide_eq_false (by omega)
 have Hb0 := Lib.hid hb0
 have Hbs := Lib.hid hbs
 have Hmy := Lib.hid hmy
 clear hb0 hbs hmy hodd hgt hnb
 go_enter Tryz.func44, Tryz.ntmps44
 go_wp2_with fail
 refine Hb0.out.mono ?_
 rintro e w' ⟨rfl, rfl⟩
 go_wp2_with fail
 refine Hbs.out.mono ?_
 rintro e w' ⟨rfl, rfl⟩
 go_wp2_with fail
 refine Hmy.out.mono ?_
 rintro e w' ⟨rfl, rfl⟩
 go_wp2
 go_ret2
 exact ⟨rfl, hB0⟩
end Go.Proofs.YtlaphnlolgokiaaGreatDoor
