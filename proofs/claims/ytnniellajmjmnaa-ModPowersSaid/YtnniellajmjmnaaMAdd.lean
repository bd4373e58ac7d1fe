/- zmont.add: f times b is added to t, in place. zmont.below: the modulus is taken off, if there is too much. -/
import Derived.Test.YtnniellajmjmnaaMul
import Derived.Test.YtnniellajmjmnaaRefLess
import Derived.StillTailTactics
import Derived.Laws.IdiomCopy
import Derived.Deep.RegionHeld3
namespace Go.Proofs.Ytnniellajmjmnaa
open Go.RowKit

/-- Of what lay, all but block g lies as it lay. -/
structure Just (g : Nat) (w w' : World) : Prop where
  os : w'.os = w.os
  tape : w'.tape = w.tape
  output : w'.output = w.output
  size : w.heap.size ≤ w'.heap.size
  block : ∀ b, b < w.heap.size → b ≠ g → w'.heap[b]? = w.heap[b]?
theorem Just.refl (g : Nat) (w : World) : Just g w w := ⟨rfl, rfl, rfl, Nat.le_refl _, fun _ _ _ => rfl⟩
theorem Just.trans {g : Nat} {a b c : World} (h : Just g a b) (k : Just g b c) : Just g a c :=
  ⟨k.os.trans h.os, k.tape.trans h.tape, k.output.trans h.output, Nat.le_trans h.size k.size, fun i hi hn => (k.block i (Nat.lt_of_lt_of_le hi h.size) hn).trans (h.block i hi hn)⟩
theorem Just.set {g : Nat} {a b : World} (h : Just g a b) (i : Nat) (v : Value) : Just g a (b.setCell ⟨g, i, none⟩ v) :=
  ⟨h.os, h.tape, h.output, by simpa [World.setCell] using h.size, fun j hj hn => (Below.heap_setCell _ _ _ _ (by exact hn)).trans (h.block j hj hn)⟩
theorem Just.drewN {g : Nat} {a b : World} (h : Just g a b) (n : Nat) : Just g a (b.drewN n) := ⟨h.os, h.tape, h.output, h.size, h.block⟩
theorem Just.cell {g : Nat} {w w' : World} (h : Just g w w') {p : Addr} (hp : p.block < w.heap.size) (hn : p.block ≠ g) : w'.cell? p = w.cell? p := World.cell?_of_block (h.block _ hp hn)
theorem Just.of_below {g B : Nat} {w w' : World} (h : Below B w w') (hB : w.heap.size ≤ B) : Just g w w' := ⟨h.os, h.tape, h.output, h.size, fun b hb _ => h.block b (Nat.lt_of_lt_of_le hb hB)⟩
theorem Just.below {g B : Nat} {w w' : World} (h : Just g w w') (hB : B ≤ g) (hw : B ≤ w.heap.size) : Below B w w' := ⟨h.os, h.tape, h.output, h.size, fun b hb => h.block b (Nat.lt_of_lt_of_le hb hw) (by omega)⟩
theorem RN.just {w w' : World} {g : Nat} {P : Nat → Prop} {A : Option Addr} {c : Nat} {l : List Nat} (h : RN w P A c l) (hj : Just g w w') (hP : ∀ b, P b → b < w.heap.size ∧ b ≠ g) : RN w' P A c l :=
  h.keep fun _ hp => hj.cell (hP _ hp).1 (hP _ hp).2

/-- What the last two limbs come to. -/
theorem madd_fin {B n f c s c' : Nat} {t o b : List Nat} (_hB : 0 < B) (h : MulAt B t b f 0 o n c) (hn : b.length = n) (hl : o.length = n + 2) (he : s + B * c' = dg o n + c) (hv : val B t + f * val B b < B ^ (n + 2)) :
    dg o (n + 1) + c' < B ∧ val B ((o.set n s).set (n + 1) (dg o (n + 1) + c')) = val B t + f * val B b := by
  obtain ⟨_, h2, _⟩ := h
  rw [List.take_of_length_le (by omega), Nat.pow_zero, Nat.one_mul, Nat.zero_add] at h2
  have e1 := val_set' B (l := o) (n := n) (by omega) s
  have e2 := val_set' B (l := o.set n s) (n := n + 1) (by simp; omega) (dg o (n + 1) + c')
  rw [getD_set_ne (by omega)] at e2
  have e3 : B ^ n * (s + B * c') = B ^ n * (dg o n + c) := by rw [he]
  have p1 : B ^ n * B = B ^ (n + 1) := (Nat.pow_succ ..).symm
  rw [Nat.mul_add, Nat.mul_add, ← Nat.mul_assoc, p1] at e3
  rw [Nat.mul_add] at e2
  have hfin : val B ((o.set n s).set (n + 1) (dg o (n + 1) + c')) = val B t + f * val B b := by omega
  refine ⟨?_, hfin⟩
  rcases Nat.lt_or_ge (dg o (n + 1) + c') B with hlt | hge
  · exact hlt
  · exfalso
    have e4 := val_take_getD B ((o.set n s).set (n + 1) (dg o (n + 1) + c')) (n + 1)
    rw [List.take_of_length_le (by simp; omega), getD_set_eq (by simp; omega)] at e4
    have e5 : B ^ (n + 1) * B ≤ B ^ (n + 1) * (dg o (n + 1) + c') := Nat.mul_le_mul_left _ hge
    have p2 : B ^ (n + 1) * B = B ^ (n + 2) := (Nat.pow_succ ..).symm
    rw [p2] at e5
    omega

set_option maxRecDepth 100000 in
set_option maxHeartbeats 2000000 in
theorem madd_any (P' : Nat → Prop) (A' : Option Addr) (c' ct g f : Nat) (t b : List Nat) (w : World) (h : Blk w g t) (hL : Lim t) (h' : RN w P' A' c' b) (hP' : ∀ x, P' x → x < w.heap.size ∧ x ≠ g) (hl : t.length = b.length + 2) (hf : f < 18446744073709551616)
    (hv : val 18446744073709551616 t + f * val 18446744073709551616 b < 18446744073709551616 ^ (b.length + 2)) :
    Calls Try.prog 93 #[.slice (some ⟨g, 0, none⟩) t.length ct, .slice A' b.length c', .int .u64 (f : Int)] w fun e w' => e = .returned (.tuple #[]) ∧ ∃ o, o.length = t.length ∧ Lim o ∧ val 18446744073709551616 o = val 18446744073709551616 t + f * val 18446744073709551616 b ∧ Blk w' g o ∧ Just g w w' := by
  obtain ⟨g1, g2, g3⟩ := h'.cap
  have hlt2 := hL.2
  have Hv := Lib.hid hv
  have Hl := Lib.hid hl
  clear hv hl
  go_enter Try.func93, Try.ntmps93
  go_wp2_with fail
  go_loopw [6, 16] (fun cv jv wr => ∃ (j cr : Nat) (o : List Nat), jv = .int .i64 (j : Int) ∧ cv = .int .u64 (cr : Int) ∧ j ≤ b.length ∧ cr < 18446744073709551616 ∧ MulAt 18446744073709551616 t b f 0 o j cr ∧ Lim o ∧ Blk wr g o ∧ Just g w wr) (fun _ jv _ => b.length - (intOf jv).toNat)
  case atStart => exact ⟨0, 0, t, rfl, rfl, by omega, by omega, MulAt.zero _ _ _ _ _, hL, h, Just.refl _ _⟩
  case round =>
    clear h
    obtain ⟨j, cr, o, rfl, rfl, hj, hcr, hM, hLo, hblk, hB⟩ := hrel
    have hol : o.length = t.length := hM.1
    have hl := Hl.out
    by_cases hjt : j < b.length
    · obtain ⟨ae, rfl, _, q2⟩ := (h'.just hB hP').at_ hjt
      have hok : 0 + j < o.length := by omega
      have q3 := hblk.cell hok
      have q4 := hblk.free (0 + j)
      obtain ⟨hi', lo, s1, c1, s2, c2, b1, b2, b3, b4, b5, b6, b7, b8, b9, b10, he⟩ := mul_round f (dg b j) (dg o (0 + j)) cr hf (h'.2.dgLt j) (hLo.dgLt _) hcr
      have hmul := Lib.hid (fun w => mul64_at f (dg b j) hi' lo hf (h'.2.dgLt j) b1 b2 w)
      have hadd1 := fun w => add64_at lo (dg o (0 + j)) 0 s1 c1 (by omega) b3 b4 w
      have hadd2 := fun w => add64_at s1 cr 0 s2 c2 (by omega) b5 b6 w
      simp only [Int.cast_ofNat_Int] at hadd1 hadd2
      have hM' := hM.step hok he
      have hblk' := hblk.set (0 + j) s2
      have hLo' := hLo.set (0 + j) s2 b5
      have hB' := hB.set (0 + j) (.int .u64 (s2 : Int))
      rw [Nat.zero_add] at q3 q4 hadd1 hblk' hLo' hB' hM'
      have k1 : (j : Int) < (t.length : Int) := by omega
      clear he b2 b4 b6 hM hblk hLo hB hok hol hl
      go_wp2_with fail
      refine (hmul.out _).mono ?_
      rintro e w1 ⟨rfl, rfl⟩
      go_wp2
      go_roundw
      case rel => exact ⟨j + 1, hi' + c1 + c2, o.set j s2, by go_num, by go_num, by omega, b10, hM', hLo', hblk', hB'⟩
      case measure => simp [intOf]; omega
    · obtain rfl : j = b.length := by omega
      have q3 := hblk.cell (i := b.length) (by omega)
      have q4 := hblk.free b.length
      have q5 := hblk.cell (i := b.length + 1) (by omega)
      have q6 := hblk.free (b.length + 1)
      obtain ⟨s, c1, hs1, hs2, hs3⟩ := carry_of (dg o b.length) cr 0 (hLo.dgLt _) hcr (by omega)
      have hadd := fun w => add64_at (dg o b.length) cr 0 s c1 (by omega) hs1 hs3 w
      simp only [Int.cast_ofNat_Int] at hadd
      obtain ⟨hx, hfin⟩ := madd_fin (by omega) hM rfl (by omega) (by omega) Hv.out
      have hblk1 := hblk.set b.length s
      have q7 := hblk1.cell (i := b.length + 1) (by simp; omega)
      have q8 := hblk1.free (b.length + 1)
      rw [getD_set_ne (by omega)] at q7
      have hblk2 := hblk1.set (b.length + 1) (dg o (b.length + 1) + c1)
      have hLo2 := (hLo.set b.length s hs1).set (b.length + 1) (dg o (b.length + 1) + c1) hx
      have hB2 := (hB.set b.length (.int .u64 (s : Int))).set (b.length + 1) (.int .u64 ((dg o (b.length + 1) + c1 : Nat) : Int))
      have hx' : (dg o (b.length + 1) : Int) + (c1 : Int) < 18446744073709551616 := by omega
      have k1 : (b.length : Int) < (t.length : Int) := by omega
      have k2 : (b.length : Int) + 1 < (t.length : Int) := by omega
      have hol2 : ((o.set b.length s).set (b.length + 1) (dg o (b.length + 1) + c1)).length = t.length := by simp [hol]
      have Hfin := Lib.hid hfin
      have Hol2 := Lib.hid hol2
      clear hM hblk hblk1 hLo hB hfin hol2 hs3 hl
      go_wp2
      go_end0
      exact ⟨rfl, _, Hol2.out, hLo2, Hfin.out, by simpa using hblk2, by simpa using hB2⟩
end Go.Proofs.Ytnniellajmjmnaa

namespace Go.Proofs.Ytnniellajmjmnaa
open Go.RowKit

theorem pow64_pos (n : Nat) : 0 < 18446744073709551616 ^ n := Nat.pow_pos (by omega)
/-- Behind the last round of a difference of equally many limbs. -/
theorem SubAt.last {B : Nat} {a b o : List Nat} {k c : Nat} (h : SubAt B a b o k c) (ho : o.length = k) (ha : a.length = k) (hb : b.length = k) : val B o + val B b = val B a + B ^ k * c := by
  unfold SubAt at h
  rwa [List.take_of_length_le (by omega), List.take_of_length_le (by omega), List.take_of_length_le (by omega)] at h
/-- Limbs are copied to a row's beginning. -/
theorem copy_limbs {dT sT : TypeId} (hdT : Try.prog.underlying dT = some (.slice 54)) (w : World) (g m cd n c : Nat) (P : Nat → Prop) (A : Option Addr) (u src : List Nat) (ty : TypeId) (hu : Blk w g u) (hs : RN w P A c src) (hpos : 0 < src.length) (hn : src.length = n) (hle : n ≤ m) (hm : m ≤ u.length) :
    (Builtin.copy_ #[dT, sT] ty #[.slice (some ⟨g, 0, none⟩) m cd, .slice A n c]).run Try.prog w = .ok (goInt n) (w.setRow g (nts (src ++ u.drop n)).toArray) := by
  obtain ⟨ad, rfl, _, _⟩ := hs.at_ hpos
  have h := run_copy_row (P := Try.prog) w dT sT ty 54 g 0 m cd ad n c (nts u).toArray 54 (nts src) hdT info64size hu
    (by rw [nts_length, hn]; exact (Nat.min_eq_left hle).symm) (fun j v hj => by
      have hj' : j < src.length := by have := (List.getElem?_eq_some_iff.1 hj).1; simpa [nts] using this
      rw [hs.cells j hj']
      rw [nts_get hj'] at hj
      exact hj) (by rw [nts_length, hn]; simp [nts]; omega) (oneCell_nts src)
  rw [nts_length, hn] at h
  rw [h]
  simp [nts, List.map_drop]
theorem setRow_below {B g : Nat} {w w' : World} (h : Below B w w') (hg : B ≤ g) (v : Array Value) : Below B w (w'.setRow g v) :=
  ⟨h.os, h.tape, h.output, by have : (w'.setRow g v).heap.size = w'.heap.size := by simp [World.setRow]
                              rw [this]; exact h.size, fun k hk => by
    have : (w'.setRow g v).heap[k]? = w'.heap[k]? := by simp [World.setRow, Array.getElem?_modify, show ¬ g = k by omega]
    exact this.trans (h.block k hk)⟩
/-- What is given. -/
def offM (v M : Nat) : Nat := if v < M then v else v - M

set_option maxRecDepth 100000 in
set_option maxHeartbeats 2000000 in
theorem mbelow_any (P Pt : Nat → Prop) (Am At : Option Addr) (cm ct g over : Nat) (ml t : List Nat) (w : World) (h0 : w.cell? ⟨g, 0, none⟩ = some (.slice Am ml.length cm)) (hg : g < w.heap.size) (hm : RN w P Am cm ml) (hP : ∀ b, P b → b < w.heap.size) (ht : RN w Pt At ct t) (hPt : ∀ b, Pt b → b < w.heap.size)
    (hl : t.length = ml.length) (ho : over < 18446744073709551616) (hv : val 18446744073709551616 t + 18446744073709551616 ^ ml.length * over < 2 * val 18446744073709551616 ml) :
    Calls Try.prog 94 #[.pointer (some ⟨g, 0, none⟩), .slice At t.length ct, .int .u64 (over : Int)] w fun e w' => ∃ A' c' o, e = .returned (.slice A' ml.length c') ∧ o.length = ml.length ∧ OB w' w.heap.size A' c' o ∧
      val 18446744073709551616 o = offM (val 18446744073709551616 t + 18446744073709551616 ^ ml.length * over) (val 18446744073709551616 ml) ∧ Below w.heap.size w w' := by
  obtain ⟨m1, m2, m3⟩ := hm.cap
  obtain ⟨t1, t2, t3⟩ := ht.cap
  have hmk := run_make_row' (P := Try.prog) 22 54 (.int .u64 0) 8 Try.underlying22 info64 rfl .i64 .i64 ml.length (by omega) (by omega)
  have hvm := val_lt (B := 18446744073709551616) hm.2.1
  have hvt := val_lt (B := 18446744073709551616) ht.2.1
  rw [hl] at hvt
  have Hv := Lib.hid hv
  have Hl := Lib.hid hl
  clear hv hl
  go_enter Try.func94, Try.ntmps94
  go_wp2_with fail
  go_loopw [8, 18] (fun cv iv wr => ∃ (k cr : Nat) (o : List Nat), iv = .int .i64 (k : Int) ∧ cv = .int .u64 (cr : Int) ∧ k ≤ ml.length ∧ cr ≤ 1 ∧ SubAt 18446744073709551616 t ml o k cr ∧ Hid (o.length = ml.length) ∧ Lim o ∧ Blk wr w.heap.size o ∧ Below w.heap.size w wr) (fun _ iv _ => ml.length - (intOf iv).toNat)
  case atStart => exact ⟨0, 0, List.replicate ml.length 0, rfl, rfl, by omega, by omega, SubAt.zero _ _ _ _, Lib.hid (by simp), ⟨by simp, by simp; omega⟩, Blk.made w _, (Below.refl _ w).alloc (Nat.le_refl _) _⟩
  case round =>
    obtain ⟨k, cr, o, rfl, rfl, hk, hcr, hA, Ho, hLo, hblk, hB⟩ := hrel
    by_cases hlt : k < ml.length
    · have hlt2 : k < t.length := by have := Hl.out; omega
      obtain ⟨ad, rfl, hb1, q1⟩ := (ht.below hB hPt).at_ hlt2
      obtain ⟨ae, rfl, hb2, q2⟩ := (hm.below hB hP).at_ hlt
      have c0 := (hB.cell (p := ⟨g, 0, none⟩) hg).trans h0
      obtain ⟨s, cr', hs, hcr', he⟩ := borrow_of (dg t k) (dg ml k) cr (ht.2.dgLt k) (hm.2.dgLt k) hcr
      have hok : k < o.length := by have := Ho.out; omega
      have q3 := hblk.cell hok
      have q4 := hblk.free k
      have hA' := hA.step hok he
      have hblk' := hblk.set k s
      have hLo' := hLo.set k s hs
      have hB' := hB.setCell (p := ⟨w.heap.size, k, none⟩) (Nat.le_refl _) (.int .u64 (s : Int))
      have Ho' : Hid ((o.set k s).length = ml.length) := Lib.hid (by rw [List.length_set]; exact Ho.out)
      have hsub := fun w => sub64_at (dg t k) (dg ml k) cr s cr' hcr (ht.2.dgLt k) (hm.2.dgLt k) hs he hcr' w
      have ki : (k : Int) < (t.length : Int) := by omega
      clear he hA hblk hLo hB hok
      go_wp2_with fail
      have hfar : ∀ p : Addr, p.block < w.heap.size → (wr.setCell ⟨w.heap.size, k, none⟩ (.int .u64 (s : Int))).drew.cell? p = wr.cell? p := fun p hp => World.cell?_of_block (Below.heap_setCell _ _ _ _ (by show p.block ≠ w.heap.size; omega))
      have f0 := (hfar ⟨g, 0, none⟩ hg).trans c0
      have f1 := (hfar (ad.add k) (by rw [block_of_add]; exact hPt _ hb1)).trans q1
      have f2 := (hfar (ae.add k) (by rw [block_of_add]; exact hP _ hb2)).trans q2
      clear hfar
      go_region_held3 (fun w' => w'.cell? ⟨g, 0, none⟩ = some (.slice (some ae) ml.length cm) ∧ w'.cell? (ad.add k) = some (.int .u64 (dg t k : Int)) ∧ w'.cell? (ae.add k) = some (.int .u64 (dg ml k : Int))) (first | exact ⟨c0, q1, q2⟩ | exact ⟨f0, f1, f2⟩ | go_keep) (fail)
      go_wp2
      go_roundw
      case rel => exact ⟨k + 1, cr', o.set k s, by go_num, rfl, by omega, hcr', hA', Ho', hLo', hblk', hB'.drew⟩
      case measure => simp [intOf]; omega
    · obtain rfl : k = ml.length := by omega
      have hfin := hA.last Ho.out Hl.out rfl
      have hvo := val_lt (B := 18446744073709551616) hLo.1
      rw [Ho.out] at hvo
      have hv := Hv.out
      by_cases hcase : over < cr
      · obtain rfl : cr = 1 := by omega
        obtain rfl : over = 0 := by omega
        rw [Nat.mul_zero, Nat.add_zero] at hv
        have hoff : offM (val 18446744073709551616 t + 18446744073709551616 ^ ml.length * 0) (val 18446744073709551616 ml) = val 18446744073709551616 t := by rw [Nat.mul_zero, Nat.add_zero, offM, if_pos (by omega)]
        have hpos : 0 < t.length := by
          rcases Nat.eq_zero_or_pos t.length with h | h
          · have h1 := Hl.out
            have : ml = [] := List.eq_nil_of_length_eq_zero (by omega)
            rw [this] at hv
            simp at hv
          · exact h
        have hcp := copy_limbs (dT := 22) (sT := 22) Try.underlying22 wr w.heap.size ml.length ml.length t.length ct Pt At o t 3 hblk (ht.below hB hPt) hpos rfl (by have := Hl.out; omega) (by have := Ho.out; omega)
        rw [List.drop_of_length_le (by have := Ho.out; have := Hl.out; omega), List.append_nil] at hcp
        have hb2 := hblk.put t
        have hB2 := setRow_below hB (Nat.le_refl _) (nts t).toArray
        have hO2 : OB (wr.setRow w.heap.size (nts t).toArray) w.heap.size (some ⟨w.heap.size, 0, none⟩) ml.length t := OB.of_blk hb2 (Nat.le_refl _) ht.2 (by have := Hl.out; omega) (by unfold maxLen; omega)
        have Hoff := Lib.hid hoff
        clear hvo hv hfin hvm hvt hoff hA hblk hLo hB hb2 hpos
        go_wp2_with (at_builtin; refine wpList_copy_eq _ rfl _ _ 22 22 rfl _ _ rfl rfl hcp ?_)
        go_ret
        exact ⟨_, _, t, rfl, Hl.out, hO2, Hoff.out.symm, hB2⟩
      · have hoff : val 18446744073709551616 o = offM (val 18446744073709551616 t + 18446744073709551616 ^ ml.length * over) (val 18446744073709551616 ml) := by
          have hcr' : cr = 0 ∨ cr = 1 := by omega
          generalize 18446744073709551616 ^ ml.length = R at *
          rcases Nat.eq_zero_or_pos over with rfl | hpo
          · obtain rfl : cr = 0 := by omega
            rw [Nat.mul_zero, Nat.add_zero] at hfin hv ⊢
            rw [offM, if_neg (by omega)]
            omega
          · have h1 : R * 1 ≤ R * over := Nat.mul_le_mul_left _ hpo
            have h2 : over = 1 := by
              rcases Nat.lt_or_ge over 2 with h | h
              · omega
              · have : R * 2 ≤ R * over := Nat.mul_le_mul_left _ h
                omega
            subst h2
            rw [offM, if_neg (by omega)]
            rcases hcr' with rfl | rfl
            · rw [Nat.mul_zero, Nat.add_zero] at hfin
              omega
            · omega
        have hO2 : OB wr w.heap.size (some ⟨w.heap.size, 0, none⟩) ml.length o := OB.of_blk hblk (Nat.le_refl _) hLo (by have := Ho.out; omega) (by unfold maxLen; omega)
        have Hoff := Lib.hid hoff
        clear hvo hv hfin hvm hvt hoff hA hblk hLo
        go_wp2
        go_ret
        exact ⟨_, _, o, rfl, Ho.out, hO2, Hoff.out, hB⟩
end Go.Proofs.Ytnniellajmjmnaa
