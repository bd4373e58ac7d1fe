/- What attrs.Match and the reference's Match compute. -/
import Derived.Test.YtpikikaoelnheaaEq
namespace Go.Proofs.Ytpikikaoelnheaa
open Go.RowKit

/-- Whether an object has all values of a template. -/
def okAt (l : List (Int × List Nat)) (x : Int × List Nat) : Bool := decide (seek l x.1 = some x.2)
def matchOf (l t : List (Int × List Nat)) : Bool := t.all (okAt l)
/-- The first k match. -/
def allTo (l t : List (Int × List Nat)) (k : Nat) : Prop := ∀ x ∈ t.take k, okAt l x = true
theorem allTo_zero (l t : List (Int × List Nat)) : allTo l t 0 := by intro x hx; simp at hx
theorem allTo_succ {l t : List (Int × List Nat)} {k : Nat} (h : allTo l t k) (hk : k < t.length) (he : okAt l t[k] = true) : allTo l t (k + 1) := by
  intro x hx
  rw [List.take_succ_eq_append_getElem hk] at hx
  rcases List.mem_append.1 hx with hx | hx
  · exact h x hx
  · obtain rfl := List.mem_singleton.1 hx
    exact he
theorem matchOf_no {l t : List (Int × List Nat)} {k : Nat} (hk : k < t.length) (he : okAt l t[k] = false) : matchOf l t = false := by
  rw [matchOf, List.all_eq_false]
  exact ⟨t[k], List.getElem_mem hk, by simp [he]⟩
theorem matchOf_yes {l t : List (Int × List Nat)} (h : allTo l t t.length) : matchOf l t = true := by
  rw [matchOf, List.all_eq_true]
  intro x hx
  exact h x (by simpa using hx)

set_option maxHeartbeats 800000 in
theorem match_any (P P' : Nat → Prop) (A A' : Option Addr) (c c' : Nat) (l t : List (Int × List Nat)) (w : World) (hv : RA w P A c l) (hP : ∀ b, P b → b < w.heap.size) (hv' : RA w P' A' c' t) (hP' : ∀ b, P' b → b < w.heap.size) :
    Calls Try.prog 40 #[.slice A l.length c, .slice A' t.length c'] w fun e w' => e = .returned (.bool (matchOf l t)) ∧ Below w.heap.size w w' := by
  obtain ⟨hlc, hc⟩ := hv.cap
  obtain ⟨hlc', hc'⟩ := hv'.cap
  go_enter Try.func40, Try.ntmps40
  go_wp2
  go_loopw [11] (fun i wr => ∃ k : Nat, k ≤ t.length ∧ i = .int .i64 k ∧ allTo l t k ∧ Below w.heap.size w wr) (fun i _ => t.length - (intOf i).toNat)
  case atStart => exact ⟨0, Nat.zero_le _, rfl, allTo_zero l t, Below.refl _ _⟩
  case round =>
    obtain ⟨k, hk, rfl, hno, hB⟩ := hrel
    by_cases hlt : k < t.length
    · have hvr := hv.below hB hP
      have hvr' := hv'.below hB hP'
      obtain ⟨ad, Au, cu, rfl, hb, hc1, hc2, hu⟩ := hvr'.at_ hlt
      have hs := hB.size
      obtain ⟨x, hx⟩ : ∃ x, t[k] = x := ⟨_, rfl⟩
      rw [hx] at hc1 hc2 hu
      have Hx := Lib.hid (show okAt l t[k] = decide (seek l x.1 = some x.2) by rw [hx]; rfl)
      clear hx
      obtain ⟨o, ho⟩ : ∃ o, seek l x.1 = o := ⟨_, rfl⟩
      have Ho := Lib.hid ho
      clear ho
      have hP1 : ∀ b, P b → b < wr.heap.size := fun b hb => Nat.lt_of_lt_of_le (hP b hb) hs
      have hP1' : ∀ b, P' b → b < wr.heap.size := fun b hb => Nat.lt_of_lt_of_le (hP' b hb) hs
      go_wp2_with fail
      refine (get_any P A c l x.1 _ (hvr.keep fun p hp => World.cell?_alloc_lt wr _ p (hP1 _ hp)) fun b hb => by have := hP1 b hb; simp; omega).mono ?_
      rw [Ho.out]
      rcases o with _ | bs
      · rintro e w1 ⟨A1, c1, rfl, hr, hB1⟩
        go_wp2
        go_ret
        exact ⟨by rw [matchOf_no hlt (by rw [Hx.out, Ho.out]; rfl)]; rfl, (hB.alloc hs _).trans (hB1.mono (by simp; omega))⟩
      · rintro e w1 ⟨A1, c1, rfl, hr, hB1⟩
        have hu1 : RB w1 P' Au cu x.2 := (hu.keep fun p hp => World.cell?_alloc_lt wr _ p (hP1' _ hp)).below hB1 fun b hb => by have := hP1' b hb; simp; omega
        have hcell : w1.cell? ⟨wr.heap.size, 1, none⟩ = some (.slice Au x.2.length cu) := (hB1.cell (p := ⟨wr.heap.size, 1, none⟩) (by simp)).trans (by simp [go_sem])
        go_wp2_with fail
        refine (equal_any _ P' _ Au _ cu bs x.2 w1 hr hu1).mono ?_
        by_cases he : bs = x.2
        · subst he
          rintro e w2 ⟨rfl, rfl⟩
          go_wp2
          go_roundw
          case rel => exact ⟨k + 1, by omega, by go_num, allTo_succ hno hlt (by rw [Hx.out, Ho.out]; simp), (hB.alloc hs _).trans (hB1.mono (by simp; omega))⟩
          case measure => simp [intOf]; omega
        · have hne : decide (bs = x.2) = false := by simp [he]
          rw [hne]
          clear hne
          rintro e w2 ⟨rfl, rfl⟩
          go_wp2
          go_ret
          exact ⟨by rw [matchOf_no hlt (by rw [Hx.out, Ho.out]; simp [he])]; rfl, (hB.alloc hs _).trans (hB1.mono (by simp; omega))⟩
    · have hm : matchOf l t = true := matchOf_yes ((show k = t.length by omega) ▸ hno)
      have Hm := Lib.hid hm
      clear hm
      go_wp2
      go_ret
      exact ⟨by rw [Hm.out]; rfl, hB⟩

set_option maxHeartbeats 800000 in
theorem refMatch_any (P P' : Nat → Prop) (A A' : Option Addr) (c c' : Nat) (l t : List (Int × List Nat)) (w : World) (hv : RA w P A c l) (hv' : RA w P' A' c' t) :
    Calls Try.prog 15 #[.slice A l.length c, .slice A' t.length c'] w fun e w' => e = .returned (.bool (matchOf l t)) ∧ ∃ n, w' = w.drewN n := by
  obtain ⟨hlc, hc⟩ := hv.cap
  obtain ⟨hlc', hc'⟩ := hv'.cap
  go_enter Try.func15, Try.ntmps15
  go_wp2
  go_loopw [5] (fun i wr => ∃ k : Nat, k ≤ t.length ∧ i = .int .i64 k ∧ allTo l t k ∧ ∃ n, wr = w.drewN n) (fun i _ => t.length - (intOf i).toNat)
  case atStart => exact ⟨0, Nat.zero_le _, rfl, allTo_zero l t, 0, rfl⟩
  case round =>
    obtain ⟨k, hk, rfl, hno, n, rfl⟩ := hrel
    by_cases hlt : k < t.length
    · obtain ⟨ad, Au, cu, rfl, hb, hc1, hc2, hu⟩ := hv'.at_ hlt
      obtain ⟨x, hx⟩ : ∃ x, t[k] = x := ⟨_, rfl⟩
      rw [hx] at hc1 hc2 hu
      have Hx := Lib.hid (show okAt l t[k] = decide (seek l x.1 = some x.2) by rw [hx]; rfl)
      clear hx
      obtain ⟨o, ho⟩ : ∃ o, seek l x.1 = o := ⟨_, rfl⟩
      have Ho := Lib.hid ho
      clear ho
      go_wp2_with fail
      refine (refGet_any P A c l x.1 _ (show RA (w.drewN n) P A c l from hv)).mono ?_
      rw [Ho.out]
      rcases o with _ | bs
      · rintro e w1 ⟨A1, c1, rfl, hr, rfl⟩
        go_wp2_with fail
        go_quiet (fail)
        go_wp2
        go_ret
        exact ⟨by rw [matchOf_no hlt (by rw [Hx.out, Ho.out]; rfl)]; rfl, _, World.drewN_drewN _ _ _⟩
      · rintro e w1 ⟨A1, c1, rfl, hr, rfl⟩
        have s1 := fun m => RB.str (P := Try.prog) (show RB (w.drewN m) P A1 c1 bs from hr) 46 5 9 Try.underlying46 Try.underlying5 Try.underlying9
        have s2 := fun m => RB.str (P := Try.prog) (show RB (w.drewN m) P' Au cu x.2 from hu) 46 5 9 Try.underlying46 Try.underlying5 Try.underlying9
        by_cases he : bs = x.2
        · subst he
          go_wp2_with fail
          go_quiet (fail)
          go_wp2
          go_roundw
          case rel => exact ⟨k + 1, by omega, by go_num, allTo_succ hno hlt (by rw [Hx.out, Ho.out]; simp), _, rfl⟩
          case measure => simp [intOf]; omega
        · have hne : ((strB bs).toList == (strB x.2).toList) = false := by
            rw [beq_eq_false_iff_ne]
            exact fun h1 => he (strB_inj hr.2.1 hu.2.1 h1)
          go_wp2_with fail
          go_quiet (fail)
          go_wp2
          go_ret
          exact ⟨by rw [matchOf_no hlt (by rw [Hx.out, Ho.out]; simp [he])]; rfl, _, World.drewN_drewN _ _ _⟩
    · have hm : matchOf l t = true := matchOf_yes ((show k = t.length by omega) ▸ hno)
      have Hm := Lib.hid hm
      clear hm
      go_wp2
      go_ret
      exact ⟨by rw [Hm.out]; rfl, n, rfl⟩

end Go.Proofs.Ytpikikaoelnheaa
