/- What the reference's Eq, Clone and Put compute. -/
import Derived.Test.YtpikikaoelnheaaNum
namespace Go.Proofs.Ytpikikaoelnheaa
open Go.RowKit

theorem take_succ_eq {α : Type} {l l' : List α} {k : Nat} (h : l.take k = l'.take k) (hk : k < l.length) (hk' : k < l'.length) (he : l[k] = l'[k]) : l.take (k + 1) = l'.take (k + 1) := by
  rw [List.take_succ_eq_append_getElem hk, List.take_succ_eq_append_getElem hk', h, he]
theorem take_ne {α : Type} {l l' : List α} {k : Nat} (hk : k < l.length) (hk' : k < l'.length) (he : l[k] ≠ l'[k]) : l ≠ l' := by
  rintro rfl
  exact he rfl

set_option maxRecDepth 100000 in
set_option maxHeartbeats 800000 in
theorem eq_any (P P' : Nat → Prop) (A A' : Option Addr) (c c' : Nat) (l l' : List (Int × List Nat)) (w : World) (hv : RA w P A c l) (hv' : RA w P' A' c' l') :
    Calls Try.prog 38 #[.slice A l.length c, .slice A' l'.length c'] w fun e w' => e = .returned (.bool (decide (l = l'))) ∧ ∃ n, w' = w.drewN n := by
  obtain ⟨hlc, hc⟩ := hv.cap
  obtain ⟨hlc', hc'⟩ := hv'.cap
  by_cases hlen : l.length = l'.length
  · have Hlen := Lib.hid hlen
    have e1 : ((l.length : Int) == (l'.length : Int)) = true := by simp; omega
    clear hlen
    go_enter Try.func38, Try.ntmps38
    go_wp2
    go_loopw [5] (fun i wr => ∃ k : Nat, k ≤ l.length ∧ i = .int .i64 k ∧ l.take k = l'.take k ∧ ∃ n, wr = w.drewN n) (fun i _ => l.length - (intOf i).toNat)
    case atStart => exact ⟨0, Nat.zero_le _, rfl, rfl, 0, rfl⟩
    case round =>
      obtain ⟨k, hk, rfl, htk, n, rfl⟩ := hrel
      have Htk := Lib.hid htk
      clear htk
      by_cases hlt : k < l.length
      · have hlt' : k < l'.length := by have := Hlen.out; omega
        obtain ⟨ad, Au, cu, rfl, hb, hc1, hc2, hu⟩ := hv.at_ hlt
        obtain ⟨ad', Au', cu', rfl, hb', hc1', hc2', hu'⟩ := hv'.at_ hlt'
        obtain ⟨x, hx⟩ : ∃ x, l[k] = x := ⟨_, rfl⟩
        obtain ⟨x', hx'⟩ : ∃ x', l'[k] = x' := ⟨_, rfl⟩
        rw [hx] at hc1 hc2 hu
        rw [hx'] at hc1' hc2' hu'
        have s1 := fun m => RB.str (P := Try.prog) (show RB (w.drewN m) P Au cu x.2 from hu) 46 5 9 Try.underlying46 Try.underlying5 Try.underlying9
        have s2 := fun m => RB.str (P := Try.prog) (show RB (w.drewN m) P' Au' cu' x'.2 from hu') 46 5 9 Try.underlying46 Try.underlying5 Try.underlying9
        have Hx := Lib.hid hx
        have Hx' := Lib.hid hx'
        clear hx hx'
        by_cases ht : x.1 = x'.1
        · have ht1 : (x.1 != x'.1) = false := by simp [ht]
          have Ht := Lib.hid ht
          clear ht
          by_cases he : x.2 = x'.2
          · have hne : ((strB x.2).toList == (strB x'.2).toList) = true := by rw [he]; simp
            have He := Lib.hid he
            clear he
            go_wp2_with fail
            go_quiet (fail)
            go_wp2
            go_roundw
            case rel => exact ⟨k + 1, by omega, by go_num, take_succ_eq Htk.out hlt hlt' (by rw [Hx.out, Hx'.out]; exact Prod.ext Ht.out He.out), _, rfl⟩
            case measure => simp [intOf]; omega
          · have hne : ((strB x.2).toList == (strB x'.2).toList) = false := by
              rw [beq_eq_false_iff_ne]
              exact fun h1 => he (strB_inj hu.2.1 hu'.2.1 h1)
            have hd := Lib.hid (show decide (l = l') = false by simp; exact take_ne hlt hlt' (by rw [Hx.out, Hx'.out]; intro e; exact he (by rw [e])))
            clear he
            go_wp2_with fail
            go_quiet (fail)
            go_wp2
            go_ret
            exact ⟨by rw [hd.out]; rfl, _, World.drewN_drewN _ _ _⟩
        · have ht1 : (x.1 != x'.1) = true := by simp [ht]
          have hd := Lib.hid (show decide (l = l') = false by simp; exact take_ne hlt hlt' (by rw [Hx.out, Hx'.out]; intro e; exact ht (by rw [e])))
          clear ht
          go_wp2_with fail
          go_quiet (fail)
          go_wp2
          go_ret
          exact ⟨by rw [hd.out]; rfl, _, World.drewN_drewN _ _ _⟩
      · have hd := Lib.hid (show decide (l = l') = true by
          have e := Htk.out
          have h2 := Hlen.out
          rw [List.take_of_length_le (by omega), List.take_of_length_le (by omega)] at e
          simp [e])
        go_wp2
        go_ret
        exact ⟨by rw [hd.out]; rfl, _, rfl⟩
  · have e1 : ((l.length : Int) == (l'.length : Int)) = false := by simp; omega
    have hd := Lib.hid (show decide (l = l') = false by simp; rintro rfl; exact hlen rfl)
    clear hlen
    go_enter Try.func38, Try.ntmps38
    go_wp2
    go_ret
    exact ⟨by rw [hd.out]; rfl, 0, rfl⟩

set_option maxRecDepth 100000 in
set_option maxHeartbeats 1600000 in
theorem refClone_any (P : Nat → Prop) (A : Option Addr) (c : Nat) (l : List (Int × List Nat)) (w : World) (hv : RA w P A c l) (hP : ∀ b, P b → b < w.heap.size) (hl : l.length ≤ 1000000) :
    Calls Try.prog 46 #[.slice A l.length c] w fun e w' => ∃ A' c' cs, e = .returned (.slice A' l.length c') ∧ OA w' w.heap.size A' c' l cs ∧ Below w.heap.size w w' := by
  obtain ⟨hlc, hc⟩ := hv.cap
  obtain ⟨i0, hi, hz0, hz1, hz2⟩ := info_parts info5
  obtain ⟨i1, hj, hy0, hy1, hy2⟩ := info_parts info48
  go_enter Try.func46, Try.ntmps46
  go_wp2
  go_loopw [3, 4] (fun v i wr => ∃ (k : Nat) (A' : Option Addr) (c' : Nat) (cs : List Value), k ≤ l.length ∧ i = .int .i64 k ∧ v = .slice A' k c' ∧ OA wr w.heap.size A' c' (l.take k) cs ∧ Below w.heap.size w wr) (fun _ i _ => l.length - (intOf i).toNat)
  case atStart => exact ⟨0, none, 0, [], Nat.zero_le _, rfl, rfl, OA.nil_ _ _, Below.refl _ _⟩
  case round =>
    obtain ⟨k, A', c', cs, hk, rfl, rfl, hO, hB⟩ := hrel
    have hs := hB.size
    by_cases hlt : k < l.length
    · obtain ⟨ad, Au, cu, rfl, hb, hc1, hc2, hu⟩ := (hv.below hB hP).at_ hlt
      have hP1 : ∀ b, P b → b < wr.heap.size := fun b hb => Nat.lt_of_lt_of_le (hP b hb) hs
      obtain ⟨x, hx⟩ : ∃ x, l[k] = x := ⟨_, rfl⟩
      rw [hx] at hc1 hc2 hu
      have hu1 := hu.cap
      have Hm := Lib.hid (show (l.take k).length = k by simp; omega)
      have Hs := Lib.hid (show l.take (k + 1) = l.take k ++ [x] by rw [List.take_succ_eq_append_getElem hlt, hx])
      have hown : wr.ownsRow w.heap.size 48 2 (.slice A' k c') k cs := Hm.out ▸ hO.1
      have hne : (Value.slice A' k c').ownBlock ≠ some ad.block := by
        intro e
        have := hown.lt _ e
        have := hP _ hb
        omega
      have hadlt := hP1 _ hb
      have HO := Lib.hid hO
      clear hx hO
      go_wp2_with fail
      go_region_held3 (fun w' => w'.cell? (ad.add (k * 2)) = some (.int .i64 x.1) ∧ w'.cell? ⟨(ad.add (k * 2)).block, (ad.add (k * 2)).off + 1, none⟩ = some (.slice Au x.2.length cu))
        (first
          | go_keep
          | ((try dsimp only); refine ⟨?_, ?_⟩ <;> (first | go_keep | (rw [hg1.cell_far _ (by simp [block_of_add]; omega) (by simp [Value.ownBlock])]; assumption) | (go_split_ands; rw [hg2.cell_far _ (by have := hg1.size; simp [block_of_add] at this ⊢; omega) (fun e => hne (by simpa [block_of_add] using e.symm))]; go_keep))))
        (first
          | (refine step_append_rs _ (by rfl) _ _ _ (by rfl) wr.heap.size 5 i0 _ 1 1 Try.underlying46 hi hz0 hz1 hz2 rfl (by omega) (.slice none 0 0) 0 [] (by rfl) (World.ownsRow_nil _ _ _ _) P Au x.2.length cu (bys x.2) (by rfl) hu.1 (oneCell_bys _) x.2.length (by omega) (by unfold maxLen; omega) (by omega) (by simp) ?_; intro A1 c1 w1 hown1 hg1 hor1)
          | (have _t := hg1; refine step_append_rs _ (by rfl) _ _ _ (by rfl) w.heap.size 48 i1 _ 2 32 Try.underlying24 hj hy0 hy1 hy2 rfl (by omega) (.slice A' k c') k cs (by rfl) ((own_kept (w := wr.drew) hown hg1).alloc _) (fun _ => True) (some ⟨w1.heap.size, 0, none⟩) 1 1 [.int .i64 x.1, .slice A1 x.2.length c1] (by rfl) (RS.fresh #[.int .i64 x.1, .slice A1 x.2.length c1] 48 2 1 rfl (by unfold maxLen; omega) trivial) (by simp [Value.oneCell']) (k + 1) rfl (by unfold maxLen; omega) (by omega) (by have := hg1.size; simp at this ⊢; omega) ?_; intro A2 c2 w2 hown2 hg2 hor2))
      have hb1 : Below wr.heap.size wr w1 := (Below.refl wr.heap.size wr).drew.grown hg1 (Nat.le_refl _) (by simp [Value.ownBlock])
      have hb2 := hb1.alloc hb1.size (.cells #[.int .i64 x.1, .slice A1 x.2.length c1] 48)
      have hu2 : RB w1 (In wr.heap.size w1.heap.size) A1 c1 x.2 := RB.of_own (by simpa using hown1) hu.2.1 (by omega)
      have hO' := Lib.hid (OA.snoc (x := x) HO.out Hm.out hb2 ((hu2.keep fun p hp => World.cell?_alloc_lt w1 _ p hp.2).mono fun b hb => ⟨hb.1, by have := hb.2; simp; omega⟩) hs hown2 hg2 hor2)
      have hB' := (hB.trans (hb2.mono hs)).grown hg2 (by have := hb1.size; simp; omega) (fun g hg => (hown.lt g hg).1)
      rw [← Hs.out] at hO'
      clear hg1 hor1 hg2 hor2 hown1 hown2 hb1 hb2 hu2 _t
      go_wp2
      go_roundw
      case rel => exact ⟨k + 1, A2, c2, _, by omega, by go_num, rfl, hO'.out, hB'⟩
      case measure => simp [intOf]; omega
    · have e := Lib.hid (show l.take k = l by rw [List.take_of_length_le (by omega)])
      have ek := Lib.hid (show k = l.length by omega)
      go_wp2
      go_ret
      exact ⟨A', c', cs, by rw [← ek.out]; rfl, by have := hO; rwa [e.out] at this, hB⟩
end Go.Proofs.Ytpikikaoelnheaa
