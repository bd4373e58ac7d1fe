/- What the reference's Get and attrs.Get compute: the value of the first attribute of a type. -/
import Derived.Test.YtpikikaoelnheaaRows
import Derived.Test.YtpikikaoelnheaaBase
namespace Go.Proofs.Ytpikikaoelnheaa
open Go.RowKit

/-- The value of the first attribute of type t. -/
def seek (l : List (Int × List Nat)) (t : Int) : Option (List Nat) := (l.find? fun x => x.1 == t).map (·.2)
/-- None of the first k is of type t. -/
def noneOf (l : List (Int × List Nat)) (t : Int) (k : Nat) : Prop := ∀ x ∈ l.take k, (x.1 == t) = false
theorem noneOf_zero (l : List (Int × List Nat)) (t : Int) : noneOf l t 0 := by intro x hx; simp at hx
theorem noneOf_succ {l : List (Int × List Nat)} {t : Int} {k : Nat} (h : noneOf l t k) (hk : k < l.length) (hne : (l[k].1 == t) = false) : noneOf l t (k + 1) := by
  intro x hx
  rw [List.take_succ_eq_append_getElem hk] at hx
  rcases List.mem_append.1 hx with hx | hx
  · exact h x hx
  · obtain rfl := List.mem_singleton.1 hx
    exact hne
theorem seek_hit {l : List (Int × List Nat)} {t : Int} {k : Nat} (h : noneOf l t k) (hk : k < l.length) (he : (l[k].1 == t) = true) : seek l t = some l[k].2 := by
  have h1 : l.find? (fun x => x.1 == t) = some l[k] := by
    rw [List.find?_eq_some_iff_append]
    refine ⟨he, l.take k, l.drop (k + 1), by rw [List.getElem_cons_drop, List.take_append_drop], fun x hx => by simpa using h x hx⟩
  simp [seek, h1]
theorem seek_miss {l : List (Int × List Nat)} {t : Int} (h : noneOf l t l.length) : seek l t = none := by
  have h1 : l.find? (fun x => x.1 == t) = none := by
    rw [List.find?_eq_none]
    intro x hx
    have := h x (by simpa using hx)
    simp [this]
  simp [seek, h1]

set_option maxHeartbeats 400000 in
theorem refGet_any (P : Nat → Prop) (A : Option Addr) (c : Nat) (l : List (Int × List Nat)) (t : Int) (w : World) (hv : RA w P A c l) :
    Calls Try.prog 33 #[.slice A l.length c, .int .i64 t] w fun e w' => ∃ A' c', e = .returned (.tuple #[.slice A' ((seek l t).getD []).length c', .bool (seek l t).isSome]) ∧ RB w P A' c' ((seek l t).getD []) ∧ w = w' := by
  obtain ⟨hlc, hc⟩ := hv.cap
  go_enter Try.func33, Try.ntmps33
  go_wp2
  go_loop [6] (fun i => ∃ k : Nat, k ≤ l.length ∧ i = .int .i64 k ∧ noneOf l t k) (fun i => l.length - (intOf i).toNat)
  case atStart => exact ⟨0, Nat.zero_le _, rfl, noneOf_zero l t⟩
  case round =>
    obtain ⟨k, hk, rfl, hno⟩ := hrel
    by_cases hlt : k < l.length
    · obtain ⟨ad, A', c', rfl, hb, hc1, hc2, hu⟩ := hv.at_ hlt
      go_wp2
      · go_ret2
        refine ⟨A', c', ?_, ?_, rfl⟩ <;> rw [seek_hit hno hlt (by assumption)]
        · rfl
        · exact hu
      · go_round
        case rel => exact ⟨k + 1, by omega, by go_num, noneOf_succ hno hlt (by assumption)⟩
        case measure => simp [intOf]; omega
    · have hm : seek l t = none := seek_miss ((show k = l.length by omega) ▸ hno)
      have Hm := Lib.hid hm
      clear hm
      go_wp2
      go_ret2
      refine ⟨none, 0, ?_, ?_, rfl⟩ <;> rw [Hm.out]
      · rfl
      · exact RB.nil_ _ _

theorem info5 : (Try.prog.info? 5).map (fun i => (i.zero, i.size, i.bytes)) = some (some (.int .u8 0), 1, 1) := by kernel_rfl
theorem oneCell_bys (bs : List Nat) : ∀ u ∈ bys bs, u.oneCell' = true := by
  intro u hu
  obtain ⟨x, _, rfl⟩ := List.mem_map.1 hu
  rfl

/-- Behind an append onto an empty row: the bytes are new. -/
theorem RB.of_own {w : World} {base : Nat} {e : TypeId} {A : Option Addr} {c : Nat} {bs : List Nat} (h : w.ownsRow base e 1 (.slice A bs.length c) bs.length (bys bs)) (hb : ∀ b ∈ bs, b < 256) (hl : bs.length ≤ 140737488355328) : RB w (In base w.heap.size) A c bs :=
  ⟨RS.of_own h, hb, hl⟩

set_option maxHeartbeats 400000 in
theorem clone_any (P : Nat → Prop) (A : Option Addr) (c : Nat) (bs : List Nat) (w : World) (h : RB w P A c bs) (hP : ∀ b, P b → b < w.heap.size) :
    Calls Try.prog 52 #[.slice A bs.length c] w fun e w' => ∃ A' c', e = .returned (.slice A' bs.length c') ∧ RB w' (In w.heap.size w'.heap.size) A' c' bs ∧ Below w.heap.size w w' := by
  obtain ⟨i0, hi, hz0, hz1, hz2⟩ := info_parts info5
  have q22 : ∀ (w : World) (a : Option Addr) (n c n' c' : Nat), (binOp .eql 46 (.slice a n c) (.slice none n' c')).run Try.prog w = .ok (.bool a.isNone) w := fun w a n c n' c' => Lib.run_eql_slice_nil w _ _ a n c n' c' Try.underlying46
  obtain ⟨h1, h2, h3⟩ := h.cap
  have hc0 := h.2.1
  rcases A with _ | ad
  · have hl : bs.length = 0 := by
      rcases Nat.eq_zero_or_pos bs.length with h0 | h0
      · exact h0
      · obtain ⟨ad, h, _⟩ := h.1.2.2.2 h0
        cases h
    obtain rfl := List.eq_nil_of_length_eq_zero hl
    clear hl
    go_enter Try.func52, Try.ntmps52
    go_wp2
    go_ret
    exact ⟨none, 0, rfl, RB.nil_ _ _, Below.refl _ _⟩
  · have h' : RS (w.alloc (.cells #[] 5)) P 1 (some ad) bs.length c (bys bs) := h.1.keep fun p hp => World.cell?_alloc_lt w _ p (hP _ hp)
    clear h
    go_enter Try.func52, Try.ntmps52
    go_wp2_with (at_builtin; refine wpList_append_rs _ rfl _ _ 46 rfl w.heap.size 5 i0 (.int .u8 0) 1 1 Try.underlying46 hi hz0 hz1 hz2 rfl (by decide) _ _ _ rfl (World.ownsRow_made w #[] 0 (Nat.le_refl _) (Nat.zero_le _) rfl) P (some ad) bs.length c (bys bs) rfl h' (oneCell_bys bs) bs.length (by omega) (by unfold maxLen; omega) (by omega) (by simp) ?_)
    intro A' c' w1 hown hgrow _
    go_wp2
    go_ret
    exact ⟨A', c', rfl, RB.of_own (by simpa using hown) hc0 h3, ((Below.refl _ w).alloc (Nat.le_refl _) _).grown hgrow (by simp) (by intro k hk; simp [Value.ownBlock] at hk; omega)⟩

set_option maxHeartbeats 400000 in
theorem get_any (P : Nat → Prop) (A : Option Addr) (c : Nat) (l : List (Int × List Nat)) (t : Int) (w : World) (hv : RA w P A c l) (hP : ∀ b, P b → b < w.heap.size) :
    Calls Try.prog 32 #[.slice A l.length c, .int .i64 t] w fun e w' => ∃ A' c', e = .returned (.tuple #[.slice A' ((seek l t).getD []).length c', .bool (seek l t).isSome]) ∧
      RB w' (In w.heap.size w'.heap.size) A' c' ((seek l t).getD []) ∧ Below w.heap.size w w' := by
  obtain ⟨hlc, hc⟩ := hv.cap
  go_enter Try.func32, Try.ntmps32
  go_wp2
  go_loopw [10] (fun i wr => ∃ k : Nat, k ≤ l.length ∧ i = .int .i64 k ∧ noneOf l t k ∧ Below w.heap.size w wr) (fun i _ => l.length - (intOf i).toNat)
  case atStart => exact ⟨0, Nat.zero_le _, rfl, noneOf_zero l t, Below.refl _ _⟩
  case round =>
    obtain ⟨k, hk, rfl, hno, hB⟩ := hrel
    by_cases hlt : k < l.length
    · have hv' := hv.below hB hP
      obtain ⟨ad, A', c', rfl, hb, hc1, hc2, hu⟩ := hv'.at_ hlt
      have hs := hB.size
      go_wp2_with fail
      · refine (clone_any P _ _ _ _ (hu.keep fun p hp => ?_) fun b hb => ?_).mono ?_
        · have := hP _ hp
          exact World.cell?_alloc_lt wr _ p (by omega)
        · have := hP b hb
          simp; omega
        · rintro e w1 ⟨A1, c1, rfl, hr, hB1⟩
          go_wp2
          go_ret2
          refine ⟨A1, c1, ?_, ?_, ?_⟩
          · rw [seek_hit hno hlt (by assumption)]
            rfl
          · rw [seek_hit hno hlt (by assumption)]
            refine hr.mono fun b hb => ⟨?_, hb.2⟩
            have := hb.1
            simp at this
            omega
          · exact (hB.alloc hs _).trans (hB1.mono (by simp; omega))
      · go_roundw
        case rel => exact ⟨k + 1, by omega, by go_num, noneOf_succ hno hlt (by assumption), hB.alloc hs _⟩
        case measure => simp [intOf]; omega
    · have hm : seek l t = none := seek_miss ((show k = l.length by omega) ▸ hno)
      have Hm := Lib.hid hm
      clear hm
      go_wp2
      go_ret2
      refine ⟨none, 0, ?_, ?_, hB⟩ <;> rw [Hm.out]
      · rfl
      · exact RB.nil_ _ _

end Go.Proofs.Ytpikikaoelnheaa
