/- What the reference's Is, and the laws' Cut and few, compute. -/
import Derived.Test.YtnniellajmjmnaaRef
namespace Go.Proofs.Ytnniellajmjmnaa
open Go.RowKit

/-- The first k digits are equal. -/
def SameTo (l m : List Nat) (k : Nat) : Prop := ∀ j, j < k → dg l j = dg m j
theorem SameTo.step {l m : List Nat} {k : Nat} (h : SameTo l m k) (he : dg l k = dg m k) : SameTo l m (k + 1) := fun j hj => by
  rcases Nat.lt_or_ge j k with h1 | h1
  · exact h j h1
  · obtain rfl : j = k := by omega
    exact he
theorem SameTo.fin {l m : List Nat} (h : SameTo l m l.length) (hl : l.length = m.length) : l = m := by
  apply List.ext_getElem hl
  intro i h1 h2
  have := h i h1
  rwa [dg, dg, getD_eq' h1, getD_eq' h2] at this

set_option maxRecDepth 100000 in
set_option maxHeartbeats 1000000 in
/-- Is, where the answer is known. -/
theorem is_bool (P P' : Nat → Prop) (A A' : Option Addr) (c c' : Nat) (l : List Nat) (x : Nat) (w : World) (h : RN w P A c l) (h' : RN w P' A' c' (digs 4294967296 x)) (hP : ∀ b, P b → b < w.heap.size) (hP' : ∀ b, P' b → b < w.heap.size) :
    Calls Try.prog 20 #[.slice A l.length c, .slice A' (digs 4294967296 x).length c'] w fun e w' => e = .returned (.bool (decide (l = digs 18446744073709551616 x))) ∧ Below w.heap.size w w' := by
  obtain ⟨h1, h2, h3⟩ := h.cap
  have ht := Lib.hid (to_any P' A' c' x w h' hP')
  have hmc := OB.cap (w := w) (base := 0) (A := none) (c := 1000000) (l := l)
  clear hmc
  generalize digs 18446744073709551616 x = m at *
  by_cases hl : l.length = m.length
  · have Hl := Lib.hid hl
    have hl1 : ((l.length : Int) != (m.length : Int)) = false := by simp [hl]
    clear hl
    go_enter Try.func20, Try.ntmps20
    go_wp2_with fail
    refine ht.out.mono ?_
    rintro e w1 ⟨A1, c1, rfl, hO, hB⟩
    obtain ⟨g1, g2, g3⟩ := hO.cap
    go_wp2
    go_loopw [6] (fun iv wr => ∃ (k n : Nat), iv = .int .i64 (k : Int) ∧ k ≤ l.length ∧ SameTo l m k ∧ wr = w1.drewN n) (fun iv _ => l.length - (intOf iv).toNat)
    case atStart => exact ⟨0, 0, rfl, by omega, fun j hj => by omega, rfl⟩
    case round =>
      obtain ⟨k, n, rfl, hk, hS, rfl⟩ := hrel
      have hlm := Hl.out
      by_cases hlt : k < l.length
      · obtain ⟨ad, rfl, had, q1⟩ := (h.below hB hP).at_ hlt
        obtain ⟨ae, rfl, hae, q2⟩ := hO.rn.at_ (i := k) (by omega)
        have k1 : (k : Int) < (m.length : Int) := by omega
        by_cases he : dg l k = dg m k
        · have hS' := hS.step he
          rw [← he] at q2
          clear hlm he hS
          go_wp2
          go_quiet (fail)
          go_wp2
          go_roundw
          case rel => exact ⟨k + 1, _, by go_num, by omega, hS', by first | rfl | exact drewN_add _ _ _⟩
          case measure => simp [intOf]; omega
        · have hne : decide (l = m) = false := by
            rw [decide_eq_false_iff_not]
            rintro rfl
            exact he rfl
          have Hne := Lib.hid hne
          have hd0 : (((dg l k : Nat) : Int) != ((dg m k : Nat) : Int)) = true := neB (by omega)
          clear hlm he hS hne
          go_wp2
          go_quiet (fail)
          go_wp2
          go_ret
          rw [Hne.out]
          exact ⟨rfl, by first | exact below_drewN hB _ | exact below_drewN (below_drewN hB _) _⟩
      · obtain rfl : k = l.length := by omega
        have he := hS.fin hlm
        have Hne := Lib.hid (show decide (l = m) = true by rw [he]; simp)
        clear hlm he hS
        go_wp2
        go_ret
        rw [Hne.out]
        exact ⟨rfl, below_drewN hB _⟩
  · have hne : decide (l = m) = false := by
      rw [decide_eq_false_iff_not]
      rintro rfl
      exact hl rfl
    have Hne := Lib.hid hne
    have hl1 : ((l.length : Int) != (m.length : Int)) = true := neB (by omega)
    clear hl hne
    go_enter Try.func20, Try.ntmps20
    go_wp2_with fail
    refine ht.out.mono ?_
    rintro e w1 ⟨A1, c1, rfl, hO, hB⟩
    go_wp2
    go_ret
    rw [Hne.out]
    exact ⟨rfl, hB⟩
theorem is_yes (P P' : Nat → Prop) (A A' : Option Addr) (c c' : Nat) (x : Nat) (w : World) (h : RN w P A c (digs 18446744073709551616 x)) (h' : RN w P' A' c' (digs 4294967296 x)) (hP : ∀ b, P b → b < w.heap.size) (hP' : ∀ b, P' b → b < w.heap.size) :
    Calls Try.prog 20 #[.slice A (digs 18446744073709551616 x).length c, .slice A' (digs 4294967296 x).length c'] w fun e w' => e = .returned (.bool true) ∧ Below w.heap.size w w' := by
  have := is_bool P P' A A' c c' _ x w h h' hP hP'
  rwa [show decide (digs 18446744073709551616 x = digs 18446744073709551616 x) = true by simp] at this

/-- The slice reads as limbs, however many. -/
def RL (w : World) (P : Nat → Prop) (A : Option Addr) (c : Nat) (l : List Nat) : Prop := RS w P 1 A l.length c (nts l) ∧ (∀ x ∈ l, x < 18446744073709551616) ∧ l.length ≤ 17592186044416
theorem RL.take {w : World} {P : Nat → Prop} {A : Option Addr} {c : Nat} {l : List Nat} (h : RL w P A c l) {n : Nat} (hn : n ≤ 1000000) (hn' : n ≤ l.length) : RN w P A c (l.take n) := by
  have := h.1.pre hn'
  rw [Nat.mul_one, nts_take] at this
  refine ⟨by rw [List.length_take, Nat.min_eq_left hn']; exact this, fun x hx => h.2.1 x (List.mem_of_mem_take hx), by rw [List.length_take]; omega⟩
theorem RL.below {w w' : World} {P : Nat → Prop} {A : Option Addr} {c B : Nat} {l : List Nat} (h : RL w P A c l) (hb : Below B w w') (hB : ∀ b, P b → b < B) : RL w' P A c l := ⟨h.1.below hb hB, h.2⟩

set_option maxHeartbeats 400000 in
theorem cut_any (P : Nat → Prop) (A : Option Addr) (c : Nat) (l : List Nat) (n : Nat) (w : World) (h : RL w P A c l) (hn : n ≤ 100000) :
    Calls Try.prog 57 #[.slice A l.length c, .int .i64 (n : Int)] w fun e w' => ∃ A1 c1, e = .returned (.slice A1 (l.take n).length c1) ∧ OB w' w.heap.size A1 c1 (l.take n) ∧ Below w.heap.size w w' := by
  obtain ⟨i0, hi, hz0, hz1, hz2⟩ := info_parts info64
  obtain ⟨⟨h1, h2, _⟩, h4, h5⟩ := id h
  unfold maxLen at h2
  by_cases hl : l.length < n
  · have ht : l.take n = l := List.take_of_length_le (by omega)
    have hR : RN w P A c l := ⟨h.1, h4, by omega⟩
    rw [ht]
    have hlB : decide (l.length < n) = true := by simpa using hl
    clear ht h4
    go_enter Try.func57, Try.ntmps57
    go_wp2_with (at_builtin; refine wpList_append_rs _ rfl _ _ 23 rfl w.heap.size 54 i0 (.int .u64 0) 1 8 Try.underlying23 hi hz0 hz1 hz2 rfl (by decide) _ 0 [] rfl (World.ownsRow_nil _ _ _ _) P A l.length c (nts l) rfl hR.1 (oneCell_nts l) l.length (by omega) (by unfold maxLen; omega) (by omega) (Nat.le_refl _) ?_)
    intro A' c' w1 hown hgrow hblk
    go_wp2
    go_ret
    exact ⟨A', c', rfl, OB.of_own (by simpa using hown) hR.2, (Below.refl _ w).grown hgrow (Nat.le_refl _) (by intro k hk; simp [Value.ownBlock] at hk)⟩
  · have hR := h.take (n := n) (by omega) (by omega)
    have hlen : (l.take n).length = n := by rw [List.length_take]; omega
    have hlB : decide (l.length < n) = false := by simpa using hl
    have k1 : (n : Int) ≤ (c : Int) := by omega
    generalize l.take n = d at *
    subst hlen
    clear h4 hl
    go_enter Try.func57, Try.ntmps57
    go_wp2_with (at_builtin; refine wpList_append_rs _ rfl _ _ 23 rfl w.heap.size 54 i0 (.int .u64 0) 1 8 Try.underlying23 hi hz0 hz1 hz2 rfl (by decide) _ 0 [] rfl (World.ownsRow_nil _ _ _ _) P A d.length c (nts d) rfl hR.1 (oneCell_nts d) d.length (by omega) (by unfold maxLen; omega) (by omega) (Nat.le_refl _) ?_)
    intro A' c' w1 hown hgrow hblk
    go_wp2
    go_ret
    exact ⟨A', c', rfl, OB.of_own (by simpa using hown) hR.2, (Below.refl _ w).grown hgrow (Nat.le_refl _) (by intro k hk; simp [Value.ownBlock] at hk)⟩
set_option maxHeartbeats 400000 in
theorem few_any (P : Nat → Prop) (A : Option Addr) (c : Nat) (l : List Nat) (w : World) (h : RL w P A c l) :
    Calls Try.prog 14 #[.slice A l.length c] w fun e w' => ∃ A1 c1, e = .returned (.slice A1 (l.take 20).length c1) ∧ OB w' w.heap.size A1 c1 (l.take 20) ∧ Below w.heap.size w w' := by
  have hc := Lib.hid (cut_any P A c l 20 w h (by omega))
  generalize l.take 20 = d at *
  go_enter Try.func14, Try.ntmps14
  go_wp2_with fail
  refine hc.out.mono ?_
  rintro e w1 ⟨A', c', rfl, hO, hB⟩
  go_wp2
  go_ret
  exact ⟨A', c', rfl, hO, hB⟩
end Go.Proofs.Ytnniellajmjmnaa
