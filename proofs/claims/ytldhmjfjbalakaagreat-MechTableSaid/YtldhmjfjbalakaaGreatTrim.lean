/- What limb.trim, made, Of, Norm and the reference's trim compute. -/
import Derived.Test.YtldhmjfjbalakaaGreatMem
namespace Go.Proofs.YtldhmjfjbalakaaGreat
open Go.RowKit

/-- How far the noughts at the end are cut, so far. -/
def CutAt (l : List Nat) (k : Nat) : Prop := k ≤ l.length ∧ ∀ x ∈ l.drop k, x = 0
theorem CutAt.zero (l : List Nat) : CutAt l l.length := ⟨Nat.le_refl _, by simp⟩
theorem CutAt.step {l : List Nat} {k : Nat} (h : CutAt l (k + 1)) (h0 : dg l k = 0) : CutAt l k := by
  obtain ⟨h1, h2⟩ := h
  refine ⟨by omega, fun x hx => ?_⟩
  rw [List.drop_eq_getElem_cons (by omega : k < l.length)] at hx
  rcases List.mem_cons.1 hx with rfl | hx
  · rwa [getD_eq (by omega)] at h0
  · exact h2 x hx
theorem CutAt.fin {B : Nat} (hB : 2 ≤ B) {l : List Nat} (hl : ∀ x ∈ l, x < B) {k : Nat} (h : CutAt l k) (h0 : 0 < k → dg l (k - 1) ≠ 0) : l.take k = digs B (val B l) :=
  take_digs hB hl h.1 h.2 h0
theorem CutAt.len {B : Nat} (hB : 2 ≤ B) {l : List Nat} (hl : ∀ x ∈ l, x < B) {k : Nat} (h : CutAt l k) (h0 : 0 < k → dg l (k - 1) ≠ 0) : (digs B (val B l)).length = k := by
  rw [← h.fin hB hl h0, List.length_take, Nat.min_eq_left h.1]

set_option maxHeartbeats 400000 in
theorem trim_any (P : Nat → Prop) (A : Option Addr) (c : Nat) (l : List Nat) (w : World) (h : RN w P A c l) :
    Calls Tryz.prog 113 #[.slice A l.length c] w fun e w' => e = .returned (.slice A (digs 18446744073709551616 (val 18446744073709551616 l)).length c) ∧ w = w' := by
  obtain ⟨h1, h2, h3⟩ := h.cap
  go_enter Tryz.func113, Tryz.ntmps113
  go_wp2
  go_loop [3] (fun n => ∃ k : Nat, CutAt l k ∧ n = .int .i64 k) (fun n => (intOf n).toNat)
  case atStart => exact ⟨l.length, CutAt.zero l, rfl⟩
  case round =>
    obtain ⟨k, hk, rfl⟩ := hrel
    rcases k with _ | k
    · have hl := Lib.hid (hk.len (B := 18446744073709551616) (by omega) h.2.1 (by omega))
      go_wp2
      go_ret
      rw [hl.out]
      exact ⟨rfl, rfl⟩
    · obtain ⟨ad, rfl, _, hc⟩ := h.at_ (i := k) (by have := hk.1; omega)
      have hkl := hk.1
      by_cases h0 : dg l k = 0
      · rw [h0] at hc
        have hk' := hk.step h0
        clear hk h0
        go_wp2
        go_round
        case rel => exact ⟨k, hk', by go_num⟩
        case measure => simp [intOf]
      · have hl := Lib.hid (hk.len (B := 18446744073709551616) (by omega) h.2.1 (fun _ => h0))
        have h0' : (((dg l k : Nat) : Int) == 0) = false := eqB (by omega)
        clear h0
        go_wp2
        go_ret
        rw [hl.out]
        exact ⟨rfl, rfl⟩

/-- What is read of a cut slice. -/
theorem RN.trim {w : World} {P : Nat → Prop} {A : Option Addr} {c : Nat} {l : List Nat} (h : RN w P A c l) : RN w P A c (digs 18446744073709551616 (val 18446744073709551616 l)) := by
  obtain ⟨n, _, e⟩ := h.2.trim
  rw [e]
  exact h.take n
theorem OB.trim {w : World} {base : Nat} {A : Option Addr} {c : Nat} {l : List Nat} (h : OB w base A c l) : OB w base A c (digs 18446744073709551616 (val 18446744073709551616 l)) := by
  obtain ⟨n, _, e⟩ := h.1.trim
  rw [e]
  exact h.take n

/-- Digits to the base 2^32. -/
def Dig (l : List Nat) : Prop := ∀ x ∈ l, x < 4294967296
theorem Dig.cut {l : List Nat} (h : Dig l) : ∃ n, n ≤ l.length ∧ l.take n = digs 4294967296 (val 4294967296 l) := by
  have : ∀ k, k ≤ l.length → (∀ x ∈ l.drop k, x = 0) → ∃ n, n ≤ l.length ∧ (∀ x ∈ l.drop n, x = 0) ∧ (0 < n → l.getD (n - 1) 0 ≠ 0) := by
    intro k
    induction k with
    | zero => intro _ hz; exact ⟨0, by omega, hz, by omega⟩
    | succ k ih =>
      intro hk hz
      by_cases h : l.getD k 0 = 0
      · refine ih (by omega) fun x hx => ?_
        rw [List.drop_eq_getElem_cons (by omega : k < l.length)] at hx
        rcases List.mem_cons.1 hx with rfl | hx
        · rwa [show l.getD k 0 = l[k] from getD_eq (by omega)] at h
        · exact hz x hx
      · exact ⟨k + 1, hk, hz, fun _ => by simpa using h⟩
  obtain ⟨n, hn, hz, h0⟩ := this l.length (Nat.le_refl _) (by simp)
  exact ⟨n, hn, take_digs (by omega) h hn hz h0⟩
theorem RS.recap {w : World} {P : Nat → Prop} {size : Nat} {A : Option Addr} {n c c' : Nat} {cs : List Value} (h : RS w P size A n c cs) (hc : n ≤ c') (hc' : c' ≤ maxLen) : RS w P size A n c' cs := ⟨hc, hc', h.2.2⟩
theorem RN.trim32 {w : World} {P : Nat → Prop} {A : Option Addr} {c : Nat} {l : List Nat} (h : RN w P A c l) (hl : Dig l) : RN w P A (digs 4294967296 (val 4294967296 l)).length (digs 4294967296 (val 4294967296 l)) := by
  obtain ⟨n, _, e⟩ := hl.cut
  rw [← e]
  have := h.take n
  exact ⟨this.1.recap (Nat.le_refl _) (by have := this.cap; unfold maxLen; omega), this.2⟩
theorem RN.recap {w : World} {P : Nat → Prop} {A : Option Addr} {c c' : Nat} {l : List Nat} (h : RN w P A c l) (hc : l.length ≤ c') (hc' : c' ≤ maxLen) : RN w P A c' l := ⟨h.1.recap hc hc', h.2⟩

set_option maxHeartbeats 400000 in
theorem refTrim_any (P : Nat → Prop) (A : Option Addr) (c : Nat) (l : List Nat) (w : World) (h : RN w P A c l) (hd : Dig l) :
    Calls Tryz.prog 86 #[.slice A l.length c] w fun e w' => e = .returned (.slice A (digs 4294967296 (val 4294967296 l)).length (digs 4294967296 (val 4294967296 l)).length) ∧ w = w' := by
  obtain ⟨h1, h2, h3⟩ := h.cap
  go_enter Tryz.func86, Tryz.ntmps86
  go_wp2
  go_loop [3] (fun n => ∃ k : Nat, CutAt l k ∧ n = .int .i64 k) (fun n => (intOf n).toNat)
  case atStart => exact ⟨l.length, CutAt.zero l, rfl⟩
  case round =>
    obtain ⟨k, hk, rfl⟩ := hrel
    rcases k with _ | k
    · have hl := Lib.hid (hk.len (B := 4294967296) (by omega) hd (by omega))
      go_wp2
      go_ret
      rw [hl.out]
      exact ⟨rfl, rfl⟩
    · obtain ⟨ad, rfl, _, hc⟩ := h.at_ (i := k) (by have := hk.1; omega)
      have hkl := hk.1
      by_cases h0 : dg l k = 0
      · rw [h0] at hc
        have hk' := hk.step h0
        clear hk h0
        go_wp2
        go_round
        case rel => exact ⟨k, hk', by go_num⟩
        case measure => simp [intOf]
      · have hl := Lib.hid (hk.len (B := 4294967296) (by omega) hd (fun _ => h0))
        have h0' : (((dg l k : Nat) : Int) == 0) = false := eqB (by omega)
        clear h0
        go_wp2
        go_ret
        rw [hl.out]
        exact ⟨rfl, rfl⟩

set_option maxHeartbeats 400000 in
theorem made_any (P : Nat → Prop) (A : Option Addr) (c : Nat) (l : List Nat) (w : World) (h : RN w P A c l) :
    Calls Tryz.prog 131 #[.slice A l.length c] w fun e w' => ∃ A' c', e = .returned (.slice A' (digs 18446744073709551616 (val 18446744073709551616 l)).length c') ∧ OB w' w.heap.size A' c' (digs 18446744073709551616 (val 18446744073709551616 l)) ∧ Below w.heap.size w w' := by
  obtain ⟨i0, hi, hz0, hz1, hz2⟩ := info_parts info64
  have ht := h.trim
  obtain ⟨n, _, e⟩ := h.2.trim
  have hcap := ht.cap
  obtain ⟨d, hd⟩ : ∃ d, digs 18446744073709551616 (val 18446744073709551616 l) = d := ⟨_, rfl⟩
  have Htr := Lib.hid (trim_any P A c l w h)
  rw [hd] at ht hcap Htr ⊢
  obtain ⟨h1, h2, h3⟩ := hcap
  clear hd e
  go_enter Tryz.func131, Tryz.ntmps131
  go_wp2_with fail
  refine Htr.out.mono ?_
  rintro e w1 ⟨rfl, rfl⟩
  go_wp2_with (at_builtin; refine wpList_append_rs _ rfl _ _ 91 rfl w.heap.size 90 i0 (.int .u64 0) 1 8 Tryz.underlying91 hi hz0 hz1 hz2 rfl (by decide) _ 0 [] rfl (World.ownsRow_nil _ _ _ _) P A d.length c (nts d) rfl ht.1 (oneCell_nts d) d.length (by omega) (by unfold maxLen; omega) (by omega) (Nat.le_refl _) ?_)
  intro A' c' w1 hown hgrow hblk
  go_wp2
  go_ret
  exact ⟨A', c', rfl, OB.of_own (by simpa using hown) ht.2, (Below.refl _ w).grown hgrow (Nat.le_refl _) (by intro k hk; simp [Value.ownBlock] at hk)⟩

set_option maxHeartbeats 400000 in
theorem norm_any (P : Nat → Prop) (A : Option Addr) (c : Nat) (l : List Nat) (w : World) (h : RN w P A c l) :
    Calls Tryz.prog 115 #[.slice A l.length c] w fun e w' => ∃ A' c', e = .returned (.slice A' (digs 18446744073709551616 (val 18446744073709551616 l)).length c') ∧ OB w' w.heap.size A' c' (digs 18446744073709551616 (val 18446744073709551616 l)) ∧ Below w.heap.size w w' := by
  go_enter Tryz.func115, Tryz.ntmps115
  go_wp2_with fail
  refine (made_any P A c l w h).mono ?_
  rintro e w1 ⟨A', c', rfl, hO, hB⟩
  go_wp2
  go_ret
  exact ⟨A', c', rfl, hO, hB⟩

set_option maxHeartbeats 400000 in
theorem of_any (x : Nat) (w : World) (hx : x < 18446744073709551616) :
    Calls Tryz.prog 112 #[.int .u64 (x : Int)] w fun e w' => ∃ A' c', e = .returned (.slice A' (digs 18446744073709551616 x).length c') ∧ OB w' w.heap.size A' c' (digs 18446744073709551616 x) ∧ Below w.heap.size w w' := by
  have hv : val 18446744073709551616 [x] = x := by simp
  have hm := fun P A c w => made_any P A c [x] w
  rw [hv] at hm
  have Hm := Lib.hid hm
  clear hm hv
  go_enter Tryz.func112, Tryz.ntmps112
  go_wp2_with fail
  refine (Hm.out (In w.heap.size (w.heap.size + 1)) _ _ _ ⟨RS.fresh #[.int .u64 (x : Int)] 90 1 1 rfl (by unfold maxLen; omega) ⟨Nat.le_refl _, by omega⟩, by simpa [Lim] using hx⟩).mono ?_
  rintro e w1 ⟨A', c', rfl, hO, hB⟩
  go_wp2
  go_ret
  exact ⟨A', c', rfl, hO.mono (by simp), ((Below.refl _ w).alloc (Nat.le_refl _) _).trans (hB.mono (by simp))⟩
end Go.Proofs.YtldhmjfjbalakaaGreat
