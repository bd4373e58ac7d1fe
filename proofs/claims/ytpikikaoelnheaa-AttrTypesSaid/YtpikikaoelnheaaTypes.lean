/- What attrs.Types hands over: the types that have a form, rising. -/
import Derived.Test.YtpikikaoelnheaaForm
import Derived.Test.YtpikikaoelnheaaIter
import Derived.TacticsInMore
import Derived.LoopNIn
import Derived.LoopIn
namespace Go.Proofs.Ytpikikaoelnheaa
open Go.RowKit

attribute [local go_sem] Oper.semAt_some

/-- Has it a form? -/
def formed (t : Nat) : Bool := decide (formOf (t : Int) ≠ 0)
/-- The types below n that have a form. -/
def tysTo (n : Nat) : List Nat := (List.range n).filter formed
def cnt (n : Nat) : Nat := (tysTo n).length
theorem tysTo_succ (n : Nat) : tysTo (n + 1) = tysTo n ++ if formed n then [n] else [] := by
  simp only [tysTo, List.range_succ, List.filter_append, List.filter_cons, List.filter_nil]
theorem cnt_yes {n : Nat} (h : formed n = true) : cnt (n + 1) = cnt n + 1 := by simp [cnt, tysTo_succ, h]
theorem cnt_no {n : Nat} (h : formed n = false) : cnt (n + 1) = cnt n := by simp [cnt, tysTo_succ, h]
theorem tysTo_pre {n m : Nat} (h : n ≤ m) : ∃ l, tysTo m = tysTo n ++ l := by
  induction m with
  | zero => obtain rfl : n = 0 := by omega
            exact ⟨[], by simp⟩
  | succ m ih =>
    rcases Nat.lt_or_ge m n with h1 | h1
    · obtain rfl : n = m + 1 := by omega
      exact ⟨[], by simp⟩
    · obtain ⟨l, hl⟩ := ih h1
      rw [tysTo_succ, hl, List.append_assoc]
      exact ⟨_, rfl⟩
/-- The k-th type that has a form. -/
def tyAt (k : Nat) : Nat := (tysTo 386).getD k 0
theorem tyAt_cnt {t : Nat} (h : formed t = true) (ht : t < 386) : tyAt (cnt t) = t := by
  obtain ⟨l, hl⟩ := tysTo_pre (show t + 1 ≤ 386 by omega)
  rw [tysTo_succ t, if_pos h] at hl
  rw [tyAt, hl, cnt, List.getD_eq_getElem?_getD]
  simp
theorem cnt_mono {m n : Nat} (h : m ≤ n) : cnt m ≤ cnt n := by
  obtain ⟨l, hl⟩ := tysTo_pre h
  rw [cnt, cnt, hl]; simp
theorem cnt_lt {t : Nat} (h : formed t = true) (ht : t < 386) : cnt t < cnt 386 := by
  have h1 := cnt_yes h
  have h2 := cnt_mono (show t + 1 ≤ 386 by omega)
  omega

set_option maxRecDepth 100000 in
set_option maxHeartbeats 1000000 in
theorem types_seq (w : World) : SeqAt Try.prog 51 #[] (fun k => #[.int .i64 (tyAt k : Int)]) TPlain (fun _ _ => True) (cnt 386) true w := by
  intro n l J J' Jx W _ _ _ hJ hJ' hJx hT _ hY h0
  obtain ⟨N, hN⟩ : ∃ N, cnt 386 = N := ⟨_, rfl⟩
  have HN := Lib.hid hN
  rw [hN] at hT hY ⊢
  clear hN
  have hle : ∀ t, t ≤ 386 → cnt t ≤ N := fun t ht => by rw [← HN.out]; exact cnt_mono ht
  have hlt : ∀ t, formed t = true → t < 386 → cnt t < N := fun t h ht => by rw [← HN.out]; exact cnt_lt h ht
  have Hlt := Lib.hid hlt
  have Hle := Lib.hid hle
  have HT := Lib.hid hT
  have HY := Lib.hid hY
  clear hlt hle hT hY
  refine callsIn_of_wp Try.func51 rfl trivial ?_ rfl
  simp only [Try.ntmps51, List.size_toArray, List.length_cons, List.length_nil, Nat.reduceAdd, Nat.reduceSub, Array.replicate_succ, Array.replicate_zero, List.push_toArray, List.append_toArray, List.nil_append, List.cons_append]
  gi_wp2
  gi_loopw [3] (fun i wr => ∃ t : Nat, t ≤ 386 ∧ i = .int .i64 (t : Int) ∧ J (cnt t) wr) (fun i _ => 386 - (intOf i).toNat)
  case atStart => exact ⟨0, by omega, rfl, h0⟩
  case round =>
    obtain ⟨t, ht, rfl, hj⟩ := hrel
    by_cases hlt : t < 386
    · have hf := callsIn_wide (n := n - 1) |>.2 (form_any (t : Int) wr)
      have Hf := Lib.hid hf
      clear hf
      by_cases h : formed t = true
      · have h1 : (formOf (t : Int) != 0) = true := by simpa [formed] using h
        obtain ⟨fn, tmps, assign, body, hy, hRo⟩ := HY.out (cnt t) wr (HT.out _ _ _ (by have := Hlt.out t h hlt; omega) hj (World.grownBy.refl wr none)) (Hlt.out t h hlt)
        rw [tyAt_cnt h hlt] at hy
        have hc := Lib.hid (cnt_yes h)
        generalize formOf (t : Int) = f at *
        gi_wp2
        refine ⟨trivial, Hf.out.mono ?_⟩
        rintro e w' ⟨rfl, rfl⟩
        gi_wp2
        refine hRo.mono ?_
        rintro e W3 (⟨rfl, hJ3, _, _⟩ | ⟨rfl, hJx3, _⟩)
        · gi_wp2
          go_roundw
          case rel => exact ⟨t + 1, by omega, by go_num, by rw [hc.out]; exact hJ3⟩
          case measure => simp [intOf]; omega
        · gi_wp2
          refine bodyPost_ret (results_none rfl _ _ _) rfl ?_
          exact ⟨⟨_, rfl⟩, .inr ⟨cnt t + 1, by omega, by have := Hlt.out t h hlt; omega, hJx3⟩⟩
      · have h1 : formOf (t : Int) = 0 := by simpa [formed] using h
        rw [h1] at Hf
        have hc := Lib.hid (cnt_no (Bool.not_eq_true _ ▸ h))
        clear h1
        gi_wp2
        refine ⟨trivial, Hf.out.mono ?_⟩
        rintro e w' ⟨rfl, rfl⟩
        gi_wp2
        refine ⟨fun _ _ => trivial, ?_⟩
        gi_wp2
        go_roundw
        case rel => exact ⟨t + 1, by omega, by go_num, by rw [hc.out]; exact hj⟩
        case measure => simp [intOf]; omega
    · obtain rfl : t = 386 := by omega
      have hN := HN.out
      rw [hN] at hj
      have hj' := HT.out _ _ _ (Nat.le_refl _) hj (World.grownBy.refl wr none)
      clear hN
      gi_wp2
      go_end0
      exact ⟨⟨_, rfl⟩, .inl hj'⟩
end Go.Proofs.Ytpikikaoelnheaa
