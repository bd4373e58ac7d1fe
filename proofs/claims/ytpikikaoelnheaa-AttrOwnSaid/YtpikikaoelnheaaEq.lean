/- What bytes.Equal, attrs.Flag and the reference's Flag, find.Seen, Match and the reference's Match compute. -/
import Derived.Test.YtpikikaoelnheaaGet
import Derived.Laws.BytesArg
import Derived.Lib.Bytes
import Derived.BigQuiet
import Derived.Deep.QuietTactic
namespace Go.Proofs.Ytpikikaoelnheaa
open Go.RowKit

/-- Bytes as a string. -/
def strB (bs : List Nat) : ByteArray := strOfNums (bs.map fun b : Nat => (b : Int))
theorem strB_nil : strB [] = ByteArray.empty := rfl
theorem strB_inj {a b : List Nat} (ha : ∀ x ∈ a, x < 256) (hb : ∀ x ∈ b, x < 256) (h : (strB a).toList = (strB b).toList) : a = b := by
  have e : ∀ l : List Nat, (∀ x ∈ l, x < 256) → (strB l).toList.map UInt8.toNat = l := by
    intro l hl
    rw [strB, Lib.strOfNums_toList, Lib.bytesOf]
    simp only [List.map_map]
    conv => rhs; rw [← List.map_id l]
    apply List.map_congr_left
    intro x hx
    have := hl x hx
    simp
    omega
  rw [← e a ha, ← e b hb, h]

section
variable {w : World} {Q : Nat → Prop} {A : Option Addr} {c : Nat} {bs : List Nat}
theorem RB.str {P : Program} (h : RB w Q A c bs) (src e dst : TypeId) (hs : P.underlying src = some (.slice e)) (he : P.underlying e = some (.int .u8)) (hd : P.underlying dst = some .string) :
    (convert src dst (.slice A bs.length c)).run P w = .ok (.string (strB bs)) w := by
  rcases A with _ | ad
  · have hl : bs.length = 0 := by
      rcases Nat.eq_zero_or_pos bs.length with h0 | h0
      · exact h0
      · obtain ⟨ad, h, _⟩ := h.1.2.2.2 h0
        cases h
    obtain rfl := List.eq_nil_of_length_eq_zero hl
    rw [run_convert_bytes_nil w src e hs he _ _ dst hd]
    rfl
  · have hc : ∀ j v, (bys bs)[j]? = some v → w.cell? (ad.add j) = some v := by
      intro j v hj
      rcases Nat.eq_zero_or_pos bs.length with h0 | h0
      · obtain rfl := List.eq_nil_of_length_eq_zero h0
        simp [bys] at hj
      · obtain ⟨ad', h, _, hc⟩ := h.1.2.2.2 h0
        injection h with h
        subst h
        exact hc j v hj
    have hl : (loadCells ad bs.length).run P w = .ok ((bs.map fun b : Nat => (b : Int)).map (Value.int .u8)).toArray w := by
      have := run_loadCells_list (P := P) w ad (bys bs) hc
      simpa [bys, Function.comp_def] using this
    rw [run_convert_bytes_string w src dst e _ _ c hs he hd, run_bytesToString w _ _ c _ hl, foldl_push_bytes]
    simp [strB, strOfNums, ByteArray.empty, ByteArray.emptyWithCapacity]
    rfl
end

set_option maxHeartbeats 400000 in
theorem equal_any (P P' : Nat → Prop) (A A' : Option Addr) (c c' : Nat) (bs bs' : List Nat) (w : World) (h : RB w P A c bs) (h' : RB w P' A' c' bs') :
    Calls Try.prog 56 #[.slice A bs.length c, .slice A' bs'.length c'] w fun e w' => e = .returned (.bool (decide (bs = bs'))) ∧ w = w' := by
  have s1 := h.str (P := Try.prog) 46 5 9 Try.underlying46 Try.underlying5 Try.underlying9
  have s2 := h'.str (P := Try.prog) 46 5 9 Try.underlying46 Try.underlying5 Try.underlying9
  by_cases e : bs = bs'
  · subst e
    go_enter Try.func56, Try.ntmps56
    go_wp2
    go_ret
    exact ⟨by simp, rfl⟩
  · have hne : ((strB bs).toList == (strB bs').toList) = false := by
      rw [beq_eq_false_iff_ne]
      exact fun h1 => e (strB_inj h.2.1 h'.2.1 h1)
    go_enter Try.func56, Try.ntmps56
    go_wp2
    go_ret
    exact ⟨by simp [e], rfl⟩

/-- The truth of a flag. -/
def flagOf (l : List (Int × List Nat)) (t : Int) : Bool := decide ((seek l t) = some [1])

theorem flagOf_eq {l : List (Int × List Nat)} {t : Int} {o : Option (List Nat)} (h : seek l t = o) : flagOf l t = decide (o = some [1]) := by rw [flagOf, h]

set_option maxHeartbeats 400000 in
theorem flag_any (P : Nat → Prop) (A : Option Addr) (c : Nat) (l : List (Int × List Nat)) (t : Int) (w : World) (hv : RA w P A c l) (hP : ∀ b, P b → b < w.heap.size) :
    Calls Try.prog 37 #[.slice A l.length c, .int .i64 t] w fun e w' => e = .returned (.bool (flagOf l t)) ∧ Below w.heap.size w w' := by
  have hg := Lib.hid (get_any P A c l t w hv hP)
  obtain ⟨o, ho⟩ : ∃ o, seek l t = o := ⟨_, rfl⟩
  rw [flagOf_eq ho]
  rw [ho] at hg
  clear ho
  rcases o with _ | bs
  · go_enter Try.func37, Try.ntmps37
    go_wp2_with fail
    refine hg.out.mono ?_
    rintro e w1 ⟨A1, c1, rfl, hr, hB⟩
    go_wp2
    go_ret
    exact ⟨by simp, hB⟩
  · by_cases h1 : bs.length = 1
    · obtain ⟨x, rfl⟩ : ∃ x, bs = [x] := by
        match bs, h1 with
        | [x], _ => exact ⟨x, rfl⟩
      clear h1
      by_cases hx : x = 1
      · subst hx
        go_enter Try.func37, Try.ntmps37
        go_wp2_with fail
        refine hg.out.mono ?_
        rintro e w1 ⟨A1, c1, rfl, hr, hB⟩
        obtain ⟨ad, rfl, hp, hc, _⟩ := hr.at_ (i := 0) (by simp)
        simp [Addr.add] at hc
        go_wp2
        go_ret
        exact ⟨by simp, hB⟩
      · have hx' : ((x : Int) == 1) = false := by simp; omega
        go_enter Try.func37, Try.ntmps37
        go_wp2_with fail
        refine hg.out.mono ?_
        rintro e w1 ⟨A1, c1, rfl, hr, hB⟩
        obtain ⟨ad, rfl, hp, hc, _⟩ := hr.at_ (i := 0) (by simp)
        simp [Addr.add] at hc
        go_wp2
        go_ret
        exact ⟨by simp [hx], hB⟩
    · have h1' : ((bs.length : Int) == 1) = false := by simp; omega
      go_enter Try.func37, Try.ntmps37
      go_wp2_with fail
      refine hg.out.mono ?_
      rintro e w1 ⟨A1, c1, rfl, hr, hB⟩
      simp only [Option.getD_some]
      go_wp2
      go_ret
      exact ⟨by simp; intro e; simp [e] at h1, hB⟩

set_option maxHeartbeats 400000 in
theorem refFlag_any (P : Nat → Prop) (A : Option Addr) (c : Nat) (l : List (Int × List Nat)) (t : Int) (w : World) (hv : RA w P A c l) :
    Calls Try.prog 13 #[.slice A l.length c, .int .i64 t] w fun e w' => e = .returned (.bool (flagOf l t)) ∧ w = w' := by
  have hg := Lib.hid (refGet_any P A c l t w hv)
  obtain ⟨o, ho⟩ : ∃ o, seek l t = o := ⟨_, rfl⟩
  rw [flagOf_eq ho]
  rw [ho] at hg
  clear ho
  rcases o with _ | bs
  · go_enter Try.func13, Try.ntmps13
    go_wp2_with fail
    refine hg.out.mono ?_
    rintro e w1 ⟨A1, c1, rfl, hr, rfl⟩
    go_wp2
    go_ret
    exact ⟨by simp, rfl⟩
  · by_cases h1 : bs.length = 1
    · obtain ⟨x, rfl⟩ : ∃ x, bs = [x] := by
        match bs, h1 with
        | [x], _ => exact ⟨x, rfl⟩
      clear h1
      by_cases hx : x = 1
      · subst hx
        go_enter Try.func13, Try.ntmps13
        go_wp2_with fail
        refine hg.out.mono ?_
        rintro e w1 ⟨A1, c1, rfl, hr, rfl⟩
        obtain ⟨ad, rfl, hp, hc, _⟩ := hr.at_ (i := 0) (by simp)
        simp [Addr.add] at hc
        go_wp2
        go_ret
        exact ⟨by simp, rfl⟩
      · have hx' : ((x : Int) == 1) = false := by simp; omega
        go_enter Try.func13, Try.ntmps13
        go_wp2_with fail
        refine hg.out.mono ?_
        rintro e w1 ⟨A1, c1, rfl, hr, rfl⟩
        obtain ⟨ad, rfl, hp, hc, _⟩ := hr.at_ (i := 0) (by simp)
        simp [Addr.add] at hc
        go_wp2
        go_ret
        exact ⟨by simp [hx], rfl⟩
    · have h1' : ((bs.length : Int) == 1) = false := by simp; omega
      go_enter Try.func13, Try.ntmps13
      go_wp2_with fail
      refine hg.out.mono ?_
      rintro e w1 ⟨A1, c1, rfl, hr, rfl⟩
      simp only [Option.getD_some]
      go_wp2
      go_ret
      exact ⟨by simp; intro e; simp [e] at h1, rfl⟩

set_option maxHeartbeats 400000 in
theorem seen_any (P : Nat → Prop) (A : Option Addr) (c : Nat) (l : List (Int × List Nat)) (u : Bool) (w : World) (hv : RA w P A c l) (hP : ∀ b, P b → b < w.heap.size) :
    Calls Try.prog 14 #[.slice A l.length c, .bool u] w fun e w' => e = .returned (.bool (u || !flagOf l 2)) ∧ Below w.heap.size w w' := by
  cases u
  · go_enter Try.func14, Try.ntmps14
    go_wp2_with fail
    refine (flag_any P A c l 2 w hv hP).mono ?_
    rintro e w1 ⟨rfl, hB⟩
    go_wp2
    go_ret
    exact ⟨by simp, hB⟩
  · go_enter Try.func14, Try.ntmps14
    go_wp2
    go_ret
    exact ⟨by simp, Below.refl _ _⟩

end Go.Proofs.Ytpikikaoelnheaa
