/- What attrs.Form, attrs.Fine and the reference's compute. -/
import Derived.Test.YtpikikaoelnheaaBytes
namespace Go.Proofs.Ytpikikaoelnheaa
open Go.RowKit

/-- The form of a type, by its number. -/
def formOf (t : Int) : Int :=
  if t ∈ [1, 2, 259, 260, 261, 262, 263, 264, 266, 268, 354, 355, 356, 357, 368, 369] then 1
  else if t ∈ [0, 256, 289, 353] then 2
  else if t ∈ [3, 17, 258, 384, 385] then 3
  else if t ∈ [288, 290, 291, 292, 293] then 4
  else 0
theorem formOf_cases (t : Int) : formOf t = 0 ∨ formOf t = 1 ∨ formOf t = 2 ∨ formOf t = 3 ∨ formOf t = 4 := by
  unfold formOf
  repeat' split
  all_goals simp

set_option maxHeartbeats 4000000 in
theorem form_any (t : Int) (w : World) :
    Calls Try.prog 27 #[.int .i64 t] w fun e w' => e = .returned (.int .i64 (formOf t)) ∧ w = w' := by
  go_enter Try.func27, Try.ntmps27
  go_wp2
  all_goals (go_ret; exact ⟨ret_int (by simp_all [formOf]), rfl⟩)
set_option maxHeartbeats 4000000 in
theorem refForm_any (t : Int) (w : World) :
    Calls Try.prog 28 #[.int .i64 t] w fun e w' => e = .returned (.int .i64 (formOf t)) ∧ w = w' := by
  go_enter Try.func28, Try.ntmps28
  go_wp2
  all_goals (go_ret; exact ⟨ret_int (by simp_all [formOf]), rfl⟩)

/-- Whether a value is of its type's form. -/
def fineF (f : Int) (bs : List Nat) : Bool :=
  if f = 1 then bs.length == 1 && decide (bs.getD 0 0 < 2)
  else if f = 2 then bs.length == 4
  else if f = 3 then decide (bs.length ≤ 16384)
  else if f = 4 then decide (0 < bs.length) && decide (bs.length ≤ 512) && !(bs.getD 0 0 == 0)
  else false
def fineOf (a : Int × List Nat) : Bool := fineF (formOf a.1) a.2

set_option maxRecDepth 100000 in
set_option maxHeartbeats 2000000 in
theorem fine_any (P : Nat → Prop) (a : Int × List Nat) (A : Option Addr) (c : Nat) (w : World) (ha : RB w P A c a.2) (hP : ∀ b, P b → b < w.heap.size) :
    Calls Try.prog 29 #[.agg #[.int .i64 a.1, .slice A a.2.length c]] w fun e w' => e = .returned (.bool (fineOf a)) ∧ Below w.heap.size w w' := by
  obtain ⟨t, bs⟩ := a
  have hcap := ha.cap
  obtain ⟨h1, h2, h3⟩ := hcap
  have hB : ∀ o : Obj, Below w.heap.size w (w.alloc o) := fun o => (Below.refl _ w).alloc (Nat.le_refl _) o
  have hcell : 0 < bs.length → ∃ ad x r, A = some ad ∧ bs = x :: r ∧ ad.block < w.heap.size ∧ w.cell? ad = some (.int .u8 (x : Int)) := fun h => by
    obtain ⟨ad, e, hp, hc, _⟩ := ha.at_ (i := 0) h
    match bs, h with
    | x :: r, _ =>
      simp [Addr.add] at hc
      exact ⟨ad, x, r, e, rfl, hP _ hp, hc⟩
  have Hcell := Lib.hid hcell
  clear hcell
  have Hp : ∀ b, Hid (fineF (formOf t) bs = b) → fineOf (t, bs) = b := fun b h => h.out
  have HP := Lib.hid Hp
  clear Hp
  have hfm := Lib.hid (form_any t)
  rcases formOf_cases t with hf | hf | hf | hf | hf
  all_goals
    have Hf := hfm
    rw [hf] at Hf HP
    clear hf hfm
  · have hr := Lib.hid (HP.out false (show _ = _ from rfl))
    go_enter Try.func29, Try.ntmps29
    go_wp2_with fail
    refine (Hf.out _).mono ?_
    rintro e w1 ⟨rfl, rfl⟩
    go_wp2
    go_ret
    exact ⟨by rw [hr.out]; first | rfl | (simp; omega), hB _⟩
  · by_cases hl : bs.length = 1
    · obtain ⟨ad, x, r, rfl, rfl, had, hc⟩ := Hcell.out (by omega)
      obtain rfl : r = [] := by simpa using hl
      clear hl
      by_cases hx : x < 2
      · have hr := Lib.hid (HP.out true (show _ = _ by simp [fineF, hx]))
        go_enter Try.func29, Try.ntmps29
        go_wp2_with fail
        refine (Hf.out _).mono ?_
        rintro e w1 ⟨rfl, rfl⟩
        go_wp2
        go_ret
        exact ⟨by rw [hr.out]; first | rfl | (simp; omega), hB _⟩
      · have hr := Lib.hid (HP.out false (show _ = _ by simp [fineF, hx]))
        go_enter Try.func29, Try.ntmps29
        go_wp2_with fail
        refine (Hf.out _).mono ?_
        rintro e w1 ⟨rfl, rfl⟩
        go_wp2
        go_ret
        exact ⟨by rw [hr.out]; first | rfl | (simp; omega), hB _⟩
    · have hl' : ((bs.length : Int) == 1) = false := by simp; omega
      have hr := Lib.hid (HP.out false (show _ = _ by simp [fineF, hl]))
      go_enter Try.func29, Try.ntmps29
      go_wp2_with fail
      refine (Hf.out _).mono ?_
      rintro e w1 ⟨rfl, rfl⟩
      go_wp2
      go_ret
      exact ⟨by rw [hr.out]; first | rfl | (simp; omega), hB _⟩
  · by_cases hl : bs.length = 4
    · have hr := Lib.hid (HP.out true (show _ = _ by simp [fineF, hl]))
      have hl' : ((bs.length : Int) == 4) = true := by simp; omega
      clear hl
      go_enter Try.func29, Try.ntmps29
      go_wp2_with fail
      refine (Hf.out _).mono ?_
      rintro e w1 ⟨rfl, rfl⟩
      go_wp2
      go_ret
      exact ⟨by rw [hr.out]; first | rfl | (simp; omega), hB _⟩
    · have hl' : ((bs.length : Int) == 4) = false := by simp; omega
      have hr := Lib.hid (HP.out false (show _ = _ by simp [fineF, hl]))
      go_enter Try.func29, Try.ntmps29
      go_wp2_with fail
      refine (Hf.out _).mono ?_
      rintro e w1 ⟨rfl, rfl⟩
      go_wp2
      go_ret
      exact ⟨by rw [hr.out]; first | rfl | (simp; omega), hB _⟩
  · by_cases hl : bs.length ≤ 16384
    · have hr := Lib.hid (HP.out true (show _ = _ by simp [fineF, hl]))
      have hl' : decide ((bs.length : Int) ≤ 16384) = true := by simp; omega
      go_enter Try.func29, Try.ntmps29
      go_wp2_with fail
      refine (Hf.out _).mono ?_
      rintro e w1 ⟨rfl, rfl⟩
      go_wp2
      go_ret
      exact ⟨by rw [hr.out]; first | rfl | (simp; omega), hB _⟩
    · have hl' : decide ((bs.length : Int) ≤ 16384) = false := by simp; omega
      have hr := Lib.hid (HP.out false (show _ = _ by simp [fineF, hl]))
      go_enter Try.func29, Try.ntmps29
      go_wp2_with fail
      refine (Hf.out _).mono ?_
      rintro e w1 ⟨rfl, rfl⟩
      go_wp2
      go_ret
      exact ⟨by rw [hr.out]; first | rfl | (simp; omega), hB _⟩
  · by_cases hl0 : 0 < bs.length
    · by_cases hl : bs.length ≤ 512
      · obtain ⟨ad, x, r, rfl, rfl, had, hc⟩ := Hcell.out hl0
        have hl5 : (r.length : Int) + 1 ≤ 512 := by simp at hl; omega
        by_cases hx : x = 0
        · have hr := Lib.hid (HP.out false (show _ = _ by simp [fineF, hx]))
          subst hx
          go_enter Try.func29, Try.ntmps29
          go_wp2_with fail
          refine (Hf.out _).mono ?_
          rintro e w1 ⟨rfl, rfl⟩
          go_wp2
          go_ret
          exact ⟨by rw [hr.out]; first | rfl | (simp; omega), hB _⟩
        · have hr := Lib.hid (HP.out true (show _ = _ by simp at hl; simp [fineF, hx]; omega))
          have hx' : ((x : Int) != 0) = true := by rw [bne_iff_ne]; omega
          have hx2 : ((x : Int) == 0) = false := by simp; omega
          clear hx
          go_enter Try.func29, Try.ntmps29
          go_wp2_with fail
          refine (Hf.out _).mono ?_
          rintro e w1 ⟨rfl, rfl⟩
          go_wp2
          go_ret
          exact ⟨by rw [hr.out]; first | rfl | (simp; omega), hB _⟩
      · have hr := Lib.hid (HP.out false (show _ = _ by simp [fineF, hl]))
        go_enter Try.func29, Try.ntmps29
        go_wp2_with fail
        refine (Hf.out _).mono ?_
        rintro e w1 ⟨rfl, rfl⟩
        go_wp2
        go_ret
        exact ⟨by rw [hr.out]; first | rfl | (simp; omega), hB _⟩
    · have hr := Lib.hid (HP.out false (show _ = _ by simp [fineF, hl0]))
      go_enter Try.func29, Try.ntmps29
      go_wp2_with fail
      refine (Hf.out _).mono ?_
      rintro e w1 ⟨rfl, rfl⟩
      go_wp2
      go_ret
      exact ⟨by rw [hr.out]; first | rfl | (simp; omega), hB _⟩

set_option maxRecDepth 100000 in
set_option maxHeartbeats 2000000 in
theorem refFine_any (P : Nat → Prop) (a : Int × List Nat) (A : Option Addr) (c : Nat) (w : World) (ha : RB w P A c a.2) (hP : ∀ b, P b → b < w.heap.size) :
    Calls Try.prog 30 #[.agg #[.int .i64 a.1, .slice A a.2.length c]] w fun e w' => e = .returned (.bool (fineOf a)) ∧ Below w.heap.size w w' := by
  obtain ⟨t, bs⟩ := a
  have hcap := ha.cap
  obtain ⟨h1, h2, h3⟩ := hcap
  have hB : ∀ o : Obj, Below w.heap.size w (w.alloc o) := fun o => (Below.refl _ w).alloc (Nat.le_refl _) o
  have hcell : 0 < bs.length → ∃ ad x r, A = some ad ∧ bs = x :: r ∧ ad.block < w.heap.size ∧ w.cell? ad = some (.int .u8 (x : Int)) := fun h => by
    obtain ⟨ad, e, hp, hc, _⟩ := ha.at_ (i := 0) h
    match bs, h with
    | x :: r, _ =>
      simp [Addr.add] at hc
      exact ⟨ad, x, r, e, rfl, hP _ hp, hc⟩
  have Hcell := Lib.hid hcell
  clear hcell
  have Hp : ∀ b, Hid (fineF (formOf t) bs = b) → fineOf (t, bs) = b := fun b h => h.out
  have HP := Lib.hid Hp
  clear Hp
  have hfm := Lib.hid (refForm_any t)
  rcases formOf_cases t with hf | hf | hf | hf | hf
  all_goals
    have Hf := hfm
    rw [hf] at Hf HP
    clear hf hfm
  · have hr := Lib.hid (HP.out false (show _ = _ from rfl))
    go_enter Try.func30, Try.ntmps30
    go_wp2_with fail
    refine (Hf.out _).mono ?_
    rintro e w1 ⟨rfl, rfl⟩
    go_wp2
    go_ret
    exact ⟨by rw [hr.out]; first | rfl | (simp; omega), hB _⟩
  · by_cases hl : bs.length = 1
    · obtain ⟨ad, x, r, rfl, rfl, had, hc⟩ := Hcell.out (by omega)
      obtain rfl : r = [] := by simpa using hl
      clear hl
      by_cases hx : x < 2
      · have hr := Lib.hid (HP.out true (show _ = _ by simp [fineF, hx]))
        go_enter Try.func30, Try.ntmps30
        go_wp2_with fail
        refine (Hf.out _).mono ?_
        rintro e w1 ⟨rfl, rfl⟩
        go_wp2
        go_ret
        exact ⟨by rw [hr.out]; first | rfl | (simp; omega), hB _⟩
      · have hr := Lib.hid (HP.out false (show _ = _ by simp [fineF, hx]))
        go_enter Try.func30, Try.ntmps30
        go_wp2_with fail
        refine (Hf.out _).mono ?_
        rintro e w1 ⟨rfl, rfl⟩
        go_wp2
        go_ret
        exact ⟨by rw [hr.out]; first | rfl | (simp; omega), hB _⟩
    · have hl' : ((bs.length : Int) == 1) = false := by simp; omega
      have hr := Lib.hid (HP.out false (show _ = _ by simp [fineF, hl]))
      go_enter Try.func30, Try.ntmps30
      go_wp2_with fail
      refine (Hf.out _).mono ?_
      rintro e w1 ⟨rfl, rfl⟩
      go_wp2
      go_ret
      exact ⟨by rw [hr.out]; first | rfl | (simp; omega), hB _⟩
  · by_cases hl : bs.length = 4
    · have hr := Lib.hid (HP.out true (show _ = _ by simp [fineF, hl]))
      have hl' : ((bs.length : Int) == 4) = true := by simp; omega
      clear hl
      go_enter Try.func30, Try.ntmps30
      go_wp2_with fail
      refine (Hf.out _).mono ?_
      rintro e w1 ⟨rfl, rfl⟩
      go_wp2
      go_ret
      exact ⟨by rw [hr.out]; first | rfl | (simp; omega), hB _⟩
    · have hl' : ((bs.length : Int) == 4) = false := by simp; omega
      have hr := Lib.hid (HP.out false (show _ = _ by simp [fineF, hl]))
      go_enter Try.func30, Try.ntmps30
      go_wp2_with fail
      refine (Hf.out _).mono ?_
      rintro e w1 ⟨rfl, rfl⟩
      go_wp2
      go_ret
      exact ⟨by rw [hr.out]; first | rfl | (simp; omega), hB _⟩
  · by_cases hl : bs.length ≤ 16384
    · have hr := Lib.hid (HP.out true (show _ = _ by simp [fineF, hl]))
      have hl' : decide ((bs.length : Int) ≤ 16384) = true := by simp; omega
      go_enter Try.func30, Try.ntmps30
      go_wp2_with fail
      refine (Hf.out _).mono ?_
      rintro e w1 ⟨rfl, rfl⟩
      go_wp2
      go_ret
      exact ⟨by rw [hr.out]; first | rfl | (simp; omega), hB _⟩
    · have hl' : decide ((bs.length : Int) ≤ 16384) = false := by simp; omega
      have hr := Lib.hid (HP.out false (show _ = _ by simp [fineF, hl]))
      go_enter Try.func30, Try.ntmps30
      go_wp2_with fail
      refine (Hf.out _).mono ?_
      rintro e w1 ⟨rfl, rfl⟩
      go_wp2
      go_ret
      exact ⟨by rw [hr.out]; first | rfl | (simp; omega), hB _⟩
  · by_cases hl0 : 0 < bs.length
    · by_cases hl : bs.length ≤ 512
      · obtain ⟨ad, x, r, rfl, rfl, had, hc⟩ := Hcell.out hl0
        have hl5 : (r.length : Int) + 1 ≤ 512 := by simp at hl; omega
        by_cases hx : x = 0
        · have hr := Lib.hid (HP.out false (show _ = _ by simp [fineF, hx]))
          subst hx
          go_enter Try.func30, Try.ntmps30
          go_wp2_with fail
          refine (Hf.out _).mono ?_
          rintro e w1 ⟨rfl, rfl⟩
          go_wp2
          go_ret
          exact ⟨by rw [hr.out]; first | rfl | (simp; omega), hB _⟩
        · have hr := Lib.hid (HP.out true (show _ = _ by simp at hl; simp [fineF, hx]; omega))
          have hx' : ((x : Int) != 0) = true := by rw [bne_iff_ne]; omega
          have hx2 : ((x : Int) == 0) = false := by simp; omega
          clear hx
          go_enter Try.func30, Try.ntmps30
          go_wp2_with fail
          refine (Hf.out _).mono ?_
          rintro e w1 ⟨rfl, rfl⟩
          go_wp2
          go_ret
          exact ⟨by rw [hr.out]; first | rfl | (simp; omega), hB _⟩
      · have hr := Lib.hid (HP.out false (show _ = _ by simp [fineF, hl]))
        go_enter Try.func30, Try.ntmps30
        go_wp2_with fail
        refine (Hf.out _).mono ?_
        rintro e w1 ⟨rfl, rfl⟩
        go_wp2
        go_ret
        exact ⟨by rw [hr.out]; first | rfl | (simp; omega), hB _⟩
    · have hr := Lib.hid (HP.out false (show _ = _ by simp [fineF, hl0]))
      go_enter Try.func30, Try.ntmps30
      go_wp2_with fail
      refine (Hf.out _).mono ?_
      rintro e w1 ⟨rfl, rfl⟩
      go_wp2
      go_ret
      exact ⟨by rw [hr.out]; first | rfl | (simp; omega), hB _⟩

end Go.Proofs.Ytpikikaoelnheaa
