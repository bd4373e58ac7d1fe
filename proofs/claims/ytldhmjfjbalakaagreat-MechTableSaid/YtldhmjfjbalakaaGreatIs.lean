/- What the reference's Is, and the laws' Cut and few, compute. -/
import Derived.Test.YtldhmjfjbalakaaGreatRef
namespace Go.Proofs.YtldhmjfjbalakaaGreat
open Go.RowKit

/-- The first k digits are equal. -/
def SameTo (l m : List Nat) (k : Nat) : Prop := ∀ j, j < k → dg l j = dg m j
theorem SameTo.step {l m : List Nat} {k : Nat} (h : SameTo l m k) (he : dg l k = dg m k) : SameTo l m (k + 1) := fun j hj => by
  rcases Nat.lt_or_ge j k with h1 | h1
  · exact h j h1
  · obtain rfl : j = k := by omega
    exact he
theorem SameTo.fin {l m : List Nat} (h : SameTo l m l.length) (hl : l.length = m.length) : l = m := by
  apply List.ext_getElem hl
  intro i h1 h2
  have := h i h1
  rwa [dg, dg, getD_eq' h1, getD_eq' h2] at this

/-- The slice reads as limbs, however many. -/
def RL (w : World) (P : Nat → Prop) (A : Option Addr) (c : Nat) (l : List Nat) : Prop := RS w P 1 A l.length c (nts l) ∧ (∀ x ∈ l, x < 18446744073709551616) ∧ l.length ≤ 17592186044416
theorem RL.take {w : World} {P : Nat → Prop} {A : Option Addr} {c : Nat} {l : List Nat} (h : RL w P A c l) {n : Nat} (hn : n ≤ 1000000) (hn' : n ≤ l.length) : RN w P A c (l.take n) := by
  have := h.1.pre hn'
  rw [Nat.mul_one, nts_take] at this
  refine ⟨by rw [List.length_take, Nat.min_eq_left hn']; exact this, fun x hx => h.2.1 x (List.mem_of_mem_take hx), by rw [List.length_take]; omega⟩
theorem RL.below {w w' : World} {P : Nat → Prop} {A : Option Addr} {c B : Nat} {l : List Nat} (h : RL w P A c l) (hb : Below B w w') (hB : ∀ b, P b → b < B) : RL w' P A c l := ⟨h.1.below hb hB, h.2⟩

end Go.Proofs.YtldhmjfjbalakaaGreat
