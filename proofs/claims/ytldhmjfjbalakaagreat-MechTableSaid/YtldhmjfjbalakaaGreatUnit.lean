/- Slices of one limb; slices in whatever block. -/
import Derived.Test.YtldhmjfjbalakaaGreatIs
namespace Go.Proofs.YtldhmjfjbalakaaGreat
open Go.RowKit

theorem RN.one (w : World) (x : Nat) (hx : x < 18446744073709551616) : RN (w.alloc (.cells #[.int .u64 (x : Int)] 90)) (In w.heap.size (w.heap.size + 1)) (some ⟨w.heap.size, 0, none⟩) 1 [x] :=
  ⟨RS.fresh #[.int .u64 (x : Int)] 90 1 1 rfl (by unfold maxLen; omega) ⟨Nat.le_refl _, by omega⟩, by simpa [Lim] using hx⟩
theorem val_one (x : Nat) : val 18446744073709551616 [x] = x := by simp
/-- The slice reads as the limbs l, in whatever block there is. -/
abbrev RU (w : World) (A : Option Addr) (c : Nat) (l : List Nat) : Prop := RN w (fun b => b < w.heap.size) A c l
theorem RN.up {w w' : World} {A : Option Addr} {c : Nat} {l : List Nat} (h : RU w A c l) (hB : Below w.heap.size w w') : RU w' A c l :=
  (h.below hB fun _ hb => hb).mono fun _ hb => Nat.lt_of_lt_of_le hb hB.size
theorem OB.ru {w : World} {base : Nat} {A : Option Addr} {c : Nat} {l : List Nat} (h : OB w base A c l) : RU w A c l := h.rn.mono fun _ hb => hb.2
theorem RN.ud {w : World} {A : Option Addr} {c : Nat} {l : List Nat} (h : RU w A c l) (n : Nat) : RU (w.drewN n) A c l := h
theorem below_undraw {w w' : World} {B n : Nat} (h : Below B (w.drewN n) w') : Below B w w' := ⟨h.os, h.tape, h.output, h.size, h.block⟩
theorem digs32_len {a : List Nat} {n : Nat} (h : Lim a) (hn : a.length ≤ n) : (digs 4294967296 (val 18446744073709551616 a)).length ≤ 2 * n := by
  apply digs_length_of_lt (by omega)
  rw [pow_two_mul]
  exact Nat.lt_of_lt_of_le (val_lt h.1) (Nat.pow_le_pow_right (by omega) hn)
theorem lt_self {w : World} : ∀ b, b < w.heap.size → b < w.heap.size := fun _ h => h
end Go.Proofs.YtldhmjfjbalakaaGreat
