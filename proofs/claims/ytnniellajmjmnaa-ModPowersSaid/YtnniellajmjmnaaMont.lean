/- Plain arithmetic of Montgomery's numbers: what R is for, and the inverse modulo 2^64. zmont's fill, To, From, One. -/
import Derived.Test.YtnniellajmjmnaaMMul
import Derived.Deep.RegionHeld3
namespace Go.Proofs.Ytnniellajmjmnaa

theorem cancelR {B M inv n a b : Nat} (hi : (inv * M + 1) % B = 0) (h : a * B ^ n % M = b * B ^ n % M) : a % M = b % M := by
  obtain ⟨u, hu⟩ : ∃ u, inv * M + 1 = B * u := ⟨(inv * M + 1) / B, by have := Nat.div_add_mod (inv * M + 1) B; omega⟩
  have h1 : ∀ x, x * (B * u) % M = x % M := fun x => by rw [← hu, Nat.mul_add, Nat.mul_one, ← Nat.mul_assoc, Nat.add_comm, Nat.add_mul_mod_self_right]
  have h2 : ∀ k x, x * B ^ k * u ^ k % M = x % M := by
    intro k
    induction k with
    | zero => intro x; simp
    | succ k ih =>
      intro x
      have e : x * B ^ (k + 1) * u ^ (k + 1) = (x * (B * u)) * B ^ k * u ^ k := by
        rw [Nat.pow_succ, Nat.pow_succ]
        simp only [Nat.mul_assoc, Nat.mul_comm, Nat.mul_left_comm]
      rw [e, ih, h1]
  rw [← h2 n a, ← h2 n b, Nat.mul_mod, h, ← Nat.mul_mod]

/-- One round of Newton's: the places that are right double. -/
theorem newton {m y y' t z : Int} {k j : Nat} (hy : m * y = 1 + 2 ^ k * t) (h' : y' = y * (2 - m * y) + 18446744073709551616 * z) (hj : k + k + j = 64) : ∃ s, m * y' = 1 + 2 ^ (k + k) * s := by
  refine ⟨-(t * t) + m * 2 ^ j * z, ?_⟩
  have e1 : m * y' = m * y * (2 - m * y) + m * 18446744073709551616 * z := by rw [h', Int.mul_add, ← Int.mul_assoc, ← Int.mul_assoc]
  have e2 : (18446744073709551616 : Int) = 2 ^ (k + k) * 2 ^ j := by rw [← Int.pow_add, hj]; rfl
  rw [e1, hy, e2, Int.pow_add]
  generalize (2 : Int) ^ k = p
  generalize (2 : Int) ^ j = r
  grind
theorem newton_wrap {m y : Int} : ∃ z, (y * ((2 - m * y % 18446744073709551616) % 18446744073709551616)) % 18446744073709551616 = y * (2 - m * y) + 18446744073709551616 * z := by
  have e1 := Int.mul_ediv_add_emod (m * y) 18446744073709551616
  have e2 := Int.mul_ediv_add_emod (2 - m * y % 18446744073709551616) 18446744073709551616
  have e3 := Int.mul_ediv_add_emod (y * ((2 - m * y % 18446744073709551616) % 18446744073709551616)) 18446744073709551616
  generalize (2 - m * y % 18446744073709551616) / 18446744073709551616 = d2 at *
  generalize (y * ((2 - m * y % 18446744073709551616) % 18446744073709551616)) / 18446744073709551616 = d3 at *
  generalize (y * ((2 - m * y % 18446744073709551616) % 18446744073709551616)) % 18446744073709551616 = r3 at *
  generalize (2 - m * y % 18446744073709551616) % 18446744073709551616 = r2 at *
  generalize (m * y) / 18446744073709551616 = d1 at *
  generalize (m * y) % 18446744073709551616 = r1 at *
  refine ⟨y * d1 - y * d2 - d3, ?_⟩
  grind
theorem neg_inv {m0 M : Nat} {y : Int} {t : Int} (hm : M % 18446744073709551616 = m0) (h : (m0 : Int) * y = 1 + 18446744073709551616 * t) : ((((-y) % 18446744073709551616).toNat) * M + 1) % 18446744073709551616 = 0 := by
  have e1 := Int.mul_ediv_add_emod (-y) 18446744073709551616
  have h0 : 0 ≤ (-y) % 18446744073709551616 := Int.emod_nonneg _ (by decide)
  obtain ⟨v, hv⟩ : ∃ v : Nat, (-y) % 18446744073709551616 = (v : Int) := ⟨_, (Int.toNat_of_nonneg h0).symm⟩
  rw [hv] at e1 ⊢
  rw [Int.toNat_natCast]
  obtain ⟨q, hq⟩ : ∃ q, M = m0 + 18446744073709551616 * q := ⟨M / 18446744073709551616, by omega⟩
  have e2 : ((v * M + 1 : Nat) : Int) = 18446744073709551616 * ((v : Int) * q - t - (m0 : Int) * ((-y) / 18446744073709551616)) := by
    rw [hq]
    simp only [Int.natCast_add, Int.natCast_mul, Int.cast_ofNat_Int]
    generalize (-y) / 18446744073709551616 = d at *
    grind
  omega
end Go.Proofs.Ytnniellajmjmnaa

namespace Go.Proofs.Ytnniellajmjmnaa
open Go.RowKit

/-- How many limbs a number has; R for a modulus. -/
def nl (M : Nat) : Nat := (digs 18446744073709551616 M).length
def RM (M : Nat) : Nat := 18446744073709551616 ^ nl M
/-- A modulus made ready: block g; its parts lie in blocks of which P holds. -/
structure ZM (w : World) (P : Nat → Prop) (g M inv : Nat) (Am Ao Ar : Option Addr) (cm co cr : Nat) (ol rl : List Nat) : Prop where
  blk : w.heap[g]? = some (.cells #[.slice Am (digs 18446744073709551616 M).length cm, .int .u64 (inv : Int), .slice Ao ol.length co, .slice Ar rl.length cr] 103 (0, 0))
  m : RN w P Am cm (digs 18446744073709551616 M)
  one : RN w P Ao co ol
  rr : RN w P Ar cr rl
  oneLen : ol.length = (digs 18446744073709551616 M).length
  rrLen : rl.length = (digs 18446744073709551616 M).length
  oneV : val 18446744073709551616 ol = RM M % M
  rrV : val 18446744073709551616 rl = RM M * RM M % M
  invLt : inv < 18446744073709551616
  invV : (inv * M + 1) % 18446744073709551616 = 0
  big : 1 < M
  small : (digs 18446744073709551616 M).length ≤ 100000
theorem ZM.below {w w' : World} {P : Nat → Prop} {g M inv : Nat} {Am Ao Ar : Option Addr} {cm co cr B : Nat} {ol rl : List Nat} (h : ZM w P g M inv Am Ao Ar cm co cr ol rl) (hb : Below B w w') (hP : ∀ b, P b → b < B) (hg : g < B) : ZM w' P g M inv Am Ao Ar cm co cr ol rl :=
  ⟨(hb.block g hg).trans h.blk, h.m.below hb hP, h.one.below hb hP, h.rr.below hb hP, h.oneLen, h.rrLen, h.oneV, h.rrV, h.invLt, h.invV, h.big, h.small⟩
theorem val_pad (B : Nat) (a : List Nat) (k : Nat) : val B (a ++ List.replicate k 0) = val B a := by rw [val_append, val_replicate, Nat.mul_zero, Nat.add_zero]

set_option maxRecDepth 100000 in
set_option maxHeartbeats 1000000 in
theorem fill_any (Pa : Nat → Prop) (Am Aa : Option Addr) (cm ca g n : Nat) (a : List Nat) (w : World) (h0 : w.cell? ⟨g, 0, none⟩ = some (.slice Am n cm)) (ha : RN w Pa Aa ca a) (hPa : ∀ b, Pa b → b < w.heap.size) (hl : a.length ≤ n) (hn : n ≤ 100000) :
    Calls Try.prog 91 #[.pointer (some ⟨g, 0, none⟩), .slice Aa a.length ca] w fun e w' => ∃ A' c' o, e = .returned (.slice A' n c') ∧ o.length = n ∧ OB w' w.heap.size A' c' o ∧ val 18446744073709551616 o = val 18446744073709551616 a ∧ Below w.heap.size w w' := by
  have hmk := run_make_row' (P := Try.prog) 22 54 (.int .u64 0) 8 Try.underlying22 info64 rfl .i64 .i64 n (by omega) (by omega)
  have hb0 := Blk.made w n
  have hB0 : Below w.heap.size w (w.alloc (.cells (madeCells #[.int .u64 0] n) 54)) := (Below.refl _ w).alloc (Nat.le_refl _) _
  have hL0 : Lim (List.replicate n 0) := ⟨by simp, by simp; omega⟩
  rcases Nat.eq_zero_or_pos a.length with hz | hpos
  · have hcp := run_copy_none (P := Try.prog) (w.alloc (.cells (madeCells #[.int .u64 0] n) 54)) 22 23 3 54 (some ⟨w.heap.size, 0, none⟩) Aa n n a.length ca Try.underlying22 info64size (by rw [hz]; exact Nat.min_eq_left (Nat.zero_le _))
    have hav : val 18446744073709551616 a = 0 := by rw [List.eq_nil_of_length_eq_zero hz]; rfl
    have Hav := Lib.hid hav
    have hO : OB (w.alloc (.cells (madeCells #[.int .u64 0] n) 54)) w.heap.size (some ⟨w.heap.size, 0, none⟩) n (List.replicate n 0) := OB.of_blk hb0 (Nat.le_refl _) hL0 (by simp) (by unfold maxLen; omega)
    clear hz hav hb0
    go_enter Try.func91, Try.ntmps91
    go_wp2
    go_ret
    exact ⟨_, _, List.replicate n 0, rfl, by simp, hO, by rw [Hav.out, val_replicate], hB0⟩
  · have ha' : RN (w.alloc (.cells (madeCells #[.int .u64 0] n) 54)) Pa Aa ca a := ha.below hB0 hPa
    have hcp := copy_limbs (dT := 22) (sT := 23) Try.underlying22 _ w.heap.size n n a.length ca Pa Aa (List.replicate n 0) a 3 hb0 ha' hpos rfl hl (by simp)
    have hb1 := hb0.put (a ++ (List.replicate n 0).drop a.length)
    have hB1 := setRow_below hB0 (Nat.le_refl _) (nts (a ++ (List.replicate n 0).drop a.length)).toArray
    have hlen : (a ++ (List.replicate n 0).drop a.length).length = n := by simp; omega
    have hv : val 18446744073709551616 (a ++ (List.replicate n 0).drop a.length) = val 18446744073709551616 a := by rw [List.drop_replicate, val_pad]
    have hL1 : Lim (a ++ (List.replicate n 0).drop a.length) := ⟨fun x hx => by
      rcases List.mem_append.1 hx with h | h
      · exact ha.2.1 x h
      · have := List.mem_of_mem_drop h; simp at this; omega, by rw [hlen]; omega⟩
    generalize a ++ (List.replicate n 0).drop a.length = o at *
    have hO : OB _ w.heap.size (some ⟨w.heap.size, 0, none⟩) n o := OB.of_blk hb1 (Nat.le_refl _) hL1 (by omega) (by unfold maxLen; omega)
    have Hlen := Lib.hid hlen
    have Hv := Lib.hid hv
    clear hb0 hb1 hlen hv ha' hB0 hL0 hL1 hl
    go_enter Try.func91, Try.ntmps91
    go_wp2
    go_ret
    exact ⟨_, _, o, rfl, Hlen.out, hO, Hv.out, hB1⟩
end Go.Proofs.Ytnniellajmjmnaa
