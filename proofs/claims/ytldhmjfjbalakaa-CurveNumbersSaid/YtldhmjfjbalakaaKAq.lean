/- Arguments opened: limbs and bytes that came in, as the walks want them. Plain arithmetic of numbers that are read from bytes: nothing of the program. What limb.FromBytes, the reference's FromBytes, Bits and Bytes compute. Curves and points in memory; curve's of, none and on, in these words. zfield: One and From. Points by three elements, in memory. -/
import Derived.Test.YtldhmjfjbalakaaKAl
import Derived.ProofKit
import Derived.OpenShut
import Derived.ShutString
import Derived.ChangeOld
import Derived.ChangeSame
import Derived.Deep.Slices
import Derived.SizedLaws
import Derived.Lib.SmallJoins
import Derived.RegionTactic
import Derived.ChangeAlike
import Derived.Test.YtldhmjfjbalakaaCOn
import Derived.Laws.ResultCell
import Derived.Sort.AtCall
import Derived.Deep.DeepCutAuto
namespace Go.Proofs.Ytldhmjfjbalakaa
open Go.ChangeShapes Go.WideShapes Go.ChangeAt Go.RowKit Go.Deep Go.Joins

section
variable {H : Type} {enc : TypeId × Value → H} {w : World}
theorem cells8 : Try.prog.cellsOf 5 = 1 := by kernel_rfl
theorem bytes8 : Try.prog.bytesOf 5 = 1 := by kernel_rfl
theorem cells64 : Try.prog.cellsOf 72 = 1 := by kernel_rfl
theorem bytes64 : Try.prog.bytesOf 72 = 8 := by kernel_rfl

/-- All weights of a datum are within the reach. -/
def Fits (t : TypeId) (d : DataW H) : Prop := ∀ k ∈ DataW.weights Try.prog t d, k ≤ reachBytes

theorem open_bytes {fuel : Nat} {v : Value} {x : DataW H × List MemPlace} (h : DataW.trod enc Try.prog w 0 (fun _ => true) true fuel 49 [v] = some x) (hw : Fits 49 x.1) :
    ∃ A c bs, v = .slice A bs.length c ∧ RB w (fun b => b < w.heap.size) A c bs := by
  rcases open_ints Try.underlying49 Try.underlying5 cells8 h with ⟨hcs, _⟩ | ⟨a, len, cap, zs, hcs, _, hl, hm, hz, hx, hcell, hwz⟩
  · simp at hcs
    exact ⟨none, 0, [], by simpa using hcs, RB.nil_ _ _⟩
  · simp at hcs hz
    have hb : zs.length ≤ reachBytes := by
      subst hx
      have := hw ((lits (H := H) .u8 (zs.take len)).length * 1 + (lits (H := H) .u8 (zs.drop len)).length * 1) (by simp [DataW.weights, Try.underlying49, bytes8])
      simp [lits] at this
      omega
    unfold reachBytes at hb
    have hwf : ∀ i (hi : i < zs.length), 0 ≤ zs[i] ∧ zs[i] < 256 := fun i hi => by
      have := bounds_u8 (hwz _ (List.getElem_mem hi))
      omega
    refine ⟨some a, cap, (zs.take len).map Int.toNat, ?_, ⟨by simp; omega, hm, by simp [bys], fun hn => ⟨a, rfl, ?_, fun j u hu => ?_⟩⟩, ?_, by simp; omega⟩
    · rw [hcs]; simp; omega
    · have h0 := hcell 0 (by simp at hn; omega)
      have := World.block_lt_of_cell? w _ h0
      rwa [block_of_add] at this
    · have hj : j < len := by
        have := (List.getElem?_eq_some_iff.1 hu).1
        simp [bys] at this
        omega
      have hjz : j < zs.length := by omega
      rw [hcell j hjz]
      have := hwf j hjz
      simp [bys, hj, List.getElem?_eq_getElem hjz] at hu
      rw [← hu]
      simp [List.getD, List.getElem?_eq_getElem hjz]
      omega
    · intro b hb
      obtain ⟨z, hz, rfl⟩ := List.mem_map.1 hb
      obtain ⟨i, hi, rfl⟩ := List.getElem_of_mem (List.mem_of_mem_take hz)
      have := hwf i hi
      omega

theorem open_nats {fuel : Nat} {v : Value} {x : DataW H × List MemPlace} (h : DataW.trod enc Try.prog w 0 (fun _ => true) true fuel 23 [v] = some x) (hw : Fits 23 x.1) :
    ∃ A c l, v = .slice A l.length c ∧ RL w (fun b => b < w.heap.size) A c l := by
  rcases open_ints Try.underlying23 Try.underlying72 cells64 h with ⟨hcs, _⟩ | ⟨a, len, cap, zs, hcs, _, hl, hm, hz, hx, hcell, hwz⟩
  · simp at hcs
    exact ⟨none, 0, [], by simpa using hcs, RS.nil_ _ _ _, by simp, by simp⟩
  · simp at hcs hz
    have hb : zs.length * 8 ≤ reachBytes := by
      subst hx
      have := hw (((lits (H := H) .u64 (zs.take len)).length + (lits (H := H) .u64 (zs.drop len)).length) * 8) (by simp [DataW.weights, Try.underlying23, bytes64])
      simp [lits] at this
      omega
    unfold reachBytes at hb
    have hwf : ∀ i (hi : i < zs.length), 0 ≤ zs[i] ∧ zs[i] < 18446744073709551616 := fun i hi => by
      have := bounds_u64 (hwz _ (List.getElem_mem hi))
      omega
    refine ⟨some a, cap, (zs.take len).map Int.toNat, ?_, ⟨by simp; omega, hm, by simp [nts], fun hn => ⟨a, rfl, ?_, fun j u hu => ?_⟩⟩, ?_, by simp; omega⟩
    · rw [hcs]; simp; omega
    · have h0 := hcell 0 (by simp at hn; omega)
      have := World.block_lt_of_cell? w _ h0
      rwa [block_of_add] at this
    · have hj : j < len := by
        have := (List.getElem?_eq_some_iff.1 hu).1
        simp [nts] at this
        omega
      have hjz : j < zs.length := by omega
      rw [hcell j hjz]
      have := hwf j hjz
      simp [nts, hj, List.getElem?_eq_getElem hjz] at hu
      rw [← hu]
      simp [List.getD, List.getElem?_eq_getElem hjz]
      omega
    · intro b hb
      obtain ⟨z, hz, rfl⟩ := List.mem_map.1 hb
      obtain ⟨i, hi, rfl⟩ := List.getElem_of_mem (List.mem_of_mem_take hz)
      have := hwf i hi
      omega
end
end Go.Proofs.Ytldhmjfjbalakaa

namespace Go.Proofs.Ytldhmjfjbalakaa

/-- The number of bytes, the highest first. -/
def numOf (bs : List Nat) : Nat := val 256 bs.reverse
theorem numOf_snoc (bs : List Nat) (c : Nat) : numOf (bs ++ [c]) = c + 256 * numOf bs := by
  simp [numOf]
theorem pow256 (k : Nat) : 256 ^ k = 2 ^ (8 * k) := by rw [Nat.pow_mul]
theorem numOf_lt {bs : List Nat} (h : ∀ b ∈ bs, b < 256) : numOf bs < 256 ^ bs.length := by
  have := val_lt (B := 256) (l := bs.reverse) (by simpa using h)
  rwa [List.length_reverse] at this
theorem val_map_range (f : Nat → Nat) (n : Nat) : val 256 ((List.range (n + 1)).map f) = val 256 ((List.range n).map f) + 256 ^ n * f n := by
  rw [List.range_succ, List.map_append, val_append]
  simp
theorem val_bytes (x n : Nat) : val 256 ((List.range n).map fun i => x / 2 ^ (8 * i) % 256) = x % 256 ^ n := by
  induction n with
  | zero => simp [Nat.mod_one]
  | succ n ih => rw [val_map_range, ih, Nat.pow_succ, Nat.mod_mul, pow256]
theorem bytesOf_reverse (x n : Nat) : (bytesOf x n).reverse = (List.range n).map fun i => x / 2 ^ (8 * i) % 256 := by
  apply List.ext_getElem
  · simp [bytesOf]
  · intro i h1 h2
    simp [bytesOf] at h1 ⊢
    rw [show n - 1 - (n - 1 - i) = i by omega]
theorem numOf_bytesOf {x n : Nat} (h : x < 2 ^ (8 * n)) : numOf (bytesOf x n) = x := by
  rw [numOf, bytesOf_reverse, val_bytes, pow256, Nat.mod_eq_of_lt h]
/-- One byte more: it goes where noughts are. -/
theorem from_step {m j q k c : Nat} {o : List Nat} {V : Nat} (ho : ∀ x ∈ o, x < 2 ^ m) (hq : q < o.length) (hk : m * q + j = 8 * k) (hj : j + 8 ≤ m) (hc : c < 256) (hv : val (2 ^ m) o = 256 ^ (k + 1) * V) :
    c * 2 ^ j < 2 ^ m ∧ dg o q + c * 2 ^ j < 2 ^ m ∧ (dg o q ||| c * 2 ^ j) = dg o q + c * 2 ^ j ∧ val (2 ^ m) (o.set q (dg o q + c * 2 ^ j)) = 256 ^ k * (c + 256 * V) := by
  obtain ⟨r, hr⟩ := val_shift o ho q 0 (by omega)
  have hlt : dg o q < 2 ^ m := getD_lt (Nat.pow_pos (by omega)) ho q
  rw [Nat.add_zero, Nat.pow_zero, Nat.div_one, Nat.sub_zero, hv, pow256, show 8 * (k + 1) = m * q + (j + 8) by omega, Nat.pow_add, Nat.mul_assoc, Nat.mul_div_cancel_left _ (Nat.pow_pos (by omega))] at hr
  have hcj : c * 2 ^ j < 2 ^ (j + 8) := by
    rw [Nat.pow_add, Nat.mul_comm]
    exact Nat.mul_lt_mul_of_pos_left hc (Nat.pow_pos (by omega))
  have em : 2 ^ m = 2 ^ (j + 8) * 2 ^ (m - (j + 8)) := by rw [← Nat.pow_add, show j + 8 + (m - (j + 8)) = m by omega]
  obtain ⟨t, ht⟩ : ∃ t, dg o q = t * 2 ^ (j + 8) := by
    refine ⟨V - 2 ^ (m - (j + 8)) * r, ?_⟩
    rw [em, Nat.mul_assoc] at hr
    rw [Nat.mul_comm, Nat.mul_sub, hr]
    omega
  have htlt : t < 2 ^ (m - (j + 8)) := by
    rw [ht, em, Nat.mul_comm] at hlt
    exact Nat.lt_of_mul_lt_mul_left hlt
  have hsum : dg o q + c * 2 ^ j < 2 ^ m := by
    have h1 : (t + 1) * 2 ^ (j + 8) ≤ 2 ^ (m - (j + 8)) * 2 ^ (j + 8) := Nat.mul_le_mul_right _ htlt
    rw [Nat.mul_comm (2 ^ (m - (j + 8))), ← em, Nat.add_mul, ← ht] at h1
    omega
  refine ⟨by omega, hsum, ?_, ?_⟩
  · rw [ht, Nat.mul_comm t, Nat.two_pow_add_eq_or_of_lt hcj]
  · have h2 := val_set' (2 ^ m) hq (dg o q + c * 2 ^ j)
    have h3 : (2 ^ m) ^ q * (c * 2 ^ j) = 256 ^ k * c := by
      rw [pow256, ← hk, Nat.pow_add, Nat.pow_mul, Nat.mul_assoc, Nat.mul_comm c]
    rw [Nat.mul_add, h3, hv] at h2
    rw [Nat.mul_add, ← Nat.mul_assoc, ← Nat.pow_succ]
    generalize 256 ^ (k + 1) * V = E at *
    generalize 256 ^ k * c = F at *
    generalize (2 ^ m) ^ q * dg o q = G at *
    generalize val (2 ^ m) (o.set q (dg o q + c * 2 ^ j)) = H at *
    clear hr hlt hcj em ht htlt hsum hv h3
    omega
end Go.Proofs.Ytldhmjfjbalakaa

namespace Go.Proofs.Ytldhmjfjbalakaa
open Go.RowKit

theorem RB.cells {w : World} {P : Nat → Prop} {ad : Addr} {c : Nat} {bs : List Nat} (h : RB w P (some ad) c bs) : ∀ i, i < bs.length → w.cell? (ad.add i) = some (.int .u8 (dg bs i : Int)) := by
  intro i hi
  obtain ⟨ad', e, _, hc, _⟩ := h.at_ hi
  cases e
  rw [dg, getD_eq' hi]
  exact hc
theorem RB.dg {w : World} {P : Nat → Prop} {A : Option Addr} {c : Nat} {bs : List Nat} (h : RB w P A c bs) {i : Nat} (hi : i < bs.length) : ∃ ad, A = some ad ∧ w.cell? (ad.add i) = some (.int .u8 (Go.Proofs.Ytldhmjfjbalakaa.dg bs i : Int)) ∧ Go.Proofs.Ytldhmjfjbalakaa.dg bs i < 256 := by
  obtain ⟨ad, rfl, _, hc, hb⟩ := h.at_ hi
  refine ⟨ad, rfl, h.cells i hi, ?_⟩
  rw [Go.Proofs.Ytldhmjfjbalakaa.dg, getD_eq' hi]
  omega

set_option maxRecDepth 100000 in
set_option maxHeartbeats 2000000 in
theorem fromBytes_any (P : Nat → Prop) (A : Option Addr) (c : Nat) (bs : List Nat) (w : World) (h : RB w P A c bs) (hP : ∀ b, P b → b < w.heap.size) (hl : bs.length ≤ 100000) :
    Calls Try.prog 62 #[.slice A bs.length c] w fun e w' => ∃ A1 c1, e = .returned (.slice A1 (digs 18446744073709551616 (numOf bs)).length c1) ∧
      OB w' w.heap.size A1 c1 (digs 18446744073709551616 (numOf bs)) ∧ Below w.heap.size w w' := by
  obtain ⟨h1, h2, h3⟩ := h.cap
  obtain ⟨n, hn⟩ : ∃ n, bs.length = n := ⟨_, rfl⟩
  rw [hn] at h1 h3 hl ⊢
  obtain ⟨N, hN, hN1, hN2⟩ : ∃ N : Nat, ((n : Int) + 7) / 8 = (N : Int) ∧ N ≤ 100000 ∧ n ≤ 8 * N := ⟨(n + 7) / 8, by omega, by omega, by omega⟩
  have hmk := run_make_row' (P := Try.prog) 23 72 (.int .u64 0) 8 Try.underlying23 info64 rfl .i64 .i64 N (by omega) (by omega)
  have Hn := Lib.hid hn
  clear hn
  go_enter Try.func62, Try.ntmps62
  go_wp2
  go_loopw [14] (fun iv wr => ∃ (i : Nat) (o : List Nat), iv = .int .i64 (i : Int) ∧ i ≤ n ∧ Hid (o.length = N) ∧ Lim o ∧ val 18446744073709551616 o = 256 ^ (n - i) * numOf (bs.take i) ∧ Blk wr w.heap.size o ∧ Below w.heap.size w wr) (fun iv _ => n - (intOf iv).toNat)
  case atStart => exact ⟨0, List.replicate N 0, rfl, by omega, Lib.hid (by simp), ⟨by simp, by simp; omega⟩, by rw [val_replicate]; simp [numOf], Blk.made w _, (Below.refl _ w).alloc (Nat.le_refl _) _⟩
  case round =>
    obtain ⟨i, o, rfl, hi, Ho, hLo, hv, hblk, hB⟩ := hrel
    by_cases hlt : i < n
    · obtain ⟨ad, rfl, q1, hc⟩ := (h.below hB hP).dg (i := i) (by rw [Hn.out]; exact hlt)
      obtain ⟨k, q, r, hk, hr, hkq⟩ : ∃ k q r, k = n - 1 - i ∧ r < 8 ∧ k = 8 * q + r := ⟨n - 1 - i, (n - 1 - i) / 8, (n - 1 - i) % 8, rfl, by omega, by omega⟩
      have hqo : q < o.length := by have := Ho.out; omega
      obtain ⟨s1, s2, s3, s4⟩ := from_step (m := 64) (j := r * 8) (q := q) (k := k) hLo.1 hqo (by omega) (by omega) hc (by rw [show n - i = k + 1 by omega] at hv; exact hv)
      rw [← numOf_snoc, ← take_succ_dg (by rw [Hn.out]; exact hlt), show k = n - (i + 1) by omega] at s4
      obtain ⟨z, hz⟩ : ∃ z, dg bs i * 2 ^ (r * 8) = z := ⟨_, rfl⟩
      rw [hz] at s1 s2 s3 s4
      obtain ⟨y, hy⟩ : ∃ y, dg o q + z = y := ⟨_, rfl⟩
      rw [hy] at s2 s3 s4
      have e1 : (n : Int) - 1 - (i : Int) = (k : Int) := by omega
      have e2 : (k : Int) / 8 = (q : Int) := by omega
      have e3 : (k : Int) % 8 = (r : Int) := by omega
      have e4 : IntKind.u64.wrap ((dg bs i : Int) * 2 ^ (r * 8)) = (z : Int) := by
        rw [show (dg bs i : Int) * 2 ^ (r * 8) = (z : Int) by rw [← hz]; simp]
        exact IntWalk.u64_in _ (by omega)
      have e5 : bits .or .u64 (dg o q : Int) (z : Int) = (y : Int) := by
        rw [bits_or_u64_nat _ _ (hLo.dgLt q) s1, s3]
      have q3 := hblk.cell hqo
      have q4 := hblk.free q
      have hblk' := hblk.set q y
      have hLo' := hLo.set q y s2
      have hB' := hB.setCell (p := ⟨w.heap.size, q, none⟩) (Nat.le_refl _) (.int .u64 (y : Int))
      have Ho' : Hid ((o.set q y).length = N) := Lib.hid (by rw [List.length_set]; exact Ho.out)
      have k1 : (q : Int) < (N : Int) := by have := Ho.out; omega
      have k2 : (r : Int) < 8 := by omega
      have k3 : (dg bs i : Int) < 256 := by omega
      have S4 := Lib.hid s4
      clear s4 s3 s2 s1 hz hy hk hkq hqo hblk hLo hB hv hc
      go_wp2_with fail
      go_region
      go_wp2
      go_roundw
      case rel => exact ⟨i + 1, o.set q y, by go_num, by omega, Ho', hLo', S4.out, hblk', below_drewN hB' 1⟩
      case measure => simp [intOf]; omega
    · obtain rfl : i = n := by omega
      rw [Nat.sub_self, Nat.pow_zero, Nat.one_mul, List.take_of_length_le (by rw [Hn.out]; omega)] at hv
      have hOB : OB wr w.heap.size (some ⟨w.heap.size, 0, none⟩) N o := OB.of_blk hblk (Nat.le_refl _) hLo (by have := Ho.out; omega) (by unfold maxLen; omega)
      have ht := trim_any _ _ _ _ _ hOB.rn
      have hOB' := hOB.trim
      rw [hv, Ho.out] at ht
      rw [hv] at hOB'
      have Ht := Lib.hid ht
      clear hblk hLo ht hv hOB
      go_wp2_with fail
      refine Ht.out.mono ?_
      rintro e w1 ⟨rfl, rfl⟩
      go_wp2
      go_ret
      exact ⟨_, _, rfl, hOB', hB⟩

set_option maxRecDepth 100000 in
set_option maxHeartbeats 2000000 in
theorem refFromBytes_any (P : Nat → Prop) (A : Option Addr) (c : Nat) (bs : List Nat) (w : World) (h : RB w P A c bs) (hP : ∀ b, P b → b < w.heap.size) (hl : bs.length ≤ 100000) :
    Calls Try.prog 63 #[.slice A bs.length c] w fun e w' => ∃ A1 c1, e = .returned (.slice A1 (digs 4294967296 (numOf bs)).length c1) ∧
      OB w' w.heap.size A1 c1 (digs 4294967296 (numOf bs)) ∧ Below w.heap.size w w' := by
  obtain ⟨h1, h2, h3⟩ := h.cap
  obtain ⟨n, hn⟩ : ∃ n, bs.length = n := ⟨_, rfl⟩
  rw [hn] at h1 h3 hl ⊢
  obtain ⟨N, hN, hN1, hN2⟩ : ∃ N : Nat, ((n : Int) + 3) / 4 = (N : Int) ∧ N ≤ 100000 ∧ n ≤ 4 * N := ⟨(n + 3) / 4, by omega, by omega, by omega⟩
  have hmk := run_make_row' (P := Try.prog) 29 72 (.int .u64 0) 8 Try.underlying29 info64 rfl .i64 .i64 N (by omega) (by omega)
  have Hn := Lib.hid hn
  clear hn
  go_enter Try.func63, Try.ntmps63
  go_wp2
  go_loopw [4] (fun iv wr => ∃ (i : Nat) (o : List Nat), iv = .int .i64 (i : Int) ∧ i ≤ n ∧ Hid (o.length = N) ∧ Dig o ∧ val 4294967296 o = 256 ^ (n - i) * numOf (bs.take i) ∧ Blk wr w.heap.size o ∧ Below w.heap.size w wr) (fun iv _ => n - (intOf iv).toNat)
  case atStart => exact ⟨0, List.replicate N 0, rfl, by omega, Lib.hid (by simp), (by intro x hx; simp at hx; omega), by rw [val_replicate]; simp [numOf], Blk.made w _, (Below.refl _ w).alloc (Nat.le_refl _) _⟩
  case round =>
    obtain ⟨i, o, rfl, hi, Ho, hD, hv, hblk, hB⟩ := hrel
    by_cases hlt : i < n
    · obtain ⟨ad, rfl, q1, hc⟩ := (h.below hB hP).dg (i := i) (by rw [Hn.out]; exact hlt)
      obtain ⟨k, q, r, hk, hr, hkq⟩ : ∃ k q r, k = n - 1 - i ∧ r < 4 ∧ k = 4 * q + r := ⟨n - 1 - i, (n - 1 - i) / 4, (n - 1 - i) % 4, rfl, by omega, by omega⟩
      have hqo : q < o.length := by have := Ho.out; omega
      obtain ⟨s1, s2, s3, s4⟩ := from_step (m := 32) (j := 8 * r) (q := q) (k := k) hD hqo (by omega) (by omega) hc (by rw [show n - i = k + 1 by omega] at hv; exact hv)
      rw [← numOf_snoc, ← take_succ_dg (by rw [Hn.out]; exact hlt), show k = n - (i + 1) by omega] at s4
      obtain ⟨z, hz⟩ : ∃ z, dg bs i * 2 ^ (8 * r) = z := ⟨_, rfl⟩
      rw [hz] at s1 s2 s3 s4
      obtain ⟨y, hy⟩ : ∃ y, dg o q + z = y := ⟨_, rfl⟩
      rw [hy] at s2 s3 s4
      have e1 : (n : Int) - 1 - (i : Int) = (k : Int) := by omega
      have e2 : (k : Int) / 4 = (q : Int) := by omega
      have e3 : (k : Int) % 4 = (r : Int) := by omega
      have e4 : IntKind.u64.wrap ((dg bs i : Int) * 2 ^ (8 * r)) = (z : Int) := by
        rw [show (dg bs i : Int) * 2 ^ (8 * r) = (z : Int) by rw [← hz]; simp]
        exact IntWalk.u64_in _ (by omega)
      have e5 : (dg o q : Int) + (z : Int) = (y : Int) := by omega
      have b1 := hD.dgLt q
      have q3 := hblk.cell hqo
      have q4 := hblk.free q
      have hblk' := hblk.set q y
      have hD' := hD.set q y s2
      have hB' := hB.setCell (p := ⟨w.heap.size, q, none⟩) (Nat.le_refl _) (.int .u64 (y : Int))
      have Ho' : Hid ((o.set q y).length = N) := Lib.hid (by rw [List.length_set]; exact Ho.out)
      have k1 : (q : Int) < (N : Int) := by have := Ho.out; omega
      have k2 : (r : Int) < 4 := by omega
      have k3 : (dg bs i : Int) < 256 := by omega
      have S4 := Lib.hid s4
      clear s4 s3 s2 hz hy hk hkq hqo hblk hD hB hv hc
      go_wp2_with fail
      go_region
      go_wp2
      go_roundw
      case rel => exact ⟨i + 1, o.set q y, by go_num, by omega, Ho', hD', S4.out, hblk', below_drewN hB' 1⟩
      case measure => simp [intOf]; omega
    · obtain rfl : i = n := by omega
      rw [Nat.sub_self, Nat.pow_zero, Nat.one_mul, List.take_of_length_le (by rw [Hn.out]; omega)] at hv
      have hLo : Lim o := ⟨fun z hz => by have := hD z hz; omega, by rw [Ho.out]; omega⟩
      have hOB : OB wr w.heap.size (some ⟨w.heap.size, 0, none⟩) N o := OB.of_blk hblk (Nat.le_refl _) hLo (by have := Ho.out; omega) (by unfold maxLen; omega)
      have ht := refTrim_any _ _ _ _ _ hOB.rn hD
      have hOB' := hOB.trim32 hD
      rw [hv, Ho.out] at ht
      rw [hv] at hOB'
      have Ht := Lib.hid ht
      clear hblk hLo ht hv hOB
      go_wp2_with fail
      refine Ht.out.mono ?_
      rintro e w1 ⟨rfl, rfl⟩
      go_wp2
      go_ret
      exact ⟨_, _, rfl, hOB', hB⟩
end Go.Proofs.Ytldhmjfjbalakaa

namespace Go.Proofs.Ytldhmjfjbalakaa
open Go.RowKit

/-- A curve's numbers. -/
structure Crv where
  size : Nat
  n : Nat
  M : Nat
  bb : Nat
  pl : List Nat
  nl : List Nat
  bl : List Nat
  xl : List Nat
  yl : List Nat
def c256 : Crv := ⟨32, 4, val 18446744073709551616 p256p, val 18446744073709551616 p256b, p256p, p256n, p256b, p256x, p256y⟩
def c384 : Crv := ⟨48, 6, val 18446744073709551616 p384p, val 18446744073709551616 p384b, p384p, p384n, p384b, p384x, p384y⟩
def IsC (c : Int) (C : Crv) : Prop := (c = 1 ∧ C = c256) ∨ (c = 2 ∧ C = c384)
structure Crv.Fine (C : Crv) : Prop where
  three : 3 < C.M
  bb : C.bb < C.M
  room : C.M < 256 ^ C.size
  small : C.size ≤ 48
  pos : 32 ≤ C.size
  pv : val 18446744073709551616 C.pl = C.M
theorem IsC.fine {c : Int} {C : Crv} (h : IsC c C) : C.Fine := by
  rcases h with ⟨_, rfl⟩ | ⟨_, rfl⟩
  · exact ⟨by decide +kernel, by decide +kernel, by decide +kernel, by decide, by decide, rfl⟩
  · exact ⟨by decide +kernel, by decide +kernel, by decide +kernel, by decide, by decide, rfl⟩
/-- The record k is that curve's. -/
def OfC (C : Crv) (w : World) (k : Nat) : Prop := ∃ (P0 : Nat → Prop) (g inv : Nat) (ml ol rl tl fl : List Nat) (Ap An Ab Ax Ay : Option Addr) (cp cn cb cx cy : Nat), Num w P0 k g C.size C.n inv C.M C.bb C.pl C.nl C.bl C.xl C.yl ml ol rl tl fl Ap An Ab Ax Ay cp cn cb cx cy ∧ ∀ b, P0 b → b < w.heap.size
theorem OfC.ext {C : Crv} {w X : World} {k : Nat} (h : OfC C w k) (hE : Ext w X) : OfC C X k := by
  obtain ⟨P0, g, inv, ml, ol, rl, tl, fl, Ap, An, Ab, Ax, Ay, cp, cn, cb, cx, cy, hn, hP⟩ := h
  exact ⟨P0, g, inv, ml, ol, rl, tl, fl, Ap, An, Ab, Ax, Ay, cp, cn, cb, cx, cy, hn.ext hP hE, fun b hb => Nat.lt_of_lt_of_le (hP b hb) hE.bsize⟩
theorem OfC.size {C : Crv} {w : World} {k : Nat} (h : OfC C w k) : w.cell? ⟨k, 0, none⟩ = some (.int .i64 (C.size : Int)) := by
  obtain ⟨P0, g, inv, ml, ol, rl, tl, fl, Ap, An, Ab, Ax, Ay, cp, cn, cb, cx, cy, hn, hP⟩ := h
  exact hn.c_size
theorem of_c {c : Int} {C : Crv} (h : IsC c C) (w : World) : Calls Try.prog 42 #[.int .i64 c] w fun e w' => ∃ k, e = .returned (.pointer (some ⟨k, 0, none⟩)) ∧ OfC C w' k ∧ Ext w w' := by
  rcases h with ⟨rfl, rfl⟩ | ⟨rfl, rfl⟩
  · refine (of_p256 w).mono ?_
    rintro e w' ⟨k, g, inv, ml, ol, rl, tl, fl, rfl, _, hn, hB⟩
    exact ⟨k, rfl, ⟨_, g, inv, ml, ol, rl, tl, fl, _, _, _, _, _, _, _, _, _, _, hn, fun b hb => hb.2⟩, hB⟩
  · refine (of_p384 w).mono ?_
    rintro e w' ⟨k, g, inv, ml, ol, rl, tl, fl, rfl, _, hn, hB⟩
    exact ⟨k, rfl, ⟨_, g, inv, ml, ol, rl, tl, fl, _, _, _, _, _, _, _, _, _, _, hn, fun b hb => hb.2⟩, hB⟩
set_option maxRecDepth 100000 in
theorem of_nil {c : Int} (h1 : c ≠ 1) (h2 : c ≠ 2) (w : World) : Calls Try.prog 42 #[.int .i64 c] w fun e w' => e = .returned (.pointer none) ∧ Ext w w' := by
  have e1 : (c == 1) = false := by simpa using h1
  have e2 : (c == 2) = false := by simpa using h2
  go_enter Try.func42, Try.ntmps42
  go_wp2
  go_ret
  exact ⟨rfl, Ext.refl _⟩
theorem on_c {C : Crv} {w : World} {k : Nat} (h : OfC C w k) (hC : C.Fine) (Pa Pb : Nat → Prop) (A A' : Option Addr) (c c' : Nat) (a b : List Nat) (inf : Bool) (ha : RN w Pa A c a) (hb : RN w Pb A' c' b) (hPa : ∀ b, Pa b → b < w.heap.size) (hPb : ∀ b, Pb b → b < w.heap.size) :
    Calls Try.prog 43 #[.pointer (some ⟨k, 0, none⟩), .agg #[.bool inf, .slice A a.length c, .slice A' b.length c']] w fun e w' => e = .returned (.bool (inf || onB C.M C.bb (val 18446744073709551616 a) (val 18446744073709551616 b))) ∧ Ext w w' := by
  obtain ⟨P0, g, inv, ml, ol, rl, tl, fl, Ap, An, Ab, Ax, Ay, cp, cn, cb, cx, cy, hn, hP⟩ := h
  exact on_any Pa Pb A A' c c' a b inf w hn hP ha hb hPa hPb hC.three hC.bb
set_option maxRecDepth 100000 in
theorem on_nil (p q r : Value) (w : World) : Calls Try.prog 43 #[.pointer none, .agg #[p, q, r]] w fun e w' => e = .returned (.bool false) ∧ Ext w w' := by
  go_enter Try.func43, Try.ntmps43
  go_wp2
  go_ret
  exact ⟨rfl, Ext.alloc _ _⟩
abbrev infV : Value := .agg #[.bool true, .slice none 0 0, .slice none 0 0]
theorem infoP : (Try.prog.info? 27).map (·.size) = some 3 := by kernel_rfl
/-- A function's end: a point in a cell, and a value. -/
theorem end_pt {fn : Func} {R : Ending → World → Prop} {a : Act} {W : World} {p u : Tmp} {g : Nat} {ty : TypeId} {fr : Nat × Nat} {x0 x1 x2 v : Value} (hr : fn.results = #[.cell p 27, .tmp u]) (hp : a.tmps.getD p undef = .pointer (some ⟨g, 0, none⟩)) (hu : a.tmps.getD u undef = v) (hd : a.defers = [])
    (hg : W.heap[g]? = some (.cells #[x0, x1, x2] ty fr)) (hR : R (.returned (.tuple #[.agg #[x0, x1, x2], v])) W) : bodyPost Try.prog fn R .ret a W := by
  refine bodyPost_ret (v := .tuple #[.agg #[x0, x1, x2], v]) ?_ hd hR
  rw [results_cell_tmp hr, hp]
  have h1 : (asAddr (.pointer (some ⟨g, 0, none⟩)) : Sem Addr).run Try.prog W = .ok ⟨g, 0, none⟩ W := rfl
  rw [h1, Result.andThen_ok, run_loadVar_row W g ty 27 #[x0, x1, x2] fr _ hg Try.underlying27 rfl infoP, Result.andThen_ok, hu]
theorem end_p {fn : Func} {R : Ending → World → Prop} {a : Act} {W : World} {p : Tmp} {g : Nat} {ty : TypeId} {fr : Nat × Nat} {x0 x1 x2 : Value} (hr : fn.results = #[.cell p 27]) (hp : a.tmps.getD p undef = .pointer (some ⟨g, 0, none⟩)) (hd : a.defers = [])
    (hg : W.heap[g]? = some (.cells #[x0, x1, x2] ty fr)) (hR : R (.returned (.agg #[x0, x1, x2])) W) : bodyPost Try.prog fn R .ret a W :=
  bodyPost_ret (results_cell_row hr a.tmps W g _ _ _ _ hp hg Try.underlying27 rfl infoP) hd hR
theorem pt_facts {W : World} {g : Nat} {ty : TypeId} {x0 x1 x2 : Value} (h : W.heap[g]? = some (.cells #[x0, x1, x2] ty (0, 0))) :
    W.cell? ⟨g, 0, none⟩ = some x0 ∧ W.cell? ⟨g, 1, none⟩ = some x1 ∧ W.cell? ⟨g, 2, none⟩ = some x2 ∧ W.frozen? ⟨g, 0, none⟩ = false ∧ W.frozen? ⟨g, 1, none⟩ = false ∧ W.frozen? ⟨g, 2, none⟩ = false :=
  ⟨blk_cell h 0, blk_cell h 1, blk_cell h 2, blk_free h 0, blk_free h 1, blk_free h 2⟩
theorem pt_one (b : Bool) (A A' : Option Addr) (n n' c c' : Nat) : (#[Value.bool b, .slice A n c, .slice A' n' c'] : Array Value).all (·.oneCell') = true := by simp [Value.oneCell']
/-- A point's cells are laid. -/
theorem pt_set {W : World} {g : Nat} {ty : TypeId} {x0 x1 x2 : Value} (h : W.heap[g]? = some (.cells #[x0, x1, x2] ty (0, 0))) (y0 y1 y2 : Value) : (((W.setCell ⟨g, 0, none⟩ y0).setCell ⟨g, 1, none⟩ y1).setCell ⟨g, 2, none⟩ y2).heap[g]? = some (.cells #[y0, y1, y2] ty (0, 0)) :=
  blk_set (blk_set (blk_set h 0 y0) 1 y1) 2 y2
theorem pt_just (W : World) (g : Nat) (y0 y1 y2 : Value) : Just g W (((W.setCell ⟨g, 0, none⟩ y0).setCell ⟨g, 1, none⟩ y1).setCell ⟨g, 2, none⟩ y2) := (((Just.refl g W).set 0 y0).set 1 y1).set 2 y2
theorem pt_ext {w W : World} {g : Nat} (hE : Ext w W) (hg : w.heap.size ≤ g) (y0 y1 y2 : Value) : Ext w (((W.setCell ⟨g, 0, none⟩ y0).setCell ⟨g, 1, none⟩ y1).setCell ⟨g, 2, none⟩ y2) :=
  ((Below.setCell hE (p := ⟨g, 0, none⟩) hg y0).setCell (p := ⟨g, 1, none⟩) hg y1).setCell (p := ⟨g, 2, none⟩) hg y2
set_option maxRecDepth 100000 in
theorem none_any (w : World) : Calls Try.prog 45 #[] w fun e w' => e = .returned infV ∧ Ext w w' := by
  go_enter Try.func45, Try.ntmps45
  go_wp2
  exact end_p rfl rfl rfl (heap_alloc_new w _) ⟨rfl, Ext.alloc _ _⟩
/-- Limbs stand where a block of another type gets something. -/
theorem OB.just {X Y : World} {base b : Nat} {A : Option Addr} {c : Nat} {l : List Nat} (h : OB X base A c l) (hj : Just b X Y) {cs : Array Value} {t : TypeId} (hb : X.heap[b]? = some (.cells cs t (0, 0))) (ht : t ≠ 72) : OB Y base A c l := by
  obtain ⟨h1, h2, h3, h4⟩ := h
  refine ⟨h1, h2, h3, fun hl => ?_⟩
  obtain ⟨g, cur, e, hg, hgc, hr⟩ := h4 hl
  refine ⟨g, cur, e, hg, hj.at_ (fun e => ?_) hgc, hr⟩
  subst e
  rw [hb] at hgc
  injection hgc with hgc
  injection hgc with _ hgc _
  exact ht hgc
theorem RB.mid {w : World} {P : Nat → Prop} {A : Option Addr} {c : Nat} {bs : List Nat} (h : RB w P A c bs) {k m c' : Nat} (hkm : k ≤ m) (hm : m ≤ bs.length) (hc : m - k ≤ c') (hc' : c' ≤ maxLen) {A' : Option Addr} (hA : k < m → A' = A.map (·.add k)) : RB w P A' c' ((bs.drop k).take (m - k)) := by
  have h1 := h.1.sub hkm hm hc hc' (A' := A') (by simpa using hA)
  have e : ((bys bs).drop (k * 1)).take ((m - k) * 1) = bys ((bs.drop k).take (m - k)) := by simp [bys, List.map_take, List.map_drop]
  rw [e] at h1
  have hl : ((bs.drop k).take (m - k)).length = m - k := by rw [List.length_take, List.length_drop]; omega
  refine ⟨by rw [hl]; exact h1, fun b hb => h.2.1 b (List.mem_of_mem_drop (List.mem_of_mem_take hb)), by rw [hl]; have := h.2.2; omega⟩
end Go.Proofs.Ytldhmjfjbalakaa

namespace Go.Proofs.Ytldhmjfjbalakaa
open Go.RowKit

theorem end_e {fn : Func} {R : Ending → World → Prop} {a : Act} {W : World} {p : Tmp} {g : Nat} {l : List Nat} (hr : fn.results = #[.cell p 81]) (hp : a.tmps.getD p undef = .pointer (some ⟨g, 0, none⟩)) (hd : a.defers = [])
 (hg : BlkE W g l) (h6 : l.length = 6) (hR : R (.returned (EV l)) W) : bodyPost Try.prog fn R .ret a W :=
 bodyPost_ret (results_cell_row hr a.tmps W g _ _ _ _ hp hg Try.underlying81 rfl (by rw [List.size_toArray, nts_length, h6]; exact infoE)) hd hR
theorem zero6 : ([.int .u64 0, .int .u64 0, .int .u64 0, .int .u64 0, .int .u64 0, .int .u64 0] : List Value).length = 6 := rfl
theorem FR.r_one {w : World} {g n inv M : Nat} {ml ol rl : List Nat} (h : FR w g n inv M ml ol rl) : w.rangeAt g 8 (nts ol) := fun j v hv => by
 rw [blk_cell h.ff.fld.blk]
 obtain ⟨a, b, c, d, e, f, rfl⟩ := six h.ff.fld.m6
 obtain ⟨a, b, c, d, e, f, rfl⟩ := six h.ff.fld.o6
 match j, hv with
 | 0, hv | 1, hv | 2, hv | 3, hv | 4, hv | 5, hv => exact hv
 | j + 6, hv => simp [nts] at hv
theorem FR.fone {w : World} {g n inv M : Nat} {ml ol rl : List Nat} (h : FR w g n inv M ml ol rl) : FE M n ol 1 := ⟨h.oelt, by rw [h.oval, Nat.one_mul]⟩
theorem FR.ext {w X : World} {g n inv M : Nat} {ml ol rl : List Nat} (h : FR w g n inv M ml ol rl) (hE : Ext w X) : FR X g n inv M ml ol rl := h.below hE h.ff.fld.lt
set_option maxRecDepth 100000 in
set_option maxHeartbeats 2000000 in
theorem one_any {g n inv M : Nat} {ml ol rl : List Nat} (w : World) (hF : FR w g n inv M ml ol rl) : Calls Try.prog 79 #[.pointer (some ⟨g, 0, none⟩)] w fun e w' => e = .returned (EV ol) ∧ Ext w w' := by
 have hF' := Lib.hid hF
 have hz := heap_alloc_new w (.cells #[.int .u64 0, .int .u64 0, .int .u64 0, .int .u64 0, .int .u64 0, .int .u64 0] 81)
 go_enter Try.func79, Try.ntmps79
 go_upto_region 1 with fail
 refine Par.region_txt 4 [0, 1, 3, 7, 15] [] (fun j f X => match j with
  | 0 => f 0 = .pointer (some ⟨g, 0, none⟩)
  | 1 => f 1 = .pointer (some ⟨g, 0, none⟩)
  | 2 => f 2 = .pointer (some ⟨g, 8, none⟩)
  | 3 => f 3 = EV ol
  | _ => True) (by kernel_rfl) [(3, 0), (4, 1), (5, 2), (6, 3)] (by kernel_rfl) ?_
 refine Par.S 1 3 [] (fun f X hX hR K hK => ?_) ?_
 · simp only [yA, yB, yC, yD, yE]
   refine ⟨?_⟩
   go_simp
   exact Par.k hK (s := by simp only [yA, yB, yC, yD, yE])
 refine Par.S 2 2 [(3, 0)] (fun f X hX hR K hK => ?_) ?_
 · have e0 : f 0 = _ := hR.out 0 rfl
   simp only [yA, yB, yC, yD, yE, e0]
   refine ⟨?_⟩
   go_simp
   exact Par.k hK (s := by simp only [yA, yB, yC, yD, yE, e0])
 refine Par.S 3 1 [(3, 0), (4, 1)] (fun f X hX hR K hK => ?_) ?_
 · have e1 : f 1 = _ := hR.out 1 rfl
   simp only [yA, yB, yC, yD, yE, e1]
   refine ⟨?_⟩
   go_simp
   exact Par.k hK (s := by simp only [yA, yB, yC, yD, yE, e1])
 refine Par.S 4 0 [(3, 0), (4, 1), (5, 2)] (fun f X hX hR K hK => ?_) ?_
 · have e2 : f 2 = _ := hR.out 2 rfl
   simp only [yA, yB, yC, yD, yE, e2]
   refine ⟨Par.want (by kernel_rfl) (wp_loadE (.tmp 5) rfl rfl (hF'.out.ext ((Ext.alloc _ _).trans hX)).r_one hF'.out.oelt.six ?_)⟩
   exact hK.out _ (EV ol) _ (by simp only [yA, yB, yC, yD, yE, e2]) (Ext.refl _) trivial (fun _ _ => rfl)
 refine Par.AllOps.fin ⟨fun f X hX hR hal hap => ?_⟩
 have e0 : f 0 = _ := hR 0 (by decide)
 have e1 : f 1 = _ := hR 1 (by decide)
 have e2 : f 2 = _ := hR 2 (by decide)
 have e3 : f 3 = _ := hR 3 (by decide)
 simp only [yA, yB, yC, yD, yE, e0, e1, e2, e3]
 clear hR hal hap e0 e1 e2 e3
 refine Par.Chain.next (fun K hK => ⟨Par.want (by kernel_rfl) (wp_storeE (.tmp 2) (.tmp 6) rfl rfl rfl rfl (hX.at_ hz) zero6 hF'.out.oelt.six (fun Y1 hl1 => hK.out _ _ ?_))⟩)
 refine Par.Chain.done ?_
 go_wp2
 exact end_e rfl rfl rfl hl1.blk hF'.out.oelt.six ⟨rfl, hl1.ext ((Ext.alloc _ _).trans hX) (Nat.le_refl _)⟩
theorem BlkE.rn {w : World} {b : Nat} {l : List Nat} (h : BlkE w b l) (h6 : l.length = 6) (hl : ∀ x ∈ l, x < 18446744073709551616) : RN w (fun b => b < w.heap.size) (some ⟨b, 0, none⟩) 6 l := by
 refine ⟨⟨by omega, by unfold maxLen; omega, by rw [nts_length]; omega, fun _ => ⟨_, rfl, h.lt, fun j v hv => ?_⟩⟩, hl, by omega⟩
 rw [add_blk, blk_cell h j]
 simpa using hv
set_option maxRecDepth 100000 in
set_option maxHeartbeats 2000000 in
theorem from_f {g n inv M : Nat} {ml ol rl a : List Nat} {x : Nat} (w : World) (hF : FR w g n inv M ml ol rl) (ha : FE M n a x) : Calls Try.prog 84 #[.pointer (some ⟨g, 0, none⟩), EV a] w fun e w' => ∃ A1 c1, e = .returned (.slice A1 (digs 18446744073709551616 (x % M)).length c1) ∧ OB w' w.heap.size A1 c1 (digs 18446744073709551616 (x % M)) ∧ Ext w w' := by
 have hF' := Lib.hid hF
 have ha' := Lib.hid ha
 have h1M := hF.ff.big
 have he1 : Elt M [1, 0, 0, 0, 0, 0] := ⟨rfl, by decide, by simpa using h1M⟩
 obtain ⟨q, hq⟩ : ∃ q, w.heap.size = q := ⟨_, rfl⟩
 have hbx : (w.alloc (.cells (nts a).toArray 81)).heap[w.heap.size]? = some (.cells (nts a).toArray 81 (0, 0)) := heap_alloc_new w _
 obtain ⟨y, hy⟩ : ∃ y, x % M = y := ⟨_, rfl⟩
 have hmul := Lib.hid (fun X (hX : Ext w X) => (zmul_any a [1, 0, 0, 0, 0, 0] X (hF.ext hX).ff ha.elt he1).mono (R' := fun e w' => ∃ o, e = .returned (EV o) ∧ o.length = 6 ∧ (∀ x ∈ o, x < 18446744073709551616) ∧ val 18446744073709551616 o = y ∧ Ext X w') (by
  rintro e w' ⟨o, rfl, ho, hv, hB⟩
  refine ⟨o, rfl, ho.six, ho.lim, ?_, hB⟩
  have hv1 : val 18446744073709551616 [1, 0, 0, 0, 0, 0] = 1 := by simp
  rw [hv1, Nat.mul_one, ha.form, Nat.mod_mod] at hv
  have := cancelR hF.ff.invV hv
  rw [Nat.mod_eq_of_lt ho.lt] at this
  rw [this, hy]))
 rw [hy]
 have h6 := ha.elt.six
 have e1 : EV [1, 0, 0, 0, 0, 0] = .agg #[.int .u64 1, .int .u64 0, .int .u64 0, .int .u64 0, .int .u64 0, .int .u64 0] := rfl
 rw [e1] at hmul
 have hev : EV a = .agg (nts a).toArray := rfl
 obtain ⟨W0, hW0⟩ : ∃ W0, W0 = w.alloc (.cells (nts a).toArray 81) := ⟨_, rfl⟩
 rw [← hW0, hq] at hbx
 have hE0 : Ext w W0 := by rw [hW0]; exact Ext.alloc _ _
 have HE0 := Lib.hid hE0
 have Hq := Lib.hid hq
 have Hz := Lib.hid (show W0.heap.size = w.heap.size + 1 by rw [hW0]; simp)
 have H6 := Lib.hid h6
 have HW0 := Lib.hid hW0
 clear hF ha h1M he1 hy e1 hE0 hW0 h6
 rw [hev]
 clear hev
 go_enter Try.func84, Try.ntmps84
 go_upto_region 1 with fail
 rw [← HW0.out]
 refine Par.region_txt 5 [0, 0, 0, 7, 0, 31] [4] (fun j f X => match j with
  | 0 => f 0 = .pointer (some ⟨g, 0, none⟩)
  | 1 => f 1 = EV a
  | 2 => f 2 = .agg #[.int .u64 1, .int .u64 0, .int .u64 0, .int .u64 0, .int .u64 0, .int .u64 0]
  | 3 => ∃ o, f 3 = EV o ∧ o.length = 6 ∧ (∀ x ∈ o, x < 18446744073709551616) ∧ val 18446744073709551616 o = y
  | 4 => ∃ b, f 4 = .pointer (some ⟨b, 0, none⟩) ∧ W0.heap.size ≤ b ∧ X.heap[b]? = some (.cells #[.int .u64 0, .int .u64 0, .int .u64 0, .int .u64 0, .int .u64 0, .int .u64 0] 81 (0, 0))
  | _ => True) (by kernel_rfl) [(6, 0), (7, 1), (8, 2), (9, 3), (5, 4)] (by kernel_rfl) ?_
 refine Par.S 1 4 [(7, 1), (8, 2), (5, 4)] (fun f X hX hR K hK => ?_) ?_
 · simp only [yA, yB, yC, yD, yE]
   refine ⟨?_⟩
   go_simp
   exact Par.k hK (s := by simp only [yA, yB, yC, yD, yE])
 refine Par.S 2 3 [(6, 0), (8, 2), (5, 4)] (fun f X hX hR K hK => ?_) ?_
 · simp only [yA, yB, yC, yD, yE]
   refine ⟨Par.want (by kernel_rfl) (wp_loadE (.tmp 3) rfl rfl (BlkE.range (hX.at_ hbx)) H6.out ?_)⟩
   exact hK.out _ (EV a) _ (by simp only [yA, yB, yC, yD, yE]) (Ext.refl _) trivial (fun _ _ => rfl)
 refine Par.S 3 2 [(6, 0), (7, 1), (5, 4)] (fun f X hX hR K hK => ?_) ?_
 · simp only [yA, yB, yC, yD, yE]
   refine ⟨?_⟩
   go_simp
   exact Par.k hK (s := by simp only [yA, yB, yC, yD, yE])
 refine Par.S 4 1 [(6, 0), (7, 1), (8, 2), (5, 4)] (fun f X hX hR K hK => ?_) ?_
 · have e0 : f 0 = _ := hR.out 0 rfl
   have e1 : f 1 = _ := hR.out 1 rfl
   have e2 : f 2 = _ := hR.out 2 rfl
   simp only [yA, yB, yC, yD, yE, e0, e1, e2]
   refine ⟨?_⟩
   go_simp
   refine (hmul.out X (HE0.out.trans hX)).mono ?_
   rintro e w2 ⟨o, rfl, h6, hb, hv, hB⟩
   exact hK.out _ (EV o) _ (by simp only [yA, yB, yC, yD, yE, e0, e1, e2]) hB trivial (fun Y hY => ⟨o, rfl, h6, hb, hv⟩)
 refine Par.S 5 0 [(6, 0), (7, 1), (8, 2), (9, 3)] (fun f X hX hR K hK => ?_) ?_
 · simp only [yA, yB, yC, yD, yE]
   refine ⟨?_⟩
   go_simp
   exact hK.out _ _ _ (by simp only [yA, yB, yC, yD, yE]) (Ext.alloc _ _) ⟨rfl, by simp⟩ (fun Y hY => ⟨_, rfl, hX.bsize, hY.at_ (heap_alloc_new _ _)⟩)
 refine Par.AllOps.fin ⟨fun f X hX hR hal hap => ?_⟩
 have e0 : f 0 = _ := hR 0 (by decide)
 have e1 : f 1 = _ := hR 1 (by decide)
 have e2 : f 2 = _ := hR 2 (by decide)
 obtain ⟨o3, (e3 : f 3 = _), l3, b3, v3⟩ := hR 3 (by decide)
 obtain ⟨b4, (e4 : f 4 = _), l4, h4⟩ := hR 4 (by decide)
 simp only [yA, yB, yC, yD, yE, e0, e1, e2, e3, e4]
 clear hR hal hap e0 e1 e2 e3 e4
 refine Par.Chain.next (fun K hK => ⟨Par.want (by kernel_rfl) (wp_storeE (.tmp 5) (.tmp 9) rfl rfl rfl rfl h4 zero6 l3 (fun Y1 hl1 => hK.out _ _ ?_))⟩)
 refine Par.Chain.done ?_
 have hE1 : Ext w Y1 := hl1.ext (HE0.out.trans hX) (by have := Hz.out; omega)
 have hno := norm_any _ (some ⟨b4, 0, none⟩) 6 o3 Y1 (hl1.blk.rn l3 b3)
 rw [v3, l3] at hno
 have Hno := Lib.hid hno
 have HE1 := Lib.hid hE1
 clear hno hl1 b3 v3 h4 l4 hX l3 hE1
 go_wp2_with (go_at_call 68; refine Hno.out.mono ?_; rintro e w2 ⟨A1, c1, rfl, hO, hB⟩)
 go_ret
 exact ⟨A1, c1, rfl, hO.mono (by have := HE1.out.bsize; have := Hq.out; omega), HE1.out.trans hB⟩
end Go.Proofs.Ytldhmjfjbalakaa

namespace Go.Proofs.Ytldhmjfjbalakaa
open Go.RowKit

def JV (x y z : List Nat) : Value := .agg (nts (x ++ y ++ z)).toArray
def BlkJ (X : World) (b : Nat) (x y z : List Nat) : Prop := X.heap[b]? = some (.cells (nts (x ++ y ++ z)).toArray 83 (0, 0))
theorem infoJ : (Try.prog.info? 83).map (·.size) = some 18 := by kernel_rfl
theorem nts_append (a b : List Nat) : nts (a ++ b) = nts a ++ nts b := by simp [nts]
theorem nts_getE (l : List Nat) (j : Nat) : (nts l)[j]? = (l[j]?).map fun x : Nat => Value.int .u64 (x : Int) := by simp [nts]
section
variable {X : World} {b : Nat} {x y z : List Nat}
theorem BlkJ.range (h : BlkJ X b x y z) (pre l post : List Nat) (e : x ++ y ++ z = pre ++ l ++ post) : X.rangeAt b pre.length (nts l) := fun j v hv => by
  rw [blk_cell h, e, List.getElem?_toArray, nts_append, nts_append, List.append_assoc, List.getElem?_append_right (by rw [nts_length]; omega), nts_length, Nat.add_sub_cancel_left, List.getElem?_append_left, hv]
  exact (List.getElem?_eq_some_iff.1 hv).1
theorem BlkJ.rx (h : BlkJ X b x y z) : X.rangeAt b 0 (nts x) := by have := h.range [] x (y ++ z) (by simp); simpa using this
theorem BlkJ.ry (h : BlkJ X b x y z) (hx : x.length = 6) : X.rangeAt b 6 (nts y) := by have := h.range x y z rfl; rwa [hx] at this
theorem BlkJ.rz (h : BlkJ X b x y z) (hx : x.length = 6) (hy : y.length = 6) : X.rangeAt b 12 (nts z) := by have := h.range (x ++ y) z [] (by simp); rwa [List.length_append, hx, hy] at this
end
/-- Three elements are laid into one value. -/
theorem builtJ {x y z : List Nat} (hx : x.length = 6) (hy : y.length = 6) (hz : z.length = 6) : Try.prog.built 83 [(0, EV x), (1, EV y), (2, EV z)] = some (nts (x ++ y ++ z)).toArray := by
  obtain ⟨x0, x1, x2, x3, x4, x5, rfl⟩ := six hx
  obtain ⟨y0, y1, y2, y3, y4, y5, rfl⟩ := six hy
  obtain ⟨z0, z1, z2, z3, z4, z5, rfl⟩ := six hz
  kernel_rfl
theorem wp_buildJ {op : Oper} {a : Act} {X : World} {K : Act → World → Prop} {Q : Exit → Act → World → Prop} (p q r : Operand) (ho : op.op = .build 83 #[(0, p), (1, q), (2, r)]) {x y z : List Nat} (hp : a.eval p = EV x) (hq : a.eval q = EV y) (hr : a.eval r = EV z)
    (hx : x.length = 6) (hy : y.length = 6) (hz : z.length = 6) (hK : K (a.put op.dst (JV x y z)) X) : op.wp Try.prog a X K Q := by
  have hb : (#[(0, p), (1, q), (2, r)].map fun (i, x) => (i, a.eval x)).toList = [(0, EV x), (1, EV y), (2, EV z)] := by simp [hp, hq, hr]
  refine wp_build 83 #[(0, p), (1, q), (2, r)] ho (by rw [hb, builtJ hx hy hz]; rfl) ?_
  rw [hb, builtJ hx hy hz]
  exact hK
theorem all_one (l : List Nat) : (nts l).toArray.all (·.oneCell') = true := all_oneCell_toArray (oneCell_nts l)
theorem end_j {fn : Func} {R : Ending → World → Prop} {a : Act} {W : World} {p : Tmp} {g : Nat} {x y z : List Nat} (hr : fn.results = #[.cell p 83]) (hp : a.tmps.getD p undef = .pointer (some ⟨g, 0, none⟩)) (hd : a.defers = [])
    (hg : BlkJ W g x y z) (hx : x.length = 6) (hy : y.length = 6) (hz : z.length = 6) (hR : R (.returned (JV x y z)) W) : bodyPost Try.prog fn R .ret a W :=
  bodyPost_ret (results_cell_row hr a.tmps W g _ _ _ _ hp hg Try.underlying83 rfl (by rw [List.size_toArray, nts_length, List.length_append, List.length_append, hx, hy, hz]; exact infoJ)) hd hR
theorem wp_storeJ {op : Oper} {a : Act} {X : World} {K : Act → World → Prop} {Q : Exit → Act → World → Prop} (p q : Operand) (ho : op.op = .store 83 p q) (hd : op.dst = none) {b : Nat} {x y z : List Nat} {cs : Array Value}
    (hp : a.eval p = .pointer (some ⟨b, 0, none⟩)) (hq : a.eval q = JV x y z) (hg : X.heap[b]? = some (.cells cs 83 (0, 0))) (hc : cs.size = 18) (hx : x.length = 6) (hy : y.length = 6) (hz : z.length = 6)
    (hK : ∀ Y, BlkJ Y b x y z → Just b X Y → Y.heap.size = X.heap.size → K a Y) : op.wp Try.prog a X K Q := by
  have hs : (nts (x ++ y ++ z)).toArray.size = 18 := by rw [List.size_toArray, nts_length, List.length_append, List.length_append, hx, hy, hz]
  exact wp_storeV 83 p q ho hd hp hq hg (by rw [hs]; exact infoJ) (by rw [hs, hc]) (all_one _) hK
def mm (M a b : Nat) : Nat := a * b % M
def am (M a b : Nat) : Nat := (a + b) % M
def sm (M a b : Nat) : Nat := (a + M - b % M) % M
theorem fm_any {g n inv M : Nat} {ml ol rl a b : List Nat} {x y : Nat} (w : World) (hF : FF w g n inv M ml ol rl) (ha : FE M n a x) (hb : FE M n b y) :
    Calls Try.prog 74 #[.pointer (some ⟨g, 0, none⟩), EV a, EV b] w fun e w' => ∃ o, e = .returned (EV o) ∧ FE M n o (mm M x y) ∧ Ext w w' :=
  (fmul_any w hF ha hb).mono fun _ _ ⟨o, h1, h2, h3⟩ => ⟨o, h1, h2.mod, h3⟩
theorem fa_any {g n inv M : Nat} {ml ol rl a b : List Nat} {x y : Nat} (w : World) (hF : FF w g n inv M ml ol rl) (ha : FE M n a x) (hb : FE M n b y) :
    Calls Try.prog 73 #[.pointer (some ⟨g, 0, none⟩), EV a, EV b] w fun e w' => ∃ o, e = .returned (EV o) ∧ FE M n o (am M x y) ∧ Ext w w' :=
  (fadd_any w hF ha hb).mono fun _ _ ⟨o, h1, h2, h3⟩ => ⟨o, h1, h2.mod, h3⟩
theorem fs_any {g n inv M : Nat} {ml ol rl a b : List Nat} {x y : Nat} (w : World) (hF : FF w g n inv M ml ol rl) (ha : FE M n a x) (hb : FE M n b y) :
    Calls Try.prog 75 #[.pointer (some ⟨g, 0, none⟩), EV a, EV b] w fun e w' => ∃ o, e = .returned (EV o) ∧ FE M n o (sm M x y) ∧ Ext w w' :=
  (fsub_any w hF ha hb.mod (Nat.le_of_lt (Nat.mod_lt _ (by have := hF.big; omega)))).mono fun _ _ ⟨o, h1, h2, h3⟩ => ⟨o, h1, h2.mod, h3⟩
theorem two_at2 (w : World) (o1 o2 : Obj) : ((w.alloc o1).alloc o2).heap[w.heap.size]? = some o1 ∧ ((w.alloc o1).alloc o2).heap[w.heap.size + 1]? = some o2 ∧ ((w.alloc o1).alloc o2).heap.size = w.heap.size + 2 :=
  ⟨(Ext.alloc _ _).at_ (heap_alloc_new w _), by have := heap_alloc_new (w.alloc o1) o2; rwa [World.size_alloc] at this, by simp⟩
/-- The three lists are a point's elements: numbers x, y, z. -/
structure FJ (M n : Nat) (lx ly lz : List Nat) (x y z : Nat) : Prop where
  x : FE M n lx x
  y : FE M n ly y
  z : FE M n lz z
end Go.Proofs.Ytldhmjfjbalakaa
