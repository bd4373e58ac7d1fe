/- What Montgomery's product needs: worlds in which one block alone may turn, plain laws. Blocks of the call's own that are read and laid whole, one store, what it leaves alone. Plain arithmetic of bits and bytes of numbers: nothing of the program. What limb.Bits, Bit and Bytes compute. What limb.Bytes computes. append of bytes onto a row of the call's own. keyfmt.read of nothing; a number in base 128. An object identifier is written: a node with its tag. The curves' names; what names no curve. No curve's name: no curve. Slices of one limb; slices in whatever block. Plain arithmetic of numbers that are read from bytes: nothing of the program. What limb.FromBytes, the reference's FromBytes, Bits and Bytes compute. An attribute's number; an AES key's worth. An AES key of 16 bytes is one. What is reckoned is put in (an object that is created). -/
import Derived.Test.YtendnkpiidhogaaGreatQ4262706711f7
import Derived.Laws.IdiomCopy
import Derived.Deep.MidRow
import Derived.Lib.BitFns
import Derived.Lib.ItoaNum
import Derived.RegionTactic
import Derived.ChangeAlike
namespace Go.Proofs.YtendnkpiidhogaaGreat
open Go.RowKit

structure Just (g : Nat) (w w' : World) : Prop where
 os : w'.os = w.os
 tape : w'.tape = w.tape
 output : w'.output = w.output
 size : w.heap.size ≤ w'.heap.size
 block : ∀ b, b < w.heap.size → b ≠ g → w'.heap[b]? = w.heap[b]?
theorem Just.refl (g : Nat) (w : World) : Just g w w := ⟨rfl, rfl, rfl, Nat.le_refl _, fun _ _ _ => rfl⟩
theorem Just.trans {g : Nat} {a b c : World} (h : Just g a b) (k : Just g b c) : Just g a c :=
 ⟨k.os.trans h.os, k.tape.trans h.tape, k.output.trans h.output, Nat.le_trans h.size k.size, fun i hi hn => (k.block i (Nat.lt_of_lt_of_le hi h.size) hn).trans (h.block i hi hn)⟩
theorem Just.set {g : Nat} {a b : World} (h : Just g a b) (i : Nat) (v : Value) : Just g a (b.setCell ⟨g, i, none⟩ v) :=
 ⟨h.os, h.tape, h.output, by simpa [World.setCell] using h.size, fun j hj hn => (Below.heap_setCell _ _ _ _ (by exact hn)).trans (h.block j hj hn)⟩
theorem Just.drewN {g : Nat} {a b : World} (h : Just g a b) (n : Nat) : Just g a (b.drewN n) := ⟨h.os, h.tape, h.output, h.size, h.block⟩
theorem Just.cell {g : Nat} {w w' : World} (h : Just g w w') {p : Addr} (hp : p.block < w.heap.size) (hn : p.block ≠ g) : w'.cell? p = w.cell? p := World.cell?_of_block (h.block _ hp hn)
theorem Just.below {g B : Nat} {w w' : World} (h : Just g w w') (hB : B ≤ g) (hw : B ≤ w.heap.size) : Below B w w' := ⟨h.os, h.tape, h.output, h.size, fun b hb => h.block b (Nat.lt_of_lt_of_le hb hw) (by omega)⟩
structure MontAt (B M : Nat) (a b t : List Nat) (i n : Nat) : Prop where
 len : t.length = n + 2
 top : dg t (n + 1) = 0
 bound : val B t < M + val B b
 cong : ∃ k, val B t * B ^ i = val B (a.take i) * val B b + k * M
theorem MontAt.zero {B M : Nat} (a b : List Nat) (n : Nat) (hM : 0 < M) : MontAt B M a b (List.replicate (n + 2) 0) 0 n :=
 ⟨by simp, by rw [dg, List.getD_eq_getElem?_getD, List.getElem?_replicate]; split <;> rfl, by rw [val_replicate]; omega, 0, by simp [val_replicate]⟩
theorem dg_zero_mod {B : Nat} {t : List Nat} (ht : ∀ x ∈ t, x < B) (_hB : 0 < B) : val B t % B = dg t 0 := by
 cases t with
 | nil => simp [dg]
 | cons x l => rw [val_cons, Nat.add_mul_mod_self_left, Nat.mod_eq_of_lt (ht x (by simp))]; rfl
/-! What a round does to the numbers. -/
theorem mont_low {B M inv d q v : Nat} (hi : (inv * M + 1) % B = 0) (hv : v % B = d) (hq : q = d * inv % B) : (v + q * M) % B = 0 := by
 have h1 : (v + q * M) % B = (d * (inv * M + 1)) % B := by
  subst hq hv
  rw [Nat.mul_add, Nat.mul_one, Nat.add_mod, Nat.mod_mul_mod, ← Nat.mul_assoc, Nat.add_comm (v % B * inv * M), Nat.add_mod_mod]
 rw [h1, Nat.mul_mod, hi]
 simp
theorem mont_eq {M t0 ai b q t2 Bi A A' k : Nat} (h2 : t2 = t0 + ai * b + q * M) (hk : t0 * Bi = A * b + k * M) (hA : A' = A + Bi * ai) : t2 * Bi = A' * b + (k + q * Bi) * M := by
 subst h2 hA
 rw [Nat.add_mul, Nat.add_mul, hk, Nat.add_mul, Nat.add_mul]
 have e1 : ai * b * Bi = Bi * ai * b := by rw [Nat.mul_comm Bi ai, Nat.mul_assoc, Nat.mul_assoc, Nat.mul_comm b Bi]
 have e2 : q * M * Bi = q * Bi * M := by rw [Nat.mul_assoc, Nat.mul_assoc, Nat.mul_comm M Bi]
 omega
theorem mont_bound {B M t0 ai b q t2 t4 : Nat} (hB : 0 < B) (h2 : t2 = t0 + ai * b + q * M) (hb : t0 < M + b) (ha : ai < B) (hq : q < B) (h4 : t2 = B * t4) : t4 < M + b := by
 have e1 : ai * b ≤ (B - 1) * b := Nat.mul_le_mul_right _ (by omega)
 have e2 : q * M ≤ (B - 1) * M := Nat.mul_le_mul_right _ (by omega)
 have e3 : (B - 1) * b + b = B * b := by rw [← Nat.succ_mul, Nat.succ_eq_add_one, Nat.sub_add_cancel hB]
 have e4 : (B - 1) * M + M = B * M := by rw [← Nat.succ_mul, Nat.succ_eq_add_one, Nat.sub_add_cancel hB]
 have e5 : B * t4 < B * (M + b) := by rw [Nat.mul_add, ← h4]; omega
 exact Nat.lt_of_mul_lt_mul_left e5
theorem MontAt.step {B M inv n i q : Nat} {a b t t2 : List Nat} (hB : 2 ≤ B) (h : MontAt B M a b t i n) (ha : dg a i < B) (hi : (inv * M + 1) % B = 0) (hl2 : t2.length = n + 2) (hlim : ∀ x ∈ t2, x < B)
 (hq : q = (val B t + dg a i * val B b) % B * inv % B) (hv2 : val B t2 = val B t + dg a i * val B b + q * M) : MontAt B M a b (t2.drop 1 ++ [0]) (i + 1) n := by
 have h0 : val B t2 % B = 0 := by rw [hv2]; exact mont_low hi rfl hq
 have hq' : q < B := by rw [hq]; exact Nat.mod_lt _ (by omega)
 obtain ⟨x, l, rfl⟩ : ∃ x l, t2 = x :: l := by
  cases t2 with
  | nil => simp at hl2
  | cons x l => exact ⟨x, l, rfl⟩
 rw [dg_zero_mod hlim (by omega)] at h0
 have hx : x = 0 := h0
 subst hx
 have hlen : l.length = n + 1 := by simpa using hl2
 have e4 : val B (0 :: l) = B * val B l := by rw [val_cons]; omega
 have e5 : val B ((0 :: l).drop 1 ++ [0]) = val B l := by simp [val_append]
 obtain ⟨k, hk⟩ := h.cong
 refine ⟨by simp [hlen], ?_, ?_, k + q * B ^ i, ?_⟩
 · simp [dg, List.getD_eq_getElem?_getD, hlen]
 · rw [e5]
   exact mont_bound (by omega) hv2 h.bound ha hq' e4
 · rw [e5, Nat.pow_succ, show val B l * (B ^ i * B) = (B * val B l) * B ^ i by rw [Nat.mul_comm (B ^ i), ← Nat.mul_assoc, Nat.mul_comm (val B l)], ← e4]
   exact mont_eq hv2 hk (val_take_getD B a i)
end Go.Proofs.YtendnkpiidhogaaGreat

namespace Go.Proofs.YtendnkpiidhogaaGreat
open Go.RowKit

theorem Ext.drewN (w : World) (n : Nat) : Ext w (w.drewN n) := below_drewN (Below.refl _ w) n
theorem Just.ext {b : Nat} {w X Y : World} (h : Just b X Y) (hE : Ext w X) (hb : w.heap.size ≤ b) : Ext w Y := Below.trans hE (h.below hb hE.bsize)
theorem Just.at_ {b c : Nat} {X Y : World} {o : Obj} (h : Just b X Y) (hc : c ≠ b) (hx : X.heap[c]? = some o) : Y.heap[c]? = some o := (h.block c (blk_lt hx) hc).trans hx
section
variable {Q : Exit → Act → World → Prop} {ol : List Oper} {m : Nat} {L AL : List Nat} {R : Nat → (Nat → Value) → World → Prop} {a : Act} {w : World} {F : List Oper → Prop} {k n : Nat} {o : Oper} {l : List Oper} {u : Value}
end
end Go.Proofs.YtendnkpiidhogaaGreat

namespace Go.Proofs.YtendnkpiidhogaaGreat

def nbits (x : Nat) : Nat := if x = 0 then 0 else x.log2 + 1
theorem nbits_eq {x k : Nat} (h1 : 2 ^ k ≤ x) (h2 : x < 2 ^ (k + 1)) : nbits x = k + 1 := by
 have hx : x ≠ 0 := by have := Nat.pow_pos (n := k) (show 0 < 2 by omega); omega
 have h3 : k ≤ x.log2 := (Nat.le_log2 hx).2 h1
 have h4 : x.log2 < k + 1 := (Nat.log2_lt hx).2 h2
 simp [nbits, hx]
 omega
theorem nbits_top {m : Nat} (hm : 0 < m) {x : Nat} (hx : 0 < x) {k : Nat} (hk : 0 < k) (h1 : 2 ^ (k - 1) ≤ dg (digs (2 ^ m) x) ((digs (2 ^ m) x).length - 1)) (h2 : dg (digs (2 ^ m) x) ((digs (2 ^ m) x).length - 1) < 2 ^ k) :
 nbits x = m * ((digs (2 ^ m) x).length - 1) + k := by
 have hB : 2 ≤ 2 ^ m := by
  have : 2 ^ 1 ≤ 2 ^ m := Nat.pow_le_pow_right (by omega) hm
  simpa using this
 have hv := val_digs hB x
 have hlt := digs_lt hB x
 have hne : 0 < (digs (2 ^ m) x).length := by rw [digs_pos hB hx]; simp
 generalize digs (2 ^ m) x = l at *
 have h3 := val_take_getD (2 ^ m) l (l.length - 1)
 rw [show l.length - 1 + 1 = l.length by omega, List.take_length, hv] at h3
 have h4 := val_lt (B := 2 ^ m) (l := l.take (l.length - 1)) fun y hy => hlt y (List.mem_of_mem_take hy)
 rw [List.length_take, Nat.min_eq_left (by omega)] at h4
 have h5 : (2 ^ m) ^ (l.length - 1) = 2 ^ (m * (l.length - 1)) := by rw [Nat.pow_mul]
 rw [h5] at h3 h4
 generalize m * (l.length - 1) = e at *
 generalize dg l (l.length - 1) = t at *
 obtain ⟨j, rfl⟩ : ∃ j, k = j + 1 := ⟨k - 1, by omega⟩
 rw [Nat.add_sub_cancel] at h1
 have h6 : 2 ^ e * 2 ^ j ≤ 2 ^ e * t := Nat.mul_le_mul_left _ h1
 have h7 : 2 ^ e * (t + 1) ≤ 2 ^ e * 2 ^ (j + 1) := Nat.mul_le_mul_left _ h2
 rw [← Nat.pow_add] at h6 h7
 rw [Nat.mul_add] at h7
 exact nbits_eq (k := e + j) (by omega) (by rw [show e + j + 1 = e + (j + 1) by omega]; omega)
theorem val_shift {m : Nat} (l : List Nat) (hl : ∀ x ∈ l, x < 2 ^ m) (k j : Nat) (hj : j ≤ m) : ∃ r, val (2 ^ m) l / 2 ^ (m * k + j) = dg l k / 2 ^ j + 2 ^ (m - j) * r := by
 refine ⟨val (2 ^ m) (l.drop (k + 1)), ?_⟩
 have h1 : val (2 ^ m) l = val (2 ^ m) (l.take k) + (2 ^ m) ^ k * (dg l k + 2 ^ m * val (2 ^ m) (l.drop (k + 1))) := by
  rcases Nat.lt_or_ge k l.length with h | h
  · have := val_take_drop (2 ^ m) l (Nat.le_of_lt h)
    rw [this, List.drop_eq_getElem_cons h, val_cons, dg, getD_eq' h]
  · rw [List.take_of_length_le h, List.drop_eq_nil_of_le (by omega), dg, List.getD_eq_getElem?_getD, List.getElem?_eq_none h]
    simp
 have h2 : val (2 ^ m) (l.take k) < (2 ^ m) ^ k := by
  have h3 := val_lt (B := 2 ^ m) (l := l.take k) fun y hy => hl y (List.mem_of_mem_take hy)
  refine Nat.lt_of_lt_of_le h3 (Nat.pow_le_pow_right (Nat.pow_pos (by omega)) ?_)
  rw [List.length_take]; omega
 rw [Nat.pow_add, Nat.pow_mul, ← Nat.div_div_eq_div_mul, h1, Nat.add_mul_div_left _ _ (Nat.pow_pos (Nat.pow_pos (by omega))), Nat.div_eq_of_lt h2, Nat.zero_add]
 have e : 2 ^ m = 2 ^ j * 2 ^ (m - j) := by rw [← Nat.pow_add, show j + (m - j) = m by omega]
 generalize hv : val (2 ^ m) (l.drop (k + 1)) = v
 rw [e, Nat.mul_assoc, Nat.add_mul_div_left _ _ (Nat.pow_pos (by omega))]
def bytesOf (x n : Nat) : List Nat := (List.range n).map fun i => x / 2 ^ (8 * (n - 1 - i)) % 256
theorem bytesOf_length (x n : Nat) : (bytesOf x n).length = n := by simp [bytesOf]
end Go.Proofs.YtendnkpiidhogaaGreat

namespace Go.Proofs.YtendnkpiidhogaaGreat
open Go.RowKit

theorem dg_last_pos {x : Nat} (hx : 0 < x) : 0 < dg (digs 18446744073709551616 x) ((digs 18446744073709551616 x).length - 1) := by
 have hne : digs 18446744073709551616 x ≠ [] := by rw [digs_pos (by omega) hx]; simp
 have h := digs_last (B := 18446744073709551616) (by omega) x hne
 have hpos := List.length_pos_iff.2 hne
 rw [List.getLast_eq_getElem] at h
 rw [dg, getD_eq' (by omega)]
 omega
theorem nbits_limbs {x : Nat} (hx : 0 < x) : nbits x = 64 * ((digs 18446744073709551616 x).length - 1) + Lib.bitLen (dg (digs 18446744073709551616 x) ((digs 18446744073709551616 x).length - 1)) := by
 have h0 := dg_last_pos hx
 have h1 := getD_lt (B := 18446744073709551616) (by omega) (digs_lt (by omega) x) ((digs 18446744073709551616 x).length - 1)
 have h2 := Lib.bitLenAux_bounds 64 _ h1 (by omega)
 have h3 := nbits_top (m := 64) (by omega) hx (k := Lib.bitLen (dg (digs 18446744073709551616 x) ((digs 18446744073709551616 x).length - 1))) h2.1 h2.2.1 h2.2.2
 exact h3

set_option maxRecDepth 100000 in
set_option maxHeartbeats 1000000 in
theorem bits_any (P : Nat → Prop) (A : Option Addr) (c : Nat) (a : List Nat) (w : World) (h : RN w P A c a) :
 Calls Tryz.prog 93 #[.slice A a.length c] w fun e w' => e = .returned (.int .i64 (nbits (val 18446744073709551616 a) : Int)) ∧ w = w' := by
 have ta := trim_any P A c a w h
 replace h := h.trim
 generalize val 18446744073709551616 a = x at *
 rcases Nat.eq_zero_or_pos x with rfl | hx
 · rw [digs_zero] at ta
   have Ta := Lib.hid ta
   clear ta
   go_enter Tryz.func93, Tryz.ntmps93
   go_wp2_with fail
   refine Ta.out.mono ?_
   rintro e w1 ⟨rfl, rfl⟩
   go_wp2
   go_ret
   exact ⟨rfl, rfl⟩
 · have hb := nbits_limbs hx
   have hlt := h.2.dgLt
   obtain ⟨h1, h2, h3⟩ := h.cap
   have hne : 0 < (digs 18446744073709551616 x).length := by rw [digs_pos (by omega) hx]; simp
   generalize digs 18446744073709551616 x = l at *
   obtain ⟨n, hn⟩ : ∃ n, l.length = n + 1 := ⟨l.length - 1, by omega⟩
   obtain ⟨ad, rfl, _, q1⟩ := h.at_ (i := n) (by omega)
   rw [hn, Nat.add_sub_cancel] at hb
   have hl := hlt n
   have hbl : Lib.bitLen (dg l n) ≤ 64 := Lib.bitLen_le _ 64 (by omega) hl
   have hlen := Tryz.bits_Len64 (dg l n : Int) w (by omega) (by omega)
   rw [Int.toNat_natCast] at hlen
   generalize Lib.bitLen (dg l n) = k at *
   have Hlen := Lib.hid hlen
   have Hb := Lib.hid hb
   rw [hn] at ta h1 h3
   have Ta := Lib.hid ta
   clear ta hb hlen hl hlt hne hx hn h
   go_enter Tryz.func93, Tryz.ntmps93
   go_wp2_with fail
   refine Ta.out.mono ?_
   rintro e w1 ⟨rfl, rfl⟩
   go_wp2_with fail
   refine Hlen.out.mono ?_
   rintro e w1 ⟨rfl, rfl⟩
   go_wp2
   go_ret
   exact ⟨ret_int (by rw [Hb.out]; simp), rfl⟩

end Go.Proofs.YtendnkpiidhogaaGreat

namespace Go.Proofs.YtendnkpiidhogaaGreat
open Go.RowKit

theorem info8 : (Tryz.prog.info? 5).map (fun i => (i.zero, i.size, i.bytes)) = some (some (.int .u8 0), 1, 1) := by kernel_rfl
def Blk8 (w : World) (g : Nat) (l : List Nat) : Prop := w.heap[g]? = some (.cells (bys l).toArray 5 (0, 0))
section
variable {w w' : World} {g : Nat} {l : List Nat}
theorem bys_get {l : List Nat} {i : Nat} (h : i < l.length) : (bys l)[i]? = some (.int .u8 (dg l i : Int)) := by
 rw [dg, getD_eq' h]; simp [bys, List.getElem?_eq_getElem h]
theorem Blk8.cell (h : Blk8 w g l) {i : Nat} (hi : i < l.length) : w.cell? ⟨g, i, none⟩ = some (.int .u8 (dg l i : Int)) := by
 rw [blk_cell h i, List.getElem?_toArray, bys_get hi]
theorem Blk8.free (h : Blk8 w g l) (i : Nat) : w.frozen? ⟨g, i, none⟩ = false := blk_free h i
theorem Blk8.set (h : Blk8 w g l) (i : Nat) (x : Nat) : Blk8 (w.setCell ⟨g, i, none⟩ (.int .u8 (x : Int))) g (l.set i x) := by
 unfold Blk8 at *
 simp [World.setCell, Array.getElem?_modify, h, bys]
theorem Blk8.made (w : World) (n : Nat) : Blk8 (w.alloc (.cells (madeCells #[.int .u8 0] n) 5)) w.heap.size (List.replicate n 0) := by
 unfold Blk8
 rw [heap_alloc_new]
 congr 1
 congr 1
 apply Array.ext_getElem?
 intro i
 by_cases hi : i < n
 · have hs : i < (madeCells #[Value.int .u8 0] n).size := by rw [size_madeCells]; simpa using hi
   rw [Array.getElem?_eq_getElem hs]
   simp [madeCells, bys, hi, Nat.mod_one]
 · rw [Array.getElem?_eq_none (by rw [size_madeCells]; omega), Array.getElem?_eq_none (by simp [bys]; omega)]
theorem Blk8.rb {P : Nat → Prop} (h : Blk8 w g l) (hP : P g) (hl : ∀ b ∈ l, b < 256) (hn : l.length ≤ 1000000) : RB w P (some ⟨g, 0, none⟩) l.length l := by
 refine ⟨⟨Nat.le_refl _, by unfold maxLen; omega, by simp [bys], fun _ => ⟨_, rfl, hP, fun j u hu => ?_⟩⟩, hl, by omega⟩
 rw [add_blk, blk_cell h j, List.getElem?_toArray]
 exact hu
end
def BytesAt (x n : Nat) (o : List Nat) (k : Nat) : Prop := o.length = n ∧ (∀ j, j < k → dg o j = x / 2 ^ (8 * (n - 1 - j)) % 256) ∧ (∀ j, k ≤ j → dg o j = 0) ∧ ∀ b ∈ o, b < 256
theorem BytesAt.zero (x n : Nat) : BytesAt x n (List.replicate n 0) 0 := by
 refine ⟨by simp, fun j hj => by omega, fun j _ => ?_, fun b hb => by simp at hb; omega⟩
 rw [dg, List.getD_eq_getElem?_getD, List.getElem?_replicate]
 split <;> rfl
theorem BytesAt.step {x n : Nat} {o : List Nat} {k b : Nat} (h : BytesAt x n o k) (hk : k < n) (hb : x / 2 ^ (8 * (n - 1 - k)) % 256 = b) : BytesAt x n (o.set k b) (k + 1) := by
 obtain ⟨h1, h2, h3, h4⟩ := h
 refine ⟨by simpa using h1, fun j hj => ?_, fun j hj => by rw [getD_set_ne (by omega)]; exact h3 j (by omega), set_lt h4 (by omega)⟩
 rcases Nat.lt_or_ge j k with h | h
 · rw [getD_set_ne (by omega)]; exact h2 j h
 · obtain rfl : j = k := by omega
   rw [getD_set_eq (by omega)]; exact hb.symm
theorem BytesAt.skip {x n : Nat} {o : List Nat} {k : Nat} (h : BytesAt x n o k) (hb : x / 2 ^ (8 * (n - 1 - k)) % 256 = 0) : BytesAt x n o (k + 1) := by
 obtain ⟨h1, h2, h3, h4⟩ := h
 refine ⟨h1, fun j hj => ?_, fun j hj => h3 j (by omega), h4⟩
 rcases Nat.lt_or_ge j k with h | h
 · exact h2 j h
 · obtain rfl : j = k := by omega
   rw [hb]; exact h3 j h
theorem BytesAt.fin {x n : Nat} {o : List Nat} (h : BytesAt x n o n) : o = bytesOf x n := by
 obtain ⟨h1, h2, _⟩ := h
 apply List.ext_getElem (by rw [h1, bytesOf_length])
 intro i h3 h4
 have := h2 i (by omega)
 rw [dg, getD_eq' h3] at this
 rw [this]
 simp [bytesOf]
end Go.Proofs.YtendnkpiidhogaaGreat

namespace Go.Proofs.YtendnkpiidhogaaGreat
open Go.RowKit

def OW (w : World) (base : Nat) (A : Option Addr) (c : Nat) (bs : List Nat) : Prop := w.ownsRow base 5 1 (.slice A bs.length c) bs.length (bys bs) ∧ ∀ b ∈ bs, b < 256
theorem own_base {w : World} {base n size : Nat} {e : TypeId} {v : Value} {cs : List Value} (h : w.ownsRow base e size v n cs) (k : Nat) (hk : v.ownBlock = some k) : base ≤ k := by
 rcases h.2 with ⟨rfl, rfl⟩ | ⟨g, cap, cur, rfl, hg, _⟩
 · cases hk
 · simp [Value.ownBlock] at hk
   omega
theorem OW.rb {w : World} {base : Nat} {A : Option Addr} {c : Nat} {bs : List Nat} (h : OW w base A c bs) (hl : bs.length ≤ 100000000) : RB w (In base w.heap.size) A c bs := ⟨RS.of_own h.1, h.2, by omega⟩
theorem OW.lit (w : World) (b : Nat) (hb : b < 256) : OW (w.alloc (.cells #[.int .u8 (b : Int)] 5)) w.heap.size (some ⟨w.heap.size, 0, none⟩) 1 [b] :=
 ⟨World.ownsRow_lit w #[.int .u8 (b : Int)] 1 (Nat.le_refl _) (by unfold maxLen; omega) rfl, by simp; exact hb⟩
theorem OW.ext {w X : World} {base : Nat} {A : Option Addr} {c : Nat} {bs : List Nat} (h : OW w base A c bs) (hE : w.grownBy X none) : OW X base A c bs := ⟨own_kept h.1 hE, h.2⟩
section
variable {w : World} {ops : Array Oper} {rest : List Oper} {o : Oper} {a : Act} {Q : Exit → Act → World → Prop}
theorem app8 (hgd : o.guard = none) (s x : Operand) (ho : o.op = .call { callee := .builtin .append, args := #[s, x], argTypes := #[33, 33] }) (base : Nat) {A Au : Option Addr} {c cu : Nat} {bs cs : List Nat} {B : Nat → Prop}
 (hs : a.eval s = .slice A bs.length c) (hown : OW w base A c bs) (hx : a.eval x = .slice Au cs.length cu) (hr : RB w B Au cu cs) (hl : bs.length + cs.length ≤ 100000000) (hbase : base ≤ w.heap.size)
 (h : ∀ A' c' w', OW w' base A' c' (bs ++ cs) → Below base w w' → wpList Tryz.prog ops Q rest (a.put o.dst (.slice A' (bs ++ cs).length c')) w') : wpList Tryz.prog ops Q (o :: rest) a w := by
 obtain ⟨i0, hi, hz0, hz1, hz2⟩ := info_parts info8
 refine wpList_append_rs w hgd s x 33 ho base 5 i0 (.int .u8 0) 1 1 Tryz.underlying33 hi hz0 hz1 hz2 rfl (by decide) _ bs.length (bys bs) hs hown.1 B Au cs.length cu (bys cs) hx hr.1 (by intro u hu; obtain ⟨b, _, rfl⟩ := List.mem_map.1 hu; rfl) (bs.length + cs.length) rfl (by unfold maxLen; omega) (by omega) hbase ?_
 intro A' c' w' h1 h2 h3
 have hlen : (bs ++ cs).length = bs.length + cs.length := List.length_append
 refine (hlen ▸ h A' c' w' ⟨?_, ?_⟩ ?_ : _)
 · rw [hlen, show bys (bs ++ cs) = bys bs ++ bys cs by simp [bys]]
   exact h1
 · intro b hb
   rcases List.mem_append.1 hb with hb | hb
   · exact hown.2 b hb
   · exact hr.2.1 b hb
 · exact Below.grown (Below.refl base w) h2 hbase (own_base hown.1)
end
end Go.Proofs.YtendnkpiidhogaaGreat

namespace Go.Proofs.YtendnkpiidhogaaGreat.At
open Go.RowKit Go.Shelf

set_option maxRecDepth 100000 in
set_option maxHeartbeats 4000000 in
theorem kread_nil (A : Option Addr) (c : Nat) (w : World) :
 Calls Tryz.prog 151 #[.slice A 0 c] w fun e w' => e = .returned (.tuple #[.agg #[.int .i64 0, .slice none 0 0, .slice none 0 0], .bool false]) ∧ Below w.heap.size w w' := by
 have hB := (Below.refl w.heap.size w).alloc (Nat.le_refl _) (.cells #[.int .i64 0, .slice none 0 0, .slice none 0 0] 172)
 have h0 := heap_alloc_new w (.cells #[.int .i64 0, .slice none 0 0, .slice none 0 0] 172)
 have hz : (w.alloc (.cells #[.int .i64 0, .slice none 0 0, .slice none 0 0] 172)).heap.size = w.heap.size + 1 := by simp
 have HB := Lib.hid hB
 have H0 := Lib.hid h0
 have Hz := Lib.hid hz
 clear hB h0 hz
 go_enter Tryz.func151, Tryz.ntmps151
 go_wp2_with fail
 obtain ⟨s, hs⟩ : ∃ s, w.heap.size = s := ⟨_, rfl⟩
 rw [hs] at HB H0 Hz ⊢
 have Hs := Lib.hid hs
 clear hs
 generalize w.alloc (.cells #[.int .i64 0, .slice none 0 0, .slice none 0 0] 172) = W1 at *
 refine (derRead_nil A c W1).mono ?_
 rintro e w2 ⟨rfl, hB2⟩
 have h2 := (hB2.block s (by have := Hz.out; omega)).trans H0.out
 have hlt : s < w2.heap.size := by have := Hz.out; have := hB2.size; omega
 have HB3 := Lib.hid (HB.out.trans (hB2.mono (by have := Hz.out; omega)))
 have H2 := Lib.hid h2
 have q0 := blk_cell h2 0
 have q1 := blk_cell h2 1
 have q2 := blk_cell h2 2
 have p0 := blk_free h2 0
 have p1 := blk_free h2 1
 have p2 := blk_free h2 2
 simp only [List.getElem?_toArray, List.getElem?_cons_zero, List.getElem?_cons_succ] at q0 q1 q2
 clear h2 hB2 H0
 go_wp2
 have r := set3a H2.out (.int .i64 0) (.slice none 0 0) (.slice none 0 0) (.cells #[.int .i64 0, .slice none 0 0, .slice none 0 0] 172)
 have r0 := blk_cell r 0
 have r1 := blk_cell r 1
 have r2 := blk_cell r 2
 simp only [List.getElem?_toArray, List.getElem?_cons_zero, List.getElem?_cons_succ] at r0 r1 r2
 refine bodyPost_ret (v := .tuple #[.agg #[.int .i64 0, .slice none 0 0, .slice none 0 0], .bool false]) (by simp [results, Tryz.results151, go_sem, r0, r1, r2]) rfl ⟨rfl, ?_⟩
 rw [Hs.out]
 exact (((HB3.out.setCell (p := ⟨s, 0, none⟩) (by simp) _).setCell (p := ⟨s, 1, none⟩) (by simp) _).setCell (p := ⟨s, 2, none⟩) (by simp) _).alloc (by simp; omega) _

attribute [local go_sem] Oper.semAt_some

theorem OW.lower {w : World} {base b' : Nat} {A : Option Addr} {c : Nat} {bs : List Nat} (h : OW w base A c bs) (hb : b' ≤ base) : OW w b' A c bs := by
 obtain ⟨⟨h1, h2⟩, h3⟩ := h
 refine ⟨⟨h1, ?_⟩, h3⟩
 rcases h2 with h2 | ⟨g, cap, cur, e, hg, r⟩
 · exact .inl h2
 · exact .inr ⟨g, cap, cur, e, by omega, r⟩
theorem byte_of (z : Int) : ∃ b : Nat, b < 256 ∧ z % 256 = (b : Int) := ⟨(z % 256).toNat, by omega, by omega⟩
set_option maxRecDepth 100000 in
set_option maxHeartbeats 4000000 in
theorem digits_any (n : Nat) (w : World) (hn : n < 268435456) :
 Calls Tryz.prog 240 #[.int .i64 n] w fun e w' => ∃ A c bs, e = .returned (.slice A (List.length bs) c) ∧ OW w' w.heap.size A c bs ∧ 0 < bs.length ∧ bs.length ≤ 10 ∧ Below w.heap.size w w' := by
 obtain ⟨b0, hb0, he0⟩ := byte_of (bits .and .i64 (n : Int) 127)
 have hO := Lib.hid (OW.lit w b0 hb0)
 go_enter Tryz.func240, Tryz.ntmps240
 go_wp2
 go_loopw [0, 3] (fun v s wr => ∃ (x : Nat) (A : Option Addr) (c : Nat) (bs : List Nat), v = .int .i64 (x : Int) ∧ s = .slice A bs.length c ∧ OW wr w.heap.size A c bs ∧ 0 < bs.length ∧ bs.length ≤ 10 ∧ x < 128 ^ (10 - bs.length) ∧ Below w.heap.size w wr) (fun v _ _ => (intOf v).toNat)
 case atStart => exact ⟨n / 128, _, 1, [b0], by simp, rfl, hO.out, by simp, by simp, by simp; omega, (Below.refl _ w).alloc (Nat.le_refl _) _⟩
 case round =>
  clear hO he0 hb0
  obtain ⟨x, A, c, bs, rfl, rfl, hO, h0, hl, hx, hB⟩ := hrel
  by_cases hx0 : 0 < x
  · obtain ⟨b, hb, hbe⟩ := byte_of (bits .or .i64 (bits .and .i64 (x : Int) 127) 128)
    have hl9 : bs.length ≤ 9 := by
     rcases Nat.lt_or_ge 9 bs.length with h | h
     · have : bs.length = 10 := by omega
       rw [this] at hx
       simp at hx
       omega
     · exact h
    have hx' : x / 128 < 128 ^ (10 - (bs.length + 1)) := by
     rw [show 10 - bs.length = 10 - (bs.length + 1) + 1 by omega, Nat.pow_succ] at hx
     exact Nat.div_lt_of_lt_mul (by rw [Nat.mul_comm]; exact hx)
    have HX := Lib.hid hx'
    have hs := hB.size
    have HO := Lib.hid (OW.lit wr b hb)
    have HR := Lib.hid ((hO.rb (by omega)).below ((Below.refl _ wr).alloc (Nat.le_refl _) (.cells #[.int .u8 (b : Int)] 5)) fun q hq => hq.2)
    have hi : (0 : Int) < (x : Int) := by omega
    clear hx hx' hO
    go_wp2_with (at_builtin; refine app8 rfl (.tmp 18) (.tmp 19) rfl wr.heap.size (bs := [b]) rfl HO.out rfl HR.out (by simp; omega) (by simp) ?_; intro A2 c2 w2 hw2 hb2)
    have HB := Lib.hid ((hB.alloc hs (.cells #[.int .u8 (b : Int)] 5)).trans (hb2.mono hs))
    go_roundw
    case rel => exact ⟨x / 128, A2, c2, b :: bs, by simp, rfl, OW.lower hw2 hs, by simp, by simp; omega, by simpa using HX.out, HB.out⟩
    case measure => simp [intOf]; omega
  · have hx0' : x = 0 := by omega
    subst hx0'
    go_wp2
    go_ret
    exact ⟨A, c, bs, rfl, hO, h0, hl, hB⟩
end Go.Proofs.YtendnkpiidhogaaGreat.At

namespace Go.Proofs.YtendnkpiidhogaaGreat.At
open Go.RowKit Go.Shelf

attribute [local go_sem] Oper.semAt_some

theorem OW.up {w X : World} {base : Nat} {A : Option Addr} {c : Nat} {bs : List Nat} (h : OW w base A c bs) (hY : Below w.heap.size w X) : OW X base A c bs :=
 OW.ext h ⟨hY.os, hY.tape, hY.output, hY.size, fun k hk _ => hY.block k hk⟩
set_option maxRecDepth 100000 in
set_option maxHeartbeats 4000000 in
theorem oid_any (P : Nat → Prop) (g c : Nat) (l : List Int) (w : World) (hv : RI w P (some ⟨g, 0, none⟩) c l) (hP : ∀ b, P b → b < w.heap.size) (hl : 3 ≤ l.length ∧ l.length ≤ 100) (h0 : l.getD 0 0 = 1) (h1 : 0 ≤ l.getD 1 0 ∧ l.getD 1 0 ≤ 39) (ha : ∀ k, 0 ≤ l.getD k 0 ∧ l.getD k 0 < 268435456) :
 Calls Tryz.prog 235 #[.slice (some ⟨g, 0, none⟩) l.length c] w fun e w' => (∃ A1 n c1, e = .returned (.tuple #[.agg #[.int .i64 6, .slice A1 n c1, .slice none 0 0], .bool true])) ∧ Below w.heap.size w w' := by
 obtain ⟨hlc, hc⟩ := hv.cap
 have hB0 := (Below.refl w.heap.size w).alloc (Nat.le_refl _) (.cells #[.int .i64 0, .slice none 0 0, .slice none 0 0] 172)
 have hb0 := heap_alloc_new w (.cells #[.int .i64 0, .slice none 0 0, .slice none 0 0] 172)
 have hz0 : (w.alloc (.cells #[.int .i64 0, .slice none 0 0, .slice none 0 0] 172)).heap.size = w.heap.size + 1 := by simp
 obtain ⟨W0, hW0⟩ : ∃ W0, w.alloc (.cells #[.int .i64 0, .slice none 0 0, .slice none 0 0] 172) = W0 := ⟨_, rfl⟩
 rw [hW0] at hB0 hb0 hz0
 have hv0 := hv.below hB0 hP
 obtain ⟨a, ea, hPg, x0⟩ := hv0.at_ (i := 0) (by omega)
 injection ea with ea
 subst ea
 obtain ⟨a', ea, _, x1⟩ := hv0.at_ (i := 1) (by omega)
 injection ea with ea
 subst ea
 rw [h0] at x0
 obtain ⟨y, hy⟩ : ∃ y, l.getD 1 0 = y := ⟨_, rfl⟩
 rw [hy] at x1 h1
 simp [Addr.add] at x0 x1
 have y0 := x0
 have y1 := x1
 rw [← hW0] at y0 y1
 have HW := Lib.hid hW0
 have HB0 := Lib.hid hB0
 have Hb0 := Lib.hid hb0
 have Hz0 := Lib.hid hz0
 have HA := Lib.hid ha
 have Hy := Lib.hid hy
 have k0 : ¬ (l.length : Int) < 2 := by omega
 have k1 : ¬ (39 : Int) < y := by omega
 clear hB0 hb0 hz0 hW0 h0 ha hy
 go_enter Tryz.func235, Tryz.ntmps235
 go_wp2
 rw [HW.out]
 clear y0 y1
 go_loopw [33] (fun i wr => ∃ k : Nat, k ≤ l.length ∧ i = .int .i64 k ∧ ∃ d, wr = W0.drewN d) (fun i _ => l.length - (intOf i).toNat)
 case atStart => exact ⟨0, by omega, rfl, 0, rfl⟩
 case round =>
  obtain ⟨k, hk, rfl, d, rfl⟩ := hrel
  by_cases hlt : k < l.length
  · obtain ⟨a, ea, _, hx⟩ := (hv0.keep (w' := W0.drewN d) fun _ _ => rfl).at_ hlt
    injection ea with ea
    subst ea
    have h1 := HA.out k
    obtain ⟨z, hz⟩ : ∃ z, l.getD k 0 = z := ⟨_, rfl⟩
    rw [hz] at hx h1
    have hx' : (W0.drewN d).cell? ⟨g, k, none⟩ = some (.int .i64 z) := by
     have e : Addr.add ⟨g, 0, none⟩ k = ⟨g, k, none⟩ := by by_cases h : k = 0 <;> simp [Addr.add, h]
     rw [← e]; exact hx
    clear hx
    have Hz := Lib.hid hz
    clear hz
    have k2 : ¬ z < 0 := by omega
    have k3 : ¬ 268435456 < z := by omega
    go_wp2
    go_roundw
    case rel => exact ⟨k + 1, by omega, by go_num, d, rfl⟩
    case measure => simp [intOf]; omega
  · obtain rfl : k = l.length := by omega
    have X0 : (W0.drewN d).cell? ⟨g, 0, none⟩ = some (.int .i64 1) := x0
    have X1 : (W0.drewN d).cell? ⟨g, 1, none⟩ = some (.int .i64 y) := x1
    obtain ⟨yn, hyn⟩ : ∃ yn : Nat, y = (yn : Int) := ⟨y.toNat, by omega⟩
    subst hyn
    have HD := fun X => digits_any (40 + yn) X (by omega)
    simp only [Int.natCast_add, Int.cast_ofNat_Int] at HD
    have HDD := Lib.hid HD
    have hwr : IntKind.i64.wrap (40 + (yn : Int)) = 40 + (yn : Int) := by rw [IntKind.wrap_i64]; omega
    clear k0 k1 hk hlt x0 x1 HD
    go_wp2_with fail
    refine Par.region_ext (by kernel_rfl) 10 [0, 1, 3, 7, 0, 16, 48, 127, 255, 511] [] (fun j f X => match j with
     | 0 => f 0 = .slice (some ⟨g, 0, none⟩) l.length c
     | 1 => f 1 = .pointer (some ⟨g, 0, none⟩)
     | 2 => f 2 = .int .i64 1
     | 3 => f 3 = .int .i64 40
     | 4 => f 4 = .slice (some ⟨g, 0, none⟩) l.length c
     | 5 => f 5 = .pointer (some ⟨g, 1, none⟩)
     | 6 => f 6 = .int .i64 (yn : Int)
     | 7 => f 7 = .int .i64 (40 + (yn : Int))
     | 8 => ∃ A8 c8 b8, f 8 = .slice A8 (List.length b8) c8 ∧ OW X W0.heap.size A8 c8 b8 ∧ b8.length ≤ 10
     | 9 => ∃ A8 c8 b8, f 9 = .slice A8 (List.length b8) c8 ∧ OW X W0.heap.size A8 c8 b8 ∧ b8.length ≤ 10
     | _ => True) (by kernel_rfl) [(45, 0), (46, 1), (47, 2), (48, 3), (49, 4), (50, 5), (51, 6), (52, 7), (53, 8), (6, 9)] (by kernel_rfl) ?_
    refine Par.v0 1 9 ?_
    refine Par.S 2 8 [(45, 0), (49, 4), (50, 5), (51, 6)] (fun f X hX hR K hK => ?_) ?_
    · have e0 : f 0 = _ := hR.out 0 rfl
      have q1 : 0 < l.length := by omega
      simp only [yA, yB, yC, yD, yE, e0]
      refine ⟨?_⟩
      go_simp
      exact Par.k hK (s := by simp only [yA, yB, yC, yD, yE, e0])
    refine Par.ld1 3 7 1 X0 ?_
    refine Par.v1 4 6 2 ?_
    refine Par.v0 5 5 ?_
    refine Par.S 6 4 [(45, 0), (46, 1), (47, 2), (48, 3), (49, 4)] (fun f X hX hR K hK => ?_) ?_
    · have e4 : f 4 = _ := hR.out 4 rfl
      have q5 : 1 < l.length := by omega
      have q6 : (1 : Int) < (l.length : Int) := by omega
      simp only [yA, yB, yC, yD, yE, e4]
      refine ⟨?_⟩
      go_simp
      exact Par.k hK (s := by simp only [yA, yB, yC, yD, yE, e4])
    refine Par.ld1 7 3 5 X1 ?_
    refine Par.v2 8 2 3 6 (hR := fun _ _ h => h.trans ((congrArg (Value.int .i64) hwr))) ?_
    refine Par.c0 9 1 (fun f => #[f 7]) (F' := 240) (fun f X hX hR => ?_) ?_
    · have e7 : f 7 = _ := hR.out 7 rfl
      simp only [e7]
      refine (HDD.out X).mono ?_
      rintro e w2 ⟨A8, c8, b8, rfl, hO8, -, hl8, hB⟩
      exact ⟨(.slice A8 b8.length c8), rfl, hB, fun Y hY => ⟨A8, c8, b8, rfl, OW.up (OW.lower hO8 hX.bsize) hY, hl8⟩⟩
    refine Par.S 10 0 [(45, 0), (46, 1), (47, 2), (48, 3), (49, 4), (50, 5), (51, 6), (52, 7), (53, 8)] (fun f X hX hR K hK => ?_) ?_
    · obtain ⟨A8, c8, b8, (e8 : f 8 = _), r8, l8⟩ := hR.out 8 rfl
      simp only [yA, yB, yC, yD, yE, e8]
      refine ⟨?_⟩
      go_simp
      exact hK.out _ (.slice A8 b8.length c8) _ (by simp only [yA, yB, yC, yD, yE, e8]) (Ext.refl _) trivial (fun Y hY => ⟨A8, c8, b8, rfl, OW.up r8 hY, l8⟩)
    refine Par.AllOps.fin ⟨fun f X hX hR hal hap => ?_⟩
    obtain ⟨A8, c8, b8, (e8 : f 8 = _), r8, l8⟩ := hR 8 (by decide)
    obtain ⟨A9, c9, b9, (e9 : f 9 = _), r9, l9⟩ := hR 9 (by decide)
    simp only [yA, yB, yD, yE, e8, e9]
    clear hR hal hap e8 e9
    refine Par.Chain.done ?_
    have hXB : Below W0.heap.size W0 X := Below.trans (below_drewN (Below.refl _ W0) d) hX
    have e9' := r9
    have HO9 := Lib.hid r9
    have HXB := Lib.hid hXB
    clear r9 e9' hXB hX X0 X1 HDD hwr
    have m0 : (0 : Int) ≤ 2 := by omega
    have m1 : (2 : Int) ≤ (l.length : Int) := by omega
    have m2 : ¬ (c : Int) = 2 := by omega
    have m3 : ¬ c = 2 := by omega
    have m4 : (2 : Int) ≤ (c : Int) := by omega
    go_wp2
    go_loopw [6, 57] (fun s i wr => ∃ (k : Nat) (A6 : Option Addr) (c6 : Nat) (bs : List Nat), k + 2 ≤ l.length ∧ i = .int .i64 k ∧ s = .slice A6 bs.length c6 ∧ OW wr W0.heap.size A6 c6 bs ∧ bs.length ≤ 10 + 10 * k ∧ Below W0.heap.size W0 wr) (fun _ i _ => l.length - (intOf i).toNat)
    case atStart => exact ⟨0, A9, c9, b9, by omega, rfl, rfl, HO9.out, by omega, HXB.out⟩
    case round =>
     clear HO9 HXB l9 l8 r8
     obtain ⟨k, A6, c6, bs, hk, rfl, rfl, hO6, hl6, hB⟩ := hrel
     have hs := hB.size
     by_cases hlt : k + 2 < l.length
     · obtain ⟨a, ea, _, hx⟩ := (hv0.below hB (fun b hb => by have := hP b hb; have := Hz0.out; omega)).at_ (i := k + 2) hlt
       injection ea with ea
       subst ea
       have h1 := HA.out (k + 2)
       obtain ⟨z, hz⟩ : ∃ z, l.getD (k + 2) 0 = z := ⟨_, rfl⟩
       rw [hz] at hx h1
       obtain ⟨zn, hzn⟩ : ∃ zn : Nat, z = (zn : Int) := ⟨z.toNat, by omega⟩
       subst hzn
       have hx' : wr.cell? ⟨g, 2 + k, none⟩ = some (.int .i64 (zn : Int)) := by
        have e : Addr.add ⟨g, 0, none⟩ (k + 2) = ⟨g, 2 + k, none⟩ := by simp [Addr.add]; omega
        rw [← e]; exact hx
       have HO6 := Lib.hid hO6
       have k1 : k < l.length - 2 := by omega
       have k1' : (k : Int) < ((l.length - 2 : Nat) : Int) := by omega
       have HD := Lib.hid (digits_any zn wr (by omega))
       clear hx hO6 hz
       go_wp2_with fail
       refine HD.out.mono ?_
       rintro e w2 ⟨A7, c7, b7, rfl, hO7, -, hl7, hB7⟩
       have HO7 := Lib.hid (hO7.rb (by omega))
       have HO8 := Lib.hid (OW.up HO6.out hB7)
       have HB7 := Lib.hid (hB.trans (hB7.mono hs))
       have hs7 := HB7.out.size
       clear hO7 hB7 HO6 HD
       go_wp2_with (at_builtin; refine app8 rfl (.tmp 61) (.tmp 63) rfl W0.heap.size (bs := bs) rfl HO8.out rfl HO7.out (by omega) hs7 ?_; intro A2 c2 w3 hw3 hb3)
       have HB8 := Lib.hid (HB7.out.trans hb3)
       have HW3 := Lib.hid hw3
       clear hw3 hb3
       go_roundw
       case rel => exact ⟨k + 1, A2, c2, bs ++ b7, by omega, by go_num, by rw [List.length_append], HW3.out, by rw [List.length_append]; omega, HB8.out⟩
       case measure => simp [intOf]; omega
     · have hk2 : k = l.length - 2 := by omega
       have k1 : ¬ k < l.length - 2 := by omega
       have k1' : ¬ (k : Int) < ((l.length - 2 : Nat) : Int) := by omega
       have hb1 := (hB.block w.heap.size (by have := Hz0.out; omega)).trans Hb0.out
       have HBB := Lib.hid (HB0.out.trans (hB.mono (by have := Hz0.out; omega)))
       obtain ⟨s, hs0⟩ : ∃ s, w.heap.size = s := ⟨_, rfl⟩
       rw [hs0] at hb1 HBB
       have q0 := blk_cell hb1 0
       have q1 := blk_cell hb1 1
       have q2 := blk_cell hb1 2
       have p0 := blk_free hb1 0
       have p1 := blk_free hb1 1
       have p2 := blk_free hb1 2
       simp only [List.getElem?_toArray, List.getElem?_cons_zero, List.getElem?_cons_succ] at q0 q1 q2
       have r := set3 hb1 (.int .i64 6) (.slice A6 bs.length c6) (.slice none 0 0)
       have r0 := blk_cell r 0
       have r1 := blk_cell r 1
       have r2 := blk_cell r 2
       simp only [List.getElem?_toArray, List.getElem?_cons_zero, List.getElem?_cons_succ] at r0 r1 r2
       have R0 := Lib.hid r0
       have R1 := Lib.hid r1
       have R2 := Lib.hid r2
       clear r r0 r1 r2 hb1 hO6 hB hk2
       go_wp2
       have r0 := R0.out
       have r1 := R1.out
       have r2 := R2.out
       refine bodyPost_ret (v := .tuple #[.agg #[.int .i64 6, .slice A6 bs.length c6, .slice none 0 0], .bool true]) (by simp [results, Tryz.results235, go_sem, r0, r1, r2]) rfl ⟨⟨A6, _, c6, rfl⟩, ?_⟩
       exact ((HBB.out.setCell (p := ⟨s, 0, none⟩) (Nat.le_refl _) _).setCell (p := ⟨s, 1, none⟩) (Nat.le_refl _) _).setCell (p := ⟨s, 2, none⟩) (Nat.le_refl _) _
end Go.Proofs.YtendnkpiidhogaaGreat.At

namespace Go.Proofs.YtendnkpiidhogaaGreat.At
open Go.RowKit Go.Shelf

attribute [local go_sem] Oper.semAt_some

set_option maxRecDepth 100000 in
set_option maxHeartbeats 4000000 in
theorem name_any (P : Nat → Prop) (g c : Nat) (l : List Int) (w : World) (hv : RI w P (some ⟨g, 0, none⟩) c l) (hP : ∀ b, P b → b < w.heap.size) (hl : 3 ≤ l.length ∧ l.length ≤ 100) (h0 : l.getD 0 0 = 1) (h1 : 0 ≤ l.getD 1 0 ∧ l.getD 1 0 ≤ 39) (ha : ∀ k, 0 ≤ l.getD k 0 ∧ l.getD k 0 < 268435456) :
 Calls Tryz.prog 219 #[.slice (some ⟨g, 0, none⟩) l.length c] w fun e w' => (∃ A1 n c1, e = .returned (.agg #[.int .i64 6, .slice A1 n c1, .slice none 0 0])) ∧ Below w.heap.size w w' := by
 have hB := (Below.refl w.heap.size w).alloc (Nat.le_refl _) (.cells #[.int .i64 0, .slice none 0 0, .slice none 0 0] 172)
 have hb := heap_alloc_new w (.cells #[.int .i64 0, .slice none 0 0, .slice none 0 0] 172)
 have hz : (w.alloc (.cells #[.int .i64 0, .slice none 0 0, .slice none 0 0] 172)).heap.size = w.heap.size + 1 := by simp
 have hO := oid_any P g c l _ (hv.below hB hP) (fun b hb => by have := hP b hb; rw [hz]; omega) hl h0 h1 ha
 have HB := Lib.hid hB
 have H0 := Lib.hid hb
 have Hz := Lib.hid hz
 have HO := Lib.hid hO
 clear hB hb hz hO hv hP hl h0 h1 ha
 go_enter Tryz.func219, Tryz.ntmps219
 go_wp2_with fail
 obtain ⟨s, hs⟩ : ∃ s, w.heap.size = s := ⟨_, rfl⟩
 rw [hs] at HB H0 Hz ⊢
 have Hs := Lib.hid hs
 clear hs
 generalize w.alloc (.cells #[.int .i64 0, .slice none 0 0, .slice none 0 0] 172) = W1 at *
 refine HO.out.mono ?_
 rintro e w2 ⟨⟨A1, n, c1, rfl⟩, hB2⟩
 have h2 := (hB2.block s (by have := Hz.out; omega)).trans H0.out
 have hlt : s < w2.heap.size := by have := Hz.out; have := hB2.size; omega
 have HB3 := Lib.hid (HB.out.trans (hB2.mono (by have := Hz.out; omega)))
 have H2 := Lib.hid h2
 have q0 := blk_cell h2 0
 have q1 := blk_cell h2 1
 have q2 := blk_cell h2 2
 have p0 := blk_free h2 0
 have p1 := blk_free h2 1
 have p2 := blk_free h2 2
 simp only [List.getElem?_toArray, List.getElem?_cons_zero, List.getElem?_cons_succ] at q0 q1 q2
 clear h2 hB2 H0
 go_wp2
 have r := set3a H2.out (.int .i64 6) (.slice A1 n c1) (.slice none 0 0) (.cells #[.int .i64 6, .slice A1 n c1, .slice none 0 0] 172)
 have r0 := blk_cell r 0
 have r1 := blk_cell r 1
 have r2 := blk_cell r 2
 simp only [List.getElem?_toArray, List.getElem?_cons_zero, List.getElem?_cons_succ] at r0 r1 r2
 refine bodyPost_ret (v := .agg #[.int .i64 6, .slice A1 n c1, .slice none 0 0]) (by simp [results, Tryz.results219, go_sem, r0, r1, r2]) rfl ⟨⟨A1, n, c1, rfl⟩, ?_⟩
 rw [Hs.out]
 exact (((HB3.out.setCell (p := ⟨s, 0, none⟩) (by simp) _).setCell (p := ⟨s, 1, none⟩) (by simp) _).setCell (p := ⟨s, 2, none⟩) (by simp) _).alloc (by simp; omega) _

theorem all_small {l : List Int} (h : ∀ x ∈ l, 0 ≤ x ∧ x < 268435456) (k : Nat) : 0 ≤ l.getD k 0 ∧ l.getD k 0 < 268435456 := by
 rcases Nat.lt_or_ge k l.length with hk | hk
 · rw [List.getD_eq_getElem?_getD, List.getElem?_eq_getElem hk]; exact h _ (List.getElem_mem hk)
 · rw [List.getD_eq_getElem?_getD, List.getElem?_eq_none hk]; simp
set_option maxRecDepth 100000 in
set_option maxHeartbeats 4000000 in
theorem params_1 (w : World) : Calls Tryz.prog 186 #[.int .i64 1] w fun e w' => (∃ A1 n c1, e = .returned (.tuple #[.agg #[.int .i64 6, .slice A1 n c1, .slice none 0 0], .bool true])) ∧ Below w.heap.size w w' := by
 have hB := ((Below.refl w.heap.size w).alloc (Nat.le_refl _) (.cells #[.int .i64 0, .slice none 0 0, .slice none 0 0] 172)).alloc (by simp) (.cells #[.int .i64 1, .int .i64 2, .int .i64 840, .int .i64 10045, .int .i64 3, .int .i64 1, .int .i64 7] 3)
 have hb := (Below.heap_alloc (w.alloc (.cells #[.int .i64 0, .slice none 0 0, .slice none 0 0] 172)) (.cells #[.int .i64 1, .int .i64 2, .int .i64 840, .int .i64 10045, .int .i64 3, .int .i64 1, .int .i64 7] 3) w.heap.size (by simp)).trans (heap_alloc_new w _)
 have hz : ((w.alloc (.cells #[.int .i64 0, .slice none 0 0, .slice none 0 0] 172)).alloc (.cells #[.int .i64 1, .int .i64 2, .int .i64 840, .int .i64 10045, .int .i64 3, .int .i64 1, .int .i64 7] 3)).heap.size = w.heap.size + 2 := by simp
 have hR := RI.fresh (P := fun b => b < w.heap.size + 2) (w.alloc (.cells #[.int .i64 0, .slice none 0 0, .slice none 0 0] 172)) #[.int .i64 1, .int .i64 2, .int .i64 840, .int .i64 10045, .int .i64 3, .int .i64 1, .int .i64 7] 3 [1, 2, 840, 10045, 3, 1, 7] 7 rfl rfl (by omega) (by simp)
 rw [World.size_alloc] at hR
 have hO := name_any (fun b => b < w.heap.size + 2) (w.heap.size + 1) 7 [1, 2, 840, 10045, 3, 1, 7] _ hR (fun b hb => by rw [hz]; exact hb) (by simp) rfl (by simp) (all_small (by simp))
 have HB := Lib.hid hB
 have H0 := Lib.hid hb
 have Hz := Lib.hid hz
 have HO := Lib.hid hO
 clear hB hb hz hO hR
 go_enter Tryz.func186, Tryz.ntmps186
 go_wp2_with fail
 obtain ⟨s, hs⟩ : ∃ s, w.heap.size = s := ⟨_, rfl⟩
 rw [hs] at HB H0 Hz HO ⊢
 have Hs := Lib.hid hs
 clear hs
 generalize (w.alloc (.cells #[.int .i64 0, .slice none 0 0, .slice none 0 0] 172)).alloc (.cells #[.int .i64 1, .int .i64 2, .int .i64 840, .int .i64 10045, .int .i64 3, .int .i64 1, .int .i64 7] 3) = W1 at *
 refine HO.out.mono ?_
 rintro e w2 ⟨⟨A1, n, c1, rfl⟩, hB2⟩
 have h2 := (hB2.block s (by have := Hz.out; omega)).trans H0.out
 have hlt : s < w2.heap.size := by have := Hz.out; have := hB2.size; omega
 have HB3 := Lib.hid (HB.out.trans (hB2.mono (by have := Hz.out; omega)))
 have H2 := Lib.hid h2
 have q0 := blk_cell h2 0
 have q1 := blk_cell h2 1
 have q2 := blk_cell h2 2
 have p0 := blk_free h2 0
 have p1 := blk_free h2 1
 have p2 := blk_free h2 2
 simp only [List.getElem?_toArray, List.getElem?_cons_zero, List.getElem?_cons_succ] at q0 q1 q2
 clear h2 hB2 H0
 go_wp2
 have r := set3 H2.out (.int .i64 6) (.slice A1 n c1) (.slice none 0 0)
 have r0 := blk_cell r 0
 have r1 := blk_cell r 1
 have r2 := blk_cell r 2
 simp only [List.getElem?_toArray, List.getElem?_cons_zero, List.getElem?_cons_succ] at r0 r1 r2
 refine bodyPost_ret (v := .tuple #[.agg #[.int .i64 6, .slice A1 n c1, .slice none 0 0], .bool true]) (by simp [results, Tryz.results186, go_sem, r0, r1, r2]) rfl ⟨⟨A1, n, c1, rfl⟩, ?_⟩
 rw [Hs.out]
 exact ((HB3.out.setCell (p := ⟨s, 0, none⟩) (by simp) _).setCell (p := ⟨s, 1, none⟩) (by simp) _).setCell (p := ⟨s, 2, none⟩) (by simp) _

set_option maxRecDepth 100000 in
set_option maxHeartbeats 4000000 in
theorem params_2 (w : World) : Calls Tryz.prog 186 #[.int .i64 2] w fun e w' => (∃ A1 n c1, e = .returned (.tuple #[.agg #[.int .i64 6, .slice A1 n c1, .slice none 0 0], .bool true])) ∧ Below w.heap.size w w' := by
 have hB := ((Below.refl w.heap.size w).alloc (Nat.le_refl _) (.cells #[.int .i64 0, .slice none 0 0, .slice none 0 0] 172)).alloc (by simp) (.cells #[.int .i64 1, .int .i64 3, .int .i64 132, .int .i64 0, .int .i64 34] 3)
 have hb := (Below.heap_alloc (w.alloc (.cells #[.int .i64 0, .slice none 0 0, .slice none 0 0] 172)) (.cells #[.int .i64 1, .int .i64 3, .int .i64 132, .int .i64 0, .int .i64 34] 3) w.heap.size (by simp)).trans (heap_alloc_new w _)
 have hz : ((w.alloc (.cells #[.int .i64 0, .slice none 0 0, .slice none 0 0] 172)).alloc (.cells #[.int .i64 1, .int .i64 3, .int .i64 132, .int .i64 0, .int .i64 34] 3)).heap.size = w.heap.size + 2 := by simp
 have hR := RI.fresh (P := fun b => b < w.heap.size + 2) (w.alloc (.cells #[.int .i64 0, .slice none 0 0, .slice none 0 0] 172)) #[.int .i64 1, .int .i64 3, .int .i64 132, .int .i64 0, .int .i64 34] 3 [1, 3, 132, 0, 34] 5 rfl rfl (by omega) (by simp)
 rw [World.size_alloc] at hR
 have hO := name_any (fun b => b < w.heap.size + 2) (w.heap.size + 1) 5 [1, 3, 132, 0, 34] _ hR (fun b hb => by rw [hz]; exact hb) (by simp) rfl (by simp) (all_small (by simp))
 have HB := Lib.hid hB
 have H0 := Lib.hid hb
 have Hz := Lib.hid hz
 have HO := Lib.hid hO
 clear hB hb hz hO hR
 go_enter Tryz.func186, Tryz.ntmps186
 go_wp2_with fail
 obtain ⟨s, hs⟩ : ∃ s, w.heap.size = s := ⟨_, rfl⟩
 rw [hs] at HB H0 Hz HO ⊢
 have Hs := Lib.hid hs
 clear hs
 generalize (w.alloc (.cells #[.int .i64 0, .slice none 0 0, .slice none 0 0] 172)).alloc (.cells #[.int .i64 1, .int .i64 3, .int .i64 132, .int .i64 0, .int .i64 34] 3) = W1 at *
 refine HO.out.mono ?_
 rintro e w2 ⟨⟨A1, n, c1, rfl⟩, hB2⟩
 have h2 := (hB2.block s (by have := Hz.out; omega)).trans H0.out
 have hlt : s < w2.heap.size := by have := Hz.out; have := hB2.size; omega
 have HB3 := Lib.hid (HB.out.trans (hB2.mono (by have := Hz.out; omega)))
 have H2 := Lib.hid h2
 have q0 := blk_cell h2 0
 have q1 := blk_cell h2 1
 have q2 := blk_cell h2 2
 have p0 := blk_free h2 0
 have p1 := blk_free h2 1
 have p2 := blk_free h2 2
 simp only [List.getElem?_toArray, List.getElem?_cons_zero, List.getElem?_cons_succ] at q0 q1 q2
 clear h2 hB2 H0
 go_wp2
 have r := set3 H2.out (.int .i64 6) (.slice A1 n c1) (.slice none 0 0)
 have r0 := blk_cell r 0
 have r1 := blk_cell r 1
 have r2 := blk_cell r 2
 simp only [List.getElem?_toArray, List.getElem?_cons_zero, List.getElem?_cons_succ] at r0 r1 r2
 refine bodyPost_ret (v := .tuple #[.agg #[.int .i64 6, .slice A1 n c1, .slice none 0 0], .bool true]) (by simp [results, Tryz.results186, go_sem, r0, r1, r2]) rfl ⟨⟨A1, n, c1, rfl⟩, ?_⟩
 rw [Hs.out]
 exact ((HB3.out.setCell (p := ⟨s, 0, none⟩) (by simp) _).setCell (p := ⟨s, 1, none⟩) (by simp) _).setCell (p := ⟨s, 2, none⟩) (by simp) _


end Go.Proofs.YtendnkpiidhogaaGreat.At

namespace Go.Proofs.YtendnkpiidhogaaGreat.At
open Go.RowKit Go.Shelf

attribute [local go_sem] Oper.semAt_some

set_option maxRecDepth 100000 in
set_option maxHeartbeats 4000000 in
theorem which_zero (w : World) : Calls Tryz.prog 152 #[.agg #[.int .i64 0, .slice none 0 0, .slice none 0 0]] w fun e w' => e = .returned (.int .i64 0) ∧ Below w.heap.size w w' := by
 have hB := ((Below.refl w.heap.size w).alloc (Nat.le_refl _) (.cells #[.int .i64 0, .slice none 0 0, .slice none 0 0] 172)).alloc (by simp) (.cells #[.int .i64 1, .int .i64 2] 3)
 have hb := (Below.heap_alloc (w.alloc (.cells #[.int .i64 0, .slice none 0 0, .slice none 0 0] 172)) (.cells #[.int .i64 1, .int .i64 2] 3) w.heap.size (by simp)).trans (heap_alloc_new w _)
 have hc := heap_alloc_new (w.alloc (.cells #[.int .i64 0, .slice none 0 0, .slice none 0 0] 172)) (.cells #[.int .i64 1, .int .i64 2] 3)
 rw [World.size_alloc] at hc
 have HB := Lib.hid hB
 have Hb := Lib.hid hb
 have Hc := Lib.hid hc
 clear hB hb hc
 obtain ⟨s, hs⟩ : ∃ s, w.heap.size = s := ⟨_, rfl⟩
 rw [hs] at HB Hb Hc
 have Hs := Lib.hid hs
 clear hs
 go_enter Tryz.func152, Tryz.ntmps152
 go_wp2
 rw [Hs.out]
 go_loopw [9] (fun i wr => ∃ z : Int, i = .int .i64 z ∧ Below s w wr ∧ wr.heap[s]? = some (.cells #[.int .i64 0, .slice none 0 0, .slice none 0 0] 172 (0, 0)) ∧ wr.heap[s + 1]? = some (.cells #[.int .i64 1, .int .i64 2] 3 (0, 0)) ∧ (z = 0 ∨ z = 1 ∨ z = 2)) (fun i _ => 2 - (intOf i).toNat)
 case atStart => exact ⟨0, rfl, HB.out, Hb.out, Hc.out, .inl rfl⟩
 case round =>
  clear HB Hb Hc
  obtain ⟨z, rfl, hB, hb, hc, hz⟩ := hrel
  have x0 := blk_cell hc 0
  have x1 := blk_cell hc 1
  simp only [List.getElem?_toArray, List.getElem?_cons_zero, List.getElem?_cons_succ] at x0 x1
  have hl1 := blk_lt hc
  have hs1 := hB.size
  have HB := Lib.hid hB
  have Hb := Lib.hid hb
  have Hc := Lib.hid hc
  clear hB hb hc
  rcases hz with rfl | rfl | rfl
  · go_wp2_with fail
    refine (params_1 wr).mono ?_
    rintro e w2 ⟨⟨A1, n, c1, rfl⟩, hB2⟩
    have h2 := (hB2.block s (by omega)).trans Hb.out
    have h3 := (hB2.block (s + 1) hl1).trans Hc.out
    have hlt : s < w2.heap.size := by have := hB2.size; omega
    have hlt3 : s + 1 < w2.heap.size := by have := hB2.size; omega
    have q0 := blk_cell h2 0
    have q1 := blk_cell h2 1
    simp only [List.getElem?_toArray, List.getElem?_cons_zero, List.getElem?_cons_succ] at q0 q1
    have HB3 := Lib.hid (HB.out.trans (hB2.mono (by omega)))
    have H2 := Lib.hid h2
    have H3 := Lib.hid h3
    clear h2 h3 hB2 x0 x1
    go_wp2
    go_roundw
    case rel => exact ⟨1, by go_num, HB3.out.alloc (by omega) _, (Below.heap_alloc _ _ _ hlt).trans H2.out, (Below.heap_alloc _ _ _ hlt3).trans H3.out, .inr (.inl rfl)⟩
    case measure => first | (simp [intOf]; done) | (simp [intOf]; decide)
  · go_wp2_with fail
    refine (params_2 wr).mono ?_
    rintro e w2 ⟨⟨A1, n, c1, rfl⟩, hB2⟩
    have h2 := (hB2.block s (by omega)).trans Hb.out
    have h3 := (hB2.block (s + 1) hl1).trans Hc.out
    have hlt : s < w2.heap.size := by have := hB2.size; omega
    have hlt3 : s + 1 < w2.heap.size := by have := hB2.size; omega
    have q0 := blk_cell h2 0
    have q1 := blk_cell h2 1
    simp only [List.getElem?_toArray, List.getElem?_cons_zero, List.getElem?_cons_succ] at q0 q1
    have HB3 := Lib.hid (HB.out.trans (hB2.mono (by omega)))
    have H2 := Lib.hid h2
    have H3 := Lib.hid h3
    clear h2 h3 hB2 x0 x1
    go_wp2
    go_roundw
    case rel => exact ⟨2, by go_num, HB3.out.alloc (by omega) _, (Below.heap_alloc _ _ _ hlt).trans H2.out, (Below.heap_alloc _ _ _ hlt3).trans H3.out, .inr (.inr rfl)⟩
    case measure => first | (simp [intOf]; done) | (simp [intOf]; decide)
  · go_wp2
    go_ret
    exact ⟨rfl, by rw [Hs.out]; exact HB.out⟩

set_option maxRecDepth 100000 in
set_option maxHeartbeats 4000000 in
theorem readParams_nil (A : Option Addr) (c : Nat) (w : World) : Calls Tryz.prog 108 #[.slice A 0 c] w fun e w' => e = .returned (.tuple #[.int .i64 0, .bool false]) ∧ Below w.heap.size w w' := by
 go_enter Tryz.func108, Tryz.ntmps108
 go_wp2_with fail
 refine (kread_nil A c w).mono ?_
 rintro e w1 ⟨rfl, hB1⟩
 have hs1 := hB1.size
 go_wp2_with fail
 refine (which_zero _).mono ?_
 rintro e w2 ⟨rfl, hB2⟩
 go_wp2
 go_ret2
 exact ⟨rfl, (hB1.alloc hs1 _).trans (hB2.mono (by simp; omega))⟩

set_option maxHeartbeats 1000000 in
theorem curve_nil (P : Nat → Prop) (A : Option Addr) (c : Nat) (l : Attrs) (w : World) (hv : RA w P A c l) (hP : ∀ b, P b → b < w.heap.size) (hn : seek l 384 = none) :
 Calls Tryz.prog 91 #[.slice A l.length c] w fun e w' => e = .returned (.int .i64 0) ∧ Below w.heap.size w w' := by
 have hg := get_any P A c l 384 w hv hP
 rw [hn] at hg
 have HG := Lib.hid hg
 clear hg hn
 go_enter Tryz.func91, Tryz.ntmps91
 go_wp2_with fail
 refine HG.out.mono ?_
 rintro e w1 ⟨A1, c1, rfl, -, hB1⟩
 have hs1 := hB1.size
 go_wp2_with fail
 refine (readParams_nil A1 c1 w1).mono ?_
 rintro e w2 ⟨rfl, hB2⟩
 go_wp2
 go_ret
 exact ⟨rfl, hB1.trans (hB2.mono hs1)⟩
end Go.Proofs.YtendnkpiidhogaaGreat.At

namespace Go.Proofs.YtendnkpiidhogaaGreat
open Go.RowKit

theorem RN.one (w : World) (x : Nat) (hx : x < 18446744073709551616) : RN (w.alloc (.cells #[.int .u64 (x : Int)] 139)) (In w.heap.size (w.heap.size + 1)) (some ⟨w.heap.size, 0, none⟩) 1 [x] :=
 ⟨RS.fresh #[.int .u64 (x : Int)] 139 1 1 rfl (by unfold maxLen; omega) ⟨Nat.le_refl _, by omega⟩, by simpa [Lim] using hx⟩
abbrev RU (w : World) (A : Option Addr) (c : Nat) (l : List Nat) : Prop := RN w (fun b => b < w.heap.size) A c l
theorem RN.up {w w' : World} {A : Option Addr} {c : Nat} {l : List Nat} (h : RU w A c l) (hB : Below w.heap.size w w') : RU w' A c l :=
 (h.below hB fun _ hb => hb).mono fun _ hb => Nat.lt_of_lt_of_le hb hB.size
end Go.Proofs.YtendnkpiidhogaaGreat

namespace Go.Proofs.YtendnkpiidhogaaGreat

def numOf (bs : List Nat) : Nat := val 256 bs.reverse
theorem numOf_snoc (bs : List Nat) (c : Nat) : numOf (bs ++ [c]) = c + 256 * numOf bs := by
 simp [numOf]
theorem pow256 (k : Nat) : 256 ^ k = 2 ^ (8 * k) := by rw [Nat.pow_mul]
theorem from_step {m j q k c : Nat} {o : List Nat} {V : Nat} (ho : ∀ x ∈ o, x < 2 ^ m) (hq : q < o.length) (hk : m * q + j = 8 * k) (hj : j + 8 ≤ m) (hc : c < 256) (hv : val (2 ^ m) o = 256 ^ (k + 1) * V) :
 c * 2 ^ j < 2 ^ m ∧ dg o q + c * 2 ^ j < 2 ^ m ∧ (dg o q ||| c * 2 ^ j) = dg o q + c * 2 ^ j ∧ val (2 ^ m) (o.set q (dg o q + c * 2 ^ j)) = 256 ^ k * (c + 256 * V) := by
 obtain ⟨r, hr⟩ := val_shift o ho q 0 (by omega)
 have hlt : dg o q < 2 ^ m := getD_lt (Nat.pow_pos (by omega)) ho q
 rw [Nat.add_zero, Nat.pow_zero, Nat.div_one, Nat.sub_zero, hv, pow256, show 8 * (k + 1) = m * q + (j + 8) by omega, Nat.pow_add, Nat.mul_assoc, Nat.mul_div_cancel_left _ (Nat.pow_pos (by omega))] at hr
 have hcj : c * 2 ^ j < 2 ^ (j + 8) := by
  rw [Nat.pow_add, Nat.mul_comm]
  exact Nat.mul_lt_mul_of_pos_left hc (Nat.pow_pos (by omega))
 have em : 2 ^ m = 2 ^ (j + 8) * 2 ^ (m - (j + 8)) := by rw [← Nat.pow_add, show j + 8 + (m - (j + 8)) = m by omega]
 obtain ⟨t, ht⟩ : ∃ t, dg o q = t * 2 ^ (j + 8) := by
  refine ⟨V - 2 ^ (m - (j + 8)) * r, ?_⟩
  rw [em, Nat.mul_assoc] at hr
  rw [Nat.mul_comm, Nat.mul_sub, hr]
  omega
 have htlt : t < 2 ^ (m - (j + 8)) := by
  rw [ht, em, Nat.mul_comm] at hlt
  exact Nat.lt_of_mul_lt_mul_left hlt
 have hsum : dg o q + c * 2 ^ j < 2 ^ m := by
  have h1 : (t + 1) * 2 ^ (j + 8) ≤ 2 ^ (m - (j + 8)) * 2 ^ (j + 8) := Nat.mul_le_mul_right _ htlt
  rw [Nat.mul_comm (2 ^ (m - (j + 8))), ← em, Nat.add_mul, ← ht] at h1
  omega
 refine ⟨by omega, hsum, ?_, ?_⟩
 · rw [ht, Nat.mul_comm t, Nat.two_pow_add_eq_or_of_lt hcj]
 · have h2 := val_set' (2 ^ m) hq (dg o q + c * 2 ^ j)
   have h3 : (2 ^ m) ^ q * (c * 2 ^ j) = 256 ^ k * c := by
    rw [pow256, ← hk, Nat.pow_add, Nat.pow_mul, Nat.mul_assoc, Nat.mul_comm c]
   rw [Nat.mul_add, h3, hv] at h2
   rw [Nat.mul_add, ← Nat.mul_assoc, ← Nat.pow_succ]
   generalize 256 ^ (k + 1) * V = E at *
   generalize 256 ^ k * c = F at *
   generalize (2 ^ m) ^ q * dg o q = G at *
   generalize val (2 ^ m) (o.set q (dg o q + c * 2 ^ j)) = H at *
   clear hr hlt hcj em ht htlt hsum hv h3
   omega
end Go.Proofs.YtendnkpiidhogaaGreat

namespace Go.Proofs.YtendnkpiidhogaaGreat
open Go.RowKit

theorem RB.cells {w : World} {P : Nat → Prop} {ad : Addr} {c : Nat} {bs : List Nat} (h : RB w P (some ad) c bs) : ∀ i, i < bs.length → w.cell? (ad.add i) = some (.int .u8 (dg bs i : Int)) := by
 intro i hi
 obtain ⟨ad', e, _, hc, _⟩ := h.at_ hi
 cases e
 rw [dg, getD_eq' hi]
 exact hc
theorem RB.dg {w : World} {P : Nat → Prop} {A : Option Addr} {c : Nat} {bs : List Nat} (h : RB w P A c bs) {i : Nat} (hi : i < bs.length) : ∃ ad, A = some ad ∧ w.cell? (ad.add i) = some (.int .u8 (Go.Proofs.YtendnkpiidhogaaGreat.dg bs i : Int)) ∧ Go.Proofs.YtendnkpiidhogaaGreat.dg bs i < 256 := by
 obtain ⟨ad, rfl, _, hc, hb⟩ := h.at_ hi
 refine ⟨ad, rfl, h.cells i hi, ?_⟩
 rw [Go.Proofs.YtendnkpiidhogaaGreat.dg, getD_eq' hi]
 omega

set_option maxRecDepth 100000 in
set_option maxHeartbeats 2000000 in
theorem fromBytes_any (P : Nat → Prop) (A : Option Addr) (c : Nat) (bs : List Nat) (w : World) (h : RB w P A c bs) (hP : ∀ b, P b → b < w.heap.size) (hl : bs.length ≤ 100000) :
 Calls Tryz.prog 97 #[.slice A bs.length c] w fun e w' => ∃ A1 c1, e = .returned (.slice A1 (digs 18446744073709551616 (numOf bs)).length c1) ∧
  OB w' w.heap.size A1 c1 (digs 18446744073709551616 (numOf bs)) ∧ Below w.heap.size w w' := by
 obtain ⟨h1, h2, h3⟩ := h.cap
 obtain ⟨n, hn⟩ : ∃ n, bs.length = n := ⟨_, rfl⟩
 rw [hn] at h1 h3 hl ⊢
 obtain ⟨N, hN, hN1, hN2⟩ : ∃ N : Nat, ((n : Int) + 7) / 8 = (N : Int) ∧ N ≤ 100000 ∧ n ≤ 8 * N := ⟨(n + 7) / 8, by omega, by omega, by omega⟩
 have hmk := run_make_row' (P := Tryz.prog) 106 139 (.int .u64 0) 8 Tryz.underlying106 info64 rfl .i64 .i64 N (by omega) (by omega)
 have Hn := Lib.hid hn
 clear hn
 go_enter Tryz.func97, Tryz.ntmps97
 go_wp2
 go_loopw [14] (fun iv wr => ∃ (i : Nat) (o : List Nat), iv = .int .i64 (i : Int) ∧ i ≤ n ∧ Hid (o.length = N) ∧ Lim o ∧ val 18446744073709551616 o = 256 ^ (n - i) * numOf (bs.take i) ∧ Blk wr w.heap.size o ∧ Below w.heap.size w wr) (fun iv _ => n - (intOf iv).toNat)
 case atStart => exact ⟨0, List.replicate N 0, rfl, by omega, Lib.hid (by simp), ⟨by simp, by simp; omega⟩, by rw [val_replicate]; simp [numOf], Blk.made w _, (Below.refl _ w).alloc (Nat.le_refl _) _⟩
 case round =>
  obtain ⟨i, o, rfl, hi, Ho, hLo, hv, hblk, hB⟩ := hrel
  by_cases hlt : i < n
  · obtain ⟨ad, rfl, q1, hc⟩ := (h.below hB hP).dg (i := i) (by rw [Hn.out]; exact hlt)
    obtain ⟨k, q, r, hk, hr, hkq⟩ : ∃ k q r, k = n - 1 - i ∧ r < 8 ∧ k = 8 * q + r := ⟨n - 1 - i, (n - 1 - i) / 8, (n - 1 - i) % 8, rfl, by omega, by omega⟩
    have hqo : q < o.length := by have := Ho.out; omega
    obtain ⟨s1, s2, s3, s4⟩ := from_step (m := 64) (j := r * 8) (q := q) (k := k) hLo.1 hqo (by omega) (by omega) hc (by rw [show n - i = k + 1 by omega] at hv; exact hv)
    rw [← numOf_snoc, ← take_succ_dg (by rw [Hn.out]; exact hlt), show k = n - (i + 1) by omega] at s4
    obtain ⟨z, hz⟩ : ∃ z, dg bs i * 2 ^ (r * 8) = z := ⟨_, rfl⟩
    rw [hz] at s1 s2 s3 s4
    obtain ⟨y, hy⟩ : ∃ y, dg o q + z = y := ⟨_, rfl⟩
    rw [hy] at s2 s3 s4
    have e1 : (n : Int) - 1 - (i : Int) = (k : Int) := by omega
    have e2 : (k : Int) / 8 = (q : Int) := by omega
    have e3 : (k : Int) % 8 = (r : Int) := by omega
    have e4 : IntKind.u64.wrap ((dg bs i : Int) * 2 ^ (r * 8)) = (z : Int) := by
     rw [show (dg bs i : Int) * 2 ^ (r * 8) = (z : Int) by rw [← hz]; simp]
     exact IntWalk.u64_in _ (by omega)
    have e5 : bits .or .u64 (dg o q : Int) (z : Int) = (y : Int) := by
     rw [bits_or_u64_nat _ _ (hLo.dgLt q) s1, s3]
    have q3 := hblk.cell hqo
    have q4 := hblk.free q
    have hblk' := hblk.set q y
    have hLo' := hLo.set q y s2
    have hB' := hB.setCell (p := ⟨w.heap.size, q, none⟩) (Nat.le_refl _) (.int .u64 (y : Int))
    have Ho' : Hid ((o.set q y).length = N) := Lib.hid (by rw [List.length_set]; exact Ho.out)
    have k1 : (q : Int) < (N : Int) := by have := Ho.out; omega
    have k2 : (r : Int) < 8 := by omega
    have k3 : (dg bs i : Int) < 256 := by omega
    have S4 := Lib.hid s4
    clear s4 s3 s2 s1 hz hy hk hkq hqo hblk hLo hB hv hc
    go_wp2_with fail
    go_region
    go_wp2
    go_roundw
    case rel => exact ⟨i + 1, o.set q y, by go_num, by omega, Ho', hLo', S4.out, hblk', below_drewN hB' 1⟩
    case measure => simp [intOf]; omega
  · obtain rfl : i = n := by omega
    rw [Nat.sub_self, Nat.pow_zero, Nat.one_mul, List.take_of_length_le (by rw [Hn.out]; omega)] at hv
    have hOB : OB wr w.heap.size (some ⟨w.heap.size, 0, none⟩) N o := OB.of_blk hblk (Nat.le_refl _) hLo (by have := Ho.out; omega) (by unfold maxLen; omega)
    have ht := trim_any _ _ _ _ _ hOB.rn
    have hOB' := hOB.trim
    rw [hv, Ho.out] at ht
    rw [hv] at hOB'
    have Ht := Lib.hid ht
    clear hblk hLo ht hv hOB
    go_wp2_with fail
    refine Ht.out.mono ?_
    rintro e w1 ⟨rfl, rfl⟩
    go_wp2
    go_ret
    exact ⟨_, _, rfl, hOB', hB⟩

end Go.Proofs.YtendnkpiidhogaaGreat

namespace Go.Proofs.YtendnkpiidhogaaGreat.At
open Go.RowKit Go.Shelf

set_option maxHeartbeats 1000000 in
theorem nat_any (P : Nat → Prop) (A : Option Addr) (c : Nat) (l : Attrs) (t : Int) (v : List Nat) (w : World) (hv : RA w P A c l) (hP : ∀ b, P b → b < w.heap.size) (hs : (seek l t).getD [] = v) (hl : v.length ≤ 100000) :
 Calls Tryz.prog 100 #[.slice A l.length c, .int .i64 t] w fun e w' => ∃ A1 c1, e = .returned (.slice A1 (digs 18446744073709551616 (numOf v)).length c1) ∧ OB w' w.heap.size A1 c1 (digs 18446744073709551616 (numOf v)) ∧ Below w.heap.size w w' := by
 have hg := get_any P A c l t w hv hP
 rw [hs] at hg
 obtain ⟨b, hb⟩ : ∃ b, (seek l t).isSome = b := ⟨_, rfl⟩
 rw [hb] at hg
 have HG := Lib.hid hg
 clear hg hs hb
 go_enter Tryz.func100, Tryz.ntmps100
 go_wp2_with fail
 refine HG.out.mono ?_
 rintro e w1 ⟨A1, c1, rfl, hr, hB1⟩
 have hs1 := hB1.size
 go_wp2_with fail
 refine (fromBytes_any _ A1 c1 v w1 hr (fun b hb => hb.2) hl).mono ?_
 rintro e w2 ⟨A2, c2, rfl, hO, hB2⟩
 have HO := Lib.hid (hO.mono hs1)
 clear hO
 go_wp2
 go_ret
 exact ⟨A2, c2, rfl, HO.out, hB1.trans (hB2.mono hs1)⟩

def Five (v : Value) : Prop := ∃ (a1 a2 a3 a4 a5 : Option Addr) (n1 n2 n3 n4 n5 c1 c2 c3 c4 c5 : Nat), v = .agg #[.slice a1 n1 c1, .slice a2 n2 c2, .slice a3 n3 c3, .slice a4 n4 c4, .slice a5 n5 c5]
theorem set5 {w : World} {s : Nat} {t : TypeId} {a b c d e : Value} (h : w.heap[s]? = some (.cells #[a, b, c, d, e] t (0, 0))) (u v x y z : Value) : (((((w.setCell ⟨s, 0, none⟩ u).setCell ⟨s, 1, none⟩ v).setCell ⟨s, 2, none⟩ x).setCell ⟨s, 3, none⟩ y).setCell ⟨s, 4, none⟩ z).heap[s]? = some (.cells #[u, v, x, y, z] t (0, 0)) := by
 simpa using bset (bset (bset (bset (bset h 0 u) 1 v) 2 x) 3 y) 4 z

set_option maxRecDepth 100000 in
set_option maxHeartbeats 4000000 in
theorem rsakey_any (P : Nat → Prop) (A : Option Addr) (c : Nat) (l : Attrs) (w : World) (hv : RA w P A c l) (hP : ∀ b, P b → b < w.heap.size) (hl : ∀ t, ((seek l t).getD []).length ≤ 100000) :
 Calls Tryz.prog 90 #[.slice A l.length c] w fun e w' => (∃ v, e = .returned v ∧ Five v) ∧ Below w.heap.size w w' := by
 have hB := (Below.refl w.heap.size w).alloc (Nat.le_refl _) (.cells #[.slice none 0 0, .slice none 0 0, .slice none 0 0, .slice none 0 0, .slice none 0 0] 108)
 have hb := heap_alloc_new w (.cells #[.slice none 0 0, .slice none 0 0, .slice none 0 0, .slice none 0 0, .slice none 0 0] 108)
 have hz : (w.alloc (.cells #[.slice none 0 0, .slice none 0 0, .slice none 0 0, .slice none 0 0, .slice none 0 0] 108)).heap.size = w.heap.size + 1 := by simp
 have hv0 := hv.below hB hP
 have HN := Lib.hid (fun t (X : World) (hX : Below w.heap.size w X) => nat_any P A c l t _ X (hv.below hX hP) (fun b hb => Nat.lt_of_lt_of_le (hP b hb) hX.size) rfl (hl t))
 have HB := Lib.hid hB
 have H0 := Lib.hid hb
 have Hz := Lib.hid hz
 clear hB hb hz hv0 hv hP hl
 go_enter Tryz.func90, Tryz.ntmps90
 go_wp2_with fail
 obtain ⟨s, hs⟩ : ∃ s, w.heap.size = s := ⟨_, rfl⟩
 rw [hs] at HB H0 Hz HN ⊢
 have Hs := Lib.hid hs
 clear hs
 generalize w.alloc (.cells #[.slice none 0 0, .slice none 0 0, .slice none 0 0, .slice none 0 0, .slice none 0 0] 108) = W0 at *
 refine (HN.out 288 W0 HB.out).mono ?_
 rintro e w1 ⟨a1, c1, rfl, -, hB1⟩
 generalize (digs 18446744073709551616 (numOf _)).length = n1
 have HB1 := Lib.hid (HB.out.trans (hB1.mono (by have := Hz.out; omega)))
 have HZ1 := Lib.hid (Nat.lt_of_lt_of_le (show s < W0.heap.size by have := Hz.out; omega) hB1.size)
 have H1 := Lib.hid ((hB1.block s (by have := Hz.out; omega)).trans H0.out)
 clear hB1
 go_wp2_with fail
 refine (HN.out 290 w1 HB1.out).mono ?_
 rintro e w2 ⟨a2, c2, rfl, -, hB2⟩
 generalize (digs 18446744073709551616 (numOf _)).length = n2
 have HB2 := Lib.hid (HB1.out.trans (hB2.mono (Nat.le_of_lt HZ1.out)))
 have HZ2 := Lib.hid (Nat.lt_of_lt_of_le HZ1.out hB2.size)
 have H2 := Lib.hid ((hB2.block s HZ1.out).trans H1.out)
 clear hB2
 go_wp2_with fail
 refine (HN.out 291 w2 HB2.out).mono ?_
 rintro e w3 ⟨a3, c3, rfl, -, hB3⟩
 generalize (digs 18446744073709551616 (numOf _)).length = n3
 have HB3 := Lib.hid (HB2.out.trans (hB3.mono (Nat.le_of_lt HZ2.out)))
 have HZ3 := Lib.hid (Nat.lt_of_lt_of_le HZ2.out hB3.size)
 have H3 := Lib.hid ((hB3.block s HZ2.out).trans H2.out)
 clear hB3
 go_wp2_with fail
 refine (HN.out 292 w3 HB3.out).mono ?_
 rintro e w4 ⟨a4, c4, rfl, -, hB4⟩
 generalize (digs 18446744073709551616 (numOf _)).length = n4
 have HB4 := Lib.hid (HB3.out.trans (hB4.mono (Nat.le_of_lt HZ3.out)))
 have HZ4 := Lib.hid (Nat.lt_of_lt_of_le HZ3.out hB4.size)
 have H4 := Lib.hid ((hB4.block s HZ3.out).trans H3.out)
 clear hB4
 go_wp2_with fail
 refine (HN.out 293 w4 HB4.out).mono ?_
 rintro e w5 ⟨a5, c5, rfl, -, hB5⟩
 generalize (digs 18446744073709551616 (numOf _)).length = n5
 have HB5 := Lib.hid (HB4.out.trans (hB5.mono (Nat.le_of_lt HZ4.out)))
 have HZ5 := Lib.hid (Nat.lt_of_lt_of_le HZ4.out hB5.size)
 have H5 := Lib.hid ((hB5.block s HZ4.out).trans H4.out)
 clear hB5
 have hlt := HZ5.out
 have q0 := blk_cell H5.out 0
 have p0 := blk_free H5.out 0
 have q1 := blk_cell H5.out 1
 have p1 := blk_free H5.out 1
 have q2 := blk_cell H5.out 2
 have p2 := blk_free H5.out 2
 have q3 := blk_cell H5.out 3
 have p3 := blk_free H5.out 3
 have q4 := blk_cell H5.out 4
 have p4 := blk_free H5.out 4
 simp only [List.getElem?_toArray, List.getElem?_cons_zero, List.getElem?_cons_succ] at q0 q1 q2 q3 q4
 go_wp2
 have r := set5 H5.out (.slice a1 n1 c1) (.slice a2 n2 c2) (.slice a3 n3 c3) (.slice a4 n4 c4) (.slice a5 n5 c5)
 have r0 := blk_cell r 0
 have r1 := blk_cell r 1
 have r2 := blk_cell r 2
 have r3 := blk_cell r 3
 have r4 := blk_cell r 4
 simp only [List.getElem?_toArray, List.getElem?_cons_zero, List.getElem?_cons_succ] at r0 r1 r2 r3 r4
 refine bodyPost_ret (v := .agg #[.slice a1 n1 c1, .slice a2 n2 c2, .slice a3 n3 c3, .slice a4 n4 c4, .slice a5 n5 c5]) (by simp [results, Tryz.results90, go_sem, r0, r1, r2, r3, r4]) rfl ⟨⟨_, rfl, _, _, _, _, _, _, _, _, _, _, _, _, _, _, _, rfl⟩, ?_⟩
 rw [Hs.out]
 exact ((((HB5.out.setCell (p := ⟨s, 0, none⟩) (by simp) _).setCell (p := ⟨s, 1, none⟩) (by simp) _).setCell (p := ⟨s, 2, none⟩) (by simp) _).setCell (p := ⟨s, 3, none⟩) (by simp) _).setCell (p := ⟨s, 4, none⟩) (by simp) _
end Go.Proofs.YtendnkpiidhogaaGreat.At

namespace Go.Proofs.YtendnkpiidhogaaGreat.At
open Go.RowKit Go.Shelf

set_option maxRecDepth 100000 in
set_option maxHeartbeats 4000000 in
theorem worth_aes (P : Nat → Prop) (A : Option Addr) (c : Nat) (l : Attrs) (v : List Nat) (w : World) (hv : RA w P A c l) (hP : ∀ b, P b → b < w.heap.size) (hl : ∀ t, ((seek l t).getD []).length ≤ 100000) (hn : seek l 384 = none) (hs : (seek l 17).getD [] = v) (h16 : v.length = 16) :
 Calls Tryz.prog 53 #[.slice A l.length c, .int .i64 4, .int .i64 31] w fun e w' => e = .returned (.bool true) ∧ Below w.heap.size w w' := by
 have hg := get_any P A c l 17 w hv hP
 rw [hs, h16] at hg
 obtain ⟨b, hb⟩ : ∃ b, (seek l 17).isSome = b := ⟨_, rfl⟩
 rw [hb] at hg
 have HG := Lib.hid hg
 have HK := Lib.hid (fun (X : World) (hX : Below w.heap.size w X) => rsakey_any P A c l X (hv.below hX hP) (fun b hb => Nat.lt_of_lt_of_le (hP b hb) hX.size) hl)
 have HC := Lib.hid (fun (X : World) (hX : Below w.heap.size w X) => curve_nil P A c l X (hv.below hX hP) (fun b hb => Nat.lt_of_lt_of_le (hP b hb) hX.size) hn)
 clear hg hs hb hv hP hl hn h16
 go_enter Tryz.func53, Tryz.ntmps53
 go_wp2_with fail
 refine HG.out.mono ?_
 rintro e w1 ⟨A1, c1, rfl, -, hB1⟩
 have hs1 := hB1.size
 have HB1 := Lib.hid hB1
 clear hB1
 go_wp2_with fail
 refine (HK.out w1 HB1.out).mono ?_
 rintro e w2 ⟨⟨k, rfl, ⟨a1, a2, a3, a4, a5, n1, n2, n3, n4, n5, c1', c2, c3, c4, c5, rfl⟩⟩, hB2⟩
 have HB2 := Lib.hid (HB1.out.trans (hB2.mono hs1))
 have hs2 := HB2.out.size
 clear hB2
 go_wp2_with fail
 refine (HC.out w2 HB2.out).mono ?_
 rintro e w3 ⟨rfl, hB3⟩
 have HB3 := Lib.hid (HB2.out.trans (hB3.mono hs2))
 have hs3 := HB3.out.size
 clear hB3
 go_wp2
 go_ret
 exact ⟨rfl, by first | exact HB3.out.alloc hs3 _ | exact HB3.out⟩
end Go.Proofs.YtendnkpiidhogaaGreat.At

namespace Go.Proofs.YtendnkpiidhogaaGreat.At
open Go.RowKit Go.Shelf

attribute [local go_sem] Oper.semAt_some

def reckList (v n : List Nat) : Attrs := [(353, num4 (v.length : Int)), (289, num4 (nbits (numOf n) : Int)), (355, [0]), (357, [0]), (356, [0])]
def reckOf (o : Attrs) : Attrs := (reckList ((seek o 17).getD []) ((seek o 288).getD [])).foldl putIf o
theorem num4_length (v : Int) : (num4 v).length = 4 := rfl

set_option maxRecDepth 100000 in
set_option maxHeartbeats 4000000 in
theorem reckoned_1 (P : Nat → Prop) (A Ab : Option Addr) (c nb cb : Nat) (l : Attrs) (w : World) (hv : RA w P A c l) (hP : ∀ b, P b → b < w.heap.size) (hl : ∀ t, ((seek l t).getD []).length ≤ 100000) (hll : l.length ≤ 1000) :
 Calls Tryz.prog 54 #[.int .i64 1, .slice A l.length c, .slice Ab nb cb] w fun e w' => ∃ A1 c1, e = .returned (.slice A1 (reckOf l).length c1) ∧ RA w' (fun b => P b ∨ In w.heap.size w'.heap.size b) A1 c1 (reckOf l) ∧ Below w.heap.size w w' := by
 obtain ⟨R, hR⟩ : ∃ R, reckOf l = R := ⟨_, rfl⟩
 rw [hR]
 unfold reckOf at hR
 have hg := get_any P A c l 17 w hv hP
 obtain ⟨b, hb⟩ : ∃ b, (seek l 17).isSome = b := ⟨_, rfl⟩
 obtain ⟨v, hvv⟩ : ∃ v, (seek l 17).getD [] = v := ⟨_, rfl⟩
 obtain ⟨n, hn⟩ : ∃ n, (seek l 288).getD [] = n := ⟨_, rfl⟩
 obtain ⟨f1, hf1⟩ : ∃ b, flagOf l 259 = b := ⟨_, rfl⟩
 obtain ⟨f2, hf2⟩ : ∃ b, flagOf l 354 = b := ⟨_, rfl⟩
 have hln := hl 288
 rw [hn] at hln
 rw [hb, hvv] at hg
 rw [hvv, hn] at hR
 have HV := Lib.hid (fun (X : World) (hX : Below w.heap.size w X) => hv.below hX hP)
 have HP := Lib.hid (fun (X : World) (hX : Below w.heap.size w X) b (hb : P b) => Nat.lt_of_lt_of_le (hP b hb) hX.size)
 have HG := Lib.hid hg
 have HR := Lib.hid hR
 have Hf1 := Lib.hid hf1
 have Hf2 := Lib.hid hf2
 have Hn := Lib.hid hn
 clear hg hR hf1 hf2 hn hb hvv hv hP hl
 go_enter Tryz.func54, Tryz.ntmps54
 go_wp2_with fail
 refine HG.out.mono ?_
 rintro e w1 ⟨A1, c1, rfl, -, hB1⟩
 have HB1 := Lib.hid hB1
 clear hB1
 go_wp2_with fail
 refine (flag_any P A c l 259 w1 (HV.out w1 HB1.out) (HP.out w1 HB1.out)).mono ?_
 rw [Hf1.out]
 rintro e w2 ⟨rfl, hB2⟩
 have HB2 := Lib.hid (HB1.out.trans (hB2.mono HB1.out.size))
 clear hB2
 go_wp2_with fail
 refine (flag_any P A c l 354 w2 (HV.out w2 HB2.out) (HP.out w2 HB2.out)).mono ?_
 rw [Hf2.out]
 rintro e w3 ⟨rfl, hB3⟩
 have HB3 := Lib.hid (HB2.out.trans (hB3.mono HB2.out.size))
 clear hB3
 go_wp2_with fail
 refine (num_any 353 (v.length : Int) w3).mono ?_
 rintro e w4 ⟨A4, c4, rfl, hr4, hB4⟩
 have HB4 := Lib.hid (HB3.out.trans (hB4.mono HB3.out.size))
 have Hr4 := Lib.hid (hr4.mono (P' := fun b => b < w4.heap.size) fun b hb => hb.2)
 clear hr4 hB4
 go_wp2_with fail
 refine (nat_any P A c l 288 n w4 (HV.out w4 HB4.out) (HP.out w4 HB4.out) Hn.out hln).mono ?_
 rintro e w5 ⟨A5, c5, rfl, hO5, hB5⟩
 have HB5 := Lib.hid (HB4.out.trans (hB5.mono HB4.out.size))
 have Hr5 := Lib.hid ((Hr4.out.below hB5 fun b hb => hb).mono (P' := fun b => b < w5.heap.size) fun b hb => Nat.lt_of_lt_of_le hb hB5.size)
 have HO5 := Lib.hid hO5.rn
 clear hO5 hB5 Hr4
 have hbits := bits_any _ A5 c5 _ w5 HO5.out
 rw [val_digs (B := 18446744073709551616) (by omega)] at hbits
 have HBi := Lib.hid hbits
 clear hbits
 go_wp2_with fail
 refine HBi.out.mono ?_
 rintro e w5' ⟨rfl, rfl⟩
 go_wp2_with fail
 refine (num_any 289 (nbits (numOf n) : Int) w5).mono ?_
 rintro e w6 ⟨A6, c6, rfl, hr6, hB6⟩
 have HB6 := Lib.hid (HB5.out.trans (hB6.mono HB5.out.size))
 have Hr6 := Lib.hid (hr6.mono (P' := fun b => b < w6.heap.size) fun b hb => hb.2)
 have Hq6 := Lib.hid ((Hr5.out.below hB6 fun b hb => hb).mono (P' := fun b => b < w6.heap.size) fun b hb => Nat.lt_of_lt_of_le hb hB6.size)
 clear hr6 hB6 Hr5
 go_wp2_with fail
 refine (bool_any 355 false w6).mono ?_
 rintro e w7 ⟨A7, c7, rfl, hr7, hB7⟩
 have HB7 := Lib.hid (HB6.out.trans (hB7.mono HB6.out.size))
 have Hz7 := Lib.hid (hr7.mono (P' := fun b => b < w7.heap.size) fun b hb => hb.2)
 have Hq6_7 := Lib.hid ((Hq6.out.below hB7 fun b hb => hb).mono (P' := fun b => b < w7.heap.size) fun b hb => Nat.lt_of_lt_of_le hb hB7.size)
 have Hr6_7 := Lib.hid ((Hr6.out.below hB7 fun b hb => hb).mono (P' := fun b => b < w7.heap.size) fun b hb => Nat.lt_of_lt_of_le hb hB7.size)
 clear hr7 hB7 Hq6 Hr6
 go_wp2_with fail
 refine (bool_any 357 false w7).mono ?_
 rintro e w8 ⟨A8, c8, rfl, hr8, hB8⟩
 have HB8 := Lib.hid (HB7.out.trans (hB8.mono HB7.out.size))
 have Hz8 := Lib.hid (hr8.mono (P' := fun b => b < w8.heap.size) fun b hb => hb.2)
 have Hq6_7_8 := Lib.hid ((Hq6_7.out.below hB8 fun b hb => hb).mono (P' := fun b => b < w8.heap.size) fun b hb => Nat.lt_of_lt_of_le hb hB8.size)
 have Hr6_7_8 := Lib.hid ((Hr6_7.out.below hB8 fun b hb => hb).mono (P' := fun b => b < w8.heap.size) fun b hb => Nat.lt_of_lt_of_le hb hB8.size)
 have Hz7_8 := Lib.hid ((Hz7.out.below hB8 fun b hb => hb).mono (P' := fun b => b < w8.heap.size) fun b hb => Nat.lt_of_lt_of_le hb hB8.size)
 clear hr8 hB8 Hq6_7 Hr6_7 Hz7
 go_wp2_with fail
 refine (bool_any 356 false w8).mono ?_
 rintro e w9 ⟨A9, c9, rfl, hr9, hB9⟩
 have HB9 := Lib.hid (HB8.out.trans (hB9.mono HB8.out.size))
 have Hz9 := Lib.hid (hr9.mono (P' := fun b => b < w9.heap.size) fun b hb => hb.2)
 have Hq6_7_8_9 := Lib.hid ((Hq6_7_8.out.below hB9 fun b hb => hb).mono (P' := fun b => b < w9.heap.size) fun b hb => Nat.lt_of_lt_of_le hb hB9.size)
 have Hr6_7_8_9 := Lib.hid ((Hr6_7_8.out.below hB9 fun b hb => hb).mono (P' := fun b => b < w9.heap.size) fun b hb => Nat.lt_of_lt_of_le hb hB9.size)
 have Hz7_8_9 := Lib.hid ((Hz7_8.out.below hB9 fun b hb => hb).mono (P' := fun b => b < w9.heap.size) fun b hb => Nat.lt_of_lt_of_le hb hB9.size)
 have Hz8_9 := Lib.hid ((Hz8.out.below hB9 fun b hb => hb).mono (P' := fun b => b < w9.heap.size) fun b hb => Nat.lt_of_lt_of_le hb hB9.size)
 clear hr9 hB9 Hq6_7_8 Hr6_7_8 Hz7_8 Hz8
 have hCA : CA w9 (fun b => b < w9.heap.size) (reckList v n) [.int .i64 353, .slice A4 4 c4, .int .i64 289, .slice A6 4 c6, .int .i64 355, .slice A7 1 c7, .int .i64 357, .slice A8 1 c8, .int .i64 356, .slice A9 1 c9] :=
  (CA.single (x := (353, num4 (v.length : Int))) Hq6_7_8_9.out).app ((CA.single (x := (289, num4 (nbits (numOf n) : Int))) Hr6_7_8_9.out).app ((CA.single (x := (355, [0])) Hz7_8_9.out).app ((CA.single (x := (357, [0])) Hz8_9.out).app (CA.single (x := (356, [0])) Hz9.out) rfl) rfl) rfl) rfl
 have hL := RA.lit (P := fun b => b < w9.heap.size + 1) (w := w9) #[.int .i64 353, .slice A4 4 c4, .int .i64 289, .slice A6 4 c6, .int .i64 355, .slice A7 1 c7, .int .i64 357, .slice A8 1 c8, .int .i64 356, .slice A9 1 c9] 37 (reckList v n) 5 w9.heap.size hCA rfl rfl (by omega) rfl (fun b hb => hb) (by simp) (fun b hb => by omega)
 have HL := Lib.hid hL
 have hs9 := HB9.out.size
 clear hCA hL Hq6_7_8_9 Hr6_7_8_9 Hz7_8_9 Hz8_9 Hz9
 have e4 := num4_length (v.length : Int)
 have e6 := num4_length (nbits (numOf n) : Int)
 go_wp2
 have hW : Below w.heap.size w (w9.alloc (.cells #[.int .i64 353, .slice A4 4 c4, .int .i64 289, .slice A6 4 c6, .int .i64 355, .slice A7 1 c7, .int .i64 357, .slice A8 1 c8, .int .i64 356, .slice A9 1 c9] 37)) := HB9.out.alloc hs9 _
 have hzW : (w9.alloc (.cells #[.int .i64 353, .slice A4 4 c4, .int .i64 289, .slice A6 4 c6, .int .i64 355, .slice A7 1 c7, .int .i64 357, .slice A8 1 c8, .int .i64 356, .slice A9 1 c9] 37)).heap.size = w9.heap.size + 1 := by simp
 generalize w9.alloc (.cells #[.int .i64 353, .slice A4 4 c4, .int .i64 289, .slice A6 4 c6, .int .i64 355, .slice A7 1 c7, .int .i64 357, .slice A8 1 c8, .int .i64 356, .slice A9 1 c9] 37) = W at *
 obtain ⟨xs, hxs⟩ : ∃ xs, reckList v n = xs := ⟨_, rfl⟩
 have hx5 : xs.length = 5 := by rw [← hxs]; rfl
 have HR2 := Lib.hid (show xs.foldl putIf l = R by rw [← hxs]; exact HR.out)
 have hL := HL.out
 rw [hxs] at hL
 have HLL := Lib.hid hL
 have HA0 := Lib.hid ((HV.out W hW).mono (P' := fun b => P b ∨ In w.heap.size W.heap.size b) fun b hb => .inl hb)
 have HWW := Lib.hid hW
 have HzW := Lib.hid hzW
 have Hx5 := Lib.hid hx5
 clear hL HL HR hxs hW hzW hx5
 go_loopw [1, 54] (fun s i wr => ∃ (k : Nat) (out : Attrs) (A1 : Option Addr) (c1 : Nat), k ≤ 5 ∧ i = .int .i64 k ∧ s = .slice A1 out.length c1 ∧ RA wr (fun b => P b ∨ In w.heap.size wr.heap.size b) A1 c1 out ∧ out.length ≤ 1000 + k ∧ (xs.drop k).foldl putIf out = R ∧ Below W.heap.size W wr) (fun _ i _ => 5 - (intOf i).toNat)
 case atStart => exact ⟨0, l, A, c, by omega, rfl, rfl, HA0.out, by omega, HR2.out, Below.refl _ _⟩
 case round =>
  clear HA0 HR2
  obtain ⟨k, out, A1, c1', hk, rfl, rfl, hRA, hlen, hF, hB⟩ := hrel
  have hs := hB.size
  by_cases hlt : k < 5
  · have hxr := (HLL.out.below (B := W.heap.size) hB (fun b hb => by have := HzW.out; omega))
    obtain ⟨ad, Au, cu, ead, hb, hc1, hc2, hu⟩ := hxr.at_ (i := k) (by rw [Hx5.out]; exact hlt)
    injection ead with ead
    subst ead
    obtain ⟨x, hx⟩ : ∃ x, xs[k]'(by rw [Hx5.out]; exact hlt) = x := ⟨_, rfl⟩
    rw [hx] at hc1 hc2 hu
    have hst : (xs.drop k).foldl putIf out = (xs.drop (k + 1)).foldl putIf (putIf out x) := by
     rw [List.drop_eq_getElem_cons (by rw [Hx5.out]; exact hlt), hx, List.foldl_cons]
    rw [hst] at hF
    have hol : out.length ≤ 100000 := by omega
    have hwr := (HWW.out.trans (hB.mono HWW.out.size)).size
    have hPr := HP.out wr (HWW.out.trans (hB.mono HWW.out.size))
    have HQ1 := Lib.hid hRA
    have HO1 := Lib.hid (hRA.mono (P' := fun b => b < wr.heap.size) fun b hb => hb.elim (hPr b) (fun h => h.2))
    have HPr := Lib.hid hPr
    have HU1 := Lib.hid (hu.mono (P' := fun b => b < wr.heap.size) fun b hb => by have := HzW.out; omega)
    have HF := Lib.hid hF
    have hW1 : Ext wr (wr.alloc (.cells #[.int .i64 x.1, .slice Au x.2.length cu] 37)) := Ext.alloc _ _
    have m0 : (wr.alloc (.cells #[.int .i64 x.1, .slice Au x.2.length cu] 37)).cell? ⟨wr.heap.size, 0, none⟩ = some (.int .i64 x.1) := by simp [go_sem]
    have m1 : (wr.alloc (.cells #[.int .i64 x.1, .slice Au x.2.length cu] 37)).cell? ⟨wr.heap.size, 1, none⟩ = some (.slice Au x.2.length cu) := by simp [go_sem]
    have hz1 : wr.heap.size < (wr.alloc (.cells #[.int .i64 x.1, .slice Au x.2.length cu] 37)).heap.size := by simp
    obtain ⟨b, hb'⟩ : ∃ b, came out x.1 = b := ⟨_, rfl⟩
    have Hb := Lib.hid hb'
    have hadd : ∀ j, Addr.add ⟨w9.heap.size, 0, none⟩ j = ⟨w9.heap.size, j, none⟩ := fun j => by by_cases h : j = 0 <;> simp [Addr.add, h]
    rw [hadd] at hc1 hc2
    clear hx hst hF hRA hu hxr hb' hadd hPr
    go_wp2_with fail
    generalize wr.alloc (.cells #[.int .i64 x.1, .slice Au x.2.length cu] 37) = W1 at *
    refine (came_any (fun b => b < W1.heap.size) A1 c1' out x.1 W1 ((HO1.out.below hW1 fun b hb => hb).mono fun b hb => Nat.lt_of_lt_of_le hb hW1.bsize) (fun b hb => hb)).mono ?_
    rw [Hb.out]
    rintro e w2 ⟨rfl, hB2⟩
    have hE2 : Ext wr w2 := hW1.trans hB2
    have HO2 := Lib.hid ((HO1.out.below hE2 fun b hb => hb).mono (P' := fun b => b < w2.heap.size) fun b hb => Nat.lt_of_lt_of_le hb hE2.bsize)
    have HQ2 := Lib.hid ((HQ1.out.below hE2 fun b hb => hb.elim (HPr.out b) (fun h => h.2)).mono (P' := fun b => P b ∨ In w.heap.size w2.heap.size b) fun b hb => hb.imp id fun h => ⟨h.1, Nat.lt_of_lt_of_le h.2 hE2.bsize⟩)
    have hw2 : w.heap.size ≤ w2.heap.size := Nat.le_trans hwr hE2.bsize
    have HU2 := Lib.hid ((HU1.out.below hE2 fun b hb => hb).mono (P' := fun b => b < w2.heap.size) fun b hb => Nat.lt_of_lt_of_le hb hE2.bsize)
    have HB2 := Lib.hid (hB.trans (hE2.mono hs))
    have hs2 := HB2.out.size
    have n0 := (hB2.cell (p := ⟨wr.heap.size, 0, none⟩) hz1).trans m0
    have n1 := (hB2.cell (p := ⟨wr.heap.size, 1, none⟩) hz1).trans m1
    clear hB2 hE2 hW1 HO1 HU1 hB m0 m1
    cases b
    · have HF2 := Lib.hid (show (xs.drop (k + 1)).foldl putIf out = R by have := HF.out; simpa [putIf, Hb.out] using this)
      go_wp2
      go_roundw
      case rel => exact ⟨k + 1, out, A1, c1', by omega, by go_num, rfl, HQ2.out, by omega, HF2.out, HB2.out⟩
      case measure => simp [intOf]; omega
    · have HF2 := Lib.hid (show (xs.drop (k + 1)).foldl putIf (putOf out x) = R by have := HF.out; simpa [putIf, Hb.out] using this)
      have Hlen := Lib.hid (show (putOf out x).length ≤ 1000 + (k + 1) from Nat.le_trans (length_putOf out x) (by omega))
      have HPut := Lib.hid (put_any (fun b => b < w2.heap.size) A1 c1' out x Au cu w2 HO2.out HU2.out (fun b hb => hb) hol)
      go_wp2_with fail
      refine HPut.out.mono ?_
      rintro e w3 ⟨A3, c3', cs3, rfl, hO3, hB3⟩
      have HO3 := Lib.hid (hO3.ra.mono (P' := fun b => P b ∨ In w.heap.size w3.heap.size b) fun b hb => .inr ⟨by have := hb.1; omega, hb.2⟩)
      have HB3 := Lib.hid (HB2.out.trans (hB3.mono hs2))
      clear hO3 hB3
      go_wp2
      go_roundw
      case rel => exact ⟨k + 1, putOf out x, A3, c3', by omega, by go_num, rfl, HO3.out, Hlen.out, HF2.out, HB3.out⟩
      case measure => simp [intOf]; omega
  · obtain rfl : k = 5 := by omega
    have hR : out = R := by rw [← hF, List.drop_eq_nil_of_le (by rw [Hx5.out]; omega)]; rfl
    have HO1 := Lib.hid hRA
    have HB1 := Lib.hid (HWW.out.trans (hB.mono HWW.out.size))
    clear hF hRA hB
    go_wp2
    go_ret
    subst hR
    exact ⟨A1, c1', rfl, HO1.out, HB1.out⟩
end Go.Proofs.YtendnkpiidhogaaGreat.At
