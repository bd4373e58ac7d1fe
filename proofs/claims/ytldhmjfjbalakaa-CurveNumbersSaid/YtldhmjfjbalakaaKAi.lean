/- What Montgomery's product needs: worlds in which one block alone may turn, plain laws. zfield: an element; Zero. Montgomery's product on a row of fixed length: plain law. -/
import Derived.Test.YtldhmjfjbalakaaKAd
import Derived.Test.YtldhmjfjbalakaaKAh
import Derived.Laws.IdiomCopy
import Derived.ChangeKeysEq
import Derived.Laws.StructEq
namespace Go.Proofs.Ytldhmjfjbalakaa
open Go.RowKit

/-- Of what lay, all but block g lies as it lay. -/
structure Just (g : Nat) (w w' : World) : Prop where
  os : w'.os = w.os
  tape : w'.tape = w.tape
  output : w'.output = w.output
  size : w.heap.size ≤ w'.heap.size
  block : ∀ b, b < w.heap.size → b ≠ g → w'.heap[b]? = w.heap[b]?
theorem Just.refl (g : Nat) (w : World) : Just g w w := ⟨rfl, rfl, rfl, Nat.le_refl _, fun _ _ _ => rfl⟩
theorem Just.trans {g : Nat} {a b c : World} (h : Just g a b) (k : Just g b c) : Just g a c :=
  ⟨k.os.trans h.os, k.tape.trans h.tape, k.output.trans h.output, Nat.le_trans h.size k.size, fun i hi hn => (k.block i (Nat.lt_of_lt_of_le hi h.size) hn).trans (h.block i hi hn)⟩
theorem Just.set {g : Nat} {a b : World} (h : Just g a b) (i : Nat) (v : Value) : Just g a (b.setCell ⟨g, i, none⟩ v) :=
  ⟨h.os, h.tape, h.output, by simpa [World.setCell] using h.size, fun j hj hn => (Below.heap_setCell _ _ _ _ (by exact hn)).trans (h.block j hj hn)⟩
theorem Just.drewN {g : Nat} {a b : World} (h : Just g a b) (n : Nat) : Just g a (b.drewN n) := ⟨h.os, h.tape, h.output, h.size, h.block⟩
theorem Just.cell {g : Nat} {w w' : World} (h : Just g w w') {p : Addr} (hp : p.block < w.heap.size) (hn : p.block ≠ g) : w'.cell? p = w.cell? p := World.cell?_of_block (h.block _ hp hn)
theorem Just.of_below {g B : Nat} {w w' : World} (h : Below B w w') (hB : w.heap.size ≤ B) : Just g w w' := ⟨h.os, h.tape, h.output, h.size, fun b hb _ => h.block b (Nat.lt_of_lt_of_le hb hB)⟩
theorem Just.below {g B : Nat} {w w' : World} (h : Just g w w') (hB : B ≤ g) (hw : B ≤ w.heap.size) : Below B w w' := ⟨h.os, h.tape, h.output, h.size, fun b hb => h.block b (Nat.lt_of_lt_of_le hb hw) (by omega)⟩
theorem RN.just {w w' : World} {g : Nat} {P : Nat → Prop} {A : Option Addr} {c : Nat} {l : List Nat} (h : RN w P A c l) (hj : Just g w w') (hP : ∀ b, P b → b < w.heap.size ∧ b ≠ g) : RN w' P A c l :=
  h.keep fun _ hp => hj.cell (hP _ hp).1 (hP _ hp).2

/-- What the last two limbs come to. -/
theorem madd_fin {B n f c s c' : Nat} {t o b : List Nat} (_hB : 0 < B) (h : MulAt B t b f 0 o n c) (hn : b.length = n) (hl : o.length = n + 2) (he : s + B * c' = dg o n + c) (hv : val B t + f * val B b < B ^ (n + 2)) :
    dg o (n + 1) + c' < B ∧ val B ((o.set n s).set (n + 1) (dg o (n + 1) + c')) = val B t + f * val B b := by
  obtain ⟨_, h2, _⟩ := h
  rw [List.take_of_length_le (by omega), Nat.pow_zero, Nat.one_mul, Nat.zero_add] at h2
  have e1 := val_set' B (l := o) (n := n) (by omega) s
  have e2 := val_set' B (l := o.set n s) (n := n + 1) (by simp; omega) (dg o (n + 1) + c')
  rw [getD_set_ne (by omega)] at e2
  have e3 : B ^ n * (s + B * c') = B ^ n * (dg o n + c) := by rw [he]
  have p1 : B ^ n * B = B ^ (n + 1) := (Nat.pow_succ ..).symm
  rw [Nat.mul_add, Nat.mul_add, ← Nat.mul_assoc, p1] at e3
  rw [Nat.mul_add] at e2
  have hfin : val B ((o.set n s).set (n + 1) (dg o (n + 1) + c')) = val B t + f * val B b := by omega
  refine ⟨?_, hfin⟩
  rcases Nat.lt_or_ge (dg o (n + 1) + c') B with hlt | hge
  · exact hlt
  · exfalso
    have e4 := val_take_getD B ((o.set n s).set (n + 1) (dg o (n + 1) + c')) (n + 1)
    rw [List.take_of_length_le (by simp; omega), getD_set_eq (by simp; omega)] at e4
    have e5 : B ^ (n + 1) * B ≤ B ^ (n + 1) * (dg o (n + 1) + c') := Nat.mul_le_mul_left _ hge
    have p2 : B ^ (n + 1) * B = B ^ (n + 2) := (Nat.pow_succ ..).symm
    rw [p2] at e5
    omega

theorem pow64_pos (n : Nat) : 0 < 18446744073709551616 ^ n := Nat.pow_pos (by omega)
/-- Behind the last round of a difference of equally many limbs. -/
theorem SubAt.last {B : Nat} {a b o : List Nat} {k c : Nat} (h : SubAt B a b o k c) (ho : o.length = k) (ha : a.length = k) (hb : b.length = k) : val B o + val B b = val B a + B ^ k * c := by
  unfold SubAt at h
  rwa [List.take_of_length_le (by omega), List.take_of_length_le (by omega), List.take_of_length_le (by omega)] at h
/-- Limbs are copied to a row's beginning. -/
theorem copy_limbs {dT sT : TypeId} (hdT : Try.prog.underlying dT = some (.slice 72)) (w : World) (g m cd n c : Nat) (P : Nat → Prop) (A : Option Addr) (u src : List Nat) (ty : TypeId) (hu : Blk w g u) (hs : RN w P A c src) (hpos : 0 < src.length) (hn : src.length = n) (hle : n ≤ m) (hm : m ≤ u.length) :
    (Builtin.copy_ #[dT, sT] ty #[.slice (some ⟨g, 0, none⟩) m cd, .slice A n c]).run Try.prog w = .ok (goInt n) (w.setRow g (nts (src ++ u.drop n)).toArray) := by
  obtain ⟨ad, rfl, _, _⟩ := hs.at_ hpos
  have h := run_copy_row (P := Try.prog) w dT sT ty 72 g 0 m cd ad n c (nts u).toArray 72 (nts src) hdT info64size hu
    (by rw [nts_length, hn]; exact (Nat.min_eq_left hle).symm) (fun j v hj => by
      have hj' : j < src.length := by have := (List.getElem?_eq_some_iff.1 hj).1; simpa [nts] using this
      rw [hs.cells j hj']
      rw [nts_get hj'] at hj
      exact hj) (by rw [nts_length, hn]; simp [nts]; omega) (oneCell_nts src)
  rw [nts_length, hn] at h
  rw [h]
  simp [nts, List.map_drop]
theorem setRow_below {B g : Nat} {w w' : World} (h : Below B w w') (hg : B ≤ g) (v : Array Value) : Below B w (w'.setRow g v) :=
  ⟨h.os, h.tape, h.output, by have : (w'.setRow g v).heap.size = w'.heap.size := by simp [World.setRow]
                              rw [this]; exact h.size, fun k hk => by
    have : (w'.setRow g v).heap[k]? = w'.heap[k]? := by simp [World.setRow, Array.getElem?_modify, show ¬ g = k by omega]
    exact this.trans (h.block k hk)⟩
/-- What is given. -/
def offM (v M : Nat) : Nat := if v < M then v else v - M

/-- Behind i rounds of Montgomery's product. -/
structure MontAt (B M : Nat) (a b t : List Nat) (i n : Nat) : Prop where
  len : t.length = n + 2
  top : dg t (n + 1) = 0
  bound : val B t < M + val B b
  cong : ∃ k, val B t * B ^ i = val B (a.take i) * val B b + k * M
theorem MontAt.zero {B M : Nat} (a b : List Nat) (n : Nat) (hM : 0 < M) : MontAt B M a b (List.replicate (n + 2) 0) 0 n :=
  ⟨by simp, by rw [dg, List.getD_eq_getElem?_getD, List.getElem?_replicate]; split <;> rfl, by rw [val_replicate]; omega, 0, by simp [val_replicate]⟩
theorem dg_zero_mod {B : Nat} {t : List Nat} (ht : ∀ x ∈ t, x < B) (_hB : 0 < B) : val B t % B = dg t 0 := by
  cases t with
  | nil => simp [dg]
  | cons x l => rw [val_cons, Nat.add_mul_mod_self_left, Nat.mod_eq_of_lt (ht x (by simp))]; rfl
/-! What a round does to the numbers. -/
theorem mont_low {B M inv d q v : Nat} (hi : (inv * M + 1) % B = 0) (hv : v % B = d) (hq : q = d * inv % B) : (v + q * M) % B = 0 := by
  have h1 : (v + q * M) % B = (d * (inv * M + 1)) % B := by
    subst hq hv
    rw [Nat.mul_add, Nat.mul_one, Nat.add_mod, Nat.mod_mul_mod, ← Nat.mul_assoc, Nat.add_comm (v % B * inv * M), Nat.add_mod_mod]
  rw [h1, Nat.mul_mod, hi]
  simp
theorem mont_eq {M t0 ai b q t2 Bi A A' k : Nat} (h2 : t2 = t0 + ai * b + q * M) (hk : t0 * Bi = A * b + k * M) (hA : A' = A + Bi * ai) : t2 * Bi = A' * b + (k + q * Bi) * M := by
  subst h2 hA
  rw [Nat.add_mul, Nat.add_mul, hk, Nat.add_mul, Nat.add_mul]
  have e1 : ai * b * Bi = Bi * ai * b := by rw [Nat.mul_comm Bi ai, Nat.mul_assoc, Nat.mul_assoc, Nat.mul_comm b Bi]
  have e2 : q * M * Bi = q * Bi * M := by rw [Nat.mul_assoc, Nat.mul_assoc, Nat.mul_comm M Bi]
  omega
theorem mont_bound {B M t0 ai b q t2 t4 : Nat} (hB : 0 < B) (h2 : t2 = t0 + ai * b + q * M) (hb : t0 < M + b) (ha : ai < B) (hq : q < B) (h4 : t2 = B * t4) : t4 < M + b := by
  have e1 : ai * b ≤ (B - 1) * b := Nat.mul_le_mul_right _ (by omega)
  have e2 : q * M ≤ (B - 1) * M := Nat.mul_le_mul_right _ (by omega)
  have e3 : (B - 1) * b + b = B * b := by rw [← Nat.succ_mul, Nat.succ_eq_add_one, Nat.sub_add_cancel hB]
  have e4 : (B - 1) * M + M = B * M := by rw [← Nat.succ_mul, Nat.succ_eq_add_one, Nat.sub_add_cancel hB]
  have e5 : B * t4 < B * (M + b) := by rw [Nat.mul_add, ← h4]; omega
  exact Nat.lt_of_mul_lt_mul_left e5
theorem mont_room1 {B M R t0 ai b : Nat} (hB : 2 ≤ B) (hb : t0 < M + b) (ha : ai < B) (hM : M ≤ R) (hbR : b < R) : t0 + ai * b < R * B * B := by
  have e1 : ai * b ≤ (B - 1) * b := Nat.mul_le_mul_right _ (by omega)
  have e3 : (B - 1) * b + b = B * b := by rw [← Nat.succ_mul, Nat.succ_eq_add_one, Nat.sub_add_cancel (by omega)]
  have e4 : B * b ≤ B * R := Nat.mul_le_mul_left _ (by omega)
  have e5 : R * B * 2 ≤ R * B * B := Nat.mul_le_mul_left _ hB
  have e6 : R * 2 ≤ R * B := Nat.mul_le_mul_left _ hB
  rw [Nat.mul_comm B R] at e4
  omega
theorem mont_room2 {B M R t0 ai b q : Nat} (hB : 2 ≤ B) (hb : t0 < M + b) (ha : ai < B) (hq : q < B) (hM : M ≤ R) (hbR : b < R) : t0 + ai * b + q * M < R * B * B := by
  have e1 : ai * b ≤ (B - 1) * b := Nat.mul_le_mul_right _ (by omega)
  have e2 : q * M ≤ (B - 1) * M := Nat.mul_le_mul_right _ (by omega)
  have e3 : (B - 1) * b + b = B * b := by rw [← Nat.succ_mul, Nat.succ_eq_add_one, Nat.sub_add_cancel (by omega)]
  have e7 : (B - 1) * M + M = B * M := by rw [← Nat.succ_mul, Nat.succ_eq_add_one, Nat.sub_add_cancel (by omega)]
  have e4 : B * b ≤ B * R := Nat.mul_le_mul_left _ (by omega)
  have e8 : B * M ≤ B * R := Nat.mul_le_mul_left _ hM
  have e5 : R * B * 2 ≤ R * B * B := Nat.mul_le_mul_left _ hB
  rw [Nat.mul_comm B R] at e4 e8
  omega
theorem MontAt.step {B M inv n i q : Nat} {a b t t2 : List Nat} (hB : 2 ≤ B) (h : MontAt B M a b t i n) (ha : dg a i < B) (hi : (inv * M + 1) % B = 0) (hl2 : t2.length = n + 2) (hlim : ∀ x ∈ t2, x < B)
    (hq : q = (val B t + dg a i * val B b) % B * inv % B) (hv2 : val B t2 = val B t + dg a i * val B b + q * M) : MontAt B M a b (t2.drop 1 ++ [0]) (i + 1) n := by
  have h0 : val B t2 % B = 0 := by rw [hv2]; exact mont_low hi rfl hq
  have hq' : q < B := by rw [hq]; exact Nat.mod_lt _ (by omega)
  obtain ⟨x, l, rfl⟩ : ∃ x l, t2 = x :: l := by
    cases t2 with
    | nil => simp at hl2
    | cons x l => exact ⟨x, l, rfl⟩
  rw [dg_zero_mod hlim (by omega)] at h0
  have hx : x = 0 := h0
  subst hx
  have hlen : l.length = n + 1 := by simpa using hl2
  have e4 : val B (0 :: l) = B * val B l := by rw [val_cons]; omega
  have e5 : val B ((0 :: l).drop 1 ++ [0]) = val B l := by simp [val_append]
  obtain ⟨k, hk⟩ := h.cong
  refine ⟨by simp [hlen], ?_, ?_, k + q * B ^ i, ?_⟩
  · simp [dg, List.getD_eq_getElem?_getD, hlen]
  · rw [e5]
    exact mont_bound (by omega) hv2 h.bound ha hq' e4
  · rw [e5, Nat.pow_succ, show val B l * (B ^ i * B) = (B * val B l) * B ^ i by rw [Nat.mul_comm (B ^ i), ← Nat.mul_assoc, Nat.mul_comm (val B l)], ← e4]
    exact mont_eq hv2 hk (val_take_getD B a i)
/-- Montgomery's congruence, behind the last taking off. -/
theorem offM_lt {v M : Nat} (h : v < 2 * M) : offM v M < M := by rw [offM]; split <;> omega
theorem offM_mod {v M R x k : Nat} (h : v * R = x + k * M) : offM v M * R % M = x % M := by
  have h1 : v * R % M = x % M := by rw [h, Nat.add_mul_mod_self_right]
  rw [offM]
  split
  · exact h1
  · rename_i hge
    rw [← h1]
    have : v * R = (v - M) * R + R * M := by rw [Nat.mul_comm R M, ← Nat.add_mul, Nat.sub_add_cancel (by omega)]
    rw [this, Nat.add_mul_mod_self_right]
theorem OB.of_blk_rn {w : World} {g c : Nat} {l : List Nat} (h : Blk w g l) (hl : Lim l) (hc : l.length ≤ c) (hc' : c ≤ maxLen) : RN w (fun b => b = g) (some ⟨g, 0, none⟩) c l :=
  ⟨⟨hc, hc', by simp [nts], fun _ => ⟨_, rfl, rfl, fun j u hu => by rw [add_blk, blk_cell h j, List.getElem?_toArray]; exact hu⟩⟩, hl⟩

/-- A row's tail, read as a slice. -/
theorem tail_rn {w : World} {g n : Nat} {l : List Nat} (h : Blk w g l) (hl : Lim l) (hn : l.length = n + 2) : RN w (fun b => b = g) (some ⟨g, 1, none⟩) (n + 1) (l.drop 1) :=
  ⟨⟨by rw [List.length_drop]; omega, by have := hl.2; unfold maxLen; omega, by simp [nts], fun _ => ⟨_, rfl, rfl, fun j u hu => by
    have e : (⟨g, 1, none⟩ : Addr).add j = ⟨g, j + 1, none⟩ := by
      unfold Addr.add
      split
      · rename_i h0; rw [h0]
      · rw [Nat.add_comm]
    rw [e, blk_cell h (j + 1), List.getElem?_toArray]
    rw [nts, List.getElem?_map, List.getElem?_drop, Nat.add_comm] at hu
    rw [nts, List.getElem?_map]
    exact hu⟩⟩, fun x hx => hl.1 x (List.mem_of_mem_drop hx), by rw [List.length_drop]; have := hl.2; omega⟩
theorem wrap_mul (x y : Nat) : IntKind.u64.wrap ((x : Int) * (y : Int)) = ((x * y % 18446744073709551616 : Nat) : Int) := by
  rw [IntKind.wrap_u64, ← Int.natCast_mul]
  omega
theorem pow_two_more (n : Nat) : 18446744073709551616 ^ (n + 2) = 18446744073709551616 ^ n * 18446744073709551616 * 18446744073709551616 := by rw [Nat.pow_succ, Nat.pow_succ]
theorem shift_list {o : List Nat} {n : Nat} (h : o.length = n + 2) : (o.drop 1 ++ o.drop (n + 1)).set (n + 1) 0 = o.drop 1 ++ [0] := by
  have h1 : (o.drop 1).length = n + 1 := by rw [List.length_drop]; omega
  have h2 : (o.drop (n + 1)).length = 1 := by rw [List.length_drop]; omega
  obtain ⟨x, hx⟩ : ∃ x, o.drop (n + 1) = [x] := by
    match ho : o.drop (n + 1), h2 with
    | [x], _ => exact ⟨x, rfl⟩
  rw [hx, List.set_append_right _ _ (by omega), h1, Nat.sub_self]
  rfl

theorem cancelR {B M inv n a b : Nat} (hi : (inv * M + 1) % B = 0) (h : a * B ^ n % M = b * B ^ n % M) : a % M = b % M := by
  obtain ⟨u, hu⟩ : ∃ u, inv * M + 1 = B * u := ⟨(inv * M + 1) / B, by have := Nat.div_add_mod (inv * M + 1) B; omega⟩
  have h1 : ∀ x, x * (B * u) % M = x % M := fun x => by rw [← hu, Nat.mul_add, Nat.mul_one, ← Nat.mul_assoc, Nat.add_comm, Nat.add_mul_mod_self_right]
  have h2 : ∀ k x, x * B ^ k * u ^ k % M = x % M := by
    intro k
    induction k with
    | zero => intro x; simp
    | succ k ih =>
      intro x
      have e : x * B ^ (k + 1) * u ^ (k + 1) = (x * (B * u)) * B ^ k * u ^ k := by
        rw [Nat.pow_succ, Nat.pow_succ]
        simp only [Nat.mul_assoc, Nat.mul_comm, Nat.mul_left_comm]
      rw [e, ih, h1]
  rw [← h2 n a, ← h2 n b, Nat.mul_mod, h, ← Nat.mul_mod]

/-- One round of Newton's: the places that are right double. -/
theorem newton {m y y' t z : Int} {k j : Nat} (hy : m * y = 1 + 2 ^ k * t) (h' : y' = y * (2 - m * y) + 18446744073709551616 * z) (hj : k + k + j = 64) : ∃ s, m * y' = 1 + 2 ^ (k + k) * s := by
  refine ⟨-(t * t) + m * 2 ^ j * z, ?_⟩
  have e1 : m * y' = m * y * (2 - m * y) + m * 18446744073709551616 * z := by rw [h', Int.mul_add, ← Int.mul_assoc, ← Int.mul_assoc]
  have e2 : (18446744073709551616 : Int) = 2 ^ (k + k) * 2 ^ j := by rw [← Int.pow_add, hj]; rfl
  rw [e1, hy, e2, Int.pow_add]
  generalize (2 : Int) ^ k = p
  generalize (2 : Int) ^ j = r
  grind
theorem newton_wrap {m y : Int} : ∃ z, (y * ((2 - m * y % 18446744073709551616) % 18446744073709551616)) % 18446744073709551616 = y * (2 - m * y) + 18446744073709551616 * z := by
  have e1 := Int.mul_ediv_add_emod (m * y) 18446744073709551616
  have e2 := Int.mul_ediv_add_emod (2 - m * y % 18446744073709551616) 18446744073709551616
  have e3 := Int.mul_ediv_add_emod (y * ((2 - m * y % 18446744073709551616) % 18446744073709551616)) 18446744073709551616
  generalize (2 - m * y % 18446744073709551616) / 18446744073709551616 = d2 at *
  generalize (y * ((2 - m * y % 18446744073709551616) % 18446744073709551616)) / 18446744073709551616 = d3 at *
  generalize (y * ((2 - m * y % 18446744073709551616) % 18446744073709551616)) % 18446744073709551616 = r3 at *
  generalize (2 - m * y % 18446744073709551616) % 18446744073709551616 = r2 at *
  generalize (m * y) / 18446744073709551616 = d1 at *
  generalize (m * y) % 18446744073709551616 = r1 at *
  refine ⟨y * d1 - y * d2 - d3, ?_⟩
  grind
theorem neg_inv {m0 M : Nat} {y : Int} {t : Int} (hm : M % 18446744073709551616 = m0) (h : (m0 : Int) * y = 1 + 18446744073709551616 * t) : ((((-y) % 18446744073709551616).toNat) * M + 1) % 18446744073709551616 = 0 := by
  have e1 := Int.mul_ediv_add_emod (-y) 18446744073709551616
  have h0 : 0 ≤ (-y) % 18446744073709551616 := Int.emod_nonneg _ (by decide)
  obtain ⟨v, hv⟩ : ∃ v : Nat, (-y) % 18446744073709551616 = (v : Int) := ⟨_, (Int.toNat_of_nonneg h0).symm⟩
  rw [hv] at e1 ⊢
  rw [Int.toNat_natCast]
  obtain ⟨q, hq⟩ : ∃ q, M = m0 + 18446744073709551616 * q := ⟨M / 18446744073709551616, by omega⟩
  have e2 : ((v * M + 1 : Nat) : Int) = 18446744073709551616 * ((v : Int) * q - t - (m0 : Int) * ((-y) / 18446744073709551616)) := by
    rw [hq]
    simp only [Int.natCast_add, Int.natCast_mul, Int.cast_ofNat_Int]
    generalize (-y) / 18446744073709551616 = d at *
    grind
  omega
/-- How many limbs a number has; R for a modulus. -/
def nl (M : Nat) : Nat := (digs 18446744073709551616 M).length
def RM (M : Nat) : Nat := 18446744073709551616 ^ nl M
theorem val_pad (B : Nat) (a : List Nat) (k : Nat) : val B (a ++ List.replicate k 0) = val B a := by rw [val_append, val_replicate, Nat.mul_zero, Nat.add_zero]
theorem blk_set {w : World} {g : Nat} {t : TypeId} {cs : Array Value} (h : w.heap[g]? = some (.cells cs t (0, 0))) (i : Nat) (u : Value) : (w.setCell ⟨g, i, none⟩ u).heap[g]? = some (.cells (cs.setIfInBounds i u) t (0, 0)) := by
  simp [World.setCell, Array.getElem?_modify, h]
end Go.Proofs.Ytldhmjfjbalakaa

namespace Go.Proofs.Ytldhmjfjbalakaa
open Go.RowKit

/-- An element's value: six limbs. -/
def EV (l : List Nat) : Value := .agg (nts l).toArray
theorem six {l : List Nat} (h : l.length = 6) : ∃ a b c d e f, l = [a, b, c, d, e, f] := by
  match l, h with
  | [a, b, c, d, e, f], _ => exact ⟨a, b, c, d, e, f, rfl⟩
set_option maxRecDepth 100000 in
theorem eql_zero (a b c d e f : Nat) (w : World) : (Op.equalIn 10000 81 (.agg #[.int .u64 (a : Int), .int .u64 (b : Int), .int .u64 (c : Int), .int .u64 (d : Int), .int .u64 (e : Int), .int .u64 (f : Int)]) (.agg #[.int .u64 0, .int .u64 0, .int .u64 0, .int .u64 0, .int .u64 0, .int .u64 0])).run Try.prog w =
    .ok (decide ([a, b, c, d, e, f] = [0, 0, 0, 0, 0, 0])) w := by
  obtain ⟨i0, hi, hz0, hz1, hz2⟩ := info_parts info64
  have hc : Try.prog.cellsOf 72 = 1 := by kernel_rfl
  rw [show (10000 : Nat) = 9999 + 1 by rfl, run_equalIn_array _ _ _ _ Try.underlying81 hi, hc]
  rw [show List.range 6 = [0, 1, 2, 3, 4, 5] by rfl]
  have he : ∀ x y : Int, (Op.equalIn 9999 72 (.int .u64 x) (.int .u64 y)).run Try.prog w = .ok (x == y) w := fun x y => run_equalIn_int w 9998 _ .u64 .u64 x y Try.underlying72
  have hp : ∀ (xs : Array Value) (j : Nat) (x : Value), xs[j]? = some x → (part 72 xs j).run Try.prog w = .ok x w := fun xs j x h => by
    simp [part, run_sizeOf w hi, hz1, h, go_sem]
  have hs : ∀ (xs ys : Array Value) (j : Nat) (x y : Int) (is : List Nat), xs[j]? = some (.int .u64 x) → ys[j]? = some (.int .u64 y) →
      (Op.eqItems 9999 72 1 xs ys (j :: is)).run Try.prog w = if x = y then (Op.eqItems 9999 72 1 xs ys is).run Try.prog w else .ok false w := by
    intro xs ys j x y is h1 h2
    have p1 := hp xs j _ h1
    have p2 := hp ys j _ h2
    simp only [Op.eqItems, Sem.run_bind, Nat.mul_one, p1, p2, he, Result.andThen_ok]
    by_cases hxy : x = y
    · simp [hxy]
    · simp [hxy]
  rw [hs _ _ 0 a 0 _ rfl rfl, hs _ _ 1 b 0 _ rfl rfl, hs _ _ 2 c 0 _ rfl rfl, hs _ _ 3 d 0 _ rfl rfl, hs _ _ 4 e 0 _ rfl rfl, hs _ _ 5 f 0 _ rfl rfl]
  have hn : (Op.eqItems 9999 72 1 #[.int .u64 (a : Int), .int .u64 (b : Int), .int .u64 (c : Int), .int .u64 (d : Int), .int .u64 (e : Int), .int .u64 (f : Int)] #[.int .u64 0, .int .u64 0, .int .u64 0, .int .u64 0, .int .u64 0, .int .u64 0] []).run Try.prog w = .ok true w := by simp [Op.eqItems]
  rw [hn]
  have hd : decide ([a, b, c, d, e, f] = [0, 0, 0, 0, 0, 0]) = decide ((a : Int) = 0 ∧ (b : Int) = 0 ∧ (c : Int) = 0 ∧ (d : Int) = 0 ∧ (e : Int) = 0 ∧ (f : Int) = 0) := by
    rw [decide_eq_decide]; simp
  rw [hd]
  by_cases h1 : (a : Int) = 0 <;> by_cases h2 : (b : Int) = 0 <;> by_cases h3 : (c : Int) = 0 <;> by_cases h4 : (d : Int) = 0 <;> by_cases h5 : (e : Int) = 0 <;> by_cases h6 : (f : Int) = 0 <;> simp only [h1, h2, h3, h4, h5, h6, if_true, if_false, and_self, and_true, true_and, and_false, false_and, decide_true, decide_false]

set_option maxRecDepth 100000 in
set_option maxHeartbeats 1000000 in
theorem zero_any (l : List Nat) (w : World) (hl : l.length = 6) : Calls Try.prog 76 #[EV l] w fun e w' => e = .returned (.bool (decide (l = [0, 0, 0, 0, 0, 0]))) ∧ Below w.heap.size w w' := by
  obtain ⟨a, b, c, d, e, f, rfl⟩ := six hl
  simp only [EV, nts, List.map_cons, List.map_nil]
  have heq := eql_zero a b c d e f
  generalize decide ([a, b, c, d, e, f] = [0, 0, 0, 0, 0, 0]) = r at *
  go_enter Try.func76, Try.ntmps76
  go_wp2
  go_ret
  exact ⟨rfl, (Below.refl _ w).alloc (Nat.le_refl _) _⟩
end Go.Proofs.Ytldhmjfjbalakaa

namespace Go.Proofs.Ytldhmjfjbalakaa

/-- Behind i rounds: what the row's number is. -/
def MontT (B M : Nat) (a b : List Nat) (T i : Nat) : Prop := T < M + val B b ∧ ∃ k, T * B ^ i = val B (a.take i) * val B b + k * M
theorem MontT.zero {B M : Nat} (a b : List Nat) (hM : 0 < M) : MontT B M a b 0 0 := ⟨by omega, 0, by simp⟩
theorem MontT.step {B M inv i q T T2 T4 : Nat} {a b : List Nat} (hB : 2 ≤ B) (h : MontT B M a b T i) (ha : dg a i < B) (hq : q = (T + dg a i * val B b) % B * inv % B) (h2 : T2 = T + dg a i * val B b + q * M) (h4 : T2 = B * T4) : MontT B M a b T4 (i + 1) := by
  have hq' : q < B := by rw [hq]; exact Nat.mod_lt _ (by omega)
  obtain ⟨hb, k, hk⟩ := h
  refine ⟨mont_bound (by omega) h2 hb ha hq' h4, k + q * B ^ i, ?_⟩
  rw [Nat.pow_succ, show T4 * (B ^ i * B) = (B * T4) * B ^ i by rw [Nat.mul_comm (B ^ i), ← Nat.mul_assoc, Nat.mul_comm T4], ← h4]
  exact mont_eq h2 hk (val_take_getD B a i)

/-- f times the first j limbs of b are added to those of t; o is the row, c the carry. -/
def FirstAt (B : Nat) (t b o : List Nat) (f j c : Nat) : Prop := o.length = t.length ∧ (∀ p, j ≤ p → dg o p = dg t p) ∧ val B (o.take j) + B ^ j * c = val B (t.take j) + f * val B (b.take j)
theorem FirstAt.zero (B : Nat) (t b : List Nat) (f : Nat) : FirstAt B t b t f 0 0 := ⟨rfl, fun _ _ => rfl, by simp⟩
theorem FirstAt.step {B f j c s c' : Nat} {t b o : List Nat} (h : FirstAt B t b o f j c) (hj : j < t.length) (he : s + B * c' = dg o j + f * dg b j + c) : FirstAt B t b (o.set j s) f (j + 1) c' := by
  obtain ⟨h1, h2, h3⟩ := h
  refine ⟨by simpa using h1, fun p hp => by rw [getD_set_ne (by omega)]; exact h2 p (by omega), ?_⟩
  rw [val_take_set B (by omega), val_take_getD, val_take_getD, Nat.pow_succ, Nat.mul_assoc]
  have e := congrArg (fun z => B ^ j * z) he
  simp only [Nat.mul_add] at e
  rw [h2 j (Nat.le_refl _)] at e
  have e2 : B ^ j * (f * dg b j) = f * (B ^ j * dg b j) := Nat.mul_left_comm _ _ _
  rw [Nat.mul_add f]
  omega
theorem FirstAt.fin {B f n c s c' : Nat} {t b o : List Nat} (h : FirstAt B t b o f n c) (hn : n + 2 ≤ t.length) (hb : b.take n = b ∨ val B (b.take n) = val B b) (he : s + B * c' = dg o n + c) :
    ((o.set n s).set (n + 1) c').length = t.length ∧ val B (((o.set n s).set (n + 1) c').take (n + 2)) = val B (t.take (n + 1)) + f * val B b := by
  obtain ⟨h1, h2, h3⟩ := h
  have hb' : val B (b.take n) = val B b := by rcases hb with h | h; · rw [h]
                                              · exact h
  refine ⟨by simpa using h1, ?_⟩
  rw [val_take_set B (by simp; omega), val_take_set B (by omega), val_take_getD B t n, Nat.pow_succ]
  have e := congrArg (fun z => B ^ n * z) he
  simp only [Nat.mul_add] at e
  rw [h2 n (Nat.le_refl _), ← Nat.mul_assoc] at e
  rw [hb'] at h3
  omega

/-- u times the modulus is added, one limb is let go: k limbs of the row have come. -/
def ShiftAt (B : Nat) (t m o : List Nat) (u k c : Nat) : Prop := o.length = t.length ∧ (∀ p, k ≤ p → dg o p = dg t p) ∧ B * val B (o.take k) + B ^ (k + 1) * c = val B (t.take (k + 1)) + u * val B (m.take (k + 1))
theorem ShiftAt.zero {B u c : Nat} {t m : List Nat} (he : B * c = dg t 0 + u * dg m 0) : ShiftAt B t m t u 0 c := by
  refine ⟨rfl, fun _ _ => rfl, ?_⟩
  rw [val_take_getD, val_take_getD]
  simp
  exact he
theorem ShiftAt.step {B u k c s c' : Nat} {t m o : List Nat} (h : ShiftAt B t m o u k c) (hk : k < t.length) (he : s + B * c' = dg o (k + 1) + u * dg m (k + 1) + c) : ShiftAt B t m (o.set k s) u (k + 1) c' := by
  obtain ⟨h1, h2, h3⟩ := h
  refine ⟨by simpa using h1, fun p hp => by rw [getD_set_ne (by omega)]; exact h2 p (by omega), ?_⟩
  rw [val_take_set B (by omega), val_take_getD B t (k + 1), val_take_getD B m (k + 1)]
  have e := congrArg (fun z => B ^ (k + 1) * z) he
  simp only [Nat.mul_add] at e
  rw [h2 (k + 1) (by omega)] at e
  have e2 : B ^ (k + 1) * (u * dg m (k + 1)) = u * (B ^ (k + 1) * dg m (k + 1)) := Nat.mul_left_comm _ _ _
  have e3 : B ^ (k + 1) * (B * c') = B ^ (k + 1 + 1) * c' := by rw [← Nat.mul_assoc, ← Nat.pow_succ]
  have e4 : B * (B ^ k * s) = B ^ (k + 1) * s := by rw [← Nat.mul_assoc, Nat.mul_comm B, ← Nat.pow_succ]
  rw [Nat.mul_add B, Nat.mul_add u, e4]
  omega
theorem ShiftAt.fin {B u k c s c' : Nat} {t m o : List Nat} (h : ShiftAt B t m o u k c) (hn : k + 3 ≤ t.length) (hm : val B (m.take (k + 1)) = val B m) (he : s + B * c' = dg o (k + 1) + c) :
    ((o.set k s).set (k + 1) (dg o (k + 2) + c')).length = t.length ∧ B * val B (((o.set k s).set (k + 1) (dg o (k + 2) + c')).take (k + 2)) = val B (t.take (k + 3)) + u * val B m := by
  obtain ⟨h1, h2, h3⟩ := h
  refine ⟨by simpa using h1, ?_⟩
  rw [val_take_set B (by simp; omega), val_take_set B (by omega), val_take_getD B t (k + 2), val_take_getD B t (k + 1), h2 (k + 2) (by omega)]
  have e := congrArg (fun z => B ^ (k + 1) * z) he
  simp only [Nat.mul_add] at e
  rw [h2 (k + 1) (by omega)] at e
  rw [hm] at h3
  have e3 : B ^ (k + 1) * (B * c') = B ^ (k + 2) * c' := by rw [← Nat.mul_assoc, ← Nat.pow_succ]
  have e4 : B * (B ^ k * s) = B ^ (k + 1) * s := by rw [← Nat.mul_assoc, Nat.mul_comm B, ← Nat.pow_succ]
  have e5 : B * (B ^ (k + 1) * (dg t (k + 2) + c')) = B ^ (k + 2) * dg t (k + 2) + B ^ (k + 2) * c' := by rw [← Nat.mul_assoc, Nat.mul_comm B, ← Nat.pow_succ, Nat.mul_add]
  rw [Nat.mul_add B, Nat.mul_add B, e4, e5]
  omega
end Go.Proofs.Ytldhmjfjbalakaa
