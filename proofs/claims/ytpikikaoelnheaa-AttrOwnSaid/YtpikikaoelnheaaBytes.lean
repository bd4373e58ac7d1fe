/- What zbyte's Append16, Get16, Get32, attrs.Int and the reference's Int compute. -/
import Derived.Test.YtpikikaoelnheaaPut2
namespace Go.Proofs.Ytpikikaoelnheaa
open Go.RowKit

theorem ret_ib {k : IntKind} {a b : Int} {c : Bool} (h : a = b) : Ending.returned (.tuple #[.int k a, .bool c]) = .returned (.tuple #[.int k b, .bool c]) := by rw [h]
def num2 (v : Int) : List Nat := [(v / 256 % 256).toNat, (v % 256).toNat]
theorem bys_num2 (v : Int) : bys (num2 v) = [.int .u8 (v / 256 % 256), .int .u8 (v % 256)] := by
  simp [bys, num2]
  omega
theorem num2_lt (v : Int) : ∀ b ∈ num2 v, b < 256 := by
  intro b hb
  simp [num2] at hb
  omega

theorem or_shift (i a b : Nat) (h : b < 2 ^ i) : a * 2 ^ i ||| b = a * 2 ^ i + b := by
  rw [Nat.mul_comm, ← Nat.two_pow_add_eq_or_of_lt h]
theorem or16 (x y : Nat) (hx : x < 256) (hy : y < 256) : bits .or .u16 ((x : Int) * 256) (y : Int) = ((x * 256 + y : Nat) : Int) := by
  have := u16_or_nat (x * 256) y (by omega) (by omega)
  rw [or_shift 8 x y (by omega)] at this
  rw [← this]
  simp
theorem or32a (x y i j : Nat) (hi : x * 2 ^ i < 4294967296) (hy : y * 2 ^ j < 2 ^ i) (hi32 : i ≤ 32) : bits .or .u32 ((x : Int) * 2 ^ i) ((y : Int) * 2 ^ j) = ((x * 2 ^ i + y * 2 ^ j : Nat) : Int) := by
  have h2 : (2 : Nat) ^ i ≤ 2 ^ 32 := Nat.pow_le_pow_right (by omega) hi32
  have := u32_or_nat (x * 2 ^ i) (y * 2 ^ j) hi (by omega)
  rw [or_shift i x _ hy] at this
  rw [← this]
  simp
theorem ofInt_i64 (a : Nat) (ha : a < 9223372036854775808) : (BitVec.ofInt 64 (a : Int)).toNat = a := by
  rw [BitVec.ofInt_natCast, BitVec.toNat_ofNat]; exact Nat.mod_eq_of_lt (by omega)
theorem i64_or_nat (a b : Nat) (ha : a < 9223372036854775808) (hb : b < 9223372036854775808) : bits .or .i64 (a : Int) (b : Int) = ((a ||| b : Nat) : Int) := by
  have hx : a ||| b < 2 ^ 63 := Nat.or_lt_two_pow (by omega) (by omega)
  show IntKind.i64.wrap ((BitVec.ofInt 64 (a : Int) ||| BitVec.ofInt 64 (b : Int)).toNat : Int) = _
  rw [BitVec.toNat_or, ofInt_i64 a ha, ofInt_i64 b hb, IntKind.wrap_i64]
  omega
theorem or64a (x y i j : Nat) (hi : x * 2 ^ i < 9223372036854775808) (hy : y * 2 ^ j < 2 ^ i) (hi63 : i ≤ 62) : bits .or .i64 ((x : Int) * 2 ^ i) ((y : Int) * 2 ^ j) = ((x * 2 ^ i + y * 2 ^ j : Nat) : Int) := by
  have h2 : (2 : Nat) ^ i ≤ 2 ^ 62 := Nat.pow_le_pow_right (by omega) hi63
  have := i64_or_nat (x * 2 ^ i) (y * 2 ^ j) hi (by omega)
  rw [or_shift i x _ hy] at this
  rw [← this]
  simp
/-- Four bytes, the highest first. -/
def be4 (x y z t : Nat) : Nat := x * 16777216 + y * 65536 + z * 256 + t
theorem or4_u32 (x y z t : Nat) (hx : x < 256) (hy : y < 256) (hz : z < 256) (ht : t < 256) :
    bits .or .u32 (bits .or .u32 (bits .or .u32 ((x : Int) * 16777216) ((y : Int) * 65536)) ((z : Int) * 256)) (t : Int) = (be4 x y z t : Int) := by
  have h1 := or32a x y 24 16 (by omega) (by omega) (by omega)
  have h2 := or32a (x * 256 + y) z 16 8 (by omega) (by omega) (by omega)
  have h3 := or32a (x * 65536 + y * 256 + z) t 8 0 (by omega) (by omega) (by omega)
  simp at h1 h2 h3
  rw [h1, show (x : Int) * 16777216 + (y : Int) * 65536 = ((x : Int) * 256 + y) * 65536 by omega, h2, show ((x : Int) * 256 + y) * 65536 + (z : Int) * 256 = ((x : Int) * 65536 + y * 256 + z) * 256 by omega, h3]
  unfold be4
  omega
theorem or4_i64 (x y z t : Nat) (hx : x < 256) (hy : y < 256) (hz : z < 256) (ht : t < 256) :
    bits .or .i64 (bits .or .i64 (bits .or .i64 ((x : Int) * 16777216) ((y : Int) * 65536)) ((z : Int) * 256)) (t : Int) = (be4 x y z t : Int) := by
  have h1 := or64a x y 24 16 (by omega) (by omega) (by omega)
  have h2 := or64a (x * 256 + y) z 16 8 (by omega) (by omega) (by omega)
  have h3 := or64a (x * 65536 + y * 256 + z) t 8 0 (by omega) (by omega) (by omega)
  simp at h1 h2 h3
  rw [h1, show (x : Int) * 16777216 + (y : Int) * 65536 = ((x : Int) * 256 + y) * 65536 by omega, h2, show ((x : Int) * 256 + y) * 65536 + (z : Int) * 256 = ((x : Int) * 65536 + y * 256 + z) * 256 by omega, h3]
  unfold be4
  omega
theorem or2_i64 (x y : Nat) (hx : x < 256) (hy : y < 256) : bits .or .i64 ((x : Int) * 256) (y : Int) = ((x * 256 + y : Nat) : Int) := by
  have h3 := or64a x y 8 0 (by omega) (by omega) (by omega)
  simp at h3
  rw [h3]
  omega

set_option maxHeartbeats 400000 in
theorem append16_any (x : Int) (base : Nat) (A : Option Addr) (c n : Nat) (bs : List Nat) (w : World) (hx : 0 ≤ x ∧ x < 65536) (h : w.ownsRow base 5 1 (.slice A n c) n (bys bs)) (hbase : base ≤ w.heap.size) (hl : n ≤ 1000000000) :
    Calls Try.prog 57 #[.slice A n c, .int .u16 x] w fun e w' => ∃ A' c', e = .returned (.slice A' (n + 2) c') ∧ w'.ownsRow base 5 1 (.slice A' (n + 2) c') (n + 2) (bys (bs ++ num2 x)) ∧ w.grownBy w' (Value.slice A n c).ownBlock := by
  have hsrc : RS (w.alloc (.cells #[.int .u8 (x / 256), .int .u8 (x % 256)] 5)) (fun _ => True) 1 (some ⟨w.heap.size, 0, none⟩) 2 2 (bys (num2 x)) := by
    rw [bys_num2, show x / 256 % 256 = x / 256 from by omega]
    exact RS.fresh _ _ 1 2 rfl (by unfold maxLen; omega) trivial
  go_enter Try.func57, Try.ntmps57
  go_wp2_with (at_builtin; refine app5 rfl (.tmp 5) (.tmp 11) rfl base (.slice A n c) n (bys bs) rfl (h.alloc _) (fun _ => True) (some ⟨w.heap.size, 0, none⟩) 2 2 (num2 x) rfl hsrc (n + 2) rfl (by omega) (by simp; omega) ?_; intro A' c' w1 hown hgrow hor)
  go_ret
  exact ⟨A', c', rfl, by rw [bys, List.map_append]; exact hown, grownBy_alloc_left hgrow⟩

set_option maxHeartbeats 400000 in
theorem get16_any (P : Nat → Prop) (A : Option Addr) (n c : Nat) (bs : List Nat) (w : World) (h : RB w P A c bs) (hl : bs.length = n) (h2 : 2 ≤ n) :
    Calls Try.prog 58 #[.slice A n c] w fun e w' => e = .returned (.int .u16 ((bs[0]'(by omega) * 256 + bs[1]'(by omega) : Nat) : Int)) ∧ ∃ m, w' = w.drewN m := by
  obtain ⟨ad, rfl, hp, hc0, hb0⟩ := h.at_ (i := 0) (by omega)
  obtain ⟨ad', e, _, hc1, hb1⟩ := h.at_ (i := 1) (by omega)
  injection e with e
  subst e
  simp [Addr.add] at hc0 hc1
  obtain ⟨x, hx⟩ : ∃ x, bs[0] = x := ⟨_, rfl⟩
  obtain ⟨y, hy⟩ : ∃ y, bs[1] = y := ⟨_, rfl⟩
  simp only [hx, hy] at *
  have hn0 : (0 : Int) < (n : Int) := by omega
  have hn1 : (1 : Int) < (n : Int) := by omega
  clear hx hy hl
  go_enter Try.func58, Try.ntmps58
  go_wp2_with fail
  go_quiet (fail)
  go_wp2
  go_ret
  exact ⟨ret_int (or16 x y (by omega) (by omega)), _, rfl⟩

set_option maxHeartbeats 800000 in
theorem get32_any (P : Nat → Prop) (A : Option Addr) (c : Nat) (x y z t : Nat) (w : World) (h : RB w P A c [x, y, z, t]) :
    Calls Try.prog 53 #[.slice A 4 c] w fun e w' => e = .returned (.int .u32 (be4 x y z t : Int)) ∧ ∃ m, w' = w.drewN m := by
  obtain ⟨ad, rfl, hp, hc0, hb0⟩ := h.at_ (i := 0) (by simp)
  obtain ⟨ad', e, _, hc1, hb1⟩ := h.at_ (i := 1) (by simp)
  injection e with e; subst e
  obtain ⟨ad', e, _, hc2, hb2⟩ := h.at_ (i := 2) (by simp)
  injection e with e; subst e
  obtain ⟨ad', e, _, hc3, hb3⟩ := h.at_ (i := 3) (by simp)
  injection e with e; subst e
  simp [Addr.add] at hc0 hc1 hc2 hc3
  simp at hb0 hb1 hb2 hb3
  go_enter Try.func53, Try.ntmps53
  go_wp2_with fail
  go_quiet (fail)
  go_wp2
  go_ret
  exact ⟨ret_int (or4_u32 x y z t (by omega) (by omega) (by omega) (by omega)), _, rfl⟩

/-- The number that a value of four bytes is. -/
def intO : Option (List Nat) → Option Nat
  | some [x, y, z, t] => some (be4 x y z t)
  | _ => none
theorem intO_no {bs : List Nat} (h : bs.length ≠ 4) : intO (some bs) = none := by
  match bs, h with
  | [], _ => rfl
  | [_], _ => rfl
  | [_, _], _ => rfl
  | [_, _, _], _ => rfl
  | [_, _, _, _], h => simp at h
  | _ :: _ :: _ :: _ :: _ :: _, _ => rfl
def intOf' (l : List (Int × List Nat)) (t : Int) : Option Nat := intO (seek l t)

set_option maxHeartbeats 800000 in
theorem int_any (P : Nat → Prop) (A : Option Addr) (c : Nat) (l : List (Int × List Nat)) (t : Int) (w : World) (hv : RA w P A c l) (hP : ∀ b, P b → b < w.heap.size) :
    Calls Try.prog 34 #[.slice A l.length c, .int .i64 t] w fun e w' => e = .returned (.tuple #[.int .i64 ((intOf' l t).getD 0 : Nat), .bool (intOf' l t).isSome]) ∧ Below w.heap.size w w' := by
  have hg := Lib.hid (get_any P A c l t w hv hP)
  unfold intOf'
  obtain ⟨o, ho⟩ : ∃ o, seek l t = o := ⟨_, rfl⟩
  rw [ho] at hg ⊢
  clear ho
  rcases o with _ | bs
  · go_enter Try.func34, Try.ntmps34
    go_wp2_with fail
    refine hg.out.mono ?_
    rintro e w1 ⟨A1, c1, rfl, hr, hB⟩
    go_wp2
    go_ret2
    exact ⟨rfl, hB⟩
  · by_cases h1 : bs.length = 4
    · obtain ⟨x, y, z, u, rfl⟩ : ∃ x y z u, bs = [x, y, z, u] := by
        match bs, h1 with
        | [x, y, z, u], _ => exact ⟨x, y, z, u, rfl⟩
      clear h1
      go_enter Try.func34, Try.ntmps34
      go_wp2_with fail
      refine hg.out.mono ?_
      rintro e w1 ⟨A1, c1, rfl, hr, hB⟩
      have hlt : be4 x y z u < 4294967296 := by
        have h1 := hr.2.1 x (by simp)
        have h2 := hr.2.1 y (by simp)
        have h3 := hr.2.1 z (by simp)
        have h4 := hr.2.1 u (by simp)
        unfold be4
        omega
      go_wp2_with fail
      refine (get32_any _ A1 c1 x y z u w1 hr).mono ?_
      rintro e w2 ⟨rfl, m, rfl⟩
      go_wp2
      go_ret2
      exact ⟨rfl, below_drewN hB m⟩
    · have h1' : ((bs.length : Int) != 4) = true := by rw [bne_iff_ne]; omega
      have hi := Lib.hid (intO_no h1)
      go_enter Try.func34, Try.ntmps34
      go_wp2_with fail
      refine hg.out.mono ?_
      rintro e w1 ⟨A1, c1, rfl, hr, hB⟩
      simp only [Option.getD_some]
      go_wp2
      go_ret2
      exact ⟨by rw [hi.out]; rfl, hB⟩

set_option maxHeartbeats 800000 in
theorem refInt_any (P : Nat → Prop) (A : Option Addr) (c : Nat) (l : List (Int × List Nat)) (t : Int) (w : World) (hv : RA w P A c l) :
    Calls Try.prog 35 #[.slice A l.length c, .int .i64 t] w fun e w' => e = .returned (.tuple #[.int .i64 ((intOf' l t).getD 0 : Nat), .bool (intOf' l t).isSome]) ∧ ∃ m, w' = w.drewN m := by
  have hg := Lib.hid (refGet_any P A c l t w hv)
  unfold intOf'
  obtain ⟨o, ho⟩ : ∃ o, seek l t = o := ⟨_, rfl⟩
  rw [ho] at hg ⊢
  clear ho
  rcases o with _ | bs
  · go_enter Try.func35, Try.ntmps35
    go_wp2_with fail
    refine hg.out.mono ?_
    rintro e w1 ⟨A1, c1, rfl, hr, rfl⟩
    go_wp2
    go_ret2
    exact ⟨rfl, 0, rfl⟩
  · by_cases h1 : bs.length = 4
    · obtain ⟨x, y, z, u, rfl⟩ : ∃ x y z u, bs = [x, y, z, u] := by
        match bs, h1 with
        | [x, y, z, u], _ => exact ⟨x, y, z, u, rfl⟩
      clear h1
      go_enter Try.func35, Try.ntmps35
      go_wp2_with fail
      refine hg.out.mono ?_
      rintro e w1 ⟨A1, c1, rfl, hr, rfl⟩
      obtain ⟨ad, rfl, hp, hc0, hb0⟩ := hr.at_ (i := 0) (by simp)
      obtain ⟨ad', e, _, hc1, hb1⟩ := hr.at_ (i := 1) (by simp)
      injection e with e; subst e
      obtain ⟨ad', e, _, hc2, hb2⟩ := hr.at_ (i := 2) (by simp)
      injection e with e; subst e
      obtain ⟨ad', e, _, hc3, hb3⟩ := hr.at_ (i := 3) (by simp)
      injection e with e; subst e
      simp [Addr.add] at hc0 hc1 hc2 hc3
      simp at hb0 hb1 hb2 hb3
      have hor := Lib.hid (or4_i64 x y z u (by omega) (by omega) (by omega) (by omega))
      go_wp2_with fail
      go_quiet (fail)
      go_wp2
      go_ret2
      exact ⟨ret_ib hor.out, _, rfl⟩
    · have h1' : ((bs.length : Int) != 4) = true := by rw [bne_iff_ne]; omega
      have hi := Lib.hid (intO_no h1)
      go_enter Try.func35, Try.ntmps35
      go_wp2_with fail
      refine hg.out.mono ?_
      rintro e w1 ⟨A1, c1, rfl, hr, rfl⟩
      simp only [Option.getD_some]
      go_wp2
      go_ret2
      exact ⟨by rw [hi.out]; rfl, 0, rfl⟩
end Go.Proofs.Ytpikikaoelnheaa
