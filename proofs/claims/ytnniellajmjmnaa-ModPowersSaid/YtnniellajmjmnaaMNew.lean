/- zmont's To, From, One. zmont.New. -/
import Derived.Test.YtnniellajmjmnaaMont
import Derived.Test.YtnniellajmjmnaaStr
import Derived.Test.YtnniellajmjmnaaQuoLaw
namespace Go.Proofs.Ytnniellajmjmnaa
open Go.RowKit

theorem to_form {M inv x o : Nat} (hi : (inv * M + 1) % 18446744073709551616 = 0) (ho : o < M) (h : o * 18446744073709551616 ^ nl M % M = x * (RM M * RM M % M) % M) : o = x * RM M % M := by
  have h1 : o * 18446744073709551616 ^ nl M % M = (x * RM M) * 18446744073709551616 ^ nl M % M := by
    rw [h, Nat.mul_mod, Nat.mod_mod, ← Nat.mul_mod, ← Nat.mul_assoc]; rfl
  have h2 := cancelR hi h1
  rwa [Nat.mod_eq_of_lt ho] at h2
theorem from_form {M inv x o v : Nat} (hi : (inv * M + 1) % 18446744073709551616 = 0) (ho : o < M) (h : o * 18446744073709551616 ^ nl M % M = v * 1 % M) (hv : v = x * RM M % M) : o = x % M := by
  have h1 : o * 18446744073709551616 ^ nl M % M = x * 18446744073709551616 ^ nl M % M := by
    rw [h, Nat.mul_one, hv, Nat.mod_mod]; rfl
  have h2 := cancelR hi h1
  rwa [Nat.mod_eq_of_lt ho] at h2
theorem mul_form {M inv x y o u v : Nat} (hi : (inv * M + 1) % 18446744073709551616 = 0) (ho : o < M) (h : o * 18446744073709551616 ^ nl M % M = u * v % M) (hu : u = x * RM M % M) (hv : v = y * RM M % M) : o = x * y * RM M % M := by
  have h1 : o * 18446744073709551616 ^ nl M % M = (x * y * RM M) * 18446744073709551616 ^ nl M % M := by
    rw [h, hu, hv, ← Nat.mul_mod]
    show x * RM M * (y * RM M) % M = x * y * RM M * RM M % M
    congr 1
    simp only [Nat.mul_assoc, Nat.mul_comm, Nat.mul_left_comm]
  have h2 := cancelR hi h1
  rwa [Nat.mod_eq_of_lt ho] at h2

section
variable {w : World} {P : Nat → Prop} {g M inv : Nat} {Am Ao Ar : Option Addr} {cm co cr : Nat} {ol rl : List Nat}
set_option maxRecDepth 100000 in
set_option maxHeartbeats 2000000 in
theorem mto_any (hZ : ZM w P g M inv Am Ao Ar cm co cr ol rl) (hP : ∀ b, P b → b < w.heap.size) (Pa : Nat → Prop) (Aa : Option Addr) (ca : Nat) (a : List Nat) (ha : RN w Pa Aa ca a) (hPa : ∀ b, Pa b → b < w.heap.size) (hl : a.length ≤ (digs 18446744073709551616 M).length) :
    Calls Try.prog 83 #[.pointer (some ⟨g, 0, none⟩), .slice Aa a.length ca] w fun e w' => ∃ A' c' o, e = .returned (.slice A' (digs 18446744073709551616 M).length c') ∧ o.length = (digs 18446744073709551616 M).length ∧ OB w' w.heap.size A' c' o ∧ val 18446744073709551616 o = val 18446744073709551616 a * RM M % M ∧ Below w.heap.size w w' := by
  have hg := blk_lt hZ.blk
  have c0 := blk_cell hZ.blk 0
  have c3 := blk_cell hZ.blk 3
  simp at c0 c3
  have hvd := val_digs (B := 18446744073709551616) (by omega) M
  have hf := fill_any Pa Am Aa cm ca g _ a w.drew c0 (ha.drewN 1) hPa hl hZ.small
  have Hf := Lib.hid hf
  have hmul := Lib.hid (fun w1 A1 c1 (o1 : List Nat) (hO : OB w1 w.heap.size A1 c1 o1) (hl1 : o1.length = (digs 18446744073709551616 M).length) (hB : Below w.heap.size w w1) =>
    mmul_any P (In w.heap.size w1.heap.size) P Am A1 Ar cm c1 cr g inv (digs 18446744073709551616 M) o1 rl w1 ((hB.cell (p := ⟨g, 0, none⟩) hg).trans c0) ((hB.cell (p := ⟨g, 1, none⟩) hg).trans (by have := blk_cell hZ.blk 1; simpa using this)) (by have := hB.size; omega)
      (hZ.m.below hB hP) (fun b hb => by have := hP b hb; have := hB.size; omega) hO.rn (fun b hb => hb.2) (hZ.rr.below hB hP) (fun b hb => by have := hP b hb; have := hB.size; omega) hl1 hZ.rrLen (by rw [hvd]; have := hZ.big; omega) (by rw [hvd, hZ.rrV]; exact Nat.mod_lt _ (by have := hZ.big; omega)) hZ.invLt (by rw [hvd]; exact hZ.invV) hZ.small)
  have HZ := Lib.hid hZ
  have Hvd := Lib.hid hvd
  obtain ⟨n, hn⟩ : ∃ n, (digs 18446744073709551616 M).length = n := ⟨_, rfl⟩
  have hrl := hZ.rrLen
  rw [hn] at c0 hrl Hf
  rw [hrl] at c3
  clear hf hvd hZ hl
  go_enter Try.func83, Try.ntmps83
  go_wp2_with fail
  go_region_held3 (fun w' => w'.cell? ⟨g, 3, none⟩ = some (.slice Ar n cr))
    (first | exact c3 | exact c31 | exact c32 | go_keep)
    (first
      | (go_at_call 91; refine Hf.out.mono ?_; rintro e w1 ⟨A1, c1, o1, rfl, hl1, hO1, hv1, hB1'⟩; have hB1 : Below w.heap.size w w1 := ⟨hB1'.os, hB1'.tape, hB1'.output, hB1'.size, hB1'.block⟩; have c31 := (hB1.cell (p := ⟨g, 3, none⟩) hg).trans c3)
      | (go_at_call 85; have H := hmul.out w1 A1 c1 o1 hO1 (by rw [hn]; exact hl1) hB1; rw [hl1, hrl, hn] at H; refine H.mono ?_; clear H; rintro e w2 ⟨A2, c2, o2, rfl, hl2, hO2, hlt2, hv2, hB2⟩; have c32 := (hB2.cell (p := ⟨g, 3, none⟩) (by have := hB1.size; show g < w1.heap.size; omega)).trans c31))
  have hB12 := hB1.trans (hB2.mono hB1.size)
  rw [Hvd.out] at hlt2
  have hZ := HZ.out
  have hfin : val 18446744073709551616 o2 = val 18446744073709551616 a * RM M % M := by
    rw [Hvd.out] at hv2
    exact to_form hZ.invV hlt2 (by rw [nl, hn, hv2, hv1, hZ.rrV])
  have hO2' := hO2.mono hB1.size
  go_wp2
  go_ret
  exact ⟨A2, c2, o2, by rw [hn]; rfl, by rw [hn]; exact hl2, hO2', hfin, hB12⟩

set_option maxRecDepth 100000 in
set_option maxHeartbeats 2000000 in
theorem mfrom_any (hZ : ZM w P g M inv Am Ao Ar cm co cr ol rl) (hP : ∀ b, P b → b < w.heap.size) (Pa : Nat → Prop) (Aa : Option Addr) (ca : Nat) (a : List Nat) (x : Nat) (ha : RN w Pa Aa ca a) (hPa : ∀ b, Pa b → b < w.heap.size) (hl : a.length = (digs 18446744073709551616 M).length) (hx : val 18446744073709551616 a = x * RM M % M) :
    Calls Try.prog 84 #[.pointer (some ⟨g, 0, none⟩), .slice Aa a.length ca] w fun e w' => ∃ A' c', e = .returned (.slice A' (digs 18446744073709551616 (x % M)).length c') ∧ OB w' w.heap.size A' c' (digs 18446744073709551616 (x % M)) ∧ Below w.heap.size w w' := by
  have hg := blk_lt hZ.blk
  have c0 := blk_cell hZ.blk 0
  simp at c0
  have hvd := val_digs (B := 18446744073709551616) (by omega) M
  obtain ⟨n, hn⟩ : ∃ n, (digs 18446744073709551616 M).length = n := ⟨_, rfl⟩
  have hsm := hZ.small
  have hn0 : 0 < n := by
    rcases Nat.eq_zero_or_pos n with h | h
    · have h1 := (digs_nil (B := 18446744073709551616) (by omega)).1 (List.eq_nil_of_length_eq_zero (hn.trans h))
      have := hZ.big
      omega
    · exact h
  rw [hn] at c0 hsm
  have hmk := run_make_row' (P := Try.prog) 22 54 (.int .u64 0) 8 Try.underlying22 info64 rfl .i64 .i64 n (by omega) (by omega)
  have hb0 := Blk.made w n
  have hB0 : Below w.heap.size w (w.alloc (.cells (madeCells #[.int .u64 0] n) 54)) := (Below.refl _ w).alloc (Nat.le_refl _) _
  have q3 := hb0.cell (i := 0) (by simpa using hn0)
  have q4 := hb0.free 0
  have hb1 := hb0.set 0 1
  have hB1 := hB0.setCell (p := ⟨w.heap.size, 0, none⟩) (Nat.le_refl _) (.int .u64 ((1 : Nat) : Int))
  simp only [Int.natCast_one] at hb1 hB1
  rw [World.setCell_alloc_at _ _ _ _ _ rfl] at hb1 hB1
  have hlen : ((List.replicate n 0).set 0 1).length = n := by simp
  have hv1 : val 18446744073709551616 ((List.replicate n 0).set 0 1) = 1 := by
    obtain ⟨k, rfl⟩ : ∃ k, n = k + 1 := ⟨n - 1, by omega⟩
    rw [List.replicate_succ, List.set_cons_zero, val_cons, val_replicate]
  have hL1 : Lim ((List.replicate n 0).set 0 1) := Lim.set ⟨by simp, by simp; omega⟩ 0 1 (by omega)
  generalize (List.replicate n 0).set 0 1 = one at *
  have hO1 : OB _ w.heap.size (some ⟨w.heap.size, 0, none⟩) n one := OB.of_blk hb1 (Nat.le_refl _) hL1 (by omega) (by unfold maxLen; omega)
  have hmul := mmul_any P Pa _ Am Aa (some ⟨w.heap.size, 0, none⟩) cm ca n g inv (digs 18446744073709551616 M) a one _ (by rw [hn]; exact (hB1.cell (p := ⟨g, 0, none⟩) hg).trans c0) ((hB1.cell (p := ⟨g, 1, none⟩) hg).trans (by have := blk_cell hZ.blk 1; simpa using this)) (by have := hB1.size; omega)
    (hZ.m.below hB1 hP) (fun b hb => by have := hP b hb; have := hB1.size; omega) (ha.below hB1 hPa) (fun b hb => by have := hPa b hb; have := hB1.size; omega) hO1.rn (fun b hb => hb.2) hl (by rw [hlen, hn]) (by rw [hvd]; have := hZ.big; omega) (by rw [hv1, hvd]; exact hZ.big) hZ.invLt (by rw [hvd]; exact hZ.invV) hZ.small
  rw [hlen, hn, hvd, hv1, hx] at hmul
  have Hmul := Lib.hid hmul
  have HZ := Lib.hid hZ
  have Hn := Lib.hid hn
  have kn : (0 : Int) < (n : Int) := by omega
  clear hmul hZ hvd hn hb1 hb0 hO1 hlen hv1 hl hx ha
  go_enter Try.func84, Try.ntmps84
  go_wp2_with fail
  refine Hmul.out.mono ?_
  rintro e w2 ⟨A2, c2, o2, rfl, hl2, hO2, hlt2, hv2, hB2⟩
  have hfin := from_form (x := x) HZ.out.invV hlt2 (by rw [nl, Hn.out]; rw [hv2]) rfl
  have hnorm := norm_any _ A2 c2 o2 w2 hO2.rn
  rw [hl2, hfin] at hnorm
  have Hnorm := Lib.hid hnorm
  have hw2 := hB1.trans (hB2.mono hB1.size)
  clear hnorm hv2 hB2
  go_wp2_with fail
  refine Hnorm.out.mono ?_
  rintro e w3 ⟨A3, c3, rfl, hO3, hB3⟩
  go_wp2
  go_ret
  exact ⟨A3, c3, rfl, hO3.mono hw2.size, hw2.trans (hB3.mono hw2.size)⟩

set_option maxRecDepth 100000 in
set_option maxHeartbeats 1000000 in
theorem mone_any (hZ : ZM w P g M inv Am Ao Ar cm co cr ol rl) :
    Calls Try.prog 92 #[.pointer (some ⟨g, 0, none⟩)] w fun e w' => ∃ A' c', e = .returned (.slice A' ol.length c') ∧ OB w' w.heap.size A' c' ol ∧ Below w.heap.size w w' := by
  obtain ⟨i0, hi, hz0, hz1, hz2⟩ := info_parts info64
  have c2 := blk_cell hZ.blk 2
  simp at c2
  have h1 := hZ.one
  obtain ⟨h2, h3, h4⟩ := h1.cap
  go_enter Try.func92, Try.ntmps92
  go_wp2_with (at_builtin; refine wpList_append_rs _ rfl _ _ 22 rfl w.heap.size 54 i0 (.int .u64 0) 1 8 Try.underlying22 hi hz0 hz1 hz2 rfl (by decide) _ 0 [] rfl (World.ownsRow_nil _ _ _ _) P Ao ol.length co (nts ol) rfl h1.1 (oneCell_nts ol) ol.length (by omega) (by unfold maxLen; omega) (by omega) (Nat.le_refl _) ?_)
  intro A' c' w1 hown hgrow hblk
  go_wp2
  go_ret
  exact ⟨A', c', rfl, OB.of_own (by simpa using hown) h1.2, (Below.refl _ w).grown hgrow (Nat.le_refl _) (by intro k hk; simp [Value.ownBlock] at hk)⟩
end
end Go.Proofs.Ytnniellajmjmnaa

namespace Go.Proofs.Ytnniellajmjmnaa
open Go.RowKit

theorem blk_set {w : World} {g : Nat} {t : TypeId} {cs : Array Value} (h : w.heap[g]? = some (.cells cs t (0, 0))) (i : Nat) (u : Value) : (w.setCell ⟨g, i, none⟩ u).heap[g]? = some (.cells (cs.setIfInBounds i u) t (0, 0)) := by
  simp [World.setCell, Array.getElem?_modify, h]
/-- Behind r rounds of Newton's. -/
def NewtAt (m : Int) (r : Nat) (y : Int) : Prop := ∃ t, m * y = 1 + 2 ^ (2 ^ r) * t
theorem NewtAt.zero {m : Int} (h : m % 2 = 1) : NewtAt m 0 1 := ⟨(m - 1) / 2, by omega⟩
theorem NewtAt.step {m y : Int} {r : Nat} (h : NewtAt m r y) (hr : r < 6) : NewtAt m (r + 1) (y * ((2 - m * y % 18446744073709551616) % 18446744073709551616) % 18446744073709551616) := by
  obtain ⟨t, ht⟩ := h
  obtain ⟨z, hz⟩ := newton_wrap (m := m) (y := y)
  have hj : ∃ j, 2 ^ r + 2 ^ r + j = 64 := by
    have : r = 0 ∨ r = 1 ∨ r = 2 ∨ r = 3 ∨ r = 4 ∨ r = 5 := by omega
    rcases this with rfl | rfl | rfl | rfl | rfl | rfl
    · exact ⟨62, rfl⟩
    · exact ⟨60, rfl⟩
    · exact ⟨56, rfl⟩
    · exact ⟨48, rfl⟩
    · exact ⟨32, rfl⟩
    · exact ⟨0, rfl⟩
  obtain ⟨j, hj⟩ := hj
  obtain ⟨s, hs⟩ := newton (z := z) ht hz hj
  exact ⟨s, by rw [Nat.pow_succ, Nat.mul_two]; exact hs⟩
theorem NewtAt.fin {m : Int} {y : Int} (h : NewtAt m 6 y) : ∃ t, m * y = 1 + 18446744073709551616 * t := by
  obtain ⟨t, ht⟩ := h
  exact ⟨t, ht⟩
theorem val_pow (n : Nat) : val 18446744073709551616 (List.replicate n 0 ++ [1]) = 18446744073709551616 ^ n := by
  rw [val_append, val_replicate, List.length_replicate]; simp

set_option maxRecDepth 100000 in
set_option maxHeartbeats 4000000 in
theorem mnew_any (P : Nat → Prop) (A : Option Addr) (c : Nat) (a : List Nat) (M : Nat) (w : World) (h : RN w P A c a) (_hP : ∀ b, P b → b < w.heap.size) (hM : val 18446744073709551616 a = M) (h1 : 1 < M) (hodd : M % 2 = 1) (hl : a.length < 40000) :
    Calls Try.prog 81 #[.slice A a.length c] w fun e w' => ∃ g inv Am Ao Ar cm co cr ol rl, e = .returned (.pointer (some ⟨g, 0, none⟩)) ∧ w.heap.size ≤ g ∧ ZM w' (In w.heap.size w'.heap.size) g M inv Am Ao Ar cm co cr ol rl ∧ Below w.heap.size w w' := by
  obtain ⟨i0, hi, hz0, hz1, hz2⟩ := info_parts info64
  have hn1 := norm_any P A c a w h
  have hln := digs_length_le (B := 18446744073709551616) (by omega) h.2.1
  rw [hM] at hn1 hln
  have hvd := val_digs (B := 18446744073709551616) (by omega) M
  have hlim := digs_lt (B := 18446744073709551616) (by omega) M
  have hm0 := dg_zero_mod hlim (by omega)
  rw [hvd] at hm0
  obtain ⟨ml, hml⟩ : ∃ ml, digs 18446744073709551616 M = ml := ⟨_, rfl⟩
  rw [hml] at hn1 hln hvd hm0 hlim
  obtain ⟨m0, hm0'⟩ : ∃ m0, dg ml 0 = m0 := ⟨_, rfl⟩
  rw [hm0'] at hm0
  have hm2 : (m0 : Int) % 2 = 1 := by omega
  obtain ⟨n, hn⟩ : ∃ n, ml.length = n := ⟨_, rfl⟩
  have hn0 : 0 < n := by
    rcases Nat.eq_zero_or_pos n with h0 | h0
    · have : ml = [] := List.eq_nil_of_length_eq_zero (hn.trans h0)
      rw [this] at hvd
      simp at hvd
      omega
    · exact h0
  have hns : n < 40000 := by omega
  have kn : (0 : Int) < (n : Int) := by omega
  rw [hn] at hn1
  have Hn1 := Lib.hid hn1
  have Hml := Lib.hid hml
  have Hn := Lib.hid hn
  have Hvd := Lib.hid hvd
  have Hm0 := Lib.hid hm0
  have Hm2 := Lib.hid hm2
  clear hn1 hln hml hn hvd hm0 hm2 hl hodd hM hlim
  go_enter Try.func81, Try.ntmps81
  go_wp2_with fail
  refine Hn1.out.mono ?_
  rintro e w1 ⟨A1, c1, rfl, hO1, hB1⟩
  have r1 := hO1.rn
  obtain ⟨ad, rfl, hb1, q1⟩ := r1.at_ (i := 0) (by rw [Hn.out]; exact hn0)
  rw [hm0'] at q1
  have q1b : w1.cell? ad = some (.int .u64 (m0 : Int)) := by simpa [Addr.add] using q1
  go_wp2_with fail
  go_loopw [3, 14] (fun iv jv wr => ∃ (y : Int) (r : Nat), jv = .int .i64 (r : Int) ∧ iv = .int .u64 y ∧ r ≤ 6 ∧ NewtAt (m0 : Int) r y ∧ w1 = wr) (fun _ jv _ => 6 - (intOf jv).toNat)
  case atStart => exact ⟨1, 0, rfl, rfl, by omega, NewtAt.zero Hm2.out, rfl⟩
  case round =>
    obtain ⟨y, r, rfl, rfl, hr, hN, rfl⟩ := hrel
    by_cases hlt : r < 6
    · have hN' := hN.step hlt
      have hw1 : IntKind.u64.wrap ((m0 : Int) * y) = (m0 : Int) * y % 18446744073709551616 := IntKind.wrap_u64 _
      have hw2 : IntKind.u64.wrap (2 - (m0 : Int) * y % 18446744073709551616) = (2 - (m0 : Int) * y % 18446744073709551616) % 18446744073709551616 := IntKind.wrap_u64 _
      have hw3 : IntKind.u64.wrap (y * ((2 - (m0 : Int) * y % 18446744073709551616) % 18446744073709551616)) = y * ((2 - (m0 : Int) * y % 18446744073709551616) % 18446744073709551616) % 18446744073709551616 := IntKind.wrap_u64 _
      generalize (m0 : Int) * y % 18446744073709551616 = x1 at *
      generalize (2 - x1) % 18446744073709551616 = x2 at *
      generalize y * x2 % 18446744073709551616 = x3 at *
      have HN := Lib.hid hN'
      clear hN hN'
      go_wp2
      go_roundw
      case rel => exact ⟨x3, r + 1, by go_num, by first | rfl | simp [hw1, hw2, hw3], by omega, HN.out, by first | rfl | trivial⟩
      case measure => simp [intOf]; omega
    · obtain rfl : r = 6 := by omega
      obtain ⟨t, ht⟩ := hN.fin
      have hinv := neg_inv Hm0.out ht
      have h0 : 0 ≤ (-y) % 18446744073709551616 := Int.emod_nonneg _ (by decide)
      have hlt2 : (-y) % 18446744073709551616 < 18446744073709551616 := Int.emod_lt_of_pos _ (by decide)
      obtain ⟨inv, hv⟩ : ∃ inv : Nat, (-y) % 18446744073709551616 = (inv : Int) := ⟨_, (Int.toNat_of_nonneg h0).symm⟩
      have hneg : IntKind.u64.wrap (-y) = (inv : Int) := by rw [IntKind.wrap_u64]; exact hv
      rw [hv, Int.toNat_natCast] at hinv
      rw [hv] at hlt2
      have Hinv := Lib.hid hinv
      have Hlt2 := Lib.hid hlt2
      have hmk := run_make_row' (P := Try.prog) 23 54 (.int .u64 0) 8 Try.underlying23 info64 rfl .i64 .i64 n (by omega) (by omega)
      clear ht hinv h0 hv hN hlt hlt2
      have hbz := Blk.made (w1.alloc (.cells #[.slice (some ad) n c1, .int .u64 (inv : Int), .slice none 0 0, .slice none 0 0] 103)) n
      have hown : ((w1.alloc (.cells #[.slice (some ad) n c1, .int .u64 (inv : Int), .slice none 0 0, .slice none 0 0] 103)).alloc (.cells (madeCells #[.int .u64 0] n) 54)).ownsRow (w1.heap.size + 1) 54 1 (.slice (some ⟨w1.heap.size + 1, 0, none⟩) n n) n (nts (List.replicate n 0)) :=
        own_of_blk (o := List.replicate n 0) (by rw [World.size_alloc] at hbz; exact hbz) (Nat.le_refl _) (by simp) (by unfold maxLen; omega) (Nat.le_refl _) (by simp) (by simp)
      have hfr : RS (((w1.alloc (.cells #[.slice (some ad) n c1, .int .u64 (inv : Int), .slice none 0 0, .slice none 0 0] 103)).alloc (.cells (madeCells #[.int .u64 0] n) 54)).alloc (.cells #[.int .u64 1] 54)) (fun _ => True) 1 (some ⟨w1.heap.size + 1 + 1, 0, none⟩) 1 1 (nts [1]) := by
        have := RS.fresh (w := ((w1.alloc (.cells #[.slice (some ad) n c1, .int .u64 (inv : Int), .slice none 0 0, .slice none 0 0] 103)).alloc (.cells (madeCells #[.int .u64 0] n) 54))) (P := fun _ => True) #[.int .u64 1] 54 1 1 rfl (by unfold maxLen; omega) trivial
        rw [World.size_alloc, World.size_alloc] at this
        exact this
      have hown' := hown.alloc (.cells #[.int .u64 1] 54)
      have hG := heap_alloc_new w1 (.cells #[.slice (some ad) n c1, .int .u64 (inv : Int), .slice none 0 0, .slice none 0 0] 103)
      have hBG : Below w1.heap.size w1 (((w1.alloc (.cells #[.slice (some ad) n c1, .int .u64 (inv : Int), .slice none 0 0, .slice none 0 0] 103)).alloc (.cells (madeCells #[.int .u64 0] n) 54)).alloc (.cells #[.int .u64 1] 54)) := (((Below.refl _ w1).alloc (Nat.le_refl _) _).alloc (by simp) _).alloc (by simp; omega) _
      replace hG := (Below.heap_alloc ((w1.alloc (.cells #[.slice (some ad) n c1, .int .u64 (inv : Int), .slice none 0 0, .slice none 0 0] 103)).alloc (.cells (madeCells #[.int .u64 0] n) 54)) (.cells #[.int .u64 1] 54) w1.heap.size (by simp; omega)).trans ((Below.heap_alloc (w1.alloc (.cells #[.slice (some ad) n c1, .int .u64 (inv : Int), .slice none 0 0, .slice none 0 0] 103)) (.cells (madeCells #[.int .u64 0] n) 54) w1.heap.size (by simp)).trans hG)
      have hzG : (((w1.alloc (.cells #[.slice (some ad) n c1, .int .u64 (inv : Int), .slice none 0 0, .slice none 0 0] 103)).alloc (.cells (madeCells #[.int .u64 0] n) 54)).alloc (.cells #[.int .u64 1] 54)).heap.size = w1.heap.size + 3 := by simp
      clear hbz hown
      go_upto_region 8 with fail
      go_wp2_with (at_builtin; generalize ((w1.alloc (.cells #[.slice (some ad) n c1, .int .u64 (inv : Int), .slice none 0 0, .slice none 0 0] 103)).alloc (.cells (madeCells #[.int .u64 0] n) 54)).alloc (.cells #[.int .u64 1] 54) = W at *; refine wpList_append_rs _ rfl _ _ 23 rfl (w1.heap.size + 1) 54 i0 (.int .u64 0) 1 8 Try.underlying23 hi hz0 hz1 hz2 rfl (by decide) (.slice (some ⟨w1.heap.size + 1, 0, none⟩) n n) n _ rfl hown' (fun _ => True) _ 1 1 (nts [1]) rfl hfr (oneCell_nts [1]) (n + 1) rfl (by unfold maxLen; omega) (by omega) (by omega) ?_; intro A2 c2 w2 hown2 hg2 hor2)
      have hzw2 := hg2.size
      have hBw2 : Below w1.heap.size w1 w2 := hBG.grown hg2 (by omega) (fun k hk => by simp [Value.ownBlock] at hk; omega)
      have hs2 := hBw2.size
      have hG2 := (hg2.block w1.heap.size (by omega) (by simp [Value.ownBlock])).trans hG
      have hLr : Lim (List.replicate n 0 ++ [1]) := ⟨fun x hx => by
        rcases List.mem_append.1 hx with h | h
        · simp at h; omega
        · simp at h; omega, by simp; omega⟩
      have hlr : (List.replicate n 0 ++ [1]).length = n + 1 := by simp
      have hOr : OB w2 (w1.heap.size + 1) A2 c2 (List.replicate n 0 ++ [1]) := OB.of_own (by rw [hlr]; simpa [nts] using hown2) hLr
      have hvr := val_pow n
      generalize List.replicate n 0 ++ [1] = rlst at *
      have hw1 := hB1.size
      have r2 := r1.below hBw2 fun b hb => hb.2
      have hq1 := quo_any _ _ A2 (some ad) c2 c1 rlst ml w2 hOr.rn r2 (fun b hb => hb.2) (fun b hb => by have := hb.2; omega) (by omega) (by have := Hn.out; omega) (by rw [Hvd.out]; omega)
      rw [hvr, Hvd.out, hlr, Hn.out] at hq1
      obtain ⟨v1, hv1⟩ : ∃ v1, 18446744073709551616 ^ n % M = v1 := ⟨_, rfl⟩
      rw [hv1] at hq1
      have hv1M : v1 < M := by rw [← hv1]; exact Nat.mod_lt _ (by omega)
      have hl1 : (digs 18446744073709551616 v1).length ≤ n := by
        have := digs_length_mono (B := 18446744073709551616) (by omega) (Nat.le_of_lt hv1M)
        rw [Hml.out, Hn.out] at this
        exact this
      have Hq1 := Lib.hid hq1
      have Hv1 := Lib.hid hv1
      have hBw := hB1.trans (hBw2.mono hw1)
      clear hq1 hown2 hg2 hor2 hfr hown' hG hBG hzG hOr hvr hlr hLr hmk hv1
      refine Hq1.out.mono ?_
      rintro e w3 ⟨A3, c3, A4, c4, rfl, _, hO4, hB3⟩
      have hG3 := (hB3.block w1.heap.size (blk_lt hG2)).trans hG2
      have hs3 := hB3.size
      have hm1 := mul_any _ _ A4 A4 c4 c4 _ _ w3 hO4.rn hO4.rn (fun b hb => hb.2) (fun b hb => hb.2) (by omega) (by omega)
      rw [val_digs (by omega)] at hm1
      have Hm1 := Lib.hid hm1
      clear hm1
      go_wp2_with fail
      refine Hm1.out.mono ?_
      rintro e w4 ⟨A5, c5, rfl, hO5, hB4⟩
      have hs4 := hB4.size
      have hB24 := hB3.trans (hB4.mono hs3)
      have r4 := r2.below hB24 fun b hb => by have := hb.2; omega
      have hl2 : (digs 18446744073709551616 (v1 * v1)).length < 90000 := by
        have h1 : v1 * v1 < 18446744073709551616 ^ (n + n) := by
          have e1 := lt_pow_digs (B := 18446744073709551616) (by omega) M
          rw [Hml.out, Hn.out] at e1
          have e2 : v1 * v1 ≤ v1 * M := Nat.mul_le_mul_left _ (by omega)
          have e3 : v1 * M < 18446744073709551616 ^ n * 18446744073709551616 ^ n := Nat.mul_lt_mul'' (by omega) e1
          rw [Nat.pow_add]
          omega
        have := digs_length_of_lt (B := 18446744073709551616) (by omega) h1
        omega
      have hq2 := quo_any _ _ A5 (some ad) c5 c1 _ ml w4 hO5.rn r4 (fun b hb => hb.2) (fun b hb => by have := hb.2; omega) hl2 (by have := Hn.out; omega) (by rw [Hvd.out]; omega)
      rw [val_digs (by omega), Hvd.out, Hn.out] at hq2
      obtain ⟨v2, hv2⟩ : ∃ v2, v1 * v1 % M = v2 := ⟨_, rfl⟩
      rw [hv2] at hq2
      have hv2M : v2 < M := by rw [← hv2]; exact Nat.mod_lt _ (by omega)
      have hl3 : (digs 18446744073709551616 v2).length ≤ n := by
        have := digs_length_mono (B := 18446744073709551616) (by omega) (Nat.le_of_lt hv2M)
        rw [Hml.out, Hn.out] at this
        exact this
      have Hq2 := Lib.hid hq2
      have Hv2 := Lib.hid hv2
      clear hq2 hv2 hl2
      go_wp2_with fail
      refine Hq2.out.mono ?_
      rintro e w5 ⟨A6, c6, A7, c7, rfl, _, hO7, hB5⟩
      have hs5 := hB5.size
      have hB35 := hB4.trans (hB5.mono hs4)
      have hG5 := (hB35.block w1.heap.size (blk_lt hG3)).trans hG3
      have g50 := blk_cell hG5 0
      simp at g50
      have hf1 := fill_any _ (some ad) A4 c1 c4 w1.heap.size n _ w5 g50 (hO4.rn.below hB35 fun b hb => hb.2) (fun b hb => by have := hb.2; omega) hl1 (by omega)
      rw [val_digs (by omega)] at hf1
      have Hf1 := Lib.hid hf1
      clear hf1
      go_wp2_with fail
      refine Hf1.out.mono ?_
      rintro e w6 ⟨A8, c8, o1, rfl, hlo1, hO8, hvo1, hB6⟩
      have hs6 := hB6.size
      have hG6 := (hB6.block w1.heap.size (blk_lt hG5)).trans hG5
      have g60 := blk_cell hG6 0
      simp at g60
      have hf2 := fill_any _ (some ad) A7 c1 c7 w1.heap.size n _ w6 g60 (hO7.rn.below hB6 fun b hb => hb.2) (fun b hb => by have := hb.2; omega) hl3 (by omega)
      rw [val_digs (by omega)] at hf2
      have Hf2 := Lib.hid hf2
      clear hf2 g50 g60
      go_wp2_with fail
      refine Hf2.out.mono ?_
      rintro e w7 ⟨A9, c9, o2, rfl, hlo2, hO9, hvo2, hB7⟩
      have hs7 := hB7.size
      have hG7 := (hB7.block w1.heap.size (blk_lt hG6)).trans hG6
      have g2 := blk_cell hG7 2
      have g3 := blk_cell hG7 3
      have f2 := blk_free hG7 2
      have f3 := blk_free hG7 3
      simp at g2 g3
      have hset := blk_set (blk_set hG7 2 (.slice A8 n c8)) 3 (.slice A9 n c9)
      have hB17 := (((((hB3.trans (hB4.mono hs3)).trans (hB5.mono (by omega))).trans (hB6.mono (by omega))).trans (hB7.mono (by omega))))
      have hBw7 : Below w.heap.size w w7 := hBw.trans (hB17.mono (by omega))
      have hB8 : Below w1.heap.size w7 ((w7.setCell ⟨w1.heap.size, 2, none⟩ (.slice A8 n c8)).setCell ⟨w1.heap.size, 3, none⟩ (.slice A9 n c9)) := ((Below.refl _ w7).setCell (p := ⟨w1.heap.size, 2, none⟩) (Nat.le_refl _) _).setCell (p := ⟨w1.heap.size, 3, none⟩) (Nat.le_refl _) _
      have hJ8 : Just w1.heap.size w7 ((w7.setCell ⟨w1.heap.size, 2, none⟩ (.slice A8 n c8)).setCell ⟨w1.heap.size, 3, none⟩ (.slice A9 n c9)) := ((Just.refl _ w7).set 2 _).set 3 _
      have zG := blk_lt hG5
      have hz8 : ((w7.setCell ⟨w1.heap.size, 2, none⟩ (.slice A8 n c8)).setCell ⟨w1.heap.size, 3, none⟩ (.slice A9 n c9)).heap.size = w7.heap.size := by simp [World.setCell]
      have rm8 := (r2.below (hB17) fun b hb => by have := hb.2; omega).just hJ8 (fun b hb => by have := hb.2; omega)
      have rO8 := ((hO8.rn.below hB7 fun b hb => hb.2)).just hJ8 (fun b hb => by have := hb.1; have := hb.2; omega)
      have rO9 := (hO9.rn).just hJ8 (fun b hb => by have := hb.1; have := hb.2; omega)
      have hRM : 18446744073709551616 ^ n = RM M := by rw [RM, nl, Hml.out, Hn.out]
      have hZ : ZM ((w7.setCell ⟨w1.heap.size, 2, none⟩ (.slice A8 n c8)).setCell ⟨w1.heap.size, 3, none⟩ (.slice A9 n c9)) (In w.heap.size w7.heap.size) w1.heap.size M inv (some ad) A8 A9 c1 c8 c9 o1 o2 :=
        ⟨by rw [hset, Hml.out, Hn.out, hlo1, hlo2]; simp, by rw [Hml.out]; exact rm8.mono fun b hb => ⟨hb.1, by have := hb.2; omega⟩, rO8.mono fun b hb => ⟨by have := hb.1; omega, by have := hb.2; omega⟩, rO9.mono fun b hb => ⟨by have := hb.1; omega, hb.2⟩,
          by rw [Hml.out, Hn.out]; exact hlo1, by rw [Hml.out, Hn.out]; exact hlo2, by rw [hvo1, ← Hv1.out, hRM], by rw [hvo2, ← Hv2.out, ← Hv1.out, hRM, ← Nat.mul_mod], by have := Hlt2.out; omega, Hinv.out, h1, by rw [Hml.out, Hn.out]; omega⟩
      have HZ := Lib.hid hZ
      have hBf : Below w.heap.size w ((w7.setCell ⟨w1.heap.size, 2, none⟩ (.slice A8 n c8)).setCell ⟨w1.heap.size, 3, none⟩ (.slice A9 n c9)) := hBw7.trans (hB8.mono hw1)
      have Hz8 := Lib.hid hz8
      clear hset hB8 hJ8 rm8 rO8 rO9 hZ hz8 hG7 hG6 hG5 hG3 hG2
      go_wp2
      go_ret
      exact ⟨w1.heap.size, inv, _, _, _, _, _, _, o1, o2, rfl, hw1, by rw [Hz8.out]; exact HZ.out, hBf⟩
end Go.Proofs.Ytnniellajmjmnaa
