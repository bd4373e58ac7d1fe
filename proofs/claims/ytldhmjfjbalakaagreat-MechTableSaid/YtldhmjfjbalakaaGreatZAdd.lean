/- zfield: Add. -/
import Derived.Test.YtldhmjfjbalakaaGreatZBelow
namespace Go.Proofs.YtldhmjfjbalakaaGreat
open Go.RowKit

/-- A field made ready: its prime is M; elements have n limbs at most. -/
structure FF (w : World) (g n inv M : Nat) (ml ol rl : List Nat) : Prop where
  fld : Fld w g n inv ml ol rl
  mlt : ∀ x ∈ ml, x < 18446744073709551616
  mval : val 18446744073709551616 ml = M
  mtake : val 18446744073709551616 (ml.take n) = M
  npos : 0 < n
  nle : n ≤ 6
  big : 1 < M
  invLt : inv < 18446744073709551616
  invV : (inv * M + 1) % 18446744073709551616 = 0
theorem FF.below {w w' : World} {g n inv M B : Nat} {ml ol rl : List Nat} (h : FF w g n inv M ml ol rl) (hb : Below B w w') (hg : g < B) : FF w' g n inv M ml ol rl :=
  ⟨h.fld.below hb hg, h.mlt, h.mval, h.mtake, h.npos, h.nle, h.big, h.invLt, h.invV⟩
theorem FF.room {w : World} {g n inv M : Nat} {ml ol rl : List Nat} (h : FF w g n inv M ml ol rl) : M < 18446744073709551616 ^ n := by rw [← h.mtake]; exact val_take_lt h.mlt n
/-- An element: six limbs, its number below the prime. -/
structure Elt (M : Nat) (l : List Nat) : Prop where
  six : l.length = 6
  lim : ∀ x ∈ l, x < 18446744073709551616
  lt : val 18446744073709551616 l < M
theorem Elt.take {w : World} {g n inv M : Nat} {ml ol rl l : List Nat} (h : FF w g n inv M ml ol rl) (he : Elt M l) : val 18446744073709551616 (l.take n) = val 18446744073709551616 l := by
  have h1 := val_take_drop 18446744073709551616 l (n := n) (by rw [he.six]; exact h.nle)
  have h2 := h.room
  rcases Nat.eq_zero_or_pos (val 18446744073709551616 (l.drop n)) with h3 | h3
  · rw [h3] at h1; omega
  · have h4 : 18446744073709551616 ^ n * 1 ≤ 18446744073709551616 ^ n * val 18446744073709551616 (l.drop n) := Nat.mul_le_mul_left _ h3
    have h5 := he.lt
    omega
/-- The blocks that a function over two elements lays: both, its result, and a row. -/
theorem lay4 (w : World) (o1 o2 o3 o4 : Obj) : ((((w.alloc o1).alloc o2).alloc o3).alloc o4).heap[w.heap.size]? = some o1 ∧ ((((w.alloc o1).alloc o2).alloc o3).alloc o4).heap[w.heap.size + 1]? = some o2 ∧ ((((w.alloc o1).alloc o2).alloc o3).alloc o4).heap[w.heap.size + 1 + 1]? = some o3 ∧ ((((w.alloc o1).alloc o2).alloc o3).alloc o4).heap[w.heap.size + 1 + 1 + 1]? = some o4 ∧
    ((((w.alloc o1).alloc o2).alloc o3).alloc o4).heap.size = w.heap.size + 4 ∧ Below w.heap.size w ((((w.alloc o1).alloc o2).alloc o3).alloc o4) := by
  have e1 := heap_alloc_new w o1
  have e2 := heap_alloc_new (w.alloc o1) o2
  have e3 := heap_alloc_new ((w.alloc o1).alloc o2) o3
  have e4 := heap_alloc_new (((w.alloc o1).alloc o2).alloc o3) o4
  simp only [World.size_alloc] at e2 e3 e4
  refine ⟨?_, ?_, ?_, e4, by simp, (((((Below.refl _ w).alloc (Nat.le_refl _) _).alloc (by simp) _).alloc (by simp; omega) _).alloc (by simp; omega) _)⟩
  · exact (Below.heap_alloc _ _ _ (by simp <;> omega)).trans ((Below.heap_alloc _ _ _ (by simp <;> omega)).trans ((Below.heap_alloc _ _ _ (by simp)).trans e1))
  · exact (Below.heap_alloc _ _ _ (by simp <;> omega)).trans ((Below.heap_alloc _ _ _ (by simp)).trans e2)
  · exact (Below.heap_alloc _ _ _ (by simp)).trans e3

set_option maxRecDepth 100000 in
set_option maxHeartbeats 2000000 in
theorem zadd_any {g n inv M : Nat} {ml ol rl : List Nat} (a b : List Nat) (w : World) (hF : FF w g n inv M ml ol rl) (ha : Elt M a) (hb : Elt M b) :
    Calls Tryz.prog 116 #[.pointer (some ⟨g, 0, none⟩), EV a, EV b] w fun e w' => ∃ o, e = .returned (EV o) ∧ Elt M o ∧ val 18446744073709551616 o = offM (val 18446744073709551616 a + val 18446744073709551616 b) M ∧ Below w.heap.size w w' := by
  have hg := hF.fld.lt
  have h0 := hF.fld.n0
  have hn := hF.nle
  have hn1 := hF.npos
  have ta := ha.take hF
  have tb := hb.take hF
  obtain ⟨a0, a1, a2, a3, a4, a5, hae⟩ := six ha.six
  obtain ⟨b0, b1, b2, b3, b4, b5, hbe⟩ := six hb.six
  obtain ⟨l1, l2, l3, l4, hz, hB0⟩ := lay4 w (.cells #[.int .u64 (a0 : Int), .int .u64 (a1 : Int), .int .u64 (a2 : Int), .int .u64 (a3 : Int), .int .u64 (a4 : Int), .int .u64 (a5 : Int)] 135)
    (.cells #[.int .u64 (b0 : Int), .int .u64 (b1 : Int), .int .u64 (b2 : Int), .int .u64 (b3 : Int), .int .u64 (b4 : Int), .int .u64 (b5 : Int)] 135) (.cells #[.int .u64 0, .int .u64 0, .int .u64 0, .int .u64 0, .int .u64 0, .int .u64 0] 135)
    (.cells #[.int .u64 0, .int .u64 0, .int .u64 0, .int .u64 0, .int .u64 0, .int .u64 0, .int .u64 0, .int .u64 0] 170)
  have hva : EV a = .agg #[.int .u64 (a0 : Int), .int .u64 (a1 : Int), .int .u64 (a2 : Int), .int .u64 (a3 : Int), .int .u64 (a4 : Int), .int .u64 (a5 : Int)] := by rw [hae]; rfl
  have hvb : EV b = .agg #[.int .u64 (b0 : Int), .int .u64 (b1 : Int), .int .u64 (b2 : Int), .int .u64 (b3 : Int), .int .u64 (b4 : Int), .int .u64 (b5 : Int)] := by rw [hbe]; rfl
  rw [hva, hvb]
  have h00 := (hB0.cell (p := ⟨g, 0, none⟩) hg).trans h0
  go_enter Tryz.func116, Tryz.ntmps116
  go_wp2_with fail
  generalize (((w.alloc (.cells #[.int .u64 (a0 : Int), .int .u64 (a1 : Int), .int .u64 (a2 : Int), .int .u64 (a3 : Int), .int .u64 (a4 : Int), .int .u64 (a5 : Int)] 135)).alloc
    (.cells #[.int .u64 (b0 : Int), .int .u64 (b1 : Int), .int .u64 (b2 : Int), .int .u64 (b3 : Int), .int .u64 (b4 : Int), .int .u64 (b5 : Int)] 135)).alloc (.cells #[.int .u64 0, .int .u64 0, .int .u64 0, .int .u64 0, .int .u64 0, .int .u64 0] 135)).alloc
    (.cells #[.int .u64 0, .int .u64 0, .int .u64 0, .int .u64 0, .int .u64 0, .int .u64 0, .int .u64 0, .int .u64 0] 170) = W0 at *
  have A0 : ARow W0 w.heap.size 135 a := by rw [hae]; exact l1
  have B0 : ARow W0 (w.heap.size + 1) 135 b := by rw [hbe]; exact l2
  have T0 : ARow W0 (w.heap.size + 1 + 1 + 1) 170 [0, 0, 0, 0, 0, 0, 0, 0] := l4
  have hW0 : w.heap.size + 4 ≤ W0.heap.size := by omega
  have Ha := Lib.hid ha
  have Hb := Lib.hid hb
  have Hae := Lib.hid hae
  have Hbe := Lib.hid hbe
  have HF := Lib.hid hF
  clear l1 l2 l4 hz ha hb hae hbe hva hvb hF
  go_loopw [8, 14] (fun cv iv wr => ∃ (k cr : Nat) (o : List Nat), iv = .int .i64 (k : Int) ∧ cv = .int .u64 (cr : Int) ∧ k ≤ n ∧ cr ≤ 1 ∧ AddAt 18446744073709551616 a b o k cr ∧ Hid (o.length = 8) ∧ Hid (∀ x ∈ o, x < 18446744073709551616) ∧ ARow wr (w.heap.size + 1 + 1 + 1) 170 o ∧ Below (w.heap.size + 1 + 1 + 1) W0 wr) (fun _ iv _ => n - (intOf iv).toNat)
  case atStart => exact ⟨0, 0, _, rfl, rfl, by omega, by omega, AddAt.zero _ _ _ _, Lib.hid rfl, Lib.hid (by simp), T0, Below.refl _ _⟩
  case round =>
    obtain ⟨k, cr, o, rfl, rfl, hk, hcr, hA, Ho, Hlo, hblk, hB⟩ := hrel
    have hBw : Below w.heap.size w wr := hB0.trans (hB.mono (by omega))
    have hFr := HF.out.below hBw hg
    have c0 := hFr.fld.n0
    have hAr := A0.below hB (by omega)
    have hBr := B0.below hB (by omega)
    by_cases hlt : k < n
    · have q1 := hAr.cell (i := k) (by rw [Ha.out.six]; omega)
      have q2 := hBr.cell (i := k) (by rw [Hb.out.six]; omega)
      have dt : dg a k < 18446744073709551616 := getD_lt (by omega) Ha.out.lim k
      have dm : dg b k < 18446744073709551616 := getD_lt (by omega) Hb.out.lim k
      obtain ⟨s, cr', hs, hcr', he⟩ := carry_of (dg a k) (dg b k) cr dt dm hcr
      have hok : k < o.length := by have := Ho.out; omega
      have q3 := hblk.cell hok
      have q4 := hblk.free k
      have hA' := hA.step hok (by omega)
      have hblk' := hblk.set k s
      have hB' := hB.setCell (p := ⟨w.heap.size + 1 + 1 + 1, k, none⟩) (Nat.le_refl _) (.int .u64 (s : Int))
      have Ho' : Hid ((o.set k s).length = 8) := Lib.hid (by rw [List.length_set]; exact Ho.out)
      have Hlo' : Hid (∀ x ∈ o.set k s, x < 18446744073709551616) := Lib.hid (set_lt Hlo.out hs)
      have hadd := fun w => add64_at (dg a k) (dg b k) cr s cr' hcr hs (by omega) w
      have ki : (k : Int) < 8 := by omega
      have ki6 : (k : Int) < 6 := by omega
      clear he hA hblk hB hok hBw hFr hAr hBr
      go_wp2_with fail
      have hfar : ∀ q : Addr, q.block < w.heap.size + 1 + 1 + 1 → (wr.setCell ⟨w.heap.size + 1 + 1 + 1, k, none⟩ (.int .u64 (s : Int))).drew.cell? q = wr.cell? q := fun q hq => World.cell?_of_block (Below.heap_setCell _ _ _ _ (by show q.block ≠ w.heap.size + 1 + 1 + 1; omega))
      have f1 := (hfar ⟨w.heap.size, k, none⟩ (by show w.heap.size < _; omega)).trans q1
      have f2 := (hfar ⟨w.heap.size + 1, k, none⟩ (by show w.heap.size + 1 < _; omega)).trans q2
      clear hfar
      go_region_held3 (fun w' => w'.cell? ⟨w.heap.size, k, none⟩ = some (.int .u64 (dg a k : Int)) ∧ w'.cell? ⟨w.heap.size + 1, k, none⟩ = some (.int .u64 (dg b k : Int))) (first | exact ⟨q1, q2⟩ | exact ⟨f1, f2⟩ | go_keep) (fail)
      go_wp2
      go_roundw
      case rel => exact ⟨k + 1, cr', o.set k s, by go_num, rfl, by omega, hcr', hA', Ho', Hlo', hblk', hB'.drew⟩
      case measure => simp [intOf]; omega
    · obtain rfl : k = n := by omega
      have hsum : val 18446744073709551616 (o.take k) + 18446744073709551616 ^ k * cr = val 18446744073709551616 a + val 18446744073709551616 b := by
        have h1 : val 18446744073709551616 (o.take k) + 18446744073709551616 ^ k * cr = val 18446744073709551616 (a.take k) + val 18446744073709551616 (b.take k) := by have := hA; unfold AddAt at this; omega
        rw [ta, tb] at h1
        exact h1
      have hbel := zbelow_any (w.heap.size + 1 + 1 + 1) cr o wr hFr.fld hFr.mlt hblk (by omega) Ho.out Hlo.out hn hn1 (by rw [hFr.mtake, hFr.mval]) (by omega) (by rw [hsum, hFr.mval]; have := Ha.out.lt; have := Hb.out.lt; omega)
      rw [hsum, hFr.mval] at hbel
      have Hbel := Lib.hid hbel
      clear hbel hA hblk hFr hAr hBr hsum
      go_wp2_with fail
      refine Hbel.out.mono ?_
      rintro e w2 ⟨o2, rfl, ho6, hlim, hv2, hB2⟩
      obtain ⟨x0, x1, x2, x3, x4, x5, hoe⟩ := six ho6
      have hrb := (hB2.block (w.heap.size + 1 + 1) (by have := hB.size; omega)).trans ((hB.block (w.heap.size + 1 + 1) (by omega)).trans l3)
      obtain ⟨r0, r1, r2, r3, r4, r5⟩ := cells6 hrb
      have z := fun i => blk_free hrb i
      have z0 := z 0
      have z1 := z 1
      have z2 := z 2
      have z3 := z 3
      have z4 := z 4
      have z5 := z 5
      have hrb' := hrb
      have hBf : Below w.heap.size w w2 := hBw.trans (hB2.mono hBw.size)
      have Hv2 := Lib.hid hv2
      have Ho6 := Lib.hid ho6
      have Hlim := Lib.hid hlim
      have Hoe := Lib.hid hoe
      have hve : EV o2 = .agg #[.int .u64 (x0 : Int), .int .u64 (x1 : Int), .int .u64 (x2 : Int), .int .u64 (x3 : Int), .int .u64 (x4 : Int), .int .u64 (x5 : Int)] := by rw [hoe]; rfl
      rw [hve]
      clear hve hoe hv2 ho6 hlim z hrb hB2 hB Hbel
      go_wp2_with fail
      refine end6 rfl rfl rfl (six_set hrb' _ _ _ _ _ _) ?_
      exact ⟨o2, by rw [Hoe.out]; rfl, ⟨Ho6.out, Hlim.out, by rw [Hv2.out]; exact offM_lt (by have := Ha.out.lt; have := Hb.out.lt; omega)⟩, Hv2.out, six_below hBf (by omega) _ _ _ _ _ _⟩
end Go.Proofs.YtldhmjfjbalakaaGreat
