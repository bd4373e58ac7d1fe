/- zfield: To. -/
import Derived.Test.YtldhmjfjbalakaaGreatZForm
import Derived.Deep.RegionWith
namespace Go.Proofs.YtldhmjfjbalakaaGreat
open Go.RowKit

/-- A field whose squares of R are at hand. -/
structure FR (w : World) (g n inv M : Nat) (ml ol rl : List Nat) : Prop where
  ff : FF w g n inv M ml ol rl
  oelt : Elt M ol
  oval : val 18446744073709551616 ol = 18446744073709551616 ^ n % M
  relt : Elt M rl
  rval : val 18446744073709551616 rl = 18446744073709551616 ^ n * 18446744073709551616 ^ n % M
theorem FR.below {w w' : World} {g n inv M B : Nat} {ml ol rl : List Nat} (h : FR w g n inv M ml ol rl) (hb : Below B w w') (hg : g < B) : FR w' g n inv M ml ol rl :=
  ⟨h.ff.below hb hg, h.oelt, h.oval, h.relt, h.rval⟩
theorem Fld.r_ {w : World} {g n inv : Nat} {ml ol rl : List Nat} (h : Fld w g n inv ml ol rl) {j : Nat} (hj : j < 6) : w.cell? ⟨g, 14 + j, none⟩ = some (.int .u64 (dg rl j : Int)) := by
  rw [blk_cell h.blk (14 + j)]
  obtain ⟨a, b, c, d, e, f, rfl⟩ := six h.m6
  obtain ⟨a, b, c, d, e, f, rfl⟩ := six h.o6
  obtain ⟨a, b, c, d, e, f, rfl⟩ := six h.r6
  match j, hj with
  | 0, _ | 1, _ | 2, _ | 3, _ | 4, _ | 5, _ => rfl

/-- Limbs are copied into a block's cells, from cell o on: whatever the source, the empty one too. -/
theorem copy_into {dT sT : TypeId} (hdT : Tryz.prog.underlying dT = some (.slice 90)) (w : World) (g o dLen dCap : Nat) (cur : List Value) (ty : TypeId) (hg : w.heap[g]? = some (.cells cur.toArray ty (0, 0))) (P : Nat → Prop) (A : Option Addr) (c : Nat) (a : List Nat) (h : RN w P A c a) (hle : a.length ≤ dLen) (hfit : o + a.length ≤ cur.length) :
    ∃ W', (Builtin.copy_ #[dT, sT] 3 #[.slice (some ⟨g, o, none⟩) dLen dCap, .slice A a.length c]).run Tryz.prog w = .ok (goInt a.length) W' ∧ W'.heap[g]? = some (.cells (cur.take o ++ nts a ++ cur.drop (o + a.length)).toArray ty (0, 0)) ∧
      (∀ B w0, B ≤ g → Below B w0 w → Below B w0 W') ∧ (∀ k, k ≠ g → W'.heap[k]? = w.heap[k]?) ∧ W'.heap.size = w.heap.size := by
  rcases Nat.eq_zero_or_pos a.length with h0 | hpos
  · obtain rfl := List.eq_nil_of_length_eq_zero h0
    refine ⟨w, run_copy_none w dT sT 3 90 (some ⟨g, o, none⟩) A dLen dCap 0 c hdT info64size (Nat.min_eq_left (Nat.zero_le _)), ?_, fun _ _ _ h => h, fun _ _ => rfl, rfl⟩
    rw [hg]
    simp [nts]
  · obtain ⟨ad, rfl, _, _⟩ := h.at_ hpos
    have hr := run_copy_row (P := Tryz.prog) w dT sT 3 90 g o dLen dCap ad a.length c cur.toArray ty (nts a) hdT info64size hg (by rw [nts_length]; exact (Nat.min_eq_left hle).symm) (fun j v hj => by
      have hj' : j < a.length := by have := (List.getElem?_eq_some_iff.1 hj).1; simpa [nts] using this
      rw [h.cells j hj']
      rw [nts_get hj'] at hj
      exact hj) (by rw [nts_length]; simpa using hfit) (oneCell_nts a)
    rw [nts_length] at hr
    refine ⟨_, hr, setRow_heap w g _ _ _ _ hg, fun B w0 hB hb => setRow_below hb hB _, fun k hk => ?_, by simp [World.setRow]⟩
    simp [World.setRow, Array.getElem?_modify, show ¬ g = k from fun e => hk e.symm]

set_option maxRecDepth 100000 in
set_option maxHeartbeats 2000000 in
theorem zto_any {g n inv M : Nat} {ml ol rl : List Nat} (P : Nat → Prop) (A : Option Addr) (c : Nat) (a : List Nat) (w : World) (hF : FR w g n inv M ml ol rl) (h : RN w P A c a) (hP : ∀ b, P b → b < w.heap.size) (hl : a.length ≤ 6) (hlt : val 18446744073709551616 a < M) :
    Calls Tryz.prog 111 #[.pointer (some ⟨g, 0, none⟩), .slice A a.length c] w fun e w' => ∃ o, e = .returned (EV o) ∧ FE M n o (val 18446744073709551616 a) ∧ Below w.heap.size w w' := by
  have hg := hF.ff.fld.lt
  have l1 : ((w.alloc (.cells #[.int .u64 0, .int .u64 0, .int .u64 0, .int .u64 0, .int .u64 0, .int .u64 0] 135)).alloc (.cells #[.int .u64 0, .int .u64 0, .int .u64 0, .int .u64 0, .int .u64 0, .int .u64 0] 135)).heap[w.heap.size]? = some (.cells #[.int .u64 0, .int .u64 0, .int .u64 0, .int .u64 0, .int .u64 0, .int .u64 0] 135 (0, 0)) := (Below.heap_alloc _ _ _ (by simp)).trans (heap_alloc_new w _)
  have l2 : ((w.alloc (.cells #[.int .u64 0, .int .u64 0, .int .u64 0, .int .u64 0, .int .u64 0, .int .u64 0] 135)).alloc (.cells #[.int .u64 0, .int .u64 0, .int .u64 0, .int .u64 0, .int .u64 0, .int .u64 0] 135)).heap[w.heap.size + 1]? = some (.cells ([.int .u64 0, .int .u64 0, .int .u64 0, .int .u64 0, .int .u64 0, .int .u64 0] : List Value).toArray 135 (0, 0)) := by
    have := heap_alloc_new (w.alloc (.cells #[.int .u64 0, .int .u64 0, .int .u64 0, .int .u64 0, .int .u64 0, .int .u64 0] 135)) (.cells #[.int .u64 0, .int .u64 0, .int .u64 0, .int .u64 0, .int .u64 0, .int .u64 0] 135)
    rw [World.size_alloc] at this
    exact this
  have hB0 : Below w.heap.size w ((w.alloc (.cells #[.int .u64 0, .int .u64 0, .int .u64 0, .int .u64 0, .int .u64 0, .int .u64 0] 135)).alloc (.cells #[.int .u64 0, .int .u64 0, .int .u64 0, .int .u64 0, .int .u64 0, .int .u64 0] 135)) := ((Below.refl _ w).alloc (Nat.le_refl _) _).alloc (by simp) _
  obtain ⟨W', hcp, hw1, hw2, hw3, hw4⟩ := copy_into (dT := 46) (sT := 91) Tryz.underlying46 _ (w.heap.size + 1) 0 6 6 _ 135 l2 P A c a (h.below hB0 hP) hl (by simp; omega)
  have hB1 := hw2 w.heap.size w (by omega) hB0
  have hrb := (hw3 w.heap.size (by omega)).trans l1
  clear l1 l2 hw2 hw3 hw4 hB0
  have hpad : (([.int .u64 0, .int .u64 0, .int .u64 0, .int .u64 0, .int .u64 0, .int .u64 0] : List Value).take 0 ++ nts a ++ ([.int .u64 0, .int .u64 0, .int .u64 0, .int .u64 0, .int .u64 0, .int .u64 0] : List Value).drop (0 + a.length)) = nts (a ++ List.replicate (6 - a.length) 0) := by
    have e : ([.int .u64 0, .int .u64 0, .int .u64 0, .int .u64 0, .int .u64 0, .int .u64 0] : List Value) = List.replicate 6 (.int .u64 0) := rfl
    rw [e, List.take_zero, List.nil_append, Nat.zero_add, List.drop_replicate]
    simp [nts]
  rw [hpad] at hw1
  have hp6 : (a ++ List.replicate (6 - a.length) 0).length = 6 := by simp; omega
  have hpv : val 18446744073709551616 (a ++ List.replicate (6 - a.length) 0) = val 18446744073709551616 a := val_pad _ _ _
  have hpl : ∀ x ∈ a ++ List.replicate (6 - a.length) 0, x < 18446744073709551616 := fun x hx => by
    rcases List.mem_append.1 hx with h1 | h1
    · exact h.2.1 x h1
    · have := (List.mem_replicate.1 h1).2; omega
  generalize a ++ List.replicate (6 - a.length) 0 = pa at *
  have hpe : Elt M pa := ⟨hp6, hpl, by rw [hpv]; exact hlt⟩
  obtain ⟨x0, x1, x2, x3, x4, x5, hxe⟩ := six hp6
  obtain ⟨y0, y1, y2, y3, y4, y5, hye⟩ := six hF.relt.six
  have hcb : W'.heap[w.heap.size + 1]? = some (.cells #[.int .u64 (x0 : Int), .int .u64 (x1 : Int), .int .u64 (x2 : Int), .int .u64 (x3 : Int), .int .u64 (x4 : Int), .int .u64 (x5 : Int)] 135 (0, 0)) := by rw [hxe] at hw1; exact hw1
  obtain ⟨e0, e1, e2, e3, e4, e5⟩ := cells6 hcb
  have hFr := hF.below hB1 hg
  have f := fun j (hj : j < 6) => hFr.ff.fld.r_ hj
  have f0 := f 0 (by omega)
  have f1 := f 1 (by omega)
  have f2 := f 2 (by omega)
  have f3 := f 3 (by omega)
  have f4 := f 4 (by omega)
  have f5 := f 5 (by omega)
  rw [hye] at f0 f1 f2 f3 f4 f5
  simp only [Nat.add_zero, Nat.reduceAdd, dg_cons_zero, dg_cons_succ] at f0 f1 f2 f3 f4 f5
  have hmul := zmul_any pa rl W'.drew (hFr.ff.below ((Below.refl W'.heap.size W').drew) (by have := hB1.size; omega)) hpe hF.relt
  have hva : EV pa = .agg #[.int .u64 (x0 : Int), .int .u64 (x1 : Int), .int .u64 (x2 : Int), .int .u64 (x3 : Int), .int .u64 (x4 : Int), .int .u64 (x5 : Int)] := by rw [hxe]; rfl
  have hvb : EV rl = .agg #[.int .u64 (y0 : Int), .int .u64 (y1 : Int), .int .u64 (y2 : Int), .int .u64 (y3 : Int), .int .u64 (y4 : Int), .int .u64 (y5 : Int)] := by rw [hye]; rfl
  rw [hva, hvb] at hmul
  have Hmul := Lib.hid hmul
  have HF := Lib.hid hF
  have Hpv := Lib.hid hpv
  have z0 := blk_free hrb 0
  have zB1 := hB1.size
  have hlt1 : w.heap.size < W'.heap.size := blk_lt hrb
  clear hmul hva hvb hcb hw1 hpad hp6 hpl hpe hxe hye f hF hFr hlt
  go_enter Tryz.func111, Tryz.ntmps111
  go_wp2_with fail
  go_region_with (first
    | (go_at_call 117
       refine Hmul.out.mono ?_
       rintro e w2 ⟨o2, rfl, ho2, hv2, hB2⟩
       have hrb2 := (hB2.block w.heap.size hlt1).trans hrb
       obtain ⟨u0, u1, u2, u3, u4, u5, hoe⟩ := six ho2.six
       obtain ⟨r0, r1, r2, r3, r4, r5⟩ := cells6 hrb2
       have z0 := blk_free hrb2 0
       have z1 := blk_free hrb2 1
       have z2 := blk_free hrb2 2
       have z3 := blk_free hrb2 3
       have z4 := blk_free hrb2 4
       have z5 := blk_free hrb2 5
       have hve : EV o2 = .agg #[.int .u64 (u0 : Int), .int .u64 (u1 : Int), .int .u64 (u2 : Int), .int .u64 (u3 : Int), .int .u64 (u4 : Int), .int .u64 (u5 : Int)] := by rw [hoe]; rfl
       rw [hve]
       have Hoe := Lib.hid hoe
       have Hv2 := Lib.hid hv2
       clear hve hoe hv2))
  all_goals
    go_wp2
    refine end6 rfl rfl rfl (six_set hrb2 _ _ _ _ _ _) ?_
    refine ⟨o2, by rw [Hoe.out]; rfl, ⟨ho2, ?_⟩, six_below (hB1.trans ((⟨hB2.os, hB2.tape, hB2.output, hB2.size, hB2.block⟩ : Below W'.heap.size W' w2).mono zB1)) (Nat.le_refl _) _ _ _ _ _ _⟩
    have h1 : val 18446744073709551616 o2 * 18446744073709551616 ^ n % M = (val 18446744073709551616 a * 18446744073709551616 ^ n) * 18446744073709551616 ^ n % M := by
      rw [Hv2.out, Hpv.out, HF.out.rval, Nat.mul_mod_mod, Nat.mul_assoc]
    have h2 := cancelR HF.out.ff.invV h1
    rwa [Nat.mod_eq_of_lt ho2.lt] at h2
end Go.Proofs.YtldhmjfjbalakaaGreat
