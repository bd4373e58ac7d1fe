/- modarith.Few: the first twelve primes, each a slice of its own. modarith.Probable over Few's witnesses. modarith.Next behind 8, with e 3: it is 11. -/
import Derived.Test.YtnniellajmjmnaaIterV
import Derived.Test.YtnniellajmjmnaaStrong
import Derived.TacticsInMore
import Derived.LoopNIn
import Derived.LoopIn
import Derived.Laws.EntriesVeiled
import Derived.Test.YtnniellajmjmnaaQuoP
namespace Go.Proofs.Ytnniellajmjmnaa
open Go.RowKit

attribute [local go_sem] Oper.semAt_some

def fewL : List Nat := [2, 3, 5, 7, 11, 13, 17, 19, 23, 29, 31, 37]
/-- The k-th of them, in memory from block base on. -/
def FewV (base k : Nat) (b : Option Addr × Nat) (W : World) : Prop := OB W base b.1 b.2 [fewL.getD k 0]
def fewX (_ : Nat) (b : Option Addr × Nat) : Array Value := #[.slice b.1 1 b.2]
theorem few_lt {k : Nat} (h : k < 12) : 0 < fewL.getD k 0 ∧ fewL.getD k 0 < 18446744073709551616 ∧ digs 18446744073709551616 (fewL.getD k 0) = [fewL.getD k 0] := by
  have h1 : 0 < fewL.getD k 0 ∧ fewL.getD k 0 < 100 := by
    match k, h with
    | 0, _ | 1, _ | 2, _ | 3, _ | 4, _ | 5, _ | 6, _ | 7, _ | 8, _ | 9, _ | 10, _ | 11, _ => decide
  refine ⟨h1.1, by omega, ?_⟩
  rw [digs_pos (by omega) (by omega), Nat.mod_eq_of_lt (by omega), Nat.div_eq_of_lt (by omega), digs_zero]

set_option maxRecDepth 100000 in
set_option maxHeartbeats 1000000 in
theorem few_at (w : World) (t : Nat) (h : t < 12) : Sem.run Try.prog (Instr.index 100 (.agg #[.int .u64 2, .int .u64 3, .int .u64 5, .int .u64 7, .int .u64 11, .int .u64 13, .int .u64 17, .int .u64 19, .int .u64 23, .int .u64 29, .int .u64 31, .int .u64 37]) (.int .i64 (t : Int))) w = .ok (.int .u64 (fewL.getD t 0 : Int)) w := by
  match t, h with
  | 0, _ | 1, _ | 2, _ | 3, _ | 4, _ | 5, _ | 6, _ | 7, _ | 8, _ | 9, _ | 10, _ | 11, _ => rfl

set_option maxRecDepth 100000 in
set_option maxHeartbeats 2000000 in
theorem few_seq (w : World) : SeqAtV Try.prog 90 #[] fewX (FewV w.heap.size) NoNeed TPlain (fun _ _ => True) 0 12 true w := by
  intro n l J J' Jx W _ hW _ hJ hJ' hJx _ hT _ hY h0
  have HT := Lib.hid hT
  have HY := Lib.hid hY
  have zW := hW.size
  clear hT hY
  refine callsIn_of_wp Try.func90 rfl trivial ?_ rfl
  simp only [Try.ntmps90, List.size_toArray, List.length_cons, List.length_nil, Nat.reduceAdd, Nat.reduceSub, Array.replicate_succ, Array.replicate_zero, List.push_toArray, List.append_toArray, List.nil_append, List.cons_append]
  gi_wp2
  gi_loopw [5] (fun i wr => ∃ t : Nat, t ≤ 12 ∧ i = .int .i64 (t : Int) ∧ J t wr ∧ W.heap.size ≤ wr.heap.size) (fun i _ => 12 - (intOf i).toNat)
  case atStart => exact ⟨0, by omega, rfl, h0, Nat.le_refl _⟩
  case round =>
    obtain ⟨t, ht, rfl, hj, hz⟩ := hrel
    by_cases hlt : t < 12
    · have hof := of_any (fewL.getD t 0) wr (few_lt hlt).2.1
      rw [(few_lt hlt).2.2] at hof
      have Hof := Lib.hid ((callsIn_wide (n := n - 1)).2 hof)
      clear hof
      have hix := few_at wr t hlt
      have HFv : Hid (∀ A c X, OB X wr.heap.size A c [fewL.getD t 0] → FewV w.heap.size t (A, c) X) := Lib.hid fun A c X h => h.mono (by omega)
      generalize hp : fewL.getD t 0 = p at *
      clear hp
      gi_wp2
      refine ⟨trivial, Hof.out.mono ?_⟩
      rintro e w1 ⟨A1, c1, rfl, hO1, hB1⟩
      have hj1 := HT.out t wr w1 ht hj ⟨hB1.os, hB1.tape, hB1.output, hB1.size, fun b hb _ => hB1.block b hb⟩
      have zw1 := hB1.size
      obtain ⟨fn, tmps, assign, body, hy, hRo⟩ := HY.out t _ w1 hj1 (HFv.out A1 c1 w1 hO1) hlt (by omega)
      simp only [List.length_cons, List.length_nil, Nat.zero_add]
      dsimp only [fewX] at hy
      gi_wp2
      refine hRo.mono ?_
      rintro e W3 (⟨rfl, hJ3, _, hz3⟩ | ⟨rfl, hJx3, _⟩)
      · have zW3 := hz3.size
        gi_wp2
        go_roundw
        case rel => exact ⟨t + 1, by omega, by go_num, hJ3, by omega⟩
        case measure => simp [intOf]; omega
      · gi_wp2
        refine bodyPost_ret (results_none rfl _ _ _) rfl ?_
        exact ⟨⟨_, rfl⟩, .inr ⟨t + 1, by omega, by omega, hJx3⟩⟩
    · obtain rfl : t = 12 := by omega
      have hjn := HT.out 12 _ _ (Nat.le_refl _) hj (World.grownBy.refl wr none)
      gi_wp2
      go_end0
      exact ⟨⟨_, rfl⟩, .inl hjn⟩
end Go.Proofs.Ytnniellajmjmnaa

namespace Go.Proofs.Ytnniellajmjmnaa
open Go.RowKit

attribute [local go_sem] Oper.semAt_some

theorem seqNil (w : World) (f : Fn) (a b : Array Value) : (binOp .eql 86 (.func f a b) .nilFunc).run Try.prog w = .ok (.bool false) w := by kernel_rfl
/-- Do the first k of Few's witnesses hold? -/
def fewTo (N k : Nat) : Bool := (List.range k).all fun i => strongB N (fewL.getD i 0)
theorem fewTo_succ (N k : Nat) : fewTo N (k + 1) = (fewTo N k && strongB N (fewL.getD k 0)) := by
  rw [fewTo, List.range_succ, List.all_append, List.all_cons, List.all_nil, Bool.and_true]; rfl
theorem fewTo_false {N k : Nat} (h : fewTo N k = false) : ∀ {m}, k ≤ m → fewTo N m = false
  | 0, hm => by obtain rfl : k = 0 := by omega
                exact h
  | m + 1, hm => by
    rcases Nat.lt_or_ge m k with h1 | h1
    · obtain rfl : k = m + 1 := by omega
      exact h
    · rw [fewTo_succ, fewTo_false h h1, Bool.false_and]

set_option maxRecDepth 100000 in
set_option maxHeartbeats 4000000 in
theorem prob_few (P : Nat → Prop) (A : Option Addr) (c : Nat) (a : List Nat) (N : Nat) (w : World) (h : RN w P A c a) (hP : ∀ b, P b → b < w.heap.size) (hN : val 18446744073709551616 a = N)
    (hodd : N % 2 = 1) (hgt : 1 < N) (hmay : nbits N ≤ 4096) (hla : a.length < 40000) :
    Calls Try.prog 77 #[.slice A a.length c, .func (.func 90) #[] #[]] w fun e w' => e = .returned (.bool (fewTo N 12)) ∧ Below w.heap.size w w' := by
  obtain ⟨s, hs⟩ : ∃ s, w.heap.size = s := ⟨_, rfl⟩
  have m0 := heap_alloc_new w (.cells #[.slice A a.length c] 23)
  have hB0 : Below w.heap.size w (w.alloc (.cells #[.slice A a.length c] 23)) := (Below.refl _ w).alloc (Nat.le_refl _) _
  have hz0 : (w.alloc (.cells #[.slice A a.length c] 23)).heap.size = s + 1 := by simp [hs]
  rw [hs] at m0 hB0 hP ⊢
  have hnil := fun w => seqNil w (.func 90) #[] #[]
  have Hmay := Lib.hid hmay
  have Hodd := Lib.hid hodd
  have Hgt := Lib.hid hgt
  clear hodd hgt hmay
  refine (callsIn_wide (n := 6)).1 ?_
  refine callsIn_of_wp_marks Try.func77 rfl trivial ?_ rfl
  simp only [Try.ntmps77, List.size_toArray, List.length_cons, List.length_nil, Nat.reduceAdd, Nat.reduceSub, Array.replicate_succ, Array.replicate_zero, List.push_toArray, List.append_toArray, List.nil_append, List.cons_append]
  have d0 := blk_cell m0 0
  simp only [List.getElem?_toArray, List.getElem?_cons_zero] at d0
  have hc := fun (V : World) (hV : RN V P A c a) (hs : ∀ b, P b → b < V.heap.size) => candidate_odd P A c a N V hV hs hN Hodd.out Hgt.out
  rw [decide_eq_true Hmay.out] at hc
  have Hc := Lib.hid hc
  have ha0 := h.below hB0 hP
  have hP0 : ∀ b, P b → b < (w.alloc (.cells #[.slice A a.length c] 23)).heap.size := fun b hb => by have := hP b hb; omega
  clear hc
  gi_wp2
  refine wpIn_wide.2 ?_
  go_step3
  generalize w.alloc (.cells #[.slice A a.length c] 23) = W0 at *
  go_wp2_with fail
  refine (Hc.out _ ha0 hP0).mono ?_
  rintro e' W1 ⟨rfl, hB1⟩
  rw [hz0] at hB1
  have hB01 := hB0.trans (hB1.mono (by omega))
  have zW1 := hB1.size
  obtain ⟨q, hq⟩ : ∃ q, W1.heap.size = q := ⟨_, rfl⟩
  have n0 := (hB1.block s (by omega)).trans m0
  have b1 := heap_alloc_new W1 (.cells #[.bool true] 4)
  have hB2 : Below q W1 (W1.alloc (.cells #[.bool true] 4)) := by rw [← hq]; exact (Below.refl _ W1).alloc (Nat.le_refl _) _
  have hz2 : (W1.alloc (.cells #[.bool true] 4)).heap.size = q + 1 := by simp [hq]
  rw [hq] at b1
  have n2 := (hB2.block s (by omega)).trans n0
  clear Hc d0 n0
  go_wp2
  go_step3
  go_wp2
  generalize W1.alloc (.cells #[.bool true] 4) = W2 at *
  have hBw2 := hB01.trans (hB2.mono (by omega))
  have zq : s + 1 ≤ q := by omega
  have Hq := Lib.hid hq
  have hseq := few_seq W2
  rw [hz2] at hseq
  have Hseq := Lib.hid hseq
  have ha := fun X (hX : Below s w X) => h.below hX hP
  have HPa : Hid (∀ X : World, Below s w X → ∀ b, P b → b < X.heap.size) := Lib.hid fun X hX b hb => by have := hP b hb; have := hX.size; omega
  clear hseq hB1 zW1 m0 ha0 hP0 hB0 hz0 hq hB2 hB01
  have hInv : ∀ v : Bool, OwnFrom W2.heap.size (fun (k : Nat) X => X.heap[q]? = some (.cells #[.bool v] 4 (0, 0)) ∧ Below q W2 X ∧ Hid (fewTo N k = v)) := by
    rintro v k X X' row ⟨h1, h2, h3⟩ hg' hr
    have hr' := fun r e => (hr r e).2
    exact ⟨(grownBy_keeps_cells hg' hr' h1 rfl).trans h1, ownFrom_below (by omega) (by omega) k X X' row h2 hg' hr, h3⟩
  have HInv := Lib.hid hInv
  clear hInv
  refine (wpIn_wide (n := 6)).1 ?_
  refine' wpIn_iterV (by omega) (gf := 90) (lb := #[]) rfl (enters_of Try.func90 (by kernel_rfl) rfl)
    Hseq.out (fun _ _ => trivial) (fun _ _ _ _ _ _ _ _ => trivial) tplain_keeps (Below.refl _ _) (fun _ _ => rfl) (fun k b X l o o' hv hl hc => ?hVp)
    (fun k X => X.heap[q]? = some (.cells #[.bool true] 4 (0, 0)) ∧ Below q W2 X ∧ Hid (fewTo N k = true)) (fun k X => X.heap[q]? = some (.cells #[.bool true] 4 (0, 0)) ∧ Below q W2 X ∧ Hid (fewTo N k = true))
    (fun cc k X => cc = .exit 0 ∧ X.heap[q]? = some (.cells #[.bool false] 4 (0, 0)) ∧ Below q W2 X ∧ Hid (fewTo N k = false))
    (HInv.out true) (HInv.out true) (fun cc => ?hIx) (fun _ _ _ _ => trivial) (fun B k A C _ _ hi ht => ?hIT) (fun h => by cases h) ⟨b1, Below.refl _ _, Lib.hid rfl⟩ _ ?assign ?body ?done ?stop
  case hVp => exact hv.same fun b o' ho hc' => (World.putObj_heap_other (fun e => by subst e; rw [hl] at ho; cases ho; rw [hc] at hc'; cases hc')).trans ho
  case hIx => exact fun k X X' row hi hg' hr => ⟨hi.1, HInv.out false k X X' row hi.2 hg' hr⟩
  case hIT => exact ownFrom_plain (HInv.out true) hi ht
  case assign =>
    intro l k b X K hK
    dsimp only [fewX]
    gi_wp2
    exact hK
  case body =>
    rintro l k ⟨A2, c2⟩ X ⟨h1, h2, h3⟩ hv hlt hm
    have zX := h2.size
    have hO2 : OB X (q + 1) A2 c2 [fewL.getD k 0] := hv
    have hbx := hBw2.trans (h2.mono (by omega))
    have d0 := blk_cell ((h2.block s (by omega)).trans n2) 0
    simp only [List.getElem?_toArray, List.getElem?_cons_zero] at d0
    have hcl := strong_fine P _ A A2 c c2 a _ N (fewL.getD k 0) X (ha X hbx) hO2.rn (HPa.out X hbx) (fun b hb => hb.2) hN (by simp) Hodd.out Hgt.out Hmay.out hla (by simp)
    have hsucc := fewTo_succ N k
    rw [h3.out, Bool.true_and] at hsucc
    rw [← hsucc] at hcl
    simp only [List.length_cons, List.length_nil, Nat.zero_add] at hcl
    have Hcl := Lib.hid hcl
    clear hcl hsucc h3 hO2 hv
    gi_wp2
    refine ⟨trivial, (callsIn_wide.2 Hcl.out).mono ?_⟩
    rintro e' X1 ⟨rfl, hB3⟩
    have y1 := (hB3.block q (blk_lt h1)).trans h1
    have y2 := blk_cell y1 0
    simp only [List.getElem?_toArray, List.getElem?_cons_zero] at y2
    have y3 := blk_free y1 0
    have hBx1 : Below q W2 X1 := h2.trans (hB3.mono (by omega))
    have hK1 : Keeps W2.heap.size (W2.heap.size + 2) 0 X X1 := Keeps.below hB3 (Nat.le_refl _)
    have hq4 : (X1.setCell ⟨q, 0, none⟩ (.bool false)).heap[q]? = some (.cells #[.bool false] 4 (0, 0)) := by simpa using blk_set y1 0 (.bool false)
    have hB4 : Below q W2 (X1.setCell ⟨q, 0, none⟩ (.bool false)) := hBx1.setCell (p := ⟨q, 0, none⟩) (Nat.le_refl _) _
    have hK4 : Keeps W2.heap.size (W2.heap.size + 2) 0 X (X1.setCell ⟨q, 0, none⟩ (.bool false)) := hK1.trans (Keeps.setCell _ _ _ _ (.inl (by show q < _; omega)) _)
    rcases hfk : fewTo N (k + 1) with _ | _
    · have Hfk := Lib.hid hfk
      have HK4 := Lib.hid hK4
      have HB4 := Lib.hid hB4
      have Hq4 := Lib.hid hq4
      clear hfk hK4 hB4 hq4 y1 h1
      gi_wp2
      exact ⟨HK4.out, rfl, Hq4.out, HB4.out, Hfk⟩
    · have Hfk := Lib.hid hfk
      have HK1 := Lib.hid hK1
      have HB1 := Lib.hid hBx1
      have Hy1 := Lib.hid y1
      clear hfk hK4 hB4 hq4 y1 h1 hK1 hBx1
      gi_wp2
      exact ⟨HK1.out, trivial, Hy1.out, HB1.out, Hfk⟩
  case done =>
    rintro D X hD ⟨h1, h2, h3⟩ hK
    have hz := h2.size
    have d2 := blk_cell h1 0
    simp only [List.getElem?_toArray, List.getElem?_cons_zero] at d2
    have hb : Below s w (X.putObj D (.deferred none)) := (hBw2.trans (h2.mono (by omega))).trans ⟨rfl, rfl, rfl, by simp, fun b hb => World.putObj_heap_other (by omega)⟩
    clear h1 h2
    gi_wp2
    go_wp2
    rw [Exit.noGoto_ret]
    exact ⟨by simp, .inl ⟨_, _, rfl, run_takeDeferred hK, _, results_tmp rfl _ _ _, by rw [h3.out]; rfl, hb⟩⟩
  case stop =>
    rintro D cc k X hD _ hk ⟨rfl, h1, h2, h3⟩ hK
    have hz := h2.size
    have d2 := blk_cell h1 0
    simp only [List.getElem?_toArray, List.getElem?_cons_zero] at d2
    have hb : Below s w (X.putObj D (.deferred none)) := (hBw2.trans (h2.mono (by omega))).trans ⟨rfl, rfl, rfl, by simp, fun b hb => World.putObj_heap_other (by omega)⟩
    have h4 := Lib.hid (fewTo_false h3.out hk)
    clear h1 h2 h3
    gi_wp2
    go_wp2
    rw [Exit.noGoto_ret]
    exact ⟨by simp, .inl ⟨_, _, rfl, run_takeDeferred hK, _, results_tmp rfl _ _ _, by rw [h4.out]; rfl, hb⟩⟩
end Go.Proofs.Ytnniellajmjmnaa

namespace Go.Proofs.Ytnniellajmjmnaa
open Go.RowKit

theorem few_call (w : World) : Calls Try.prog 76 #[] w fun e w' => e = .returned (.func (.func 90) #[] #[]) ∧ w = w' := by
  go_enter Try.func76, Try.ntmps76
  go_wp2
  go_ret
  exact ⟨rfl, rfl⟩

set_option maxRecDepth 100000 in
set_option maxHeartbeats 1000000 in
theorem parted_small (P : Nat → Prop) (A : Option Addr) (c : Nat) (a : List Nat) (N : Nat) (w : World) (h : RN w P A c a) (hN : val 18446744073709551616 a = N) (hs : nbits N < 7) :
    Calls Try.prog 87 #[.slice A a.length c] w fun e w' => e = .returned (.bool false) ∧ w = w' := by
  have hb := bits_any P A c a w h
  rw [hN] at hb
  have t1 : decide ((nbits N : Int) < 7) = true := decide_eq_true (by omega)
  generalize nbits N = nb at *
  have Hb := Lib.hid hb
  clear hb
  go_enter Try.func87, Try.ntmps87
  go_wp2_with fail
  refine Hb.out.mono ?_
  rintro e w' ⟨rfl, rfl⟩
  go_wp2
  go_ret
  exact ⟨rfl, rfl⟩

theorem dig_small {x : Nat} (h0 : 0 < x) (h : x < 18446744073709551616) : digs 18446744073709551616 x = [x] := by
  rw [digs_pos (by omega) (by omega), Nat.mod_eq_of_lt h, Nat.div_eq_of_lt h, digs_zero]

theorem few_nine : fewTo 9 12 = false := by decide +kernel
theorem few_eleven : fewTo 11 12 = true := by decide +kernel

set_option maxRecDepth 100000 in
set_option maxHeartbeats 4000000 in
theorem next_eight (P P' : Nat → Prop) (A A' : Option Addr) (c c' : Nat) (w : World) (h : RN w P A c [8]) (h' : RN w P' A' c' [3]) (_hP : ∀ b, P b → b < w.heap.size) (hP' : ∀ b, P' b → b < w.heap.size) :
    Calls Try.prog 49 #[.slice A 1 c, .slice A' 1 c'] w fun e w' => ∃ A1 c1, e = .returned (.tuple #[.slice A1 1 c1, .bool true]) ∧ OB w' w.heap.size A1 c1 [11] ∧ Below w.heap.size w w' := by
  have hb := bits_any P A c [8] w h
  have hbt := bit_any P' A' c' [3] 0 w h' (by omega)
  have hn1 := norm_any P A c [8] w h
  rw [show val 18446744073709551616 [8] = 8 by simp] at hb hn1
  rw [show val 18446744073709551616 [3] = 3 by simp] at hbt
  rw [show nbits 8 = 4 by decide] at hb
  rw [show bitOf 3 0 = 1 by decide] at hbt
  rw [dig_small (x := 8) (by omega) (by omega)] at hn1
  simp only [List.length_cons, List.length_nil, Nat.zero_add] at hb hbt hn1
  have Hb := Lib.hid hb
  have Hbt := Lib.hid hbt
  have Hn1 := Lib.hid hn1
  clear hb hbt hn1
  go_enter Try.func49, Try.ntmps49
  go_wp2_with fail
  refine Hb.out.mono ?_
  rintro e w' ⟨rfl, rfl⟩
  go_wp2_with fail
  refine Hbt.out.mono ?_
  rintro e w' ⟨rfl, rfl⟩
  go_wp2_with fail
  refine Hn1.out.mono ?_
  rintro e w1 ⟨A1, c1, rfl, hO1, hB1⟩
  have hb1 := bits_any _ A1 c1 [8] w1 hO1.rn
  rw [show val 18446744073709551616 [8] = 8 by simp, show nbits 8 = 4 by decide] at hb1
  simp only [List.length_cons, List.length_nil, Nat.zero_add] at hb1
  have Hb1 := Lib.hid hb1
  clear hb1 Hb Hbt Hn1
  obtain ⟨g, rfl, hg, hR⟩ := hO1.row (by simp)
  go_wp2_with fail
  refine Hb1.out.mono ?_
  rintro e w' ⟨rfl, rfl⟩
  have c0 := hR.cell (p := ⟨g, 0, none⟩) (f := 0) rfl (j := 0) (by simp)
  have f0 := hR.free (p := ⟨g, 0, none⟩) (f := 0) rfl 0
  have hR9 := hR.set (p := ⟨g, 0, none⟩) (f := 0) rfl 0 9
  rw [show (⟨g, 0, none⟩ : Addr).add 0 = ⟨g, 0, none⟩ by rfl] at c0 f0 hR9
  rw [show dg [8] (0 + 0) = 8 by rfl] at c0
  rw [show ([8] : List Nat).set (0 + 0) 9 = [9] by rfl] at hR9
  have hor : bits .or .u64 8 1 = 9 := by decide
  have hB2 : Below w.heap.size w (w1.setCell ⟨g, 0, none⟩ (.int .u64 9)) := hB1.setCell (p := ⟨g, 0, none⟩) hg _
  obtain ⟨y1, y2, y3, y4⟩ := hO1
  have hO2 : OB (w1.setCell ⟨g, 0, none⟩ (.int .u64 9)) w.heap.size (some ⟨g, 0, none⟩) c1 [9] := hR9.ob hg ⟨by simp, by simp⟩ y2 y3
  have HO2 := Lib.hid hO2
  clear hR hR9 hO2 y1 y2 y3 y4
  go_wp2_with fail
  generalize w1.setCell ⟨g, 0, none⟩ (.int .u64 9) = w2 at *
  clear c0 f0 hor Hb1
  go_loopw [6] (fun pv wr => ∃ (A1 : Option Addr) (c1 v : Nat), pv = .slice A1 1 c1 ∧ (v = 9 ∨ v = 11) ∧ Hid (OB wr w.heap.size A1 c1 [v]) ∧ Below w.heap.size w wr) (fun pv wr => 11 - readLimbs wr pv)
  case atStart => exact ⟨_, c1, 9, rfl, .inl rfl, HO2, hB2⟩
  case round =>
    clear HO2 hB2
    obtain ⟨A1, c1, v, rfl, hv, HO, hB⟩ := hrel
    have zw := hB.size
    have hval : ∀ x : Nat, val 18446744073709551616 [x] = x := fun x => by simp
    have hv9 : 9 ≤ v ∧ v ≤ 11 := by omega
    have hd : ∀ x : Nat, 0 < x → x < 100 → digs 18446744073709551616 x = [x] := fun x h0 h1 => dig_small h0 (by omega)
    have hnv : nbits v = 4 := by rcases hv with rfl | rfl <;> decide
    have hof := of_any 1 wr (by omega)
    rw [hd 1 (by omega) (by omega)] at hof
    simp only [List.length_cons, List.length_nil, Nat.zero_add] at hof
    have Hof := Lib.hid hof
    clear hof
    go_wp2_with fail
    refine Hof.out.mono ?_
    rintro e w3 ⟨A3, c3, rfl, hO3, hB3⟩
    have zw3 := hB3.size
    have hO1 := HO.out.below hB3 (Nat.le_refl _)
    have hsb := sub_yes _ _ A1 A3 c1 c3 [v] [1] w3 hO1.rn hO3.rn (fun b hb => hb.2) (fun b hb => hb.2) (by simp) (by rw [hval, hval]; omega)
    rw [hval, hval, hd (v - 1) (by omega) (by omega)] at hsb
    simp only [List.length_cons, List.length_nil, Nat.zero_add] at hsb
    have Hsb := Lib.hid hsb
    clear hsb Hof
    go_wp2_with fail
    refine Hsb.out.mono ?_
    rintro e w4 ⟨A4, c4, rfl, hO4, hB4⟩
    have zw4 := hB4.size
    have hO14 := hO1.below hB4 (by omega)
    have hB04 := (hB.trans (hB3.mono zw)).trans (hB4.mono (by omega))
    have hpt := parted_small _ A1 c1 [v] v w4 hO14.rn (hval v) (by omega)
    have hgc := gcd_any _ P' A4 A' c4 c' [v - 1] [3] w4 hO4.rn (h'.below hB04 hP') (fun b hb => hb.2) (fun b hb => by have := hP' b hb; omega) (by simp) (by simp)
    rw [hval, hval, show Nat.gcd (v - 1) 3 = 1 by rcases hv with rfl | rfl <;> decide, hd 1 (by omega) (by omega)] at hgc
    simp only [List.length_cons, List.length_nil, Nat.zero_add] at hgc hpt
    have Hpt := Lib.hid hpt
    have Hgc := Lib.hid hgc
    clear hpt hgc Hsb
    go_wp2_with fail
    refine Hpt.out.mono ?_
    rintro e w' ⟨rfl, rfl⟩
    go_wp2_with fail
    refine Hgc.out.mono ?_
    rintro e w5 ⟨A5, c5, rfl, hO5, hB5⟩
    have zw5 := hB5.size
    have hb5 := bits_any _ A5 c5 [1] w5 hO5.rn
    rw [hval, show nbits 1 = 1 by decide] at hb5
    simp only [List.length_cons, List.length_nil, Nat.zero_add] at hb5
    have Hb5 := Lib.hid hb5
    have hO15 := hO14.below hB5 (by omega)
    have hB05 := hB04.trans (hB5.mono (by omega))
    clear hb5 Hgc Hpt
    go_wp2_with fail
    refine Hb5.out.mono ?_
    rintro e w' ⟨rfl, rfl⟩
    have hfw := Lib.hid (few_call w5)
    have hpr := prob_few _ A1 c1 [v] v w5 hO15.rn (fun b hb => hb.2) (hval v) (by omega) (by omega) (by omega) (by simp)
    simp only [List.length_cons, List.length_nil, Nat.zero_add] at hpr
    clear Hb5
    rcases hv with rfl | rfl
    · rw [few_nine] at hpr
      have Hpr := Lib.hid hpr
      clear hpr
      go_wp2_with fail
      refine hfw.out.mono ?_
      rintro e w' ⟨rfl, rfl⟩
      go_wp2_with fail
      refine Hpr.out.mono ?_
      rintro e w6 ⟨rfl, hB6⟩
      have zw6 := hB6.size
      have hof := of_any 2 w6 (by omega)
      rw [hd 2 (by omega) (by omega)] at hof
      simp only [List.length_cons, List.length_nil, Nat.zero_add] at hof
      have Hof := Lib.hid hof
      clear hof
      go_wp2_with fail
      refine Hof.out.mono ?_
      rintro e w7 ⟨A7, c7, rfl, hO7, hB7⟩
      have zw7 := hB7.size
      have hO17 := hO15.below (hB6.trans (hB7.mono zw6)) (by omega)
      have had := add_any _ _ A1 A7 c1 c7 [9] [2] w7 hO17.rn hO7.rn (fun b hb => hb.2) (fun b hb => hb.2) (by simp) (by simp)
      rw [hval, hval, hd (9 + 2) (by omega) (by omega)] at had
      simp only [List.length_cons, List.length_nil, Nat.zero_add] at had
      have Had := Lib.hid had
      clear had Hof Hpr hfw
      go_wp2_with fail
      refine Had.out.mono ?_
      rintro e w8 ⟨A8, c8, rfl, hO8, hB8⟩
      have hB08 := ((hB05.trans (hB6.mono (by omega))).trans (hB7.mono (by omega))).trans (hB8.mono (by omega))
      have HO8 := Lib.hid (hO8.mono (base' := w.heap.size) (by omega))
      have hrd := HO8.out.rn.read
      have hrd0 := HO.out.rn.read
      rw [hval] at hrd hrd0
      simp only [List.length_cons, List.length_nil, Nat.zero_add] at hrd hrd0
      have Hrd := Lib.hid hrd
      have Hrd0 := Lib.hid hrd0
      clear hrd hrd0
      go_wp2
      go_roundw
      case rel => exact ⟨A8, c8, 11, rfl, .inr rfl, HO8, hB08⟩
      case measure => rw [Hrd.out, Hrd0.out]; omega
    · rw [few_eleven] at hpr
      have Hpr := Lib.hid hpr
      clear hpr
      go_wp2_with fail
      refine hfw.out.mono ?_
      rintro e w' ⟨rfl, rfl⟩
      go_wp2_with fail
      refine Hpr.out.mono ?_
      rintro e w6 ⟨rfl, hB6⟩
      have HO6 := Lib.hid (hO15.below hB6 (by omega))
      have hB06 := hB05.trans (hB6.mono (by omega))
      clear Hpr hfw
      go_wp2
      go_ret2
      exact ⟨A1, c1, rfl, HO6.out, hB06⟩
end Go.Proofs.Ytnniellajmjmnaa
