/- The reference's parameters of AES's modes, and its points. The reference's Param; the law on the table. MechTable: uses, key types, parameters and parts of every mechanism are the document's table: the walk of the law. A mechanism by value, opened. -/
import Derived.Test.YtldhmjfjbalakaaGreatKF
import Derived.Deep.DeepCutAuto
import Derived.Test.YtldhmjfjbalakaaGreatOpen
import Derived.Deep.Fields
namespace Go.Proofs.YtldhmjfjbalakaaGreat
open Go.RowKit Mc

def p6 (m : Int) (bs : List Nat) : Bool := if m = 1 then decide (bs.length = 0) else if m = 2 ∨ m = 3 then decide (bs.length = 16) else if m = 4 then counterB bs else gcmB bs
set_option maxRecDepth 100000 in
set_option maxHeartbeats 4000000 in
theorem refParam6_any (m : Int) (hm : m = 1 ∨ m = 2 ∨ m = 3 ∨ m = 4 ∨ m = 5) (P : Nat → Prop) (A : Option Addr) (c : Nat) (bs : List Nat) (w : World) (h : RB w P A c bs) : Calls Tryz.prog 22 #[.int .i64 m, .slice A bs.length c] w fun e w' => e = .returned (.bool (p6 m bs)) ∧ Ext w w' := by
  obtain ⟨l1, l2, l3⟩ := h.cap
  obtain ⟨r, hr⟩ : ∃ r, p6 m bs = r := ⟨_, rfl⟩
  rw [hr]
  have short : ∀ k : Nat, (k = 0 ∨ k = 16) → r = decide (bs.length = k) → (((bs.length : Nat) : Int) == (k : Int)) = r := fun k _ e => by rw [e]; by_cases h : bs.length = k <;> simp [h] <;> omega
  rcases hm with rfl | rfl | rfl | rfl | rfl
  · have e1 := short 0 (.inl rfl) hr.symm
    obtain ⟨n, hn⟩ : ∃ n, bs.length = n := ⟨_, rfl⟩
    rw [hn] at l1 l3 e1 ⊢
    clear short hr hn h
    have e2 : ((n : Int) == 0) = r := e1
    clear e1
    go_enter Tryz.func22, Tryz.ntmps22
    go_wp2
    go_ret
    exact ⟨rfl, Ext.refl _⟩
  · have e1 := short 16 (.inr rfl) hr.symm
    obtain ⟨n, hn⟩ : ∃ n, bs.length = n := ⟨_, rfl⟩
    rw [hn] at l1 l3 e1 ⊢
    clear short hr hn h
    have e2 : ((n : Int) == 16) = r := e1
    clear e1
    go_enter Tryz.func22, Tryz.ntmps22
    go_wp2
    go_ret
    exact ⟨rfl, Ext.refl _⟩
  · have e1 := short 16 (.inr rfl) hr.symm
    obtain ⟨n, hn⟩ : ∃ n, bs.length = n := ⟨_, rfl⟩
    rw [hn] at l1 l3 e1 ⊢
    clear short hr hn h
    have e2 : ((n : Int) == 16) = r := e1
    clear e1
    go_enter Tryz.func22, Tryz.ntmps22
    go_wp2
    go_ret
    exact ⟨rfl, Ext.refl _⟩
  · clear short
    have hr : counterB bs = r := hr
    by_cases h17 : bs.length = 17
    · obtain ⟨ad, rfl, hc, hx⟩ := h.dg (i := 0) (by omega)
      rw [show ad.add 0 = ad by simp [Addr.add]] at hc
      obtain ⟨x, hxe⟩ : ∃ x, dg bs 0 = x := ⟨_, rfl⟩
      rw [hxe] at hc hx
      have hr' : r = (decide (1 ≤ x) && decide (x ≤ 128)) := by rw [← hr, counterB, h17, hxe]; rfl
      have Hr := Lib.hid hr'
      rw [h17]
      clear hr hr' hxe h17 h l1 l3
      by_cases a : 1 ≤ x
      · have a1 : decide ((1 : Int) ≤ x) = true := decide_eq_true (by omega)
        by_cases b : x ≤ 128
        · have b1 : decide ((x : Int) ≤ 128) = true := decide_eq_true (by omega)
          obtain rfl : r = true := by rw [Hr.out, decide_eq_true a, decide_eq_true b]; rfl
          go_enter Tryz.func22, Tryz.ntmps22
          go_wp2
          go_ret
          exact ⟨rfl, Ext.refl _⟩
        · have b1 : decide ((x : Int) ≤ 128) = false := decide_eq_false (by omega)
          obtain rfl : r = false := by rw [Hr.out, decide_eq_true a, decide_eq_false b]; rfl
          go_enter Tryz.func22, Tryz.ntmps22
          go_wp2
          go_ret
          exact ⟨rfl, Ext.refl _⟩
      · have a1 : decide ((1 : Int) ≤ x) = false := decide_eq_false (by omega)
        obtain rfl : r = false := by rw [Hr.out, decide_eq_false a]; rfl
        go_enter Tryz.func22, Tryz.ntmps22
        go_wp2
        go_ret
        exact ⟨rfl, Ext.refl _⟩
    · obtain rfl : r = false := by rw [← hr, counterB, decide_eq_false h17]; rfl
      obtain ⟨n, hn⟩ : ∃ n, bs.length = n := ⟨_, rfl⟩
      rw [hn] at l1 l3 h17 ⊢
      have e1 : ((n : Int) == 17) = false := by simp; omega
      clear hr hn
      go_enter Tryz.func22, Tryz.ntmps22
      go_wp2
      go_ret
      exact ⟨rfl, Ext.refl _⟩
  · clear short
    have hr : gcmB bs = r := hr
    obtain ⟨n, hn⟩ : ∃ n, bs.length = n := ⟨_, rfl⟩
    by_cases h0 : 2 ≤ n
    · obtain ⟨ad, rfl, hc, hx⟩ := h.dg (i := 0) (by omega)
      rw [show ad.add 0 = ad by simp [Addr.add]] at hc
      obtain ⟨x, hxe⟩ : ∃ x, dg bs 0 = x := ⟨_, rfl⟩
      rw [hxe] at hc hx
      have hr' : r = (decide (0 < x) && decide (1 + x ≤ n)) := by rw [← hr, gcmB, hn, hxe, decide_eq_true (show 0 < n by omega)]; rfl
      have Hr := Lib.hid hr'
      rw [hn] at l1 l3 ⊢
      clear hr hr' hxe hn h
      have w1 : IntKind.i64.wrap ((n : Int) - 1) = n - 1 := IntWalk.i64_in _ (by omega)
      have n2 : decide ((2 : Int) ≤ n) = true := decide_eq_true (by omega)
      by_cases a : 0 < x
      · have a1 : decide ((1 : Int) ≤ x) = true := decide_eq_true (by omega)
        by_cases b : 1 + x ≤ n
        · have b1 : decide ((x : Int) ≤ (n : Int) - 1) = true := decide_eq_true (by omega)
          obtain rfl : r = true := by rw [Hr.out, decide_eq_true a, decide_eq_true b]; rfl
          go_enter Tryz.func22, Tryz.ntmps22
          go_wp2
          go_ret
          exact ⟨rfl, Ext.refl _⟩
        · have b1 : decide ((x : Int) ≤ (n : Int) - 1) = false := decide_eq_false (by omega)
          obtain rfl : r = false := by rw [Hr.out, decide_eq_true a, decide_eq_false b]; rfl
          go_enter Tryz.func22, Tryz.ntmps22
          go_wp2
          go_ret
          exact ⟨rfl, Ext.refl _⟩
      · obtain rfl : x = 0 := by omega
        obtain rfl : r = false := by rw [Hr.out]; rfl
        go_enter Tryz.func22, Tryz.ntmps22
        go_wp2
        go_ret
        exact ⟨rfl, Ext.refl _⟩
    · obtain rfl : r = false := by
        rw [← hr, gcmB, hn]
        by_cases a : 0 < dg bs 0
        · rw [decide_eq_false (show ¬ (1 + dg bs 0 ≤ n) by omega), Bool.and_false, Bool.and_false]
        · rw [decide_eq_false a, Bool.false_and, Bool.and_false]
      rw [hn]
      have n2 : decide ((2 : Int) ≤ n) = false := decide_eq_false (by omega)
      clear hr hn
      go_enter Tryz.func22, Tryz.ntmps22
      go_wp2
      go_ret
      exact ⟨rfl, Ext.refl _⟩
def pointC (bs : List Nat) : Int := if somewhere c256 bs = true then 1 else if somewhere c384 bs = true then 2 else 0
theorem end_tp {fn : Func} {R : Ending → World → Prop} {a : Act} {W : World} {p u : Tmp} {g : Nat} {ty : TypeId} {fr : Nat × Nat} {x0 x1 x2 v : Value} (hr : fn.results = #[.tmp u, .cell p 49]) (hp : a.tmps.getD p undef = .pointer (some ⟨g, 0, none⟩)) (hu : a.tmps.getD u undef = v) (hd : a.defers = [])
    (hg : W.heap[g]? = some (.cells #[x0, x1, x2] ty fr)) (hR : R (.returned (.tuple #[v, .agg #[x0, x1, x2]])) W) : bodyPost Tryz.prog fn R .ret a W := by
  refine bodyPost_ret (v := .tuple #[v, .agg #[x0, x1, x2]]) ?_ hd hR
  have hp' : a.tmps[p]?.getD undef = .pointer (some ⟨g, 0, none⟩) := by simpa using hp
  have hu' : a.tmps[u]?.getD undef = v := by simpa using hu
  simp [results, hr, hp', hu', asAddr, run_loadVar_row W g ty 49 #[x0, x1, x2] fr _ hg Tryz.underlying49 rfl infoRP, Sem.run_bind, Result.andThen]
/-- What the reference's Decode tells, where it is no point that is somewhere. -/
theorem refDec_no {C : Crv} (hF : C.Fine) (P : Nat → Prop) (A : Option Addr) (c : Nat) (bs : List Nat) (w : World) (h : RB w P A c bs) (hP : ∀ b, P b → b < w.heap.size) (hs : somewhere C bs = false) :
    ∃ b, ∀ X v, Ext w X → RC X C v → Calls Tryz.prog 38 #[v, .slice A bs.length c] X fun e w' => e = .returned (.tuple #[infV, .bool b]) ∧ Ext X w' := by
  refine ⟨(decC C bs).isSome, fun X v hX hc => (refDecode_any hF P A c bs X hc (h.below hX hP) (fun b hb => Nat.lt_of_lt_of_le (hP b hb) hX.bsize)).mono ?_⟩
  rintro e w' ⟨u, rfl, hu, hE⟩
  rw [somewhere] at hs
  match hd : decC C bs, hs, hu with
  | none, _, hu => rw [show u = infV from hu]; exact ⟨rfl, hE⟩
  | some none, _, hu => rw [show u = infV from hu]; exact ⟨rfl, hE⟩
theorem refDec_yes {C : Crv} (hF : C.Fine) (P : Nat → Prop) (A : Option Addr) (c : Nat) (bs : List Nat) (w : World) (h : RB w P A c bs) (hP : ∀ b, P b → b < w.heap.size) (hs : somewhere C bs = true) :
    ∀ X v, Ext w X → RC X C v → Calls Tryz.prog 38 #[v, .slice A bs.length c] X fun e w' => (∃ A1 n1 c1 A2 n2 c2, e = .returned (.tuple #[.agg #[.bool false, .slice A1 n1 c1, .slice A2 n2 c2], .bool true])) ∧ Ext X w' := by
  intro X v hX hc
  refine (refDecode_any hF P A c bs X hc (h.below hX hP) (fun b hb => Nat.lt_of_lt_of_le (hP b hb) hX.bsize)).mono ?_
  rintro e w' ⟨u, rfl, hu, hE⟩
  rw [somewhere] at hs
  match hd : decC C bs, hs, hu with
  | some (some p), _, hu =>
    obtain ⟨A1, c1, A2, c2, rfl, _, _⟩ := hu
    exact ⟨⟨_, _, _, _, _, _, rfl⟩, hE⟩
set_option maxRecDepth 100000 in
set_option maxHeartbeats 8000000 in
theorem refPoint_any (P : Nat → Prop) (A : Option Addr) (c : Nat) (bs : List Nat) (w : World) (h : RB w P A c bs) (hP : ∀ b, P b → b < w.heap.size) : Calls Tryz.prog 23 #[.slice A bs.length c] w fun e w' => (∃ b A1 n1 c1 A2 n2 c2, e = .returned (.tuple #[.int .i64 (pointC bs), .agg #[.bool b, .slice A1 n1 c1, .slice A2 n2 c2]])) ∧ Ext w w' := by
  have o1 := Lib.hid (fun X => refOf_c (c := 1) (C := c256) (.inl ⟨rfl, rfl⟩) X)
  have o2 := Lib.hid (fun X => refOf_c (c := 2) (C := c384) (.inr ⟨rfl, rfl⟩) X)
  have F1 : c256.Fine := (show IsC 1 c256 from .inl ⟨rfl, rfl⟩).fine
  have F2 : c384.Fine := (show IsC 2 c384 from .inr ⟨rfl, rfl⟩).fine
  obtain ⟨r, hr⟩ : ∃ r, pointC bs = r := ⟨_, rfl⟩
  rw [hr]
  rw [pointC] at hr
  by_cases s1 : somewhere c256 bs = true
  · obtain rfl : r = 1 := by rw [← hr, if_pos s1]
    have d1 := Lib.hid (refDec_yes F1 P A c bs w h hP s1)
    obtain ⟨n, hn⟩ : ∃ n, bs.length = n := ⟨_, rfl⟩
    rw [hn] at d1 ⊢
    clear hr s1 hn h
    go_enter Tryz.func23, Tryz.ntmps23
    go_wp2
    refine wp_loop_rounds 1 ?_
    rw [rounds_succ]
    have hE0 := Ext.alloc w (.cells #[.bool false, .slice none 0 0, .slice none 0 0] 49)
    have hb0 := heap_alloc_new w (.cells #[.bool false, .slice none 0 0, .slice none 0 0] 49)
    go_wp2_with (first
      | (go_at_call 37; refine (o1.out _).mono ?_; rintro e w1 ⟨v1, rfl, hc1, hE1⟩)
      | (go_at_call 38; refine (d1.out _ v1 (hE0.trans hE1) hc1).mono ?_; rintro e x1 ⟨⟨A1, n1, c1, A2, n2, c2, rfl⟩, hD1⟩; have hq1 := (hE0.trans hE1).trans hD1; have hb1 := (hE1.trans hD1).at_ hb0))
    have hp1 := heap_alloc_new x1 (.cells #[.bool false, .slice A1 n1 c1, .slice A2 n2 c2] 49)
    refine Par.region_ext (by kernel_rfl) 3 [0, 0, 1, 7] [] (fun j f X => match j with
      | 0 => f 0 = .int .i64 1
      | 1 => f 1 = .agg #[.bool false, .slice A1 n1 c1, .slice A2 n2 c2]
      | 2 => f 2 = .int .i64 1
      | _ => True) (by kernel_rfl) [(24, 0), (25, 1), (2, 2)] (by kernel_rfl) ?_
    refine Par.AllOps.cons 1 2 rfl rfl (Par.StepO.intro [(25, 1)] (by kernel_rfl) (fun f X hX hR K hK => ?_)) ?_
    · simp only [Par.putL, Act.put, List.setIfInBounds_toArray, List.set_cons_succ, List.set_cons_zero]
      refine ⟨?_⟩
      go_simp
      exact hK.out _ (.int .i64 1) _ (by simp only [Par.putL, Act.put, List.setIfInBounds_toArray, List.set_cons_succ, List.set_cons_zero]) (Ext.refl _) trivial (fun _ _ => rfl)
    refine Par.AllOps.cons 2 1 rfl rfl (Par.StepO.intro [(24, 0), (2, 2)] (by kernel_rfl) (fun f X hX hR K hK => ?_)) ?_
    · simp only [Par.putL, Act.put, List.setIfInBounds_toArray, List.set_cons_succ, List.set_cons_zero]
      refine ⟨Par.want (by kernel_rfl) (wp_loadV 49 (.tmp 5) rfl rfl (hX.at_ hp1) Tryz.underlying49 rfl infoRP rfl ?_)⟩
      exact hK.out _ (.agg #[.bool false, .slice A1 n1 c1, .slice A2 n2 c2]) _ (by simp only [Par.putL, Act.put, List.setIfInBounds_toArray, List.set_cons_succ, List.set_cons_zero]) (Ext.refl _) trivial (fun _ _ => rfl)
    refine Par.AllOps.cons 3 0 rfl rfl (Par.StepO.intro [(24, 0), (25, 1)] (by kernel_rfl) (fun f X hX hR K hK => ?_)) ?_
    · have e0 : f 0 = .int .i64 1 := hR.out 0 rfl
      simp only [Par.putL, Act.put, List.setIfInBounds_toArray, List.set_cons_succ, List.set_cons_zero, e0]
      refine ⟨?_⟩
      go_simp
      exact hK.out _ (.int .i64 1) _ (by simp only [Par.putL, Act.put, List.setIfInBounds_toArray, List.set_cons_succ, List.set_cons_zero, e0]) (Ext.refl _) trivial (fun _ _ => rfl)
    refine Par.AllOps.fin ⟨fun f X hX hR hal hap => ?_⟩
    have e0 : f 0 = .int .i64 1 := hR 0 (by decide)
    have e1 : f 1 = .agg #[.bool false, .slice A1 n1 c1, .slice A2 n2 c2] := hR 1 (by decide)
    have e2 : f 2 = .int .i64 1 := hR 2 (by decide)
    simp only [Par.putL, Act.put, List.setIfInBounds_toArray, List.set_cons_succ, List.set_cons_zero, e0, e1, e2]
    clear hR hal hap e0 e1 e2
    refine Par.Chain.next (fun K hK => ⟨Par.want (by kernel_rfl) (wp_storeV 49 (.tmp 3) (.tmp 25) rfl rfl rfl rfl (hX.at_ ((Ext.alloc _ _).at_ hb1)) infoRP rfl (pt_one _ _ _ _ _ _ _) (fun Y1 g1 g2 g3 => hK.out _ _ ?_))⟩)
    refine Par.Chain.done ?_
    go_wp2
    exact end_tp rfl rfl rfl rfl g1 ⟨⟨_, _, _, _, _, _, _, rfl⟩, g2.ext ((hq1.trans (Ext.alloc _ _)).trans hX) (Nat.le_refl _)⟩
  · have s1' : somewhere c256 bs = false := by simpa using s1
    obtain ⟨b1, d1⟩ := refDec_no F1 P A c bs w h hP s1'
    by_cases s2 : somewhere c384 bs = true
    · obtain rfl : r = 2 := by rw [← hr, if_neg s1, if_pos s2]
      have d2 := Lib.hid (refDec_yes F2 P A c bs w h hP s2)
      have D1 := Lib.hid d1
      obtain ⟨n, hn⟩ : ∃ n, bs.length = n := ⟨_, rfl⟩
      rw [hn] at d2 D1 ⊢
      clear hr s1 s1' s2 hn h d1
      cases b1
      all_goals
        go_enter Tryz.func23, Tryz.ntmps23
        go_wp2
        refine wp_loop_rounds 2 ?_
        rw [rounds_succ]
        have hE0 := Ext.alloc w (.cells #[.bool false, .slice none 0 0, .slice none 0 0] 49)
        have hb0 := heap_alloc_new w (.cells #[.bool false, .slice none 0 0, .slice none 0 0] 49)
        go_wp2_with (first
          | (go_at_call 37; refine (o1.out _).mono ?_; rintro e w1 ⟨v1, rfl, hc1, hE1⟩)
          | (go_at_call 38; refine (D1.out _ v1 (hE0.trans hE1) hc1).mono ?_; rintro e x1 ⟨rfl, hD1⟩; have hq1 := (hE0.trans hE1).trans hD1; have hb1 := (hE1.trans hD1).at_ hb0))
        rw [rounds_succ]
        go_wp2_with (first
          | (go_at_call 37; refine (o2.out _).mono ?_; rintro e w2 ⟨v2, rfl, hc2, hE2⟩)
          | (go_at_call 38; refine (d2.out _ v2 ((hq1.trans (Ext.alloc _ _)).trans hE2) hc2).mono ?_; rintro e x2 ⟨⟨A1, n1, c1, A2, n2, c2, rfl⟩, hD2⟩; have hq2 := ((hq1.trans (Ext.alloc _ _)).trans hE2).trans hD2; have hb2 := (hE2.trans hD2).at_ ((Ext.alloc _ _).at_ hb1)))
        have hp2 := heap_alloc_new x2 (.cells #[.bool false, .slice A1 n1 c1, .slice A2 n2 c2] 49)
        refine Par.region_ext (by kernel_rfl) 3 [0, 0, 1, 7] [] (fun j f X => match j with
          | 0 => f 0 = .int .i64 2
          | 1 => f 1 = .agg #[.bool false, .slice A1 n1 c1, .slice A2 n2 c2]
          | 2 => f 2 = .int .i64 2
          | _ => True) (by kernel_rfl) [(24, 0), (25, 1), (2, 2)] (by kernel_rfl) ?_
        refine Par.AllOps.cons 1 2 rfl rfl (Par.StepO.intro [(25, 1)] (by kernel_rfl) (fun f X hX hR K hK => ?_)) ?_
        · simp only [Par.putL, Act.put, List.setIfInBounds_toArray, List.set_cons_succ, List.set_cons_zero]
          refine ⟨?_⟩
          go_simp
          exact hK.out _ (.int .i64 2) _ (by simp only [Par.putL, Act.put, List.setIfInBounds_toArray, List.set_cons_succ, List.set_cons_zero]) (Ext.refl _) trivial (fun _ _ => rfl)
        refine Par.AllOps.cons 2 1 rfl rfl (Par.StepO.intro [(24, 0), (2, 2)] (by kernel_rfl) (fun f X hX hR K hK => ?_)) ?_
        · simp only [Par.putL, Act.put, List.setIfInBounds_toArray, List.set_cons_succ, List.set_cons_zero]
          refine ⟨Par.want (by kernel_rfl) (wp_loadV 49 (.tmp 5) rfl rfl (hX.at_ hp2) Tryz.underlying49 rfl infoRP rfl ?_)⟩
          exact hK.out _ (.agg #[.bool false, .slice A1 n1 c1, .slice A2 n2 c2]) _ (by simp only [Par.putL, Act.put, List.setIfInBounds_toArray, List.set_cons_succ, List.set_cons_zero]) (Ext.refl _) trivial (fun _ _ => rfl)
        refine Par.AllOps.cons 3 0 rfl rfl (Par.StepO.intro [(24, 0), (25, 1)] (by kernel_rfl) (fun f X hX hR K hK => ?_)) ?_
        · have e0 : f 0 = .int .i64 2 := hR.out 0 rfl
          simp only [Par.putL, Act.put, List.setIfInBounds_toArray, List.set_cons_succ, List.set_cons_zero, e0]
          refine ⟨?_⟩
          go_simp
          exact hK.out _ (.int .i64 2) _ (by simp only [Par.putL, Act.put, List.setIfInBounds_toArray, List.set_cons_succ, List.set_cons_zero, e0]) (Ext.refl _) trivial (fun _ _ => rfl)
        refine Par.AllOps.fin ⟨fun f X hX hR hal hap => ?_⟩
        have e0 : f 0 = .int .i64 2 := hR 0 (by decide)
        have e1 : f 1 = .agg #[.bool false, .slice A1 n1 c1, .slice A2 n2 c2] := hR 1 (by decide)
        have e2 : f 2 = .int .i64 2 := hR 2 (by decide)
        simp only [Par.putL, Act.put, List.setIfInBounds_toArray, List.set_cons_succ, List.set_cons_zero, e0, e1, e2]
        clear hR hal hap e0 e1 e2
        refine Par.Chain.next (fun K hK => ⟨Par.want (by kernel_rfl) (wp_storeV 49 (.tmp 3) (.tmp 25) rfl rfl rfl rfl (hX.at_ ((Ext.alloc _ _).at_ hb2)) infoRP rfl (pt_one _ _ _ _ _ _ _) (fun Y1 g1 g2 g3 => hK.out _ _ ?_))⟩)
        refine Par.Chain.done ?_
        go_wp2
        exact end_tp rfl rfl rfl rfl g1 ⟨⟨_, _, _, _, _, _, _, rfl⟩, g2.ext ((hq2.trans (Ext.alloc _ _)).trans hX) (Nat.le_refl _)⟩
    · have s2' : somewhere c384 bs = false := by simpa using s2
      obtain rfl : r = 0 := by rw [← hr, if_neg s1, if_neg s2]
      obtain ⟨b2, d2⟩ := refDec_no F2 P A c bs w h hP s2'
      have D1 := Lib.hid d1
      have D2 := Lib.hid d2
      obtain ⟨n, hn⟩ : ∃ n, bs.length = n := ⟨_, rfl⟩
      rw [hn] at D2 D1 ⊢
      clear hr s1 s1' s2 s2' hn h d1 d2
      cases b1 <;> cases b2
      all_goals
        go_enter Tryz.func23, Tryz.ntmps23
        go_wp2
        refine wp_loop_rounds 3 ?_
        rw [rounds_succ]
        have hE0 := Ext.alloc w (.cells #[.bool false, .slice none 0 0, .slice none 0 0] 49)
        have hb0 := heap_alloc_new w (.cells #[.bool false, .slice none 0 0, .slice none 0 0] 49)
        go_wp2_with (first
          | (go_at_call 37; refine (o1.out _).mono ?_; rintro e w1 ⟨v1, rfl, hc1, hE1⟩)
          | (go_at_call 38; refine (D1.out _ v1 (hE0.trans hE1) hc1).mono ?_; rintro e x1 ⟨rfl, hD1⟩; have hq1 := (hE0.trans hE1).trans hD1; have hb1 := (hE1.trans hD1).at_ hb0))
        rw [rounds_succ]
        go_wp2_with (first
          | (go_at_call 37; refine (o2.out _).mono ?_; rintro e w2 ⟨v2, rfl, hc2, hE2⟩)
          | (go_at_call 38; refine (D2.out _ v2 ((hq1.trans (Ext.alloc _ _)).trans hE2) hc2).mono ?_; rintro e x2 ⟨rfl, hD2⟩; have hq2 := ((hq1.trans (Ext.alloc _ _)).trans hE2).trans hD2; have hb2 := (hE2.trans hD2).at_ ((Ext.alloc _ _).at_ hb1)))
        rw [rounds_succ]
        have hb3 := (Ext.alloc x2 (.cells #[.bool true, .slice none 0 0, .slice none 0 0] 49)).at_ hb2
        obtain ⟨z0, z1, z2, f0, f1, f2⟩ := pt_facts hb3
        go_wp2
        exact end_tp rfl rfl rfl rfl (pt_set hb3 _ _ _) ⟨⟨_, _, _, _, _, _, _, rfl⟩, pt_ext (hq2.trans (Ext.alloc _ _)) (Nat.le_refl _) _ _ _⟩
end Go.Proofs.YtldhmjfjbalakaaGreat

namespace Go.Proofs.YtldhmjfjbalakaaGreat
open Go.RowKit Mc

theorem pointC_ne (bs : List Nat) : (pointC bs != 0) = pointB bs := by
  unfold pointC pointB
  cases somewhere c256 bs <;> cases somewhere c384 bs <;> rfl
theorem modeP_of {kind : Int} (h : kind = 4225 ∨ kind = 4226 ∨ kind = 4229 ∨ kind = 4230 ∨ kind = 4231) (bs : List Nat) : (modeP kind = 1 ∨ modeP kind = 2 ∨ modeP kind = 3 ∨ modeP kind = 4 ∨ modeP kind = 5) ∧ p6 (modeP kind) bs = parB kind bs := by
  rcases h with rfl | rfl | rfl | rfl | rfl
  · exact ⟨.inl rfl, rfl⟩
  · exact ⟨.inr (.inl rfl), rfl⟩
  · exact ⟨.inr (.inr (.inl rfl)), rfl⟩
  · exact ⟨.inr (.inr (.inr (.inl rfl))), rfl⟩
  · exact ⟨.inr (.inr (.inr (.inr rfl))), rfl⟩
set_option maxRecDepth 100000 in
set_option maxHeartbeats 4000000 in
theorem refParam_mode {kind : Int} (h : kind = 4225 ∨ kind = 4226 ∨ kind = 4229 ∨ kind = 4230 ∨ kind = 4231) (P : Nat → Prop) (A : Option Addr) (c : Nat) (bs : List Nat) (w : World) (hb : RB w P A c bs) (hP : ∀ b, P b → b < w.heap.size) :
    Calls Tryz.prog 12 #[.agg #[.int .i64 kind, .slice A bs.length c]] w fun e w' => e = .returned (.bool (parB kind bs)) ∧ Ext w w' := by
  obtain ⟨h1, h2⟩ := modeP_of h bs
  obtain ⟨m, hm⟩ : ∃ m, modeP kind = m := ⟨_, rfl⟩
  rw [hm] at h1 h2
  rw [← h2]
  have hm0 : (m != 0) = true := by rcases h1 with rfl | rfl | rfl | rfl | rfl <;> rfl
  have hmo := Lib.hid (fun X => show Calls Tryz.prog 21 #[.int .i64 kind] X fun e w' => e = .returned (.int .i64 m) ∧ X = w' by rw [← hm]; exact mode_any kind X)
  have hp := Lib.hid (fun X (hX : Ext w X) => refParam6_any m h1 P A c bs X (hb.below hX hP))
  obtain ⟨r, hr⟩ : ∃ r, p6 m bs = r := ⟨_, rfl⟩
  rw [hr] at hp ⊢
  obtain ⟨n, hn⟩ : ∃ n, bs.length = n := ⟨_, rfl⟩
  rw [hn] at hp ⊢
  obtain ⟨W0, hW0⟩ : ∃ W0, W0 = w.alloc (.cells #[.int .i64 kind, .slice A n c] 24) := ⟨_, rfl⟩
  obtain ⟨q, hq⟩ : ∃ q, w.heap.size = q := ⟨_, rfl⟩
  have hE0 : Ext w W0 := by rw [hW0]; exact Ext.alloc _ _
  have hcb : W0.heap[q]? = some (.cells #[.int .i64 kind, .slice A n c] 24 (0, 0)) := by rw [hW0, ← hq]; exact heap_alloc_new w _
  have b0 : W0.cell? ⟨q, 0, none⟩ = some (.int .i64 kind) := blk_cell hcb 0
  have b1 : W0.cell? ⟨q, 1, none⟩ = some (.slice A n c) := blk_cell hcb 1
  have HE0 := Lib.hid hE0
  clear h h1 h2 hm hr hn hE0 hb hP hcb
  go_enter Tryz.func12, Tryz.ntmps12
  go_upto_region 3 with (go_at_call 21; refine (hmo.out _).mono ?_; rintro e w' ⟨rfl, rfl⟩)
  rw [← hW0]
  have HW0 := Lib.hid hW0
  have Hq := Lib.hid hq
  clear hW0 hq
  refine Par.region_ext (by kernel_rfl) 7 [0, 1, 3, 0, 8, 31, 63] [] (fun j f X => match j with
    | 0 => f 0 = .pointer (some ⟨q, 0, none⟩)
    | 1 => f 1 = .int .i64 kind
    | 2 => f 2 = .int .i64 m
    | 3 => f 3 = .pointer (some ⟨q, 1, none⟩)
    | 4 => f 4 = .slice A n c
    | 5 => f 5 = .bool r
    | 6 => f 6 = .bool r
    | _ => True) (by kernel_rfl) [(13, 0), (14, 1), (15, 2), (16, 3), (17, 4), (18, 5), (2, 6)] (by kernel_rfl) ?_
  refine Par.AllOps.cons 1 6 rfl rfl (Par.StepO.intro [(16, 3), (17, 4)] (by kernel_rfl) (fun f X hX hR K hK => ?_)) ?_
  · simp only [Par.putL, Act.put, List.setIfInBounds_toArray, List.set_cons_succ, List.set_cons_zero]
    refine ⟨?_⟩
    go_simp
    exact hK.out _ (.pointer (some ⟨q, 0, none⟩)) _ (by simp only [Par.putL, Act.put, List.setIfInBounds_toArray, List.set_cons_succ, List.set_cons_zero]) (Ext.refl _) trivial (fun _ _ => rfl)
  refine Par.AllOps.cons 2 5 rfl rfl (Par.StepO.intro [(13, 0), (16, 3), (17, 4)] (by kernel_rfl) (fun f X hX hR K hK => ?_)) ?_
  · have e0 : f 0 = .pointer (some ⟨q, 0, none⟩) := hR.out 0 rfl
    have x0 := hX.cell b0
    simp only [Par.putL, Act.put, List.setIfInBounds_toArray, List.set_cons_succ, List.set_cons_zero, e0]
    refine ⟨?_⟩
    go_simp
    exact hK.out _ (.int .i64 kind) _ (by simp only [Par.putL, Act.put, List.setIfInBounds_toArray, List.set_cons_succ, List.set_cons_zero, e0]) (Ext.refl _) trivial (fun _ _ => rfl)
  refine Par.AllOps.cons 3 4 rfl rfl (Par.StepO.intro [(13, 0), (14, 1), (16, 3), (17, 4)] (by kernel_rfl) (fun f X hX hR K hK => ?_)) ?_
  · have e1 : f 1 = .int .i64 kind := hR.out 1 rfl
    simp only [Par.putL, Act.put, List.setIfInBounds_toArray, List.set_cons_succ, List.set_cons_zero, e1]
    refine ⟨?_⟩
    go_simp
    refine (hmo.out X).mono ?_
    rintro e w' ⟨rfl, rfl⟩
    exact hK.out _ (.int .i64 m) _ (by simp only [Par.putL, Act.put, List.setIfInBounds_toArray, List.set_cons_succ, List.set_cons_zero, e1]) (Ext.refl _) trivial (fun _ _ => rfl)
  refine Par.AllOps.cons 4 3 rfl rfl (Par.StepO.intro [(13, 0), (14, 1), (15, 2)] (by kernel_rfl) (fun f X hX hR K hK => ?_)) ?_
  · simp only [Par.putL, Act.put, List.setIfInBounds_toArray, List.set_cons_succ, List.set_cons_zero]
    refine ⟨?_⟩
    go_simp
    exact hK.out _ (.pointer (some ⟨q, 1, none⟩)) _ (by simp only [Par.putL, Act.put, List.setIfInBounds_toArray, List.set_cons_succ, List.set_cons_zero]) (Ext.refl _) trivial (fun _ _ => rfl)
  refine Par.AllOps.cons 5 2 rfl rfl (Par.StepO.intro [(13, 0), (14, 1), (15, 2), (16, 3)] (by kernel_rfl) (fun f X hX hR K hK => ?_)) ?_
  · have e3 : f 3 = .pointer (some ⟨q, 1, none⟩) := hR.out 3 rfl
    have x0 := hX.cell b1
    simp only [Par.putL, Act.put, List.setIfInBounds_toArray, List.set_cons_succ, List.set_cons_zero, e3]
    refine ⟨?_⟩
    go_simp
    exact hK.out _ (.slice A n c) _ (by simp only [Par.putL, Act.put, List.setIfInBounds_toArray, List.set_cons_succ, List.set_cons_zero, e3]) (Ext.refl _) trivial (fun _ _ => rfl)
  refine Par.AllOps.cons 6 1 rfl rfl (Par.StepO.intro [(13, 0), (14, 1), (15, 2), (16, 3), (17, 4)] (by kernel_rfl) (fun f X hX hR K hK => ?_)) ?_
  · have e2 : f 2 = .int .i64 m := hR.out 2 rfl
    have e4 : f 4 = .slice A n c := hR.out 4 rfl
    simp only [Par.putL, Act.put, List.setIfInBounds_toArray, List.set_cons_succ, List.set_cons_zero, e2, e4]
    refine ⟨?_⟩
    go_simp
    refine (hp.out X (HE0.out.trans hX)).mono ?_
    rintro e w' ⟨rfl, hB⟩
    exact hK.out _ (.bool r) _ (by simp only [Par.putL, Act.put, List.setIfInBounds_toArray, List.set_cons_succ, List.set_cons_zero, e2, e4]) hB trivial (fun _ _ => rfl)
  refine Par.AllOps.cons 7 0 rfl rfl (Par.StepO.intro [(13, 0), (14, 1), (15, 2), (16, 3), (17, 4), (18, 5)] (by kernel_rfl) (fun f X hX hR K hK => ?_)) ?_
  · have e5 : f 5 = .bool r := hR.out 5 rfl
    simp only [Par.putL, Act.put, List.setIfInBounds_toArray, List.set_cons_succ, List.set_cons_zero, e5]
    refine ⟨?_⟩
    go_simp
    exact hK.out _ (.bool r) _ (by simp only [Par.putL, Act.put, List.setIfInBounds_toArray, List.set_cons_succ, List.set_cons_zero, e5]) (Ext.refl _) trivial (fun _ _ => rfl)
  refine Par.AllOps.fin ⟨fun f X hX hR hal hap => ?_⟩
  have e0 : f 0 = .pointer (some ⟨q, 0, none⟩) := hR 0 (by decide)
  have e1 : f 1 = .int .i64 kind := hR 1 (by decide)
  have e2 : f 2 = .int .i64 m := hR 2 (by decide)
  have e3 : f 3 = .pointer (some ⟨q, 1, none⟩) := hR 3 (by decide)
  have e4 : f 4 = .slice A n c := hR 4 (by decide)
  have e5 : f 5 = .bool r := hR 5 (by decide)
  have e6 : f 6 = .bool r := hR 6 (by decide)
  simp only [Par.putL, Act.put, List.setIfInBounds_toArray, List.set_cons_succ, List.set_cons_zero, e0, e1, e2, e3, e4, e5, e6]
  clear hR hal hap e0 e1 e2 e3 e4 e5 e6
  refine Par.Chain.done ?_
  go_wp2
  go_ret
  exact ⟨rfl, HE0.out.trans hX⟩
set_option maxRecDepth 100000 in
set_option maxHeartbeats 8000000 in
theorem refParam_any (kind : Int) (P : Nat → Prop) (A : Option Addr) (c : Nat) (bs : List Nat) (w : World) (hb : RB w P A c bs) (hP : ∀ b, P b → b < w.heap.size) :
    Calls Tryz.prog 12 #[.agg #[.int .i64 kind, .slice A bs.length c]] w fun e w' => e = .returned (.bool (parB kind bs)) ∧ Ext w w' := by
  by_cases h : kind = 4225 ∨ kind = 4226 ∨ kind = 4229 ∨ kind = 4230 ∨ kind = 4231
  · exact refParam_mode h P A c bs w hb hP
  obtain ⟨l1, l2, l3⟩ := hb.cap
  have hpt := Lib.hid (fun X (hX : Ext w X) => refPoint_any P A c bs X (hb.below hX hP) (fun b hb => Nat.lt_of_lt_of_le (hP b hb) hX.bsize))
  have hpn := pointC_ne bs
  obtain ⟨pc, hpc⟩ : ∃ pc, pointC bs = pc := ⟨_, rfl⟩
  obtain ⟨r, hr⟩ : ∃ r, parB kind bs = r := ⟨_, rfl⟩
  rw [hpc] at hpt hpn
  rw [hr]
  obtain ⟨n, hn⟩ : ∃ n, bs.length = n := ⟨_, rfl⟩
  have hm0 : modeP kind = 0 := by
    simp only [not_or] at h
    rw [modeP, if_neg h.1, if_neg h.2.1, if_neg h.2.2.1, if_neg h.2.2.2.1, if_neg h.2.2.2.2]
  have e0 : ((n : Int) == 0) = decide (n = 0) := by by_cases e : n = 0 <;> simp [e]
  have e1 : ((n : Int) == 1) = decide (n = 1) := by by_cases e : n = 1 <;> simp [e]; omega
  have e255 : decide ((n : Int) ≤ 255) = decide (n ≤ 255) := decide_eq_decide.2 (by omega)
  rw [hn] at hpt l1 l3 ⊢
  rcases kind_cases kind with rfl | rfl | rfl | rfl | rfl | rfl | rfl | rfl | rfl | rfl | rfl | rfl | rfl | rfl | rfl | rfl | rfl | hk | hk | hk | hk | hk | rfl | rfl | ⟨e0', e1', e9', e13', e64', e67', e544', e592', e593', e608', e624', e848', e4160', e4161', e4164', e4176', e4224', e4225', e4226', e4229', e4230', e4231', e4234', e8457', hm⟩
  · have hv : r = decide (n = 0) := by rw [← hr, ← hn]; rfl
    rw [← hv] at e0
    clear hr hn hb hv h e1 e255 hpn
    go_enter Tryz.func12, Tryz.ntmps12
    go_wp2_with (first | (go_at_call 21; refine (mode_any _ _).mono ?_; rintro e w' ⟨rfl, rfl⟩) | (go_at_call 23; refine (hpt.out _ (Ext.alloc _ _)).mono ?_; rintro e w2 ⟨⟨vb, v1, v2, v3, v4, v5, v6, rfl⟩, hE2⟩) | (go_at_call 10; refine (refUses_any _ _).mono ?_; rintro e w' ⟨rfl, rfl⟩))
    go_ret
    exact ⟨rfl, by first | exact ((Ext.alloc _ _).trans hE2).trans (Ext.alloc _ _) | exact Ext.alloc _ _⟩
  · have hv : r = decide (n = 0) := by rw [← hr, ← hn]; rfl
    rw [← hv] at e0
    clear hr hn hb hv h e1 e255 hpn
    go_enter Tryz.func12, Tryz.ntmps12
    go_wp2_with (first | (go_at_call 21; refine (mode_any _ _).mono ?_; rintro e w' ⟨rfl, rfl⟩) | (go_at_call 23; refine (hpt.out _ (Ext.alloc _ _)).mono ?_; rintro e w2 ⟨⟨vb, v1, v2, v3, v4, v5, v6, rfl⟩, hE2⟩) | (go_at_call 10; refine (refUses_any _ _).mono ?_; rintro e w' ⟨rfl, rfl⟩))
    go_ret
    exact ⟨rfl, by first | exact ((Ext.alloc _ _).trans hE2).trans (Ext.alloc _ _) | exact Ext.alloc _ _⟩
  · have hv : r = decide (n ≤ 255) := by rw [← hr, ← hn]; rfl
    rw [← hv] at e255
    clear hr hn hb hv h e0 e1 hpn
    go_enter Tryz.func12, Tryz.ntmps12
    go_wp2_with (first | (go_at_call 21; refine (mode_any _ _).mono ?_; rintro e w' ⟨rfl, rfl⟩) | (go_at_call 23; refine (hpt.out _ (Ext.alloc _ _)).mono ?_; rintro e w2 ⟨⟨vb, v1, v2, v3, v4, v5, v6, rfl⟩, hE2⟩) | (go_at_call 10; refine (refUses_any _ _).mono ?_; rintro e w' ⟨rfl, rfl⟩))
    go_ret
    exact ⟨rfl, by first | exact ((Ext.alloc _ _).trans hE2).trans (Ext.alloc _ _) | exact Ext.alloc _ _⟩
  · have hv : r = decide (n = 1) := by rw [← hr, ← hn]; rfl
    rw [← hv] at e1
    clear hr hn hb hv h e0 e255 hpn
    go_enter Tryz.func12, Tryz.ntmps12
    go_wp2_with (first | (go_at_call 21; refine (mode_any _ _).mono ?_; rintro e w' ⟨rfl, rfl⟩) | (go_at_call 23; refine (hpt.out _ (Ext.alloc _ _)).mono ?_; rintro e w2 ⟨⟨vb, v1, v2, v3, v4, v5, v6, rfl⟩, hE2⟩) | (go_at_call 10; refine (refUses_any _ _).mono ?_; rintro e w' ⟨rfl, rfl⟩))
    go_ret
    exact ⟨rfl, by first | exact ((Ext.alloc _ _).trans hE2).trans (Ext.alloc _ _) | exact Ext.alloc _ _⟩
  · have hv : r = decide (n = 0) := by rw [← hr, ← hn]; rfl
    rw [← hv] at e0
    clear hr hn hb hv h e1 e255 hpn
    go_enter Tryz.func12, Tryz.ntmps12
    go_wp2_with (first | (go_at_call 21; refine (mode_any _ _).mono ?_; rintro e w' ⟨rfl, rfl⟩) | (go_at_call 23; refine (hpt.out _ (Ext.alloc _ _)).mono ?_; rintro e w2 ⟨⟨vb, v1, v2, v3, v4, v5, v6, rfl⟩, hE2⟩) | (go_at_call 10; refine (refUses_any _ _).mono ?_; rintro e w' ⟨rfl, rfl⟩))
    go_ret
    exact ⟨rfl, by first | exact ((Ext.alloc _ _).trans hE2).trans (Ext.alloc _ _) | exact Ext.alloc _ _⟩
  · have hv : r = decide (n = 1) := by rw [← hr, ← hn]; rfl
    rw [← hv] at e1
    clear hr hn hb hv h e0 e255 hpn
    go_enter Tryz.func12, Tryz.ntmps12
    go_wp2_with (first | (go_at_call 21; refine (mode_any _ _).mono ?_; rintro e w' ⟨rfl, rfl⟩) | (go_at_call 23; refine (hpt.out _ (Ext.alloc _ _)).mono ?_; rintro e w2 ⟨⟨vb, v1, v2, v3, v4, v5, v6, rfl⟩, hE2⟩) | (go_at_call 10; refine (refUses_any _ _).mono ?_; rintro e w' ⟨rfl, rfl⟩))
    go_ret
    exact ⟨rfl, by first | exact ((Ext.alloc _ _).trans hE2).trans (Ext.alloc _ _) | exact Ext.alloc _ _⟩
  · have hv : r = decide (n = 0) := by rw [← hr, ← hn]; rfl
    rw [← hv] at e0
    clear hr hn hb hv h e1 e255 hpn
    go_enter Tryz.func12, Tryz.ntmps12
    go_wp2_with (first | (go_at_call 21; refine (mode_any _ _).mono ?_; rintro e w' ⟨rfl, rfl⟩) | (go_at_call 23; refine (hpt.out _ (Ext.alloc _ _)).mono ?_; rintro e w2 ⟨⟨vb, v1, v2, v3, v4, v5, v6, rfl⟩, hE2⟩) | (go_at_call 10; refine (refUses_any _ _).mono ?_; rintro e w' ⟨rfl, rfl⟩))
    go_ret
    exact ⟨rfl, by first | exact ((Ext.alloc _ _).trans hE2).trans (Ext.alloc _ _) | exact Ext.alloc _ _⟩
  · have hv : r = decide (n = 0) := by rw [← hr, ← hn]; rfl
    rw [← hv] at e0
    clear hr hn hb hv h e1 e255 hpn
    go_enter Tryz.func12, Tryz.ntmps12
    go_wp2_with (first | (go_at_call 21; refine (mode_any _ _).mono ?_; rintro e w' ⟨rfl, rfl⟩) | (go_at_call 23; refine (hpt.out _ (Ext.alloc _ _)).mono ?_; rintro e w2 ⟨⟨vb, v1, v2, v3, v4, v5, v6, rfl⟩, hE2⟩) | (go_at_call 10; refine (refUses_any _ _).mono ?_; rintro e w' ⟨rfl, rfl⟩))
    go_ret
    exact ⟨rfl, by first | exact ((Ext.alloc _ _).trans hE2).trans (Ext.alloc _ _) | exact Ext.alloc _ _⟩
  · have hv : r = decide (n = 0) := by rw [← hr, ← hn]; rfl
    rw [← hv] at e0
    clear hr hn hb hv h e1 e255 hpn
    go_enter Tryz.func12, Tryz.ntmps12
    go_wp2_with (first | (go_at_call 21; refine (mode_any _ _).mono ?_; rintro e w' ⟨rfl, rfl⟩) | (go_at_call 23; refine (hpt.out _ (Ext.alloc _ _)).mono ?_; rintro e w2 ⟨⟨vb, v1, v2, v3, v4, v5, v6, rfl⟩, hE2⟩) | (go_at_call 10; refine (refUses_any _ _).mono ?_; rintro e w' ⟨rfl, rfl⟩))
    go_ret
    exact ⟨rfl, by first | exact ((Ext.alloc _ _).trans hE2).trans (Ext.alloc _ _) | exact Ext.alloc _ _⟩
  · have hv : r = decide (n = 0) := by rw [← hr, ← hn]; rfl
    rw [← hv] at e0
    clear hr hn hb hv h e1 e255 hpn
    go_enter Tryz.func12, Tryz.ntmps12
    go_wp2_with (first | (go_at_call 21; refine (mode_any _ _).mono ?_; rintro e w' ⟨rfl, rfl⟩) | (go_at_call 23; refine (hpt.out _ (Ext.alloc _ _)).mono ?_; rintro e w2 ⟨⟨vb, v1, v2, v3, v4, v5, v6, rfl⟩, hE2⟩) | (go_at_call 10; refine (refUses_any _ _).mono ?_; rintro e w' ⟨rfl, rfl⟩))
    go_ret
    exact ⟨rfl, by first | exact ((Ext.alloc _ _).trans hE2).trans (Ext.alloc _ _) | exact Ext.alloc _ _⟩
  · have hv : r = decide (n = 0) := by rw [← hr, ← hn]; rfl
    rw [← hv] at e0
    clear hr hn hb hv h e1 e255 hpn
    go_enter Tryz.func12, Tryz.ntmps12
    go_wp2_with (first | (go_at_call 21; refine (mode_any _ _).mono ?_; rintro e w' ⟨rfl, rfl⟩) | (go_at_call 23; refine (hpt.out _ (Ext.alloc _ _)).mono ?_; rintro e w2 ⟨⟨vb, v1, v2, v3, v4, v5, v6, rfl⟩, hE2⟩) | (go_at_call 10; refine (refUses_any _ _).mono ?_; rintro e w' ⟨rfl, rfl⟩))
    go_ret
    exact ⟨rfl, by first | exact ((Ext.alloc _ _).trans hE2).trans (Ext.alloc _ _) | exact Ext.alloc _ _⟩
  · have hv : r = decide (n = 0) := by rw [← hr, ← hn]; rfl
    rw [← hv] at e0
    clear hr hn hb hv h e1 e255 hpn
    go_enter Tryz.func12, Tryz.ntmps12
    go_wp2_with (first | (go_at_call 21; refine (mode_any _ _).mono ?_; rintro e w' ⟨rfl, rfl⟩) | (go_at_call 23; refine (hpt.out _ (Ext.alloc _ _)).mono ?_; rintro e w2 ⟨⟨vb, v1, v2, v3, v4, v5, v6, rfl⟩, hE2⟩) | (go_at_call 10; refine (refUses_any _ _).mono ?_; rintro e w' ⟨rfl, rfl⟩))
    go_ret
    exact ⟨rfl, by first | exact ((Ext.alloc _ _).trans hE2).trans (Ext.alloc _ _) | exact Ext.alloc _ _⟩
  · have hv : r = decide (n = 0) := by rw [← hr, ← hn]; rfl
    rw [← hv] at e0
    clear hr hn hb hv h e1 e255 hpn
    go_enter Tryz.func12, Tryz.ntmps12
    go_wp2_with (first | (go_at_call 21; refine (mode_any _ _).mono ?_; rintro e w' ⟨rfl, rfl⟩) | (go_at_call 23; refine (hpt.out _ (Ext.alloc _ _)).mono ?_; rintro e w2 ⟨⟨vb, v1, v2, v3, v4, v5, v6, rfl⟩, hE2⟩) | (go_at_call 10; refine (refUses_any _ _).mono ?_; rintro e w' ⟨rfl, rfl⟩))
    go_ret
    exact ⟨rfl, by first | exact ((Ext.alloc _ _).trans hE2).trans (Ext.alloc _ _) | exact Ext.alloc _ _⟩
  · have hv : r = decide (n = 0) := by rw [← hr, ← hn]; rfl
    rw [← hv] at e0
    clear hr hn hb hv h e1 e255 hpn
    go_enter Tryz.func12, Tryz.ntmps12
    go_wp2_with (first | (go_at_call 21; refine (mode_any _ _).mono ?_; rintro e w' ⟨rfl, rfl⟩) | (go_at_call 23; refine (hpt.out _ (Ext.alloc _ _)).mono ?_; rintro e w2 ⟨⟨vb, v1, v2, v3, v4, v5, v6, rfl⟩, hE2⟩) | (go_at_call 10; refine (refUses_any _ _).mono ?_; rintro e w' ⟨rfl, rfl⟩))
    go_ret
    exact ⟨rfl, by first | exact ((Ext.alloc _ _).trans hE2).trans (Ext.alloc _ _) | exact Ext.alloc _ _⟩
  · have hv : r = decide (n = 0) := by rw [← hr, ← hn]; rfl
    rw [← hv] at e0
    clear hr hn hb hv h e1 e255 hpn
    go_enter Tryz.func12, Tryz.ntmps12
    go_wp2_with (first | (go_at_call 21; refine (mode_any _ _).mono ?_; rintro e w' ⟨rfl, rfl⟩) | (go_at_call 23; refine (hpt.out _ (Ext.alloc _ _)).mono ?_; rintro e w2 ⟨⟨vb, v1, v2, v3, v4, v5, v6, rfl⟩, hE2⟩) | (go_at_call 10; refine (refUses_any _ _).mono ?_; rintro e w' ⟨rfl, rfl⟩))
    go_ret
    exact ⟨rfl, by first | exact ((Ext.alloc _ _).trans hE2).trans (Ext.alloc _ _) | exact Ext.alloc _ _⟩
  · have hv : r = pointB bs := by rw [← hr]; rfl
    rw [← hv] at hpn
    clear hr hn hb hv h e0 e1 e255
    go_enter Tryz.func12, Tryz.ntmps12
    go_wp2_with (first | (go_at_call 21; refine (mode_any _ _).mono ?_; rintro e w' ⟨rfl, rfl⟩) | (go_at_call 23; refine (hpt.out _ (Ext.alloc _ _)).mono ?_; rintro e w2 ⟨⟨vb, v1, v2, v3, v4, v5, v6, rfl⟩, hE2⟩) | (go_at_call 10; refine (refUses_any _ _).mono ?_; rintro e w' ⟨rfl, rfl⟩))
    go_ret
    exact ⟨rfl, by first | exact ((Ext.alloc _ _).trans hE2).trans (Ext.alloc _ _) | exact Ext.alloc _ _⟩
  · have hv : r = decide (n = 0) := by rw [← hr, ← hn]; rfl
    rw [← hv] at e0
    clear hr hn hb hv h e1 e255 hpn
    go_enter Tryz.func12, Tryz.ntmps12
    go_wp2_with (first | (go_at_call 21; refine (mode_any _ _).mono ?_; rintro e w' ⟨rfl, rfl⟩) | (go_at_call 23; refine (hpt.out _ (Ext.alloc _ _)).mono ?_; rintro e w2 ⟨⟨vb, v1, v2, v3, v4, v5, v6, rfl⟩, hE2⟩) | (go_at_call 10; refine (refUses_any _ _).mono ?_; rintro e w' ⟨rfl, rfl⟩))
    go_ret
    exact ⟨rfl, by first | exact ((Ext.alloc _ _).trans hE2).trans (Ext.alloc _ _) | exact Ext.alloc _ _⟩
  · exact absurd (.inl hk) h
  · exact absurd (.inr (.inl hk)) h
  · exact absurd (.inr (.inr (.inl hk))) h
  · exact absurd (.inr (.inr (.inr (.inl hk)))) h
  · exact absurd (.inr (.inr (.inr (.inr hk)))) h
  · have hv : r = decide (n = 0) := by rw [← hr, ← hn]; rfl
    rw [← hv] at e0
    clear hr hn hb hv h e1 e255 hpn
    go_enter Tryz.func12, Tryz.ntmps12
    go_wp2_with (first | (go_at_call 21; refine (mode_any _ _).mono ?_; rintro e w' ⟨rfl, rfl⟩) | (go_at_call 23; refine (hpt.out _ (Ext.alloc _ _)).mono ?_; rintro e w2 ⟨⟨vb, v1, v2, v3, v4, v5, v6, rfl⟩, hE2⟩) | (go_at_call 10; refine (refUses_any _ _).mono ?_; rintro e w' ⟨rfl, rfl⟩))
    go_ret
    exact ⟨rfl, by first | exact ((Ext.alloc _ _).trans hE2).trans (Ext.alloc _ _) | exact Ext.alloc _ _⟩
  · have hv : r = decide (n = 0) := by rw [← hr, ← hn]; rfl
    rw [← hv] at e0
    clear hr hn hb hv h e1 e255 hpn
    go_enter Tryz.func12, Tryz.ntmps12
    go_wp2_with (first | (go_at_call 21; refine (mode_any _ _).mono ?_; rintro e w' ⟨rfl, rfl⟩) | (go_at_call 23; refine (hpt.out _ (Ext.alloc _ _)).mono ?_; rintro e w2 ⟨⟨vb, v1, v2, v3, v4, v5, v6, rfl⟩, hE2⟩) | (go_at_call 10; refine (refUses_any _ _).mono ?_; rintro e w' ⟨rfl, rfl⟩))
    go_ret
    exact ⟨rfl, by first | exact ((Ext.alloc _ _).trans hE2).trans (Ext.alloc _ _) | exact Ext.alloc _ _⟩
  · have hv : r = false := by rw [← hr, parB, if_pos (by rw [hm])]
    subst hv
    have hu : (mechOf kind).uses = 0 := by rw [hm]
    clear hr hn hb h e0 e1 e255 hpn hm
    go_enter Tryz.func12, Tryz.ntmps12
    go_wp2_with (first | (go_at_call 21; refine (mode_any _ _).mono ?_; rintro e w' ⟨rfl, rfl⟩) | (go_at_call 23; refine (hpt.out _ (Ext.alloc _ _)).mono ?_; rintro e w2 ⟨⟨vb, v1, v2, v3, v4, v5, v6, rfl⟩, hE2⟩) | (go_at_call 10; refine (refUses_any _ _).mono ?_; rintro e w' ⟨rfl, rfl⟩))
    go_ret
    exact ⟨rfl, Ext.alloc _ _⟩
end Go.Proofs.YtldhmjfjbalakaaGreat

namespace Go.Proofs.YtldhmjfjbalakaaGreat
open Go.RowKit Mc

theorem RB.take_ {w : World} {P : Nat → Prop} {A : Option Addr} {c : Nat} {bs : List Nat} (h : RB w P A c bs) (n : Nat) : RB w P A c (bs.take n) := by
  by_cases hn : n ≤ bs.length
  · have := h.1.pre hn
    rw [Nat.mul_one] at this
    refine ⟨?_, fun b hb => h.2.1 b (List.mem_of_mem_take hb), by rw [List.length_take]; have := h.2.2; omega⟩
    rw [List.length_take, Nat.min_eq_left hn]
    have e : bys (bs.take n) = (bys bs).take n := by simp [bys]
    rw [e]; exact this
  · rw [List.take_of_length_le (by omega)]; exact h
set_option maxHeartbeats 400000 in
theorem short_g (P : Nat → Prop) (A : Option Addr) (c n : Nat) (bs : List Nat) (w : World) (h : RB w P A c bs) (hn : n ≤ 4611686018427387904) :
    Calls Tryz.prog 19 #[.slice A bs.length c, .int .i64 n] w fun e w' => e = .returned (.slice A (bs.take n).length c) ∧ w = w' := by
  obtain ⟨h1, h2, h3⟩ := h.cap
  by_cases hlt : n < bs.length
  · have e : (bs.take n).length = n := by simp; omega
    rw [e]
    clear e
    go_enter Tryz.func19, Tryz.ntmps19
    go_wp2
    go_ret
    exact ⟨rfl, rfl⟩
  · have e : (bs.take n).length = bs.length := by simp; omega
    rw [e]
    clear e
    go_enter Tryz.func19, Tryz.ntmps19
    go_wp2
    go_ret
    exact ⟨rfl, rfl⟩
theorem infoM : (Tryz.prog.info? 24).map (·.size) = some 2 := by kernel_rfl
theorem mech_one (k : Int) (A : Option Addr) (n c : Nat) : (#[Value.int .i64 k, .slice A n c] : Array Value).all (·.oneCell') = true := by simp [Value.oneCell']
theorem end_m {fn : Func} {R : Ending → World → Prop} {a : Act} {W : World} {p : Tmp} {g : Nat} {ty : TypeId} {fr : Nat × Nat} {x0 x1 : Value} (hr : fn.results = #[.cell p 24]) (hp : a.tmps.getD p undef = .pointer (some ⟨g, 0, none⟩)) (hd : a.defers = [])
    (hg : W.heap[g]? = some (.cells #[x0, x1] ty fr)) (hR : R (.returned (.agg #[x0, x1])) W) : bodyPost Tryz.prog fn R .ret a W :=
  bodyPost_ret (results_cell_row hr a.tmps W g _ _ _ _ hp hg Tryz.underlying24 rfl infoM) hd hR
theorem two_at' (w : World) (o1 o2 : Obj) : ((w.alloc o1).alloc o2).heap[w.heap.size]? = some o1 ∧ ((w.alloc o1).alloc o2).heap[w.heap.size + 1]? = some o2 ∧ ((w.alloc o1).alloc o2).heap.size = w.heap.size + 2 := two_at w o1 o2
set_option maxRecDepth 100000 in
set_option maxHeartbeats 4000000 in
theorem mechOfLaw_any (kind : Int) (P : Nat → Prop) (A : Option Addr) (c : Nat) (bs : List Nat) (w : World) (hb : RB w P A c bs) (hP : ∀ b, P b → b < w.heap.size) :
    Calls Tryz.prog 6 #[.agg #[.int .i64 kind, .slice A bs.length c]] w fun e w' => e = .returned (.agg #[.int .i64 kind, .slice A (bs.take 300).length c]) ∧ Ext w w' := by
  have hs := Lib.hid (fun X (hX : Ext w X) => short_g P A c 300 bs X (hb.below hX hP) (by omega))
  obtain ⟨n, hn⟩ : ∃ n, bs.length = n := ⟨_, rfl⟩
  obtain ⟨m, hm⟩ : ∃ m, (bs.take 300).length = m := ⟨_, rfl⟩
  rw [hn, hm] at hs
  rw [hn, hm]
  obtain ⟨W0, hW0⟩ : ∃ W0, W0 = (w.alloc (.cells #[.int .i64 kind, .slice A n c] 24)).alloc (.cells #[.int .i64 0, .slice none 0 0] 24) := ⟨_, rfl⟩
  obtain ⟨q, hq⟩ : ∃ q, w.heap.size = q := ⟨_, rfl⟩
  obtain ⟨g1, g2, g3⟩ := two_at w (.cells #[.int .i64 kind, .slice A n c] 24) (.cells #[.int .i64 0, .slice none 0 0] 24)
  rw [← hW0, hq] at g1 g2 g3
  have hE0 : Ext w W0 := by rw [hW0]; exact (Ext.alloc _ _).trans (Ext.alloc _ _)
  have b0 : W0.cell? ⟨q, 0, none⟩ = some (.int .i64 kind) := blk_cell g1 0
  have b1 : W0.cell? ⟨q, 1, none⟩ = some (.slice A n c) := blk_cell g1 1
  have HE0 := Lib.hid hE0
  have G3 := Lib.hid g3
  clear hn hm hE0 hb hP g3
  go_enter Tryz.func6, Tryz.ntmps6
  go_upto_region 1 with fail
  rw [← hW0]
  have Hq := Lib.hid hq
  clear hW0 hq
  refine Par.region_ext (by kernel_rfl) 6 [0, 1, 0, 4, 12, 31, 63] [] (fun j f X => match j with
    | 0 => f 0 = .pointer (some ⟨q, 0, none⟩)
    | 1 => f 1 = .int .i64 kind
    | 2 => f 2 = .pointer (some ⟨q, 1, none⟩)
    | 3 => f 3 = .slice A n c
    | 4 => f 4 = .slice A m c
    | 5 => f 5 = .agg #[.int .i64 kind, .slice A m c]
    | _ => True) (by kernel_rfl) [(3, 0), (4, 1), (5, 2), (6, 3), (7, 4), (8, 5)] (by kernel_rfl) ?_
  refine Par.AllOps.cons 1 5 rfl rfl (Par.StepO.intro [(5, 2), (6, 3), (7, 4)] (by kernel_rfl) (fun f X hX hR K hK => ?_)) ?_
  · simp only [Par.putL, Act.put, List.setIfInBounds_toArray, List.set_cons_succ, List.set_cons_zero]
    refine ⟨?_⟩
    go_simp
    exact hK.out _ (.pointer (some ⟨q, 0, none⟩)) _ (by simp only [Par.putL, Act.put, List.setIfInBounds_toArray, List.set_cons_succ, List.set_cons_zero]) (Ext.refl _) trivial (fun _ _ => rfl)
  refine Par.AllOps.cons 2 4 rfl rfl (Par.StepO.intro [(3, 0), (5, 2), (6, 3), (7, 4)] (by kernel_rfl) (fun f X hX hR K hK => ?_)) ?_
  · have e0 : f 0 = .pointer (some ⟨q, 0, none⟩) := hR.out 0 rfl
    have x0 := hX.cell b0
    simp only [Par.putL, Act.put, List.setIfInBounds_toArray, List.set_cons_succ, List.set_cons_zero, e0]
    refine ⟨?_⟩
    go_simp
    exact hK.out _ (.int .i64 kind) _ (by simp only [Par.putL, Act.put, List.setIfInBounds_toArray, List.set_cons_succ, List.set_cons_zero, e0]) (Ext.refl _) trivial (fun _ _ => rfl)
  refine Par.AllOps.cons 3 3 rfl rfl (Par.StepO.intro [(3, 0), (4, 1)] (by kernel_rfl) (fun f X hX hR K hK => ?_)) ?_
  · simp only [Par.putL, Act.put, List.setIfInBounds_toArray, List.set_cons_succ, List.set_cons_zero]
    refine ⟨?_⟩
    go_simp
    exact hK.out _ (.pointer (some ⟨q, 1, none⟩)) _ (by simp only [Par.putL, Act.put, List.setIfInBounds_toArray, List.set_cons_succ, List.set_cons_zero]) (Ext.refl _) trivial (fun _ _ => rfl)
  refine Par.AllOps.cons 4 2 rfl rfl (Par.StepO.intro [(3, 0), (4, 1), (5, 2)] (by kernel_rfl) (fun f X hX hR K hK => ?_)) ?_
  · have e2 : f 2 = .pointer (some ⟨q, 1, none⟩) := hR.out 2 rfl
    have x0 := hX.cell b1
    simp only [Par.putL, Act.put, List.setIfInBounds_toArray, List.set_cons_succ, List.set_cons_zero, e2]
    refine ⟨?_⟩
    go_simp
    exact hK.out _ (.slice A n c) _ (by simp only [Par.putL, Act.put, List.setIfInBounds_toArray, List.set_cons_succ, List.set_cons_zero, e2]) (Ext.refl _) trivial (fun _ _ => rfl)
  refine Par.AllOps.cons 5 1 rfl rfl (Par.StepO.intro [(3, 0), (4, 1), (5, 2), (6, 3)] (by kernel_rfl) (fun f X hX hR K hK => ?_)) ?_
  · have e3 : f 3 = .slice A n c := hR.out 3 rfl
    simp only [Par.putL, Act.put, List.setIfInBounds_toArray, List.set_cons_succ, List.set_cons_zero, e3]
    refine ⟨?_⟩
    go_simp
    refine (hs.out X (HE0.out.trans hX)).mono ?_
    rintro e w' ⟨rfl, rfl⟩
    exact hK.out _ (.slice A m c) _ (by simp only [Par.putL, Act.put, List.setIfInBounds_toArray, List.set_cons_succ, List.set_cons_zero, e3]) (Ext.refl _) trivial (fun _ _ => rfl)
  refine Par.AllOps.cons 6 0 rfl rfl (Par.StepO.intro [(3, 0), (4, 1), (5, 2), (6, 3), (7, 4)] (by kernel_rfl) (fun f X hX hR K hK => ?_)) ?_
  · have e1 : f 1 = .int .i64 kind := hR.out 1 rfl
    have e4 : f 4 = .slice A m c := hR.out 4 rfl
    simp only [Par.putL, Act.put, List.setIfInBounds_toArray, List.set_cons_succ, List.set_cons_zero, e1, e4]
    refine ⟨?_⟩
    go_simp
    exact hK.out _ (.agg #[.int .i64 kind, .slice A m c]) _ (by simp only [Par.putL, Act.put, List.setIfInBounds_toArray, List.set_cons_succ, List.set_cons_zero, e1, e4]) (Ext.refl _) trivial (fun _ _ => rfl)
  refine Par.AllOps.fin ⟨fun f X hX hR hal hap => ?_⟩
  have e0 : f 0 = .pointer (some ⟨q, 0, none⟩) := hR 0 (by decide)
  have e1 : f 1 = .int .i64 kind := hR 1 (by decide)
  have e2 : f 2 = .pointer (some ⟨q, 1, none⟩) := hR 2 (by decide)
  have e3 : f 3 = .slice A n c := hR 3 (by decide)
  have e4 : f 4 = .slice A m c := hR 4 (by decide)
  have e5 : f 5 = .agg #[.int .i64 kind, .slice A m c] := hR 5 (by decide)
  simp only [Par.putL, Act.put, List.setIfInBounds_toArray, List.set_cons_succ, List.set_cons_zero, e0, e1, e2, e3, e4, e5]
  clear hR hal hap e0 e1 e2 e3 e4 e5
  refine Par.Chain.next (fun K hK => ⟨Par.want (by kernel_rfl) (wp_storeV 24 (.tmp 2) (.tmp 8) rfl rfl rfl rfl (hX.at_ g2) infoM rfl (mech_one _ _ _ _) (fun Y1 j1 j2 j3 => hK.out _ _ ?_))⟩)
  refine Par.Chain.done ?_
  go_wp2
  exact end_m rfl rfl rfl j1 ⟨rfl, j2.ext (HE0.out.trans hX) (by have := Hq.out; omega)⟩
set_option maxRecDepth 100000 in
set_option maxHeartbeats 8000000 in
theorem mechTable_any (kind : Int) (P : Nat → Prop) (A : Option Addr) (c : Nat) (bs : List Nat) (w : World) (hb : RB w P A c bs) (hP : ∀ b, P b → b < w.heap.size) :
    Calls Tryz.prog 3 #[.agg #[.int .i64 kind, .slice A bs.length c]] w fun e w' => e = .returned (.bool true) ∧ Ext w w' := by
  have hme := Lib.hid (fun X (hX : Ext w X) => mechOfLaw_any kind P A c bs X (hb.below hX hP) (fun b hb => Nat.lt_of_lt_of_le (hP b hb) hX.bsize))
  obtain ⟨bt, hbt⟩ : ∃ bt, bs.take 300 = bt := ⟨_, rfl⟩
  rw [hbt] at hme
  have hb2 : RB w P A c bt := hbt ▸ hb.take_ 300
  have hpa := Lib.hid (fun X (hX : Ext w X) => param_g kind P A c bt X (hb2.below hX hP) (fun b hb => Nat.lt_of_lt_of_le (hP b hb) hX.bsize))
  have hpr := Lib.hid (fun X (hX : Ext w X) => refParam_any kind P A c bt X (hb2.below hX hP) (fun b hb => Nat.lt_of_lt_of_le (hP b hb) hX.bsize))
  obtain ⟨n, hn⟩ : ∃ n, bs.length = n := ⟨_, rfl⟩
  obtain ⟨m, hm⟩ : ∃ m, bt.length = m := ⟨_, rfl⟩
  obtain ⟨pb, hpb⟩ : ∃ pb, parB kind bt = pb := ⟨_, rfl⟩
  rw [hpb] at hpa hpr
  rw [hm] at hpa hpr
  rw [hm, hn] at hme
  rw [hn]
  have hus := Lib.hid (fun X => uses_g kind X)
  have hur := Lib.hid (fun X => refUses_any kind X)
  have hmu := Lib.hid (fun X => multi_g kind X)
  have hmr := Lib.hid (fun X => refMulti_any kind X)
  have hky := Lib.hid (fun X => key_g kind X)
  have hkr := Lib.hid (fun X => refKey_any kind X)
  obtain ⟨u, hu⟩ : ∃ u, (mechOf kind).uses = u := ⟨_, rfl⟩
  obtain ⟨mu, hmul⟩ : ∃ mu, (mechOf kind).multi = mu := ⟨_, rfl⟩
  obtain ⟨k1, hk1⟩ : ∃ k1, (keyP kind).1 = k1 := ⟨_, rfl⟩
  obtain ⟨k2, hk2⟩ : ∃ k2, (keyP kind).2 = k2 := ⟨_, rfl⟩
  rw [hu] at hus hur
  rw [hmul] at hmu hmr
  rw [hk1, hk2] at hky hkr
  have hP' := Lib.hid hP
  clear hbt hb hb2 hn hm hpb hu hmul hk1 hk2 hP
  obtain ⟨q, hq⟩ : ∃ q, w.heap.size = q := ⟨_, rfl⟩
  have hE0 := Ext.alloc w (.cells #[.int .i64 kind, .slice A n c] 24)
  have hc0 := heap_alloc_new w (.cells #[.int .i64 kind, .slice A n c] 24)
  rw [hq] at hc0
  have Hq := Lib.hid hq
  obtain ⟨W0, hW0⟩ : ∃ W0, W0 = w.alloc (.cells #[.int .i64 kind, .slice A n c] 24) := ⟨_, rfl⟩
  rw [← hW0] at hE0 hc0
  go_enter Tryz.func3, Tryz.ntmps3
  go_upto_region 2 with (go_at_call 5; refine (mbegun_any _).mono ?_; rintro e w1 ⟨rfl, hB1⟩)
  rw [← hW0] at hB1
  clear hW0 hq
  have hc1 : w1.heap[q]? = some (.cells #[.int .i64 kind, .slice A n c] 24 (0, 0)) := Ext.at_ hB1 hc0
  have hE1 : Ext w w1 := hE0.trans hB1
  clear hE0 hB1 hc0
  refine Par.region_txt 2 [0, 1, 3] [] (fun j f X => match j with
    | 0 => f 0 = .agg #[.int .i64 kind, .slice A n c]
    | 1 => f 1 = .agg #[.int .i64 kind, .slice A m c]
    | _ => True) (by kernel_rfl) [(9, 0), (10, 1)] (by kernel_rfl) ?_
  refine Par.AllOps.cons 1 1 rfl rfl (Par.StepO.intro [] (by kernel_rfl) (fun f X hX hR K hK => ?_)) ?_
  · simp only [Par.putL, Act.put, List.setIfInBounds_toArray, List.set_cons_succ, List.set_cons_zero]
    refine ⟨Par.want (by kernel_rfl) (wp_loadV 24 (.tmp 1) rfl rfl (hX.at_ hc1) Tryz.underlying24 rfl infoM rfl ?_)⟩
    exact hK.out _ (.agg #[.int .i64 kind, .slice A n c]) _ (by simp only [Par.putL, Act.put, List.setIfInBounds_toArray, List.set_cons_succ, List.set_cons_zero]) (Ext.refl _) trivial (fun _ _ => rfl)
  refine Par.AllOps.cons 2 0 rfl rfl (Par.StepO.intro [(9, 0)] (by kernel_rfl) (fun f X hX hR K hK => ?_)) ?_
  · have e0 : f 0 = .agg #[.int .i64 kind, .slice A n c] := hR.out 0 rfl
    simp only [Par.putL, Act.put, List.setIfInBounds_toArray, List.set_cons_succ, List.set_cons_zero, e0]
    refine ⟨?_⟩
    go_simp
    refine (hme.out X (hE1.trans hX)).mono ?_
    rintro e w' ⟨rfl, hB⟩
    exact hK.out _ (.agg #[.int .i64 kind, .slice A m c]) _ (by simp only [Par.putL, Act.put, List.setIfInBounds_toArray, List.set_cons_succ, List.set_cons_zero, e0]) hB trivial (fun _ _ => rfl)
  refine Par.AllOps.fin ⟨fun f X hX hR hal hap => ?_⟩
  have e0 : f 0 = .agg #[.int .i64 kind, .slice A n c] := hR 0 (by decide)
  have e1 : f 1 = .agg #[.int .i64 kind, .slice A m c] := hR 1 (by decide)
  simp only [Par.putL, Act.put, List.setIfInBounds_toArray, List.set_cons_succ, List.set_cons_zero, e0, e1]
  clear hR hal hap e0 e1
  refine Par.Chain.next (fun K hK => ⟨Par.want (by kernel_rfl) (wp_storeV 24 (.tmp 1) (.tmp 10) rfl rfl rfl rfl (hX.at_ hc1) infoM rfl (mech_one _ _ _ _) (fun Y1 j1 j2 j3 => hK.out _ _ ?_))⟩)
  refine Par.Chain.done ?_
  have hE2 : Ext w Y1 := j2.ext (hE1.trans hX) (by have := Hq.out; omega)
  clear j2 j3 hX hE1 hc1
  have y0 := blk_cell j1 0
  have y1 := blk_cell j1 1
  simp only [List.getElem?_toArray, List.getElem?_cons_zero, List.getElem?_cons_succ] at y0 y1
  go_upto_region 5 with (first
    | (go_at_call 7; refine (hky.out _).mono ?_; rintro e w3 ⟨rfl, hB3⟩; have j3 := hB3.at_ j1; have z0 := blk_cell j3 0; have z1 := blk_cell j3 1; simp only [List.getElem?_toArray, List.getElem?_cons_zero, List.getElem?_cons_succ] at z0 z1)
    | (go_at_call 8; refine (hkr.out _).mono ?_; rintro e w' ⟨rfl, rfl⟩))
  have hE3 := hE2.trans hB3
  clear hE2 hB3 j1 y0 y1
  refine Par.region_ext (by kernel_rfl) 37 [0, 1, 3, 7, 15, 3, 35, 127, 255, 511, 1023, 2047, 2047, 8191, 16383, 32767, 65535, 65535, 262143, 524287, 1048575, 2097151, 4194303, 2097151, 16777215, 33554431, 67108863, 134217727, 268435455, 536870911, 1073741823, 268435455, 2415919103, 8589934591, 17179869183, 34359738367, 68719476735] [] (fun j f X => match j with
    | 0 => f 0 = .bool true
    | 1 => f 1 = .bool true
    | 2 => f 2 = .pointer (some ⟨q, 0, none⟩)
    | 3 => f 3 = .int .i64 kind
    | 4 => f 4 = .int .i64 u
    | 5 => f 5 = .pointer (some ⟨q, 0, none⟩)
    | 6 => f 6 = .int .i64 kind
    | 7 => f 7 = .int .i64 u
    | 8 => f 8 = .bool true
    | 9 => f 9 = .bool true
    | 10 => f 10 = .bool true
    | 11 => f 11 = .bool k2
    | 12 => f 12 = .bool k2
    | 13 => f 13 = .bool true
    | 14 => f 14 = .bool true
    | 15 => f 15 = .bool true
    | 16 => f 16 = .int .i64 k1
    | 17 => f 17 = .int .i64 k1
    | 18 => f 18 = .bool true
    | 19 => f 19 = .bool true
    | 20 => f 20 = .bool true
    | 21 => f 21 = .agg #[.int .i64 kind, .slice A m c]
    | 22 => f 22 = .bool pb
    | 23 => f 23 = .agg #[.int .i64 kind, .slice A m c]
    | 24 => f 24 = .bool pb
    | 25 => f 25 = .bool true
    | 26 => f 26 = .bool true
    | 27 => f 27 = .bool true
    | 28 => f 28 = .pointer (some ⟨q, 0, none⟩)
    | 29 => f 29 = .int .i64 kind
    | 30 => f 30 = .bool mu
    | 31 => f 31 = .pointer (some ⟨q, 0, none⟩)
    | 32 => f 32 = .int .i64 kind
    | 33 => f 33 = .bool mu
    | 34 => f 34 = .bool true
    | 35 => f 35 = .bool true
    | 36 => f 36 = .bool true
    | _ => True) (by kernel_rfl) [(23, 0), (24, 1), (25, 2), (26, 3), (27, 4), (28, 5), (29, 6), (30, 7), (31, 8), (32, 9), (33, 10), (34, 11), (35, 12), (36, 13), (37, 14), (38, 15), (39, 16), (40, 17), (41, 18), (42, 19), (43, 20), (44, 21), (45, 22), (46, 23), (47, 24), (48, 25), (49, 26), (50, 27), (51, 28), (52, 29), (53, 30), (54, 31), (55, 32), (56, 33), (57, 34), (58, 35), (2, 36)] (by kernel_rfl) ?_
  refine Par.AllOps.cons 1 36 rfl rfl (Par.StepO.intro [] (by kernel_rfl) (fun f X hX hR K hK => ?_)) ?_
  · simp only [Par.putL, Act.put, List.setIfInBounds_toArray, List.set_cons_succ, List.set_cons_zero]
    refine ⟨?_⟩
    go_simp
    exact hK.out _ (.bool true) _ (by simp only [Par.putL, Act.put, List.setIfInBounds_toArray, List.set_cons_succ, List.set_cons_zero]) (Ext.refl _) trivial (fun _ _ => rfl)
  refine Par.AllOps.cons 2 35 rfl rfl (Par.StepO.intro [(23, 0)] (by kernel_rfl) (fun f X hX hR K hK => ?_)) ?_
  · have e0 : f 0 = .bool true := hR.out 0 rfl
    simp only [Par.putL, Act.put, List.setIfInBounds_toArray, List.set_cons_succ, List.set_cons_zero, e0]
    refine ⟨?_⟩
    go_simp
    exact hK.out _ (.bool true) _ (by simp only [Par.putL, Act.put, List.setIfInBounds_toArray, List.set_cons_succ, List.set_cons_zero, e0]) (Ext.refl _) trivial (fun _ _ => rfl)
  refine Par.AllOps.cons 3 34 rfl rfl (Par.StepO.intro [(23, 0), (24, 1), (28, 5), (29, 6)] (by kernel_rfl) (fun f X hX hR K hK => ?_)) ?_
  · have e1 : f 1 = .bool true := hR.out 1 rfl
    simp only [Par.putL, Act.put, List.setIfInBounds_toArray, List.set_cons_succ, List.set_cons_zero, e1]
    refine ⟨Par.want (by kernel_rfl) ?_⟩
    go_simp
    exact hK.out _ (.pointer (some ⟨q, 0, none⟩)) _ (by simp only [Par.putL, Act.put, List.setIfInBounds_toArray, List.set_cons_succ, List.set_cons_zero, e1]) (Ext.refl _) trivial (fun _ _ => rfl)
  refine Par.AllOps.cons 4 33 rfl rfl (Par.StepO.intro [(23, 0), (24, 1), (25, 2), (28, 5), (29, 6)] (by kernel_rfl) (fun f X hX hR K hK => ?_)) ?_
  · have e1 : f 1 = .bool true := hR.out 1 rfl
    have e2 : f 2 = .pointer (some ⟨q, 0, none⟩) := hR.out 2 rfl
    have x0 := hX.cell z0
    simp only [Par.putL, Act.put, List.setIfInBounds_toArray, List.set_cons_succ, List.set_cons_zero, e1, e2]
    refine ⟨Par.want (by kernel_rfl) ?_⟩
    go_simp
    exact hK.out _ (.int .i64 kind) _ (by simp only [Par.putL, Act.put, List.setIfInBounds_toArray, List.set_cons_succ, List.set_cons_zero, e1, e2]) (Ext.refl _) trivial (fun _ _ => rfl)
  refine Par.AllOps.cons 5 32 rfl rfl (Par.StepO.intro [(23, 0), (24, 1), (25, 2), (26, 3), (28, 5), (29, 6)] (by kernel_rfl) (fun f X hX hR K hK => ?_)) ?_
  · have e1 : f 1 = .bool true := hR.out 1 rfl
    have e3 : f 3 = .int .i64 kind := hR.out 3 rfl
    simp only [Par.putL, Act.put, List.setIfInBounds_toArray, List.set_cons_succ, List.set_cons_zero, e1, e3]
    refine ⟨Par.want (by kernel_rfl) ?_⟩
    go_simp
    refine (hus.out X).mono ?_
    rintro e w' ⟨rfl, hB⟩
    exact hK.out _ (.int .i64 u) _ (by simp only [Par.putL, Act.put, List.setIfInBounds_toArray, List.set_cons_succ, List.set_cons_zero, e1, e3]) hB trivial (fun _ _ => rfl)
  refine Par.AllOps.cons 6 31 rfl rfl (Par.StepO.intro [(23, 0), (24, 1), (25, 2), (26, 3), (27, 4)] (by kernel_rfl) (fun f X hX hR K hK => ?_)) ?_
  · have e1 : f 1 = .bool true := hR.out 1 rfl
    simp only [Par.putL, Act.put, List.setIfInBounds_toArray, List.set_cons_succ, List.set_cons_zero, e1]
    refine ⟨Par.want (by kernel_rfl) ?_⟩
    go_simp
    exact hK.out _ (.pointer (some ⟨q, 0, none⟩)) _ (by simp only [Par.putL, Act.put, List.setIfInBounds_toArray, List.set_cons_succ, List.set_cons_zero, e1]) (Ext.refl _) trivial (fun _ _ => rfl)
  refine Par.AllOps.cons 7 30 rfl rfl (Par.StepO.intro [(23, 0), (24, 1), (25, 2), (26, 3), (27, 4), (28, 5)] (by kernel_rfl) (fun f X hX hR K hK => ?_)) ?_
  · have e1 : f 1 = .bool true := hR.out 1 rfl
    have e5 : f 5 = .pointer (some ⟨q, 0, none⟩) := hR.out 5 rfl
    have x0 := hX.cell z0
    simp only [Par.putL, Act.put, List.setIfInBounds_toArray, List.set_cons_succ, List.set_cons_zero, e1, e5]
    refine ⟨Par.want (by kernel_rfl) ?_⟩
    go_simp
    exact hK.out _ (.int .i64 kind) _ (by simp only [Par.putL, Act.put, List.setIfInBounds_toArray, List.set_cons_succ, List.set_cons_zero, e1, e5]) (Ext.refl _) trivial (fun _ _ => rfl)
  refine Par.AllOps.cons 8 29 rfl rfl (Par.StepO.intro [(23, 0), (24, 1), (25, 2), (26, 3), (27, 4), (28, 5), (29, 6)] (by kernel_rfl) (fun f X hX hR K hK => ?_)) ?_
  · have e1 : f 1 = .bool true := hR.out 1 rfl
    have e6 : f 6 = .int .i64 kind := hR.out 6 rfl
    simp only [Par.putL, Act.put, List.setIfInBounds_toArray, List.set_cons_succ, List.set_cons_zero, e1, e6]
    refine ⟨Par.want (by kernel_rfl) ?_⟩
    go_simp
    refine (hur.out X).mono ?_
    rintro e w' ⟨rfl, rfl⟩
    exact hK.out _ (.int .i64 u) _ (by simp only [Par.putL, Act.put, List.setIfInBounds_toArray, List.set_cons_succ, List.set_cons_zero, e1, e6]) (Ext.refl _) trivial (fun _ _ => rfl)
  refine Par.AllOps.cons 9 28 rfl rfl (Par.StepO.intro [(23, 0), (24, 1), (25, 2), (26, 3), (27, 4), (28, 5), (29, 6), (30, 7)] (by kernel_rfl) (fun f X hX hR K hK => ?_)) ?_
  · have e1 : f 1 = .bool true := hR.out 1 rfl
    have e4 : f 4 = .int .i64 u := hR.out 4 rfl
    have e7 : f 7 = .int .i64 u := hR.out 7 rfl
    simp only [Par.putL, Act.put, List.setIfInBounds_toArray, List.set_cons_succ, List.set_cons_zero, e1, e4, e7]
    refine ⟨Par.want (by kernel_rfl) ?_⟩
    go_simp
    exact hK.out _ (.bool true) _ (by simp only [Par.putL, Act.put, List.setIfInBounds_toArray, List.set_cons_succ, List.set_cons_zero, e1, e4, e7]) (Ext.refl _) trivial (fun _ _ => rfl)
  refine Par.AllOps.cons 10 27 rfl rfl (Par.StepO.intro [(23, 0), (24, 1), (25, 2), (26, 3), (27, 4), (28, 5), (29, 6), (30, 7), (31, 8)] (by kernel_rfl) (fun f X hX hR K hK => ?_)) ?_
  · have e1 : f 1 = .bool true := hR.out 1 rfl
    have e8 : f 8 = .bool true := hR.out 8 rfl
    simp only [Par.putL, Act.put, List.setIfInBounds_toArray, List.set_cons_succ, List.set_cons_zero, e1, e8]
    refine ⟨?_⟩
    go_simp
    exact hK.out _ (.bool true) _ (by simp only [Par.putL, Act.put, List.setIfInBounds_toArray, List.set_cons_succ, List.set_cons_zero, e1, e8]) (Ext.refl _) trivial (fun _ _ => rfl)
  refine Par.AllOps.cons 11 26 rfl rfl (Par.StepO.intro [(23, 0), (24, 1), (25, 2), (26, 3), (27, 4), (28, 5), (29, 6), (30, 7), (31, 8), (32, 9)] (by kernel_rfl) (fun f X hX hR K hK => ?_)) ?_
  · have e9 : f 9 = .bool true := hR.out 9 rfl
    simp only [Par.putL, Act.put, List.setIfInBounds_toArray, List.set_cons_succ, List.set_cons_zero, e9]
    refine ⟨?_⟩
    go_simp
    exact hK.out _ (.bool true) _ (by simp only [Par.putL, Act.put, List.setIfInBounds_toArray, List.set_cons_succ, List.set_cons_zero, e9]) (Ext.refl _) trivial (fun _ _ => rfl)
  refine Par.AllOps.cons 12 25 rfl rfl (Par.StepO.intro [(23, 0), (24, 1), (25, 2), (26, 3), (27, 4), (28, 5), (29, 6), (30, 7), (31, 8), (32, 9), (33, 10), (35, 12)] (by kernel_rfl) (fun f X hX hR K hK => ?_)) ?_
  · have e10 : f 10 = .bool true := hR.out 10 rfl
    simp only [Par.putL, Act.put, List.setIfInBounds_toArray, List.set_cons_succ, List.set_cons_zero, e10]
    refine ⟨Par.want (by kernel_rfl) ?_⟩
    go_simp
    exact hK.out _ (.bool k2) _ (by simp only [Par.putL, Act.put, List.setIfInBounds_toArray, List.set_cons_succ, List.set_cons_zero, e10]) (Ext.refl _) trivial (fun _ _ => rfl)
  refine Par.AllOps.cons 13 24 rfl rfl (Par.StepO.intro [(23, 0), (24, 1), (25, 2), (26, 3), (27, 4), (28, 5), (29, 6), (30, 7), (31, 8), (32, 9), (33, 10), (34, 11)] (by kernel_rfl) (fun f X hX hR K hK => ?_)) ?_
  · have e10 : f 10 = .bool true := hR.out 10 rfl
    simp only [Par.putL, Act.put, List.setIfInBounds_toArray, List.set_cons_succ, List.set_cons_zero, e10]
    refine ⟨Par.want (by kernel_rfl) ?_⟩
    go_simp
    exact hK.out _ (.bool k2) _ (by simp only [Par.putL, Act.put, List.setIfInBounds_toArray, List.set_cons_succ, List.set_cons_zero, e10]) (Ext.refl _) trivial (fun _ _ => rfl)
  refine Par.AllOps.cons 14 23 rfl rfl (Par.StepO.intro [(23, 0), (24, 1), (25, 2), (26, 3), (27, 4), (28, 5), (29, 6), (30, 7), (31, 8), (32, 9), (33, 10), (34, 11), (35, 12)] (by kernel_rfl) (fun f X hX hR K hK => ?_)) ?_
  · have e10 : f 10 = .bool true := hR.out 10 rfl
    have e11 : f 11 = .bool k2 := hR.out 11 rfl
    have e12 : f 12 = .bool k2 := hR.out 12 rfl
    simp only [Par.putL, Act.put, List.setIfInBounds_toArray, List.set_cons_succ, List.set_cons_zero, e10, e11, e12]
    refine ⟨Par.want (by kernel_rfl) ?_⟩
    go_simp
    exact hK.out _ (.bool true) _ (by simp only [Par.putL, Act.put, List.setIfInBounds_toArray, List.set_cons_succ, List.set_cons_zero, e10, e11, e12]) (Ext.refl _) trivial (fun _ _ => rfl)
  refine Par.AllOps.cons 15 22 rfl rfl (Par.StepO.intro [(23, 0), (24, 1), (25, 2), (26, 3), (27, 4), (28, 5), (29, 6), (30, 7), (31, 8), (32, 9), (33, 10), (34, 11), (35, 12), (36, 13)] (by kernel_rfl) (fun f X hX hR K hK => ?_)) ?_
  · have e10 : f 10 = .bool true := hR.out 10 rfl
    have e13 : f 13 = .bool true := hR.out 13 rfl
    simp only [Par.putL, Act.put, List.setIfInBounds_toArray, List.set_cons_succ, List.set_cons_zero, e10, e13]
    refine ⟨?_⟩
    go_simp
    exact hK.out _ (.bool true) _ (by simp only [Par.putL, Act.put, List.setIfInBounds_toArray, List.set_cons_succ, List.set_cons_zero, e10, e13]) (Ext.refl _) trivial (fun _ _ => rfl)
  refine Par.AllOps.cons 16 21 rfl rfl (Par.StepO.intro [(23, 0), (24, 1), (25, 2), (26, 3), (27, 4), (28, 5), (29, 6), (30, 7), (31, 8), (32, 9), (33, 10), (34, 11), (35, 12), (36, 13), (37, 14)] (by kernel_rfl) (fun f X hX hR K hK => ?_)) ?_
  · have e14 : f 14 = .bool true := hR.out 14 rfl
    simp only [Par.putL, Act.put, List.setIfInBounds_toArray, List.set_cons_succ, List.set_cons_zero, e14]
    refine ⟨?_⟩
    go_simp
    exact hK.out _ (.bool true) _ (by simp only [Par.putL, Act.put, List.setIfInBounds_toArray, List.set_cons_succ, List.set_cons_zero, e14]) (Ext.refl _) trivial (fun _ _ => rfl)
  refine Par.AllOps.cons 17 20 rfl rfl (Par.StepO.intro [(23, 0), (24, 1), (25, 2), (26, 3), (27, 4), (28, 5), (29, 6), (30, 7), (31, 8), (32, 9), (33, 10), (34, 11), (35, 12), (36, 13), (37, 14), (38, 15), (40, 17)] (by kernel_rfl) (fun f X hX hR K hK => ?_)) ?_
  · have e15 : f 15 = .bool true := hR.out 15 rfl
    simp only [Par.putL, Act.put, List.setIfInBounds_toArray, List.set_cons_succ, List.set_cons_zero, e15]
    refine ⟨Par.want (by kernel_rfl) ?_⟩
    go_simp
    exact hK.out _ (.int .i64 k1) _ (by simp only [Par.putL, Act.put, List.setIfInBounds_toArray, List.set_cons_succ, List.set_cons_zero, e15]) (Ext.refl _) trivial (fun _ _ => rfl)
  refine Par.AllOps.cons 18 19 rfl rfl (Par.StepO.intro [(23, 0), (24, 1), (25, 2), (26, 3), (27, 4), (28, 5), (29, 6), (30, 7), (31, 8), (32, 9), (33, 10), (34, 11), (35, 12), (36, 13), (37, 14), (38, 15), (39, 16)] (by kernel_rfl) (fun f X hX hR K hK => ?_)) ?_
  · have e15 : f 15 = .bool true := hR.out 15 rfl
    simp only [Par.putL, Act.put, List.setIfInBounds_toArray, List.set_cons_succ, List.set_cons_zero, e15]
    refine ⟨Par.want (by kernel_rfl) ?_⟩
    go_simp
    exact hK.out _ (.int .i64 k1) _ (by simp only [Par.putL, Act.put, List.setIfInBounds_toArray, List.set_cons_succ, List.set_cons_zero, e15]) (Ext.refl _) trivial (fun _ _ => rfl)
  refine Par.AllOps.cons 19 18 rfl rfl (Par.StepO.intro [(23, 0), (24, 1), (25, 2), (26, 3), (27, 4), (28, 5), (29, 6), (30, 7), (31, 8), (32, 9), (33, 10), (34, 11), (35, 12), (36, 13), (37, 14), (38, 15), (39, 16), (40, 17)] (by kernel_rfl) (fun f X hX hR K hK => ?_)) ?_
  · have e15 : f 15 = .bool true := hR.out 15 rfl
    have e16 : f 16 = .int .i64 k1 := hR.out 16 rfl
    have e17 : f 17 = .int .i64 k1 := hR.out 17 rfl
    simp only [Par.putL, Act.put, List.setIfInBounds_toArray, List.set_cons_succ, List.set_cons_zero, e15, e16, e17]
    refine ⟨Par.want (by kernel_rfl) ?_⟩
    go_simp
    exact hK.out _ (.bool true) _ (by simp only [Par.putL, Act.put, List.setIfInBounds_toArray, List.set_cons_succ, List.set_cons_zero, e15, e16, e17]) (Ext.refl _) trivial (fun _ _ => rfl)
  refine Par.AllOps.cons 20 17 rfl rfl (Par.StepO.intro [(23, 0), (24, 1), (25, 2), (26, 3), (27, 4), (28, 5), (29, 6), (30, 7), (31, 8), (32, 9), (33, 10), (34, 11), (35, 12), (36, 13), (37, 14), (38, 15), (39, 16), (40, 17), (41, 18)] (by kernel_rfl) (fun f X hX hR K hK => ?_)) ?_
  · have e15 : f 15 = .bool true := hR.out 15 rfl
    have e18 : f 18 = .bool true := hR.out 18 rfl
    simp only [Par.putL, Act.put, List.setIfInBounds_toArray, List.set_cons_succ, List.set_cons_zero, e15, e18]
    refine ⟨?_⟩
    go_simp
    exact hK.out _ (.bool true) _ (by simp only [Par.putL, Act.put, List.setIfInBounds_toArray, List.set_cons_succ, List.set_cons_zero, e15, e18]) (Ext.refl _) trivial (fun _ _ => rfl)
  refine Par.AllOps.cons 21 16 rfl rfl (Par.StepO.intro [(23, 0), (24, 1), (25, 2), (26, 3), (27, 4), (28, 5), (29, 6), (30, 7), (31, 8), (32, 9), (33, 10), (34, 11), (35, 12), (36, 13), (37, 14), (38, 15), (39, 16), (40, 17), (41, 18), (42, 19)] (by kernel_rfl) (fun f X hX hR K hK => ?_)) ?_
  · have e19 : f 19 = .bool true := hR.out 19 rfl
    simp only [Par.putL, Act.put, List.setIfInBounds_toArray, List.set_cons_succ, List.set_cons_zero, e19]
    refine ⟨?_⟩
    go_simp
    exact hK.out _ (.bool true) _ (by simp only [Par.putL, Act.put, List.setIfInBounds_toArray, List.set_cons_succ, List.set_cons_zero, e19]) (Ext.refl _) trivial (fun _ _ => rfl)
  refine Par.AllOps.cons 22 15 rfl rfl (Par.StepO.intro [(23, 0), (24, 1), (25, 2), (26, 3), (27, 4), (28, 5), (29, 6), (30, 7), (31, 8), (32, 9), (33, 10), (34, 11), (35, 12), (36, 13), (37, 14), (38, 15), (39, 16), (40, 17), (41, 18), (42, 19), (43, 20), (46, 23)] (by kernel_rfl) (fun f X hX hR K hK => ?_)) ?_
  · have e20 : f 20 = .bool true := hR.out 20 rfl
    simp only [Par.putL, Act.put, List.setIfInBounds_toArray, List.set_cons_succ, List.set_cons_zero, e20]
    refine ⟨Par.want (by kernel_rfl) (wp_loadV 24 (.tmp 1) rfl rfl (hX.at_ j3) Tryz.underlying24 rfl infoM rfl ?_)⟩
    exact hK.out _ (.agg #[.int .i64 kind, .slice A m c]) _ (by simp only [Par.putL, Act.put, List.setIfInBounds_toArray, List.set_cons_succ, List.set_cons_zero, e20]) (Ext.refl _) trivial (fun _ _ => rfl)
  refine Par.AllOps.cons 23 14 rfl rfl (Par.StepO.intro [(23, 0), (24, 1), (25, 2), (26, 3), (27, 4), (28, 5), (29, 6), (30, 7), (31, 8), (32, 9), (33, 10), (34, 11), (35, 12), (36, 13), (37, 14), (38, 15), (39, 16), (40, 17), (41, 18), (42, 19), (43, 20), (44, 21), (46, 23)] (by kernel_rfl) (fun f X hX hR K hK => ?_)) ?_
  · have e20 : f 20 = .bool true := hR.out 20 rfl
    have e21 : f 21 = .agg #[.int .i64 kind, .slice A m c] := hR.out 21 rfl
    simp only [Par.putL, Act.put, List.setIfInBounds_toArray, List.set_cons_succ, List.set_cons_zero, e20, e21]
    refine ⟨Par.want (by kernel_rfl) ?_⟩
    go_simp
    refine (hpa.out X (hE3.trans hX)).mono ?_
    rintro e w' ⟨rfl, hB⟩
    exact hK.out _ (.bool pb) _ (by simp only [Par.putL, Act.put, List.setIfInBounds_toArray, List.set_cons_succ, List.set_cons_zero, e20, e21]) hB trivial (fun _ _ => rfl)
  refine Par.AllOps.cons 24 13 rfl rfl (Par.StepO.intro [(23, 0), (24, 1), (25, 2), (26, 3), (27, 4), (28, 5), (29, 6), (30, 7), (31, 8), (32, 9), (33, 10), (34, 11), (35, 12), (36, 13), (37, 14), (38, 15), (39, 16), (40, 17), (41, 18), (42, 19), (43, 20), (44, 21), (45, 22)] (by kernel_rfl) (fun f X hX hR K hK => ?_)) ?_
  · have e20 : f 20 = .bool true := hR.out 20 rfl
    simp only [Par.putL, Act.put, List.setIfInBounds_toArray, List.set_cons_succ, List.set_cons_zero, e20]
    refine ⟨Par.want (by kernel_rfl) (wp_loadV 24 (.tmp 1) rfl rfl (hX.at_ j3) Tryz.underlying24 rfl infoM rfl ?_)⟩
    exact hK.out _ (.agg #[.int .i64 kind, .slice A m c]) _ (by simp only [Par.putL, Act.put, List.setIfInBounds_toArray, List.set_cons_succ, List.set_cons_zero, e20]) (Ext.refl _) trivial (fun _ _ => rfl)
  refine Par.AllOps.cons 25 12 rfl rfl (Par.StepO.intro [(23, 0), (24, 1), (25, 2), (26, 3), (27, 4), (28, 5), (29, 6), (30, 7), (31, 8), (32, 9), (33, 10), (34, 11), (35, 12), (36, 13), (37, 14), (38, 15), (39, 16), (40, 17), (41, 18), (42, 19), (43, 20), (44, 21), (45, 22), (46, 23)] (by kernel_rfl) (fun f X hX hR K hK => ?_)) ?_
  · have e20 : f 20 = .bool true := hR.out 20 rfl
    have e23 : f 23 = .agg #[.int .i64 kind, .slice A m c] := hR.out 23 rfl
    simp only [Par.putL, Act.put, List.setIfInBounds_toArray, List.set_cons_succ, List.set_cons_zero, e20, e23]
    refine ⟨Par.want (by kernel_rfl) ?_⟩
    go_simp
    refine (hpr.out X (hE3.trans hX)).mono ?_
    rintro e w' ⟨rfl, hB⟩
    exact hK.out _ (.bool pb) _ (by simp only [Par.putL, Act.put, List.setIfInBounds_toArray, List.set_cons_succ, List.set_cons_zero, e20, e23]) hB trivial (fun _ _ => rfl)
  refine Par.AllOps.cons 26 11 rfl rfl (Par.StepO.intro [(23, 0), (24, 1), (25, 2), (26, 3), (27, 4), (28, 5), (29, 6), (30, 7), (31, 8), (32, 9), (33, 10), (34, 11), (35, 12), (36, 13), (37, 14), (38, 15), (39, 16), (40, 17), (41, 18), (42, 19), (43, 20), (44, 21), (45, 22), (46, 23), (47, 24)] (by kernel_rfl) (fun f X hX hR K hK => ?_)) ?_
  · have e20 : f 20 = .bool true := hR.out 20 rfl
    have e22 : f 22 = .bool pb := hR.out 22 rfl
    have e24 : f 24 = .bool pb := hR.out 24 rfl
    simp only [Par.putL, Act.put, List.setIfInBounds_toArray, List.set_cons_succ, List.set_cons_zero, e20, e22, e24]
    refine ⟨Par.want (by kernel_rfl) ?_⟩
    go_simp
    exact hK.out _ (.bool true) _ (by simp only [Par.putL, Act.put, List.setIfInBounds_toArray, List.set_cons_succ, List.set_cons_zero, e20, e22, e24]) (Ext.refl _) trivial (fun _ _ => rfl)
  refine Par.AllOps.cons 27 10 rfl rfl (Par.StepO.intro [(23, 0), (24, 1), (25, 2), (26, 3), (27, 4), (28, 5), (29, 6), (30, 7), (31, 8), (32, 9), (33, 10), (34, 11), (35, 12), (36, 13), (37, 14), (38, 15), (39, 16), (40, 17), (41, 18), (42, 19), (43, 20), (44, 21), (45, 22), (46, 23), (47, 24), (48, 25)] (by kernel_rfl) (fun f X hX hR K hK => ?_)) ?_
  · have e20 : f 20 = .bool true := hR.out 20 rfl
    have e25 : f 25 = .bool true := hR.out 25 rfl
    simp only [Par.putL, Act.put, List.setIfInBounds_toArray, List.set_cons_succ, List.set_cons_zero, e20, e25]
    refine ⟨?_⟩
    go_simp
    exact hK.out _ (.bool true) _ (by simp only [Par.putL, Act.put, List.setIfInBounds_toArray, List.set_cons_succ, List.set_cons_zero, e20, e25]) (Ext.refl _) trivial (fun _ _ => rfl)
  refine Par.AllOps.cons 28 9 rfl rfl (Par.StepO.intro [(23, 0), (24, 1), (25, 2), (26, 3), (27, 4), (28, 5), (29, 6), (30, 7), (31, 8), (32, 9), (33, 10), (34, 11), (35, 12), (36, 13), (37, 14), (38, 15), (39, 16), (40, 17), (41, 18), (42, 19), (43, 20), (44, 21), (45, 22), (46, 23), (47, 24), (48, 25), (49, 26)] (by kernel_rfl) (fun f X hX hR K hK => ?_)) ?_
  · have e26 : f 26 = .bool true := hR.out 26 rfl
    simp only [Par.putL, Act.put, List.setIfInBounds_toArray, List.set_cons_succ, List.set_cons_zero, e26]
    refine ⟨?_⟩
    go_simp
    exact hK.out _ (.bool true) _ (by simp only [Par.putL, Act.put, List.setIfInBounds_toArray, List.set_cons_succ, List.set_cons_zero, e26]) (Ext.refl _) trivial (fun _ _ => rfl)
  refine Par.AllOps.cons 29 8 rfl rfl (Par.StepO.intro [(23, 0), (24, 1), (25, 2), (26, 3), (27, 4), (28, 5), (29, 6), (30, 7), (31, 8), (32, 9), (33, 10), (34, 11), (35, 12), (36, 13), (37, 14), (38, 15), (39, 16), (40, 17), (41, 18), (42, 19), (43, 20), (44, 21), (45, 22), (46, 23), (47, 24), (48, 25), (49, 26), (50, 27), (54, 31), (55, 32)] (by kernel_rfl) (fun f X hX hR K hK => ?_)) ?_
  · have e27 : f 27 = .bool true := hR.out 27 rfl
    simp only [Par.putL, Act.put, List.setIfInBounds_toArray, List.set_cons_succ, List.set_cons_zero, e27]
    refine ⟨Par.want (by kernel_rfl) ?_⟩
    go_simp
    exact hK.out _ (.pointer (some ⟨q, 0, none⟩)) _ (by simp only [Par.putL, Act.put, List.setIfInBounds_toArray, List.set_cons_succ, List.set_cons_zero, e27]) (Ext.refl _) trivial (fun _ _ => rfl)
  refine Par.AllOps.cons 30 7 rfl rfl (Par.StepO.intro [(23, 0), (24, 1), (25, 2), (26, 3), (27, 4), (28, 5), (29, 6), (30, 7), (31, 8), (32, 9), (33, 10), (34, 11), (35, 12), (36, 13), (37, 14), (38, 15), (39, 16), (40, 17), (41, 18), (42, 19), (43, 20), (44, 21), (45, 22), (46, 23), (47, 24), (48, 25), (49, 26), (50, 27), (51, 28), (54, 31), (55, 32)] (by kernel_rfl) (fun f X hX hR K hK => ?_)) ?_
  · have e27 : f 27 = .bool true := hR.out 27 rfl
    have e28 : f 28 = .pointer (some ⟨q, 0, none⟩) := hR.out 28 rfl
    have x0 := hX.cell z0
    simp only [Par.putL, Act.put, List.setIfInBounds_toArray, List.set_cons_succ, List.set_cons_zero, e27, e28]
    refine ⟨Par.want (by kernel_rfl) ?_⟩
    go_simp
    exact hK.out _ (.int .i64 kind) _ (by simp only [Par.putL, Act.put, List.setIfInBounds_toArray, List.set_cons_succ, List.set_cons_zero, e27, e28]) (Ext.refl _) trivial (fun _ _ => rfl)
  refine Par.AllOps.cons 31 6 rfl rfl (Par.StepO.intro [(23, 0), (24, 1), (25, 2), (26, 3), (27, 4), (28, 5), (29, 6), (30, 7), (31, 8), (32, 9), (33, 10), (34, 11), (35, 12), (36, 13), (37, 14), (38, 15), (39, 16), (40, 17), (41, 18), (42, 19), (43, 20), (44, 21), (45, 22), (46, 23), (47, 24), (48, 25), (49, 26), (50, 27), (51, 28), (52, 29), (54, 31), (55, 32)] (by kernel_rfl) (fun f X hX hR K hK => ?_)) ?_
  · have e27 : f 27 = .bool true := hR.out 27 rfl
    have e29 : f 29 = .int .i64 kind := hR.out 29 rfl
    simp only [Par.putL, Act.put, List.setIfInBounds_toArray, List.set_cons_succ, List.set_cons_zero, e27, e29]
    refine ⟨Par.want (by kernel_rfl) ?_⟩
    go_simp
    refine (hmu.out X).mono ?_
    rintro e w' ⟨rfl, hB⟩
    exact hK.out _ (.bool mu) _ (by simp only [Par.putL, Act.put, List.setIfInBounds_toArray, List.set_cons_succ, List.set_cons_zero, e27, e29]) hB trivial (fun _ _ => rfl)
  refine Par.AllOps.cons 32 5 rfl rfl (Par.StepO.intro [(23, 0), (24, 1), (25, 2), (26, 3), (27, 4), (28, 5), (29, 6), (30, 7), (31, 8), (32, 9), (33, 10), (34, 11), (35, 12), (36, 13), (37, 14), (38, 15), (39, 16), (40, 17), (41, 18), (42, 19), (43, 20), (44, 21), (45, 22), (46, 23), (47, 24), (48, 25), (49, 26), (50, 27), (51, 28), (52, 29), (53, 30)] (by kernel_rfl) (fun f X hX hR K hK => ?_)) ?_
  · have e27 : f 27 = .bool true := hR.out 27 rfl
    simp only [Par.putL, Act.put, List.setIfInBounds_toArray, List.set_cons_succ, List.set_cons_zero, e27]
    refine ⟨Par.want (by kernel_rfl) ?_⟩
    go_simp
    exact hK.out _ (.pointer (some ⟨q, 0, none⟩)) _ (by simp only [Par.putL, Act.put, List.setIfInBounds_toArray, List.set_cons_succ, List.set_cons_zero, e27]) (Ext.refl _) trivial (fun _ _ => rfl)
  refine Par.AllOps.cons 33 4 rfl rfl (Par.StepO.intro [(23, 0), (24, 1), (25, 2), (26, 3), (27, 4), (28, 5), (29, 6), (30, 7), (31, 8), (32, 9), (33, 10), (34, 11), (35, 12), (36, 13), (37, 14), (38, 15), (39, 16), (40, 17), (41, 18), (42, 19), (43, 20), (44, 21), (45, 22), (46, 23), (47, 24), (48, 25), (49, 26), (50, 27), (51, 28), (52, 29), (53, 30), (54, 31)] (by kernel_rfl) (fun f X hX hR K hK => ?_)) ?_
  · have e27 : f 27 = .bool true := hR.out 27 rfl
    have e31 : f 31 = .pointer (some ⟨q, 0, none⟩) := hR.out 31 rfl
    have x0 := hX.cell z0
    simp only [Par.putL, Act.put, List.setIfInBounds_toArray, List.set_cons_succ, List.set_cons_zero, e27, e31]
    refine ⟨Par.want (by kernel_rfl) ?_⟩
    go_simp
    exact hK.out _ (.int .i64 kind) _ (by simp only [Par.putL, Act.put, List.setIfInBounds_toArray, List.set_cons_succ, List.set_cons_zero, e27, e31]) (Ext.refl _) trivial (fun _ _ => rfl)
  refine Par.AllOps.cons 34 3 rfl rfl (Par.StepO.intro [(23, 0), (24, 1), (25, 2), (26, 3), (27, 4), (28, 5), (29, 6), (30, 7), (31, 8), (32, 9), (33, 10), (34, 11), (35, 12), (36, 13), (37, 14), (38, 15), (39, 16), (40, 17), (41, 18), (42, 19), (43, 20), (44, 21), (45, 22), (46, 23), (47, 24), (48, 25), (49, 26), (50, 27), (51, 28), (52, 29), (53, 30), (54, 31), (55, 32)] (by kernel_rfl) (fun f X hX hR K hK => ?_)) ?_
  · have e27 : f 27 = .bool true := hR.out 27 rfl
    have e32 : f 32 = .int .i64 kind := hR.out 32 rfl
    simp only [Par.putL, Act.put, List.setIfInBounds_toArray, List.set_cons_succ, List.set_cons_zero, e27, e32]
    refine ⟨Par.want (by kernel_rfl) ?_⟩
    go_simp
    refine (hmr.out X).mono ?_
    rintro e w' ⟨rfl, rfl⟩
    exact hK.out _ (.bool mu) _ (by simp only [Par.putL, Act.put, List.setIfInBounds_toArray, List.set_cons_succ, List.set_cons_zero, e27, e32]) (Ext.refl _) trivial (fun _ _ => rfl)
  refine Par.AllOps.cons 35 2 rfl rfl (Par.StepO.intro [(23, 0), (24, 1), (25, 2), (26, 3), (27, 4), (28, 5), (29, 6), (30, 7), (31, 8), (32, 9), (33, 10), (34, 11), (35, 12), (36, 13), (37, 14), (38, 15), (39, 16), (40, 17), (41, 18), (42, 19), (43, 20), (44, 21), (45, 22), (46, 23), (47, 24), (48, 25), (49, 26), (50, 27), (51, 28), (52, 29), (53, 30), (54, 31), (55, 32), (56, 33)] (by kernel_rfl) (fun f X hX hR K hK => ?_)) ?_
  · have e27 : f 27 = .bool true := hR.out 27 rfl
    have e30 : f 30 = .bool mu := hR.out 30 rfl
    have e33 : f 33 = .bool mu := hR.out 33 rfl
    simp only [Par.putL, Act.put, List.setIfInBounds_toArray, List.set_cons_succ, List.set_cons_zero, e27, e30, e33]
    refine ⟨Par.want (by kernel_rfl) ?_⟩
    go_simp
    exact hK.out _ (.bool true) _ (by simp only [Par.putL, Act.put, List.setIfInBounds_toArray, List.set_cons_succ, List.set_cons_zero, e27, e30, e33]) (Ext.refl _) trivial (fun _ _ => rfl)
  refine Par.AllOps.cons 36 1 rfl rfl (Par.StepO.intro [(23, 0), (24, 1), (25, 2), (26, 3), (27, 4), (28, 5), (29, 6), (30, 7), (31, 8), (32, 9), (33, 10), (34, 11), (35, 12), (36, 13), (37, 14), (38, 15), (39, 16), (40, 17), (41, 18), (42, 19), (43, 20), (44, 21), (45, 22), (46, 23), (47, 24), (48, 25), (49, 26), (50, 27), (51, 28), (52, 29), (53, 30), (54, 31), (55, 32), (56, 33), (57, 34)] (by kernel_rfl) (fun f X hX hR K hK => ?_)) ?_
  · have e27 : f 27 = .bool true := hR.out 27 rfl
    have e34 : f 34 = .bool true := hR.out 34 rfl
    simp only [Par.putL, Act.put, List.setIfInBounds_toArray, List.set_cons_succ, List.set_cons_zero, e27, e34]
    refine ⟨?_⟩
    go_simp
    exact hK.out _ (.bool true) _ (by simp only [Par.putL, Act.put, List.setIfInBounds_toArray, List.set_cons_succ, List.set_cons_zero, e27, e34]) (Ext.refl _) trivial (fun _ _ => rfl)
  refine Par.AllOps.cons 37 0 rfl rfl (Par.StepO.intro [(23, 0), (24, 1), (25, 2), (26, 3), (27, 4), (28, 5), (29, 6), (30, 7), (31, 8), (32, 9), (33, 10), (34, 11), (35, 12), (36, 13), (37, 14), (38, 15), (39, 16), (40, 17), (41, 18), (42, 19), (43, 20), (44, 21), (45, 22), (46, 23), (47, 24), (48, 25), (49, 26), (50, 27), (51, 28), (52, 29), (53, 30), (54, 31), (55, 32), (56, 33), (57, 34), (58, 35)] (by kernel_rfl) (fun f X hX hR K hK => ?_)) ?_
  · have e35 : f 35 = .bool true := hR.out 35 rfl
    simp only [Par.putL, Act.put, List.setIfInBounds_toArray, List.set_cons_succ, List.set_cons_zero, e35]
    refine ⟨?_⟩
    go_simp
    exact hK.out _ (.bool true) _ (by simp only [Par.putL, Act.put, List.setIfInBounds_toArray, List.set_cons_succ, List.set_cons_zero, e35]) (Ext.refl _) trivial (fun _ _ => rfl)
  refine Par.AllOps.fin ⟨fun f X hX hR hal hap => ?_⟩
  have e0 : f 0 = .bool true := hR 0 (by decide)
  have e1 : f 1 = .bool true := hR 1 (by decide)
  have e2 : f 2 = .pointer (some ⟨q, 0, none⟩) := hR 2 (by decide)
  have e3 : f 3 = .int .i64 kind := hR 3 (by decide)
  have e4 : f 4 = .int .i64 u := hR 4 (by decide)
  have e5 : f 5 = .pointer (some ⟨q, 0, none⟩) := hR 5 (by decide)
  have e6 : f 6 = .int .i64 kind := hR 6 (by decide)
  have e7 : f 7 = .int .i64 u := hR 7 (by decide)
  have e8 : f 8 = .bool true := hR 8 (by decide)
  have e9 : f 9 = .bool true := hR 9 (by decide)
  have e10 : f 10 = .bool true := hR 10 (by decide)
  have e11 : f 11 = .bool k2 := hR 11 (by decide)
  have e12 : f 12 = .bool k2 := hR 12 (by decide)
  have e13 : f 13 = .bool true := hR 13 (by decide)
  have e14 : f 14 = .bool true := hR 14 (by decide)
  have e15 : f 15 = .bool true := hR 15 (by decide)
  have e16 : f 16 = .int .i64 k1 := hR 16 (by decide)
  have e17 : f 17 = .int .i64 k1 := hR 17 (by decide)
  have e18 : f 18 = .bool true := hR 18 (by decide)
  have e19 : f 19 = .bool true := hR 19 (by decide)
  have e20 : f 20 = .bool true := hR 20 (by decide)
  have e21 : f 21 = .agg #[.int .i64 kind, .slice A m c] := hR 21 (by decide)
  have e22 : f 22 = .bool pb := hR 22 (by decide)
  have e23 : f 23 = .agg #[.int .i64 kind, .slice A m c] := hR 23 (by decide)
  have e24 : f 24 = .bool pb := hR 24 (by decide)
  have e25 : f 25 = .bool true := hR 25 (by decide)
  have e26 : f 26 = .bool true := hR 26 (by decide)
  have e27 : f 27 = .bool true := hR 27 (by decide)
  have e28 : f 28 = .pointer (some ⟨q, 0, none⟩) := hR 28 (by decide)
  have e29 : f 29 = .int .i64 kind := hR 29 (by decide)
  have e30 : f 30 = .bool mu := hR 30 (by decide)
  have e31 : f 31 = .pointer (some ⟨q, 0, none⟩) := hR 31 (by decide)
  have e32 : f 32 = .int .i64 kind := hR 32 (by decide)
  have e33 : f 33 = .bool mu := hR 33 (by decide)
  have e34 : f 34 = .bool true := hR 34 (by decide)
  have e35 : f 35 = .bool true := hR 35 (by decide)
  have e36 : f 36 = .bool true := hR 36 (by decide)
  simp only [Par.putL, Act.put, List.setIfInBounds_toArray, List.set_cons_succ, List.set_cons_zero, e0, e1, e2, e3, e4, e5, e6, e7, e8, e9, e10, e11, e12, e13, e14, e15, e16, e17, e18, e19, e20, e21, e22, e23, e24, e25, e26, e27, e28, e29, e30, e31, e32, e33, e34, e35, e36]
  clear hR hal hap e0 e1 e2 e3 e4 e5 e6 e7 e8 e9 e10 e11 e12 e13 e14 e15 e16 e17 e18 e19 e20 e21 e22 e23 e24 e25 e26 e27 e28 e29 e30 e31 e32 e33 e34 e35 e36
  refine Par.Chain.done ?_
  go_wp2
  go_ret
  exact ⟨rfl, hE3.trans hX⟩
theorem mechTable_law (kind : Int) (P : Nat → Prop) (A : Option Addr) (c : Nat) (bs : List Nat) (w : World) (hb : RB w P A c bs) (hP : ∀ b, P b → b < w.heap.size) :
    Calls Tryz.prog 3 #[.agg #[.int .i64 kind, .slice A bs.length c]] w fun e w' => e = .returned (.bool true) ∧ Below w.heap.size w w' := mechTable_any kind P A c bs w hb hP
end Go.Proofs.YtldhmjfjbalakaaGreat

namespace Go.Proofs.YtldhmjfjbalakaaGreat
open Go.ChangeShapes Go.WideShapes Go.ChangeAt Go.RowKit Go.Deep Go.Joins
section
variable {H : Type} {enc : TypeId × Value → H} {w : World}
theorem cellsM : Tryz.prog.cellsOf 24 = 2 := by kernel_rfl
theorem honeM : ∃ f0 f1, Tryz.prog.underlying 24 = some (.struct #[f0, f1]) ∧ oneCellFields Tryz.prog #[f0, f1] = true ∧ f0.type = 3 ∧ f1.type = 22 :=
  ⟨_, _, Tryz.underlying24, by kernel_rfl, rfl, rfl⟩
set_option maxRecDepth 100000 in
/-- A mechanism by value. -/
theorem open_mech {r : Reach} {b0 : Nat} {v : Value} {d : DataW H} {p : List MemPlace} (hv : Value.okWide Tryz.prog w r b0 24 v) (h : DataW.Trod enc Tryz.prog w 0 (fun _ => true) true 24 v d p) (hw : Fits 24 d) :
    ∃ (a : Int × List Nat) (A : Option Addr) (c : Nat), v = .agg #[.int .i64 a.1, .slice A a.2.length c] ∧ RB w (fun b => b < w.heap.size) A c a.2 := by
  obtain ⟨f0, f1, hu, hone, ht0, ht1⟩ := honeM
  obtain ⟨v0, v1, y0, y1, n, rfl, rfl, rfl, hr0, hr1⟩ := open_agg2 hu hone cellsM hv h
  rw [ht0] at hr0
  rw [ht1] at hr1
  obtain ⟨k, hk, _, _⟩ := DataW.trod_int Tryz.underlying3 hr0
  have hkv : v0 = .int .i64 k := by simpa using hk
  have hfit : Fits 22 y1.1 := by
    intro q hq
    apply hw
    simp only [DataW.weights, hu, List.map_cons, List.map_nil, DataW.weightsEach, ht1, List.mem_append]
    exact .inr (.inl hq)
  obtain ⟨A, c, bs, hv, hb⟩ := open_bytes hr1 hfit
  exact ⟨(k, bs), A, c, by rw [hkv, hv], hb⟩
end
end Go.Proofs.YtldhmjfjbalakaaGreat
