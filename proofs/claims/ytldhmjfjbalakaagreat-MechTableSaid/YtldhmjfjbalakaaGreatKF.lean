/- mechs: what is told of a mechanism; the forms of parameters. mechs: counters, GCM's parameters, points. mechs.Param. The reference's table of mechanisms. -/
import Derived.Test.YtldhmjfjbalakaaGreatKA
import Derived.Test.YtldhmjfjbalakaaGreatKE
import Derived.Deep.DeepCutAuto
namespace Go.Proofs.YtldhmjfjbalakaaGreat
open Go.RowKit Mc

theorem mech_at (kind : Int) (w : World) : Calls Tryz.prog 20 #[.int .i64 kind] w fun e w' => e = .returned (mechOf kind).val ∧ Ext w w' := Mc.of_any kind w
set_option maxRecDepth 100000 in
theorem uses_g (kind : Int) (w : World) : Calls Tryz.prog 9 #[.int .i64 kind] w fun e w' => e = .returned (.int .i64 (mechOf kind).uses) ∧ Ext w w' := by
  have h := mech_at kind w
  obtain ⟨k, u, y, mu, pa, hm⟩ : ∃ k u y mu pa, mechOf kind = ⟨k, u, y, mu, pa⟩ := ⟨_, _, _, _, _, rfl⟩
  rw [hm] at h ⊢
  have hf : ∀ (a b c d e : Value) (w : World), Sem.run Tryz.prog (Instr.field 43 (.agg #[a, b, c, d, e]) 1) w = .ok b w := fun _ _ _ _ _ _ => by kernel_rfl
  simp only [MRow.val] at h
  clear hm
  go_enter Tryz.func9, Tryz.ntmps9
  go_wp2_with fail
  refine h.mono ?_
  rintro e w1 ⟨rfl, hB⟩
  go_wp2
  go_ret
  exact ⟨rfl, hB⟩
set_option maxRecDepth 100000 in
theorem multi_g (kind : Int) (w : World) : Calls Tryz.prog 13 #[.int .i64 kind] w fun e w' => e = .returned (.bool (mechOf kind).multi) ∧ Ext w w' := by
  have h := mech_at kind w
  obtain ⟨k, u, y, mu, pa, hm⟩ : ∃ k u y mu pa, mechOf kind = ⟨k, u, y, mu, pa⟩ := ⟨_, _, _, _, _, rfl⟩
  rw [hm] at h ⊢
  have hf : ∀ (a b c d e : Value) (w : World), Sem.run Tryz.prog (Instr.field 43 (.agg #[a, b, c, d, e]) 3) w = .ok d w := fun _ _ _ _ _ _ => by kernel_rfl
  simp only [MRow.val] at h
  clear hm
  go_enter Tryz.func13, Tryz.ntmps13
  go_wp2_with fail
  refine h.mono ?_
  rintro e w1 ⟨rfl, hB⟩
  go_wp2
  go_ret
  exact ⟨rfl, hB⟩
def keyP (kind : Int) : Int × Bool := if (mechOf kind).key < 0 then (0, false) else ((mechOf kind).key, true)
theorem fnv_one (pa : Option Nat) : (fnv pa).oneCell' = true := by cases pa <;> rfl
set_option maxRecDepth 100000 in
set_option maxHeartbeats 1000000 in
theorem key_g (kind : Int) (w : World) : Calls Tryz.prog 7 #[.int .i64 kind] w fun e w' => e = .returned (.tuple #[.int .i64 (keyP kind).1, .bool (keyP kind).2]) ∧ Ext w w' := by
  have h := mech_at kind w
  rw [keyP]
  obtain ⟨k, u, y, mu, pa, hm⟩ : ∃ k u y mu pa, mechOf kind = ⟨k, u, y, mu, pa⟩ := ⟨_, _, _, _, _, rfl⟩
  rw [hm] at h ⊢
  simp only [MRow.val] at h
  clear hm
  cases pa
  all_goals
    simp only [fnv] at h
    by_cases hy : y < 0
    · rw [if_pos hy]
      go_enter Tryz.func7, Tryz.ntmps7
      go_wp2_with fail
      refine h.mono ?_
      rintro e w1 ⟨rfl, hB⟩
      go_wp2
      go_ret2
      exact ⟨rfl, hB.trans (Ext.alloc _ _)⟩
    · rw [if_neg hy]
      go_enter Tryz.func7, Tryz.ntmps7
      go_wp2_with fail
      refine h.mono ?_
      rintro e w1 ⟨rfl, hB⟩
      go_wp2
      go_ret2
      exact ⟨rfl, hB.trans (Ext.alloc _ _)⟩
set_option maxRecDepth 100000 in
theorem block_any (P : Nat → Prop) (A : Option Addr) (c : Nat) (bs : List Nat) (w : World) (h : RB w P A c bs) : Calls Tryz.prog 58 #[.slice A bs.length c] w fun e w' => e = .returned (.bool (decide (bs.length = 16))) ∧ Ext w w' := by
  obtain ⟨l1, l2, l3⟩ := h.cap
  obtain ⟨n, hn⟩ : ∃ n, bs.length = n := ⟨_, rfl⟩
  rw [hn] at l1 l3 ⊢
  by_cases h16 : n = 16
  · subst h16
    go_enter Tryz.func58, Tryz.ntmps58
    go_wp2
    go_ret
    exact ⟨rfl, Ext.refl _⟩
  · have e1 : ((n : Int) == 16) = false := by simp; omega
    rw [decide_eq_false h16]
    go_enter Tryz.func58, Tryz.ntmps58
    go_wp2
    go_ret
    exact ⟨rfl, Ext.refl _⟩
set_option maxRecDepth 100000 in
theorem salt_any (P : Nat → Prop) (A : Option Addr) (c : Nat) (bs : List Nat) (w : World) (h : RB w P A c bs) : Calls Tryz.prog 56 #[.slice A bs.length c] w fun e w' => e = .returned (.bool (decide (bs.length = 1))) ∧ Ext w w' := by
  obtain ⟨l1, l2, l3⟩ := h.cap
  obtain ⟨n, hn⟩ : ∃ n, bs.length = n := ⟨_, rfl⟩
  rw [hn] at l1 l3 ⊢
  by_cases h16 : n = 1
  · subst h16
    go_enter Tryz.func56, Tryz.ntmps56
    go_wp2
    go_ret
    exact ⟨rfl, Ext.refl _⟩
  · have e1 : ((n : Int) == 1) = false := by simp; omega
    rw [decide_eq_false h16]
    go_enter Tryz.func56, Tryz.ntmps56
    go_wp2
    go_ret
    exact ⟨rfl, Ext.refl _⟩
set_option maxRecDepth 100000 in
theorem label_any (P : Nat → Prop) (A : Option Addr) (c : Nat) (bs : List Nat) (w : World) (h : RB w P A c bs) : Calls Tryz.prog 55 #[.slice A bs.length c] w fun e w' => e = .returned (.bool (decide (bs.length ≤ 255))) ∧ Ext w w' := by
  obtain ⟨l1, l2, l3⟩ := h.cap
  obtain ⟨n, hn⟩ : ∃ n, bs.length = n := ⟨_, rfl⟩
  rw [hn] at l1 l3 ⊢
  obtain ⟨r, hr⟩ : ∃ r, decide (n ≤ 255) = r := ⟨_, rfl⟩
  have e1 : decide ((n : Int) ≤ 255) = r := by rw [← hr]; exact decide_eq_decide.2 (by omega)
  rw [hr]
  clear hr
  go_enter Tryz.func55, Tryz.ntmps55
  go_wp2
  go_ret
  exact ⟨by simp, Ext.refl _⟩
end Go.Proofs.YtldhmjfjbalakaaGreat

namespace Go.Proofs.YtldhmjfjbalakaaGreat
open Go.RowKit Mc

def counterB (bs : List Nat) : Bool := decide (bs.length = 17) && (decide (1 ≤ dg bs 0) && decide (dg bs 0 ≤ 128))
def gcmB (bs : List Nat) : Bool := decide (0 < bs.length) && (decide (0 < dg bs 0) && decide (1 + dg bs 0 ≤ bs.length))
def somewhere (C : Crv) (bs : List Nat) : Bool := match decC C bs with | some (some _) => true | _ => false
def pointB (bs : List Nat) : Bool := somewhere c256 bs || somewhere c384 bs
set_option maxRecDepth 100000 in
set_option maxHeartbeats 1000000 in
theorem counter_any (P : Nat → Prop) (A : Option Addr) (c : Nat) (bs : List Nat) (w : World) (h : RB w P A c bs) : Calls Tryz.prog 59 #[.slice A bs.length c] w fun e w' => e = .returned (.bool (counterB bs)) ∧ Ext w w' := by
  obtain ⟨l1, l2, l3⟩ := h.cap
  obtain ⟨r, hr⟩ : ∃ r, counterB bs = r := ⟨_, rfl⟩
  rw [hr]
  by_cases h17 : bs.length = 17
  · obtain ⟨ad, rfl, hc, hx⟩ := h.dg (i := 0) (by omega)
    rw [show ad.add 0 = ad by simp [Addr.add]] at hc
    obtain ⟨x, hxe⟩ : ∃ x, dg bs 0 = x := ⟨_, rfl⟩
    rw [hxe] at hc hx
    have hr' : r = (decide (1 ≤ x) && decide (x ≤ 128)) := by rw [← hr, counterB, h17, hxe]; rfl
    have Hr := Lib.hid hr'
    rw [h17]
    clear hr hr' hxe h17 h l1 l3
    by_cases a : 1 ≤ x
    · have a1 : decide ((1 : Int) ≤ x) = true := decide_eq_true (by omega)
      by_cases b : x ≤ 128
      · have b1 : decide ((x : Int) ≤ 128) = true := decide_eq_true (by omega)
        obtain rfl : r = true := by rw [Hr.out, decide_eq_true a, decide_eq_true b]; rfl
        go_enter Tryz.func59, Tryz.ntmps59
        go_wp2
        go_ret
        exact ⟨rfl, Ext.refl _⟩
      · have b1 : decide ((x : Int) ≤ 128) = false := decide_eq_false (by omega)
        obtain rfl : r = false := by rw [Hr.out, decide_eq_true a, decide_eq_false b]; rfl
        go_enter Tryz.func59, Tryz.ntmps59
        go_wp2
        go_ret
        exact ⟨rfl, Ext.refl _⟩
    · have a1 : decide ((1 : Int) ≤ x) = false := decide_eq_false (by omega)
      obtain rfl : r = false := by rw [Hr.out, decide_eq_false a]; rfl
      go_enter Tryz.func59, Tryz.ntmps59
      go_wp2
      go_ret
      exact ⟨rfl, Ext.refl _⟩
  · obtain rfl : r = false := by rw [← hr, counterB, decide_eq_false h17]; rfl
    obtain ⟨n, hn⟩ : ∃ n, bs.length = n := ⟨_, rfl⟩
    rw [hn] at l1 l3 h17 ⊢
    have e1 : ((n : Int) == 17) = false := by simp; omega
    clear hr hn
    go_enter Tryz.func59, Tryz.ntmps59
    go_wp2
    go_ret
    exact ⟨rfl, Ext.refl _⟩
set_option maxRecDepth 100000 in
set_option maxHeartbeats 1000000 in
theorem gcm_any (P : Nat → Prop) (A : Option Addr) (c : Nat) (bs : List Nat) (w : World) (h : RB w P A c bs) : Calls Tryz.prog 60 #[.slice A bs.length c] w fun e w' => e = .returned (.bool (gcmB bs)) ∧ Ext w w' := by
  obtain ⟨l1, l2, l3⟩ := h.cap
  obtain ⟨r, hr⟩ : ∃ r, gcmB bs = r := ⟨_, rfl⟩
  rw [hr]
  obtain ⟨n, hn⟩ : ∃ n, bs.length = n := ⟨_, rfl⟩
  by_cases h0 : 0 < n
  · obtain ⟨ad, rfl, hc, hx⟩ := h.dg (i := 0) (by omega)
    rw [show ad.add 0 = ad by simp [Addr.add]] at hc
    obtain ⟨x, hxe⟩ : ∃ x, dg bs 0 = x := ⟨_, rfl⟩
    rw [hxe] at hc hx
    have hr' : r = (decide (0 < x) && decide (1 + x ≤ n)) := by rw [← hr, gcmB, hn, hxe, decide_eq_true h0]; rfl
    have Hr := Lib.hid hr'
    rw [hn] at l1 l3 ⊢
    clear hr hr' hxe hn h
    have w1 : IntKind.i64.wrap (1 + (x : Int)) = 1 + x := IntWalk.i64_in _ (by omega)
    by_cases a : 0 < x
    · have a1 : decide ((0 : Int) < x) = true := decide_eq_true (by omega)
      by_cases b : 1 + x ≤ n
      · have b1 : decide (1 + (x : Int) ≤ n) = true := decide_eq_true (by omega)
        obtain rfl : r = true := by rw [Hr.out, decide_eq_true a, decide_eq_true b]; rfl
        go_enter Tryz.func60, Tryz.ntmps60
        go_wp2
        go_ret
        exact ⟨rfl, Ext.refl _⟩
      · have b1 : decide (1 + (x : Int) ≤ n) = false := decide_eq_false (by omega)
        obtain rfl : r = false := by rw [Hr.out, decide_eq_true a, decide_eq_false b]; rfl
        go_enter Tryz.func60, Tryz.ntmps60
        go_wp2
        go_ret
        exact ⟨rfl, Ext.refl _⟩
    · obtain rfl : x = 0 := by omega
      obtain rfl : r = false := by rw [Hr.out]; rfl
      go_enter Tryz.func60, Tryz.ntmps60
      go_wp2
      go_ret
      exact ⟨rfl, Ext.refl _⟩
  · obtain rfl : n = 0 := by omega
    obtain rfl : r = false := by rw [← hr, gcmB, hn]; rfl
    rw [hn]
    clear hr hn
    go_enter Tryz.func60, Tryz.ntmps60
    go_wp2
    go_ret
    exact ⟨rfl, Ext.refl _⟩
set_option maxRecDepth 100000 in
set_option maxHeartbeats 1000000 in
theorem onM_any {k : Int} {C : Crv} (hC : IsC k C) (P : Nat → Prop) (A : Option Addr) (c : Nat) (bs : List Nat) (w : World) (h : RB w P A c bs) (hP : ∀ b, P b → b < w.heap.size) : Calls Tryz.prog 52 #[.int .i64 k, .slice A bs.length c] w fun e w' => e = .returned (.bool (somewhere C bs)) ∧ Ext w w' := by
  have hd := decode_c hC P A c bs w h hP
  obtain ⟨r, hr⟩ : ∃ r, somewhere C bs = r := ⟨_, rfl⟩
  obtain ⟨n, hn⟩ : ∃ n, bs.length = n := ⟨_, rfl⟩
  rw [hr]
  rw [hn] at hd ⊢
  obtain ⟨d, hde⟩ : ∃ d, decC C bs = d := ⟨_, rfl⟩
  rw [hde] at hd
  rw [somewhere, hde] at hr
  match d, hd, hr with
  | none, hd, hr =>
    obtain rfl : r = false := hr.symm
    have Hd := Lib.hid hd
    clear hd hn hde h hr
    go_enter Tryz.func52, Tryz.ntmps52
    go_wp2_with fail
    refine Hd.out.mono ?_
    rintro e w1 ⟨v, rfl, hv, hB⟩
    obtain rfl : v = infV := hv
    go_wp2
    go_ret
    exact ⟨rfl, Ext.trans hB (Ext.alloc _ _)⟩
  | some none, hd, hr =>
    obtain rfl : r = false := hr.symm
    have Hd := Lib.hid hd
    clear hd hn hde h hr
    go_enter Tryz.func52, Tryz.ntmps52
    go_wp2_with fail
    refine Hd.out.mono ?_
    rintro e w1 ⟨v, rfl, hv, hB⟩
    obtain rfl : v = infV := hv
    go_wp2
    go_ret
    exact ⟨rfl, Ext.trans hB (Ext.alloc _ _)⟩
  | some (some p), hd, hr =>
    obtain rfl : r = true := hr.symm
    have Hd := Lib.hid hd
    clear hd hn hde h hr
    go_enter Tryz.func52, Tryz.ntmps52
    go_wp2_with fail
    refine Hd.out.mono ?_
    rintro e w1 ⟨v, rfl, hv, hB⟩
    obtain ⟨A1, c1, A2, c2, rfl, _, _⟩ := hv
    go_wp2
    go_ret
    exact ⟨rfl, Ext.trans hB (Ext.alloc _ _)⟩
set_option maxRecDepth 100000 in
set_option maxHeartbeats 1000000 in
theorem point_any (P : Nat → Prop) (A : Option Addr) (c : Nat) (bs : List Nat) (w : World) (h : RB w P A c bs) (hP : ∀ b, P b → b < w.heap.size) : Calls Tryz.prog 57 #[.slice A bs.length c] w fun e w' => e = .returned (.bool (pointB bs)) ∧ Ext w w' := by
  have h1 := onM_any (.inl ⟨rfl, rfl⟩) P A c bs w h hP
  have h2 := fun X (hX : Ext w X) => onM_any (.inr ⟨rfl, rfl⟩) P A c bs X (h.below hX hP) (fun b hb => Nat.lt_of_lt_of_le (hP b hb) hX.bsize)
  rw [pointB]
  obtain ⟨n, hn⟩ : ∃ n, bs.length = n := ⟨_, rfl⟩
  rw [hn] at h1 h2 ⊢
  obtain ⟨a, ha⟩ : ∃ a, somewhere c256 bs = a := ⟨_, rfl⟩
  obtain ⟨b, hb⟩ : ∃ b, somewhere c384 bs = b := ⟨_, rfl⟩
  rw [ha] at h1 ⊢
  rw [hb] at h2 ⊢
  have H1 := Lib.hid h1
  have H2 := Lib.hid h2
  clear h1 h2 hn ha hb h
  cases a
  · go_enter Tryz.func57, Tryz.ntmps57
    go_wp2_with fail
    refine H1.out.mono ?_
    rintro e w1 ⟨rfl, hB⟩
    go_wp2_with fail
    refine (H2.out w1 hB).mono ?_
    rintro e w2 ⟨rfl, hB2⟩
    go_wp2
    go_ret
    exact ⟨rfl, hB.trans hB2⟩
  · go_enter Tryz.func57, Tryz.ntmps57
    go_wp2_with fail
    refine H1.out.mono ?_
    rintro e w1 ⟨rfl, hB⟩
    go_wp2
    go_ret
    exact ⟨rfl, hB⟩
end Go.Proofs.YtldhmjfjbalakaaGreat

namespace Go.Proofs.YtldhmjfjbalakaaGreat
open Go.RowKit Mc

def formB (f : Nat) (bs : List Nat) : Bool := if f = 55 then decide (bs.length ≤ 255) else if f = 56 then decide (bs.length = 1) else if f = 57 then pointB bs else if f = 58 then decide (bs.length = 16) else if f = 59 then counterB bs else if f = 60 then gcmB bs else false
/-- Whether a parameter may be. -/
def parB (kind : Int) (bs : List Nat) : Bool := if (mechOf kind).uses = 0 then false else match (mechOf kind).param with | none => decide (bs.length = 0) | some f => formB f bs
theorem mech_mem (kind : Int) : mechOf kind ∈ mtab ∨ mechOf kind = ⟨0, 0, -1, false, none⟩ := by
  unfold mechOf
  cases h : mtab.find? fun x => x.kind == kind with
  | none => exact .inr rfl
  | some r => exact .inl (List.mem_of_find?_eq_some h)
theorem mech_param (kind : Int) : (mechOf kind).param = none ∨ (mechOf kind).param = some 55 ∨ (mechOf kind).param = some 56 ∨ (mechOf kind).param = some 57 ∨ (mechOf kind).param = some 58 ∨ (mechOf kind).param = some 59 ∨ (mechOf kind).param = some 60 := by
  rcases mech_mem kind with h | h
  · have : ∀ r ∈ mtab, r.param = none ∨ r.param = some 55 ∨ r.param = some 56 ∨ r.param = some 57 ∨ r.param = some 58 ∨ r.param = some 59 ∨ r.param = some 60 := by decide
    exact this _ h
  · rw [h]; exact .inl rfl
set_option maxRecDepth 100000 in
set_option maxHeartbeats 4000000 in
theorem param_g (kind : Int) (P : Nat → Prop) (A : Option Addr) (c : Nat) (bs : List Nat) (w : World) (hb : RB w P A c bs) (hP : ∀ b, P b → b < w.heap.size) :
    Calls Tryz.prog 11 #[.agg #[.int .i64 kind, .slice A bs.length c]] w fun e w' => e = .returned (.bool (parB kind bs)) ∧ Ext w w' := by
  have h := fun X => mech_at kind X
  obtain ⟨r, hr⟩ : ∃ r, parB kind bs = r := ⟨_, rfl⟩
  rw [hr]
  have hpa := mech_param kind
  obtain ⟨n, hn⟩ : ∃ n, bs.length = n := ⟨_, rfl⟩
  obtain ⟨l1, l2, l3⟩ := hb.cap
  rw [hn] at l1 l3 ⊢
  obtain ⟨k, u, y, mu, pa, hm⟩ : ∃ k u y mu pa, mechOf kind = ⟨k, u, y, mu, pa⟩ := ⟨_, _, _, _, _, rfl⟩
  by_cases hu : u = 0
  · subst hu
    obtain rfl : r = false := by rw [← hr, parB, if_pos (by rw [hm])]
    rw [hm] at h
    simp only [MRow.val] at h
    clear hr hm hpa hb
    cases pa
    all_goals
      simp only [fnv] at h
      go_enter Tryz.func11, Tryz.ntmps11
      go_wp2_with fail
      refine (h _).mono ?_
      rintro e w1 ⟨rfl, hB⟩
      have hEq := (Ext.alloc w _).trans hB
      go_wp2
      go_ret
      exact ⟨rfl, hEq.trans (Ext.alloc _ _)⟩
  have hu0 : (u == 0) = false := by simpa using hu
  have h' := h
  rw [hm] at h
  simp only [MRow.val] at h
  have hp' := hpa
  rw [hm] at hpa
  have key : ∀ q, pa = q → (mechOf kind).param = q := fun q e => by rw [hm]; exact e
  clear hp' h'
  rcases hpa with hp | hp | hp | hp | hp | hp | hp
  all_goals
    have hp' := key _ hp
  all_goals clear key
  · -- none
    change pa = none at hp
    rw [hp] at h
    have hv : r = decide (n = 0) := by rw [← hr, parB, if_neg (by rw [hm]; exact hu), hp', hn]
    simp only [fnv] at h
    have hnn : ∀ w, Sem.run Tryz.prog (binOp .eql 41 .nilFunc .nilFunc) w = .ok (.bool true) w := fun w => by kernel_rfl
    have e1 : ((n : Int) == 0) = r := by rw [hv]; by_cases e : n = 0 <;> simp [e]
    clear hv hr hm hp hp' hb
    go_enter Tryz.func11, Tryz.ntmps11
    go_wp2_with fail
    refine (h _).mono ?_
    rintro e w1 ⟨rfl, hB⟩
    have hEq := (Ext.alloc w _).trans hB
    have hcc := hB.at_ (heap_alloc_new w _)
    have q0 := blk_cell hcc 0
    have q1 := blk_cell hcc 1
    simp only [List.getElem?_toArray, List.getElem?_cons_zero, List.getElem?_cons_succ] at q0 q1
    have hlt := blk_lt hcc
    go_wp2
    go_ret
    exact ⟨rfl, hEq.trans (Ext.alloc _ _)⟩
  · -- label
    change pa = some _ at hp
    rw [hp] at h
    have hv : r = decide (bs.length ≤ 255) := by rw [← hr, parB, if_neg (by rw [hm]; exact hu), hp']; rfl
    have hf := fun X (hX : Ext w X) => label_any P A c bs X (hb.below hX hP)
    rw [← hv, hn] at hf
    have Hf := Lib.hid hf
    simp only [fnv] at h
    have hnn : ∀ w, Sem.run Tryz.prog (binOp .eql 41 (.func (.func 55) #[] #[]) .nilFunc) w = .ok (.bool false) w := fun w => by kernel_rfl
    clear hf hv hr hm hp hp' hb
    have HP := Lib.hid hP
    clear hP
    go_enter Tryz.func11, Tryz.ntmps11
    go_wp2_with fail
    refine (h _).mono ?_
    rintro e w1 ⟨rfl, hB⟩
    have hEq := (Ext.alloc w _).trans hB
    have hcc := hB.at_ (heap_alloc_new w _)
    have q0 := blk_cell hcc 0
    have q1 := blk_cell hcc 1
    simp only [List.getElem?_toArray, List.getElem?_cons_zero, List.getElem?_cons_succ] at q0 q1
    have hlt := blk_lt hcc
    go_wp2_with (go_at_call 55; refine (Hf.out _ (hEq.trans (Ext.alloc _ _))).mono ?_; rintro e w2 ⟨rfl, hB2⟩)
    go_ret
    exact ⟨rfl, (hEq.trans (Ext.alloc _ _)).trans hB2⟩
  · -- salt
    change pa = some _ at hp
    rw [hp] at h
    have hv : r = decide (bs.length = 1) := by rw [← hr, parB, if_neg (by rw [hm]; exact hu), hp']; rfl
    have hf := fun X (hX : Ext w X) => salt_any P A c bs X (hb.below hX hP)
    rw [← hv, hn] at hf
    have Hf := Lib.hid hf
    simp only [fnv] at h
    have hnn : ∀ w, Sem.run Tryz.prog (binOp .eql 41 (.func (.func 56) #[] #[]) .nilFunc) w = .ok (.bool false) w := fun w => by kernel_rfl
    clear hf hv hr hm hp hp' hb
    have HP := Lib.hid hP
    clear hP
    go_enter Tryz.func11, Tryz.ntmps11
    go_wp2_with fail
    refine (h _).mono ?_
    rintro e w1 ⟨rfl, hB⟩
    have hEq := (Ext.alloc w _).trans hB
    have hcc := hB.at_ (heap_alloc_new w _)
    have q0 := blk_cell hcc 0
    have q1 := blk_cell hcc 1
    simp only [List.getElem?_toArray, List.getElem?_cons_zero, List.getElem?_cons_succ] at q0 q1
    have hlt := blk_lt hcc
    go_wp2_with (go_at_call 56; refine (Hf.out _ (hEq.trans (Ext.alloc _ _))).mono ?_; rintro e w2 ⟨rfl, hB2⟩)
    go_ret
    exact ⟨rfl, (hEq.trans (Ext.alloc _ _)).trans hB2⟩
  · -- point
    change pa = some _ at hp
    rw [hp] at h
    have hv : r = pointB bs := by rw [← hr, parB, if_neg (by rw [hm]; exact hu), hp']; rfl
    have hf := fun X (hX : Ext w X) => point_any P A c bs X (hb.below hX hP) (fun b hb => Nat.lt_of_lt_of_le (hP b hb) hX.bsize)
    rw [← hv, hn] at hf
    have Hf := Lib.hid hf
    simp only [fnv] at h
    have hnn : ∀ w, Sem.run Tryz.prog (binOp .eql 41 (.func (.func 57) #[] #[]) .nilFunc) w = .ok (.bool false) w := fun w => by kernel_rfl
    clear hf hv hr hm hp hp' hb
    have HP := Lib.hid hP
    clear hP
    go_enter Tryz.func11, Tryz.ntmps11
    go_wp2_with fail
    refine (h _).mono ?_
    rintro e w1 ⟨rfl, hB⟩
    have hEq := (Ext.alloc w _).trans hB
    have hcc := hB.at_ (heap_alloc_new w _)
    have q0 := blk_cell hcc 0
    have q1 := blk_cell hcc 1
    simp only [List.getElem?_toArray, List.getElem?_cons_zero, List.getElem?_cons_succ] at q0 q1
    have hlt := blk_lt hcc
    go_wp2_with (go_at_call 57; refine (Hf.out _ (hEq.trans (Ext.alloc _ _))).mono ?_; rintro e w2 ⟨rfl, hB2⟩)
    go_ret
    exact ⟨rfl, (hEq.trans (Ext.alloc _ _)).trans hB2⟩
  · -- block
    change pa = some _ at hp
    rw [hp] at h
    have hv : r = decide (bs.length = 16) := by rw [← hr, parB, if_neg (by rw [hm]; exact hu), hp']; rfl
    have hf := fun X (hX : Ext w X) => block_any P A c bs X (hb.below hX hP)
    rw [← hv, hn] at hf
    have Hf := Lib.hid hf
    simp only [fnv] at h
    have hnn : ∀ w, Sem.run Tryz.prog (binOp .eql 41 (.func (.func 58) #[] #[]) .nilFunc) w = .ok (.bool false) w := fun w => by kernel_rfl
    clear hf hv hr hm hp hp' hb
    have HP := Lib.hid hP
    clear hP
    go_enter Tryz.func11, Tryz.ntmps11
    go_wp2_with fail
    refine (h _).mono ?_
    rintro e w1 ⟨rfl, hB⟩
    have hEq := (Ext.alloc w _).trans hB
    have hcc := hB.at_ (heap_alloc_new w _)
    have q0 := blk_cell hcc 0
    have q1 := blk_cell hcc 1
    simp only [List.getElem?_toArray, List.getElem?_cons_zero, List.getElem?_cons_succ] at q0 q1
    have hlt := blk_lt hcc
    go_wp2_with (go_at_call 58; refine (Hf.out _ (hEq.trans (Ext.alloc _ _))).mono ?_; rintro e w2 ⟨rfl, hB2⟩)
    go_ret
    exact ⟨rfl, (hEq.trans (Ext.alloc _ _)).trans hB2⟩
  · -- counter
    change pa = some _ at hp
    rw [hp] at h
    have hv : r = counterB bs := by rw [← hr, parB, if_neg (by rw [hm]; exact hu), hp']; rfl
    have hf := fun X (hX : Ext w X) => counter_any P A c bs X (hb.below hX hP)
    rw [← hv, hn] at hf
    have Hf := Lib.hid hf
    simp only [fnv] at h
    have hnn : ∀ w, Sem.run Tryz.prog (binOp .eql 41 (.func (.func 59) #[] #[]) .nilFunc) w = .ok (.bool false) w := fun w => by kernel_rfl
    clear hf hv hr hm hp hp' hb
    have HP := Lib.hid hP
    clear hP
    go_enter Tryz.func11, Tryz.ntmps11
    go_wp2_with fail
    refine (h _).mono ?_
    rintro e w1 ⟨rfl, hB⟩
    have hEq := (Ext.alloc w _).trans hB
    have hcc := hB.at_ (heap_alloc_new w _)
    have q0 := blk_cell hcc 0
    have q1 := blk_cell hcc 1
    simp only [List.getElem?_toArray, List.getElem?_cons_zero, List.getElem?_cons_succ] at q0 q1
    have hlt := blk_lt hcc
    go_wp2_with (go_at_call 59; refine (Hf.out _ (hEq.trans (Ext.alloc _ _))).mono ?_; rintro e w2 ⟨rfl, hB2⟩)
    go_ret
    exact ⟨rfl, (hEq.trans (Ext.alloc _ _)).trans hB2⟩
  · -- gcm
    change pa = some _ at hp
    rw [hp] at h
    have hv : r = gcmB bs := by rw [← hr, parB, if_neg (by rw [hm]; exact hu), hp']; rfl
    have hf := fun X (hX : Ext w X) => gcm_any P A c bs X (hb.below hX hP)
    rw [← hv, hn] at hf
    have Hf := Lib.hid hf
    simp only [fnv] at h
    have hnn : ∀ w, Sem.run Tryz.prog (binOp .eql 41 (.func (.func 60) #[] #[]) .nilFunc) w = .ok (.bool false) w := fun w => by kernel_rfl
    clear hf hv hr hm hp hp' hb
    have HP := Lib.hid hP
    clear hP
    go_enter Tryz.func11, Tryz.ntmps11
    go_wp2_with fail
    refine (h _).mono ?_
    rintro e w1 ⟨rfl, hB⟩
    have hEq := (Ext.alloc w _).trans hB
    have hcc := hB.at_ (heap_alloc_new w _)
    have q0 := blk_cell hcc 0
    have q1 := blk_cell hcc 1
    simp only [List.getElem?_toArray, List.getElem?_cons_zero, List.getElem?_cons_succ] at q0 q1
    have hlt := blk_lt hcc
    go_wp2_with (go_at_call 60; refine (Hf.out _ (hEq.trans (Ext.alloc _ _))).mono ?_; rintro e w2 ⟨rfl, hB2⟩)
    go_ret
    exact ⟨rfl, (hEq.trans (Ext.alloc _ _)).trans hB2⟩
end Go.Proofs.YtldhmjfjbalakaaGreat

namespace Go.Proofs.YtldhmjfjbalakaaGreat
open Go.RowKit Mc

/-- A kind is one of those that there are, or none of them. -/
theorem kind_cases (kind : Int) : kind = 0 ∨ kind = 1 ∨ kind = 9 ∨ kind = 13 ∨ kind = 64 ∨ kind = 67 ∨ kind = 544 ∨ kind = 592 ∨ kind = 593 ∨ kind = 608 ∨ kind = 624 ∨ kind = 848 ∨ kind = 4160 ∨ kind = 4161 ∨ kind = 4164 ∨ kind = 4176 ∨ kind = 4224 ∨ kind = 4225 ∨ kind = 4226 ∨ kind = 4229 ∨ kind = 4230 ∨ kind = 4231 ∨ kind = 4234 ∨ kind = 8457 ∨ ((kind == 0) = false ∧ (kind == 1) = false ∧ (kind == 9) = false ∧ (kind == 13) = false ∧ (kind == 64) = false ∧ (kind == 67) = false ∧ (kind == 544) = false ∧ (kind == 592) = false ∧ (kind == 593) = false ∧ (kind == 608) = false ∧ (kind == 624) = false ∧ (kind == 848) = false ∧ (kind == 4160) = false ∧ (kind == 4161) = false ∧ (kind == 4164) = false ∧ (kind == 4176) = false ∧ (kind == 4224) = false ∧ (kind == 4225) = false ∧ (kind == 4226) = false ∧ (kind == 4229) = false ∧ (kind == 4230) = false ∧ (kind == 4231) = false ∧ (kind == 4234) = false ∧ (kind == 8457) = false ∧ mechOf kind = ⟨0, 0, -1, false, none⟩) := by
  by_cases h0 : kind = 0
  · exact .inl h0
  by_cases h1 : kind = 1
  · exact .inr (.inl h1)
  by_cases h9 : kind = 9
  · exact .inr (.inr (.inl h9))
  by_cases h13 : kind = 13
  · exact .inr (.inr (.inr (.inl h13)))
  by_cases h64 : kind = 64
  · exact .inr (.inr (.inr (.inr (.inl h64))))
  by_cases h67 : kind = 67
  · exact .inr (.inr (.inr (.inr (.inr (.inl h67)))))
  by_cases h544 : kind = 544
  · exact .inr (.inr (.inr (.inr (.inr (.inr (.inl h544))))))
  by_cases h592 : kind = 592
  · exact .inr (.inr (.inr (.inr (.inr (.inr (.inr (.inl h592)))))))
  by_cases h593 : kind = 593
  · exact .inr (.inr (.inr (.inr (.inr (.inr (.inr (.inr (.inl h593))))))))
  by_cases h608 : kind = 608
  · exact .inr (.inr (.inr (.inr (.inr (.inr (.inr (.inr (.inr (.inl h608)))))))))
  by_cases h624 : kind = 624
  · exact .inr (.inr (.inr (.inr (.inr (.inr (.inr (.inr (.inr (.inr (.inl h624))))))))))
  by_cases h848 : kind = 848
  · exact .inr (.inr (.inr (.inr (.inr (.inr (.inr (.inr (.inr (.inr (.inr (.inl h848)))))))))))
  by_cases h4160 : kind = 4160
  · exact .inr (.inr (.inr (.inr (.inr (.inr (.inr (.inr (.inr (.inr (.inr (.inr (.inl h4160))))))))))))
  by_cases h4161 : kind = 4161
  · exact .inr (.inr (.inr (.inr (.inr (.inr (.inr (.inr (.inr (.inr (.inr (.inr (.inr (.inl h4161)))))))))))))
  by_cases h4164 : kind = 4164
  · exact .inr (.inr (.inr (.inr (.inr (.inr (.inr (.inr (.inr (.inr (.inr (.inr (.inr (.inr (.inl h4164))))))))))))))
  by_cases h4176 : kind = 4176
  · exact .inr (.inr (.inr (.inr (.inr (.inr (.inr (.inr (.inr (.inr (.inr (.inr (.inr (.inr (.inr (.inl h4176)))))))))))))))
  by_cases h4224 : kind = 4224
  · exact .inr (.inr (.inr (.inr (.inr (.inr (.inr (.inr (.inr (.inr (.inr (.inr (.inr (.inr (.inr (.inr (.inl h4224))))))))))))))))
  by_cases h4225 : kind = 4225
  · exact .inr (.inr (.inr (.inr (.inr (.inr (.inr (.inr (.inr (.inr (.inr (.inr (.inr (.inr (.inr (.inr (.inr (.inl h4225)))))))))))))))))
  by_cases h4226 : kind = 4226
  · exact .inr (.inr (.inr (.inr (.inr (.inr (.inr (.inr (.inr (.inr (.inr (.inr (.inr (.inr (.inr (.inr (.inr (.inr (.inl h4226))))))))))))))))))
  by_cases h4229 : kind = 4229
  · exact .inr (.inr (.inr (.inr (.inr (.inr (.inr (.inr (.inr (.inr (.inr (.inr (.inr (.inr (.inr (.inr (.inr (.inr (.inr (.inl h4229)))))))))))))))))))
  by_cases h4230 : kind = 4230
  · exact .inr (.inr (.inr (.inr (.inr (.inr (.inr (.inr (.inr (.inr (.inr (.inr (.inr (.inr (.inr (.inr (.inr (.inr (.inr (.inr (.inl h4230))))))))))))))))))))
  by_cases h4231 : kind = 4231
  · exact .inr (.inr (.inr (.inr (.inr (.inr (.inr (.inr (.inr (.inr (.inr (.inr (.inr (.inr (.inr (.inr (.inr (.inr (.inr (.inr (.inr (.inl h4231)))))))))))))))))))))
  by_cases h4234 : kind = 4234
  · exact .inr (.inr (.inr (.inr (.inr (.inr (.inr (.inr (.inr (.inr (.inr (.inr (.inr (.inr (.inr (.inr (.inr (.inr (.inr (.inr (.inr (.inr (.inl h4234))))))))))))))))))))))
  by_cases h8457 : kind = 8457
  · exact .inr (.inr (.inr (.inr (.inr (.inr (.inr (.inr (.inr (.inr (.inr (.inr (.inr (.inr (.inr (.inr (.inr (.inr (.inr (.inr (.inr (.inr (.inr (.inl h8457)))))))))))))))))))))))
  refine .inr (.inr (.inr (.inr (.inr (.inr (.inr (.inr (.inr (.inr (.inr (.inr (.inr (.inr (.inr (.inr (.inr (.inr (.inr (.inr (.inr (.inr (.inr (.inr (⟨by simpa using h0, by simpa using h1, by simpa using h9, by simpa using h13, by simpa using h64, by simpa using h67, by simpa using h544, by simpa using h592, by simpa using h593, by simpa using h608, by simpa using h624, by simpa using h848, by simpa using h4160, by simpa using h4161, by simpa using h4164, by simpa using h4176, by simpa using h4224, by simpa using h4225, by simpa using h4226, by simpa using h4229, by simpa using h4230, by simpa using h4231, by simpa using h4234, by simpa using h8457, ?_⟩))))))))))))))))))))))))
  refine mechOf_none fun i hi => ?_
  have hall : ∀ r ∈ mtab, r.kind ≠ kind := by
    intro r hr e
    have : r.kind ∈ mtab.map (·.kind) := List.mem_map_of_mem hr
    rw [e] at this
    simp [mtab] at this
    omega
  exact hall _ (List.mem_of_getElem? (mrow_at hi))
def modeP (kind : Int) : Int := if kind = 4225 then 1 else if kind = 4226 then 2 else if kind = 4229 then 3 else if kind = 4230 then 4 else if kind = 4231 then 5 else 0
set_option maxRecDepth 100000 in
set_option maxHeartbeats 8000000 in
theorem refUses_any (kind : Int) (w : World) : Calls Tryz.prog 10 #[.int .i64 kind] w fun e w' => e = .returned (.int .i64 (mechOf kind).uses) ∧ w = w' := by
  rcases kind_cases kind with rfl | rfl | rfl | rfl | rfl | rfl | rfl | rfl | rfl | rfl | rfl | rfl | rfl | rfl | rfl | rfl | rfl | rfl | rfl | rfl | rfl | rfl | rfl | rfl | ⟨e0, e1, e9, e13, e64, e67, e544, e592, e593, e608, e624, e848, e4160, e4161, e4164, e4176, e4224, e4225, e4226, e4229, e4230, e4231, e4234, e8457, hm⟩
  any_goals
    go_enter Tryz.func10, Tryz.ntmps10
    go_wp2
    go_ret
    exact ⟨rfl, rfl⟩
  rw [hm]
  clear hm
  go_enter Tryz.func10, Tryz.ntmps10
  go_wp2
  go_ret
  exact ⟨rfl, rfl⟩
set_option maxRecDepth 100000 in
set_option maxHeartbeats 8000000 in
theorem refKey_any (kind : Int) (w : World) : Calls Tryz.prog 8 #[.int .i64 kind] w fun e w' => e = .returned (.tuple #[.int .i64 (keyP kind).1, .bool (keyP kind).2]) ∧ w = w' := by
  rcases kind_cases kind with rfl | rfl | rfl | rfl | rfl | rfl | rfl | rfl | rfl | rfl | rfl | rfl | rfl | rfl | rfl | rfl | rfl | rfl | rfl | rfl | rfl | rfl | rfl | rfl | ⟨e0, e1, e9, e13, e64, e67, e544, e592, e593, e608, e624, e848, e4160, e4161, e4164, e4176, e4224, e4225, e4226, e4229, e4230, e4231, e4234, e8457, hm⟩
  any_goals
    go_enter Tryz.func8, Tryz.ntmps8
    go_wp2
    go_ret2
    exact ⟨rfl, rfl⟩
  rw [keyP, hm]
  clear hm
  go_enter Tryz.func8, Tryz.ntmps8
  go_wp2
  go_ret2
  exact ⟨rfl, rfl⟩
set_option maxRecDepth 100000 in
set_option maxHeartbeats 8000000 in
theorem mode_any (kind : Int) (w : World) : Calls Tryz.prog 21 #[.int .i64 kind] w fun e w' => e = .returned (.int .i64 (modeP kind)) ∧ w = w' := by
  rcases kind_cases kind with rfl | rfl | rfl | rfl | rfl | rfl | rfl | rfl | rfl | rfl | rfl | rfl | rfl | rfl | rfl | rfl | rfl | rfl | rfl | rfl | rfl | rfl | rfl | rfl | ⟨e0, e1, e9, e13, e64, e67, e544, e592, e593, e608, e624, e848, e4160, e4161, e4164, e4176, e4224, e4225, e4226, e4229, e4230, e4231, e4234, e8457, hm⟩
  any_goals
    go_enter Tryz.func21, Tryz.ntmps21
    go_wp2
    go_ret
    exact ⟨rfl, rfl⟩
  rw [modeP, if_neg (by simpa using e4225), if_neg (by simpa using e4226), if_neg (by simpa using e4229), if_neg (by simpa using e4230), if_neg (by simpa using e4231)]
  clear hm
  go_enter Tryz.func21, Tryz.ntmps21
  go_wp2
  go_ret
  exact ⟨rfl, rfl⟩
set_option maxRecDepth 100000 in
set_option maxHeartbeats 8000000 in
theorem refMulti_any (kind : Int) (w : World) : Calls Tryz.prog 14 #[.int .i64 kind] w fun e w' => e = .returned (.bool (mechOf kind).multi) ∧ w = w' := by
  rcases kind_cases kind with rfl | rfl | rfl | rfl | rfl | rfl | rfl | rfl | rfl | rfl | rfl | rfl | rfl | rfl | rfl | rfl | rfl | rfl | rfl | rfl | rfl | rfl | rfl | rfl | ⟨e0, e1, e9, e13, e64, e67, e544, e592, e593, e608, e624, e848, e4160, e4161, e4164, e4176, e4224, e4225, e4226, e4229, e4230, e4231, e4234, e8457, hm⟩
  any_goals
    go_enter Tryz.func14, Tryz.ntmps14
    go_wp2_with (go_at_call 21; refine (mode_any _ _).mono ?_; rintro e w' ⟨rfl, rfl⟩)
    go_ret
    exact ⟨rfl, rfl⟩
  have hmo : modeP kind = 0 := by rw [modeP, if_neg (by simpa using e4225), if_neg (by simpa using e4226), if_neg (by simpa using e4229), if_neg (by simpa using e4230), if_neg (by simpa using e4231)]
  rw [hm]
  clear hm
  go_enter Tryz.func14, Tryz.ntmps14
  go_wp2_with (go_at_call 21; refine (mode_any _ _).mono ?_; rintro e w' ⟨rfl, rfl⟩)
  go_ret
  exact ⟨rfl, rfl⟩
end Go.Proofs.YtldhmjfjbalakaaGreat
