/- rsa.raise, Public, Private, Size of a key of single limbs; Primes makes its iterator. What stands where blocks of cells stand. baileylaw7.begun: one small key is used, and one prime is found: true. ModStrong: the test of Miller and Rabin is passed as it should be: the walk of the law. The reference's Probable: the test for small parts, then Miller and Rabin's for the first twelve primes. The reference's Valid: a key is told to be valid just if its parts go together. Words for RSA keys in memory (out of LRVoc, LJac, LRtG). -/
import Derived.Test.YtlaphnlolgokiaaGreatDoorQ0893b578e400
namespace Go.Proofs.YtlaphnlolgokiaaGreatDoor
open Go.RowKit

attribute [local go_sem] Oper.semAt_some

theorem pow_one {w : World} {Ax Ae An : Option Addr} {cx ce cn X E M : Nat} (hx : RU w Ax cx [X]) (he : RU w Ae ce [E]) (hn : RU w An cn [M]) (hM : 1 < M) (ho : M % 2 = 1) (hXl : X < 18446744073709551616) (hEl : E < 18446744073709551616) (hMl : M < 18446744073709551616) (R : Nat) (hR : X ^ E % M = R) (hR0 : 0 < R) :
 Calls Tryz.prog 55 #[.slice Ax 1 cx, .slice Ae 1 ce, .slice An 1 cn] w fun e w' => ∃ A1 c1, e = .returned (.tuple #[.slice A1 1 c1, .bool true]) ∧ RU w' A1 c1 [R] ∧ Ext w w' := by
 have hv : ∀ x : Nat, val 18446744073709551616 [x] = x := fun x => by simp
 have hb : ∀ x : Nat, x < 18446744073709551616 → nbits x ≤ 4096 := fun x h => Nat.le_trans (nbits_le (k := 64) (Nat.lt_of_lt_of_le h (by decide))) (by omega)
 have hRl : R < 18446744073709551616 := by have := Nat.mod_lt (X ^ E) (show 0 < M by omega); omega
 have h := exp_odd _ _ _ Ax Ae An cx ce cn [X] [E] [M] X E M w hx he hn (fun _ h => h) (fun _ h => h) (fun _ h => h) (hv X) (hv E) (hv M) hM ho (by simp) (by simp) ⟨hb X hXl, hb E hEl, hb M hMl⟩
 have hd : digs 18446744073709551616 R = [R] := by rw [digs_pos (by omega) hR0, Nat.mod_eq_of_lt hRl, Nat.div_eq_of_lt hRl, digs_zero]
 rw [hR, hd] at h
 simp only [List.length_cons, List.length_nil, Nat.zero_add] at h
 exact h.mono fun _ _ ⟨A1, c1, h1, h2, h3⟩ => ⟨A1, c1, h1, h2.ru, h3⟩
section
variable {w : World} {A0 A1 A2 A3 A4 Ax : Option Addr} {c0 c1 c2 c3 c4 cx X M : Nat}
set_option maxRecDepth 100000 in
set_option maxHeartbeats 4000000 in
theorem raise_one {Ae : Option Addr} {ce E : Nat} (hx : RU w Ax cx [X]) (he : RU w Ae ce [E]) (hn : RU w A0 c0 [M]) (hM : 1 < M) (ho : M % 2 = 1) (hX : X < M) (hEl : E < 18446744073709551616) (hMl : M < 18446744073709551616) (R : Nat) (hR : X ^ E % M = R) (hR0 : 0 < R) :
 Calls Tryz.prog 32 #[.agg #[.slice A0 1 c0, .slice A1 1 c1, .slice A2 1 c2, .slice A3 1 c3, .slice A4 1 c4], .slice Ax 1 cx, .slice Ae 1 ce] w fun e w' => ∃ A1 c1, e = .returned (.tuple #[.slice A1 1 c1, .bool true]) ∧ RU w' A1 c1 [R] ∧ Ext w w' := by
 obtain ⟨W0, hW0⟩ : ∃ W0, W0 = w.alloc (.cells #[.slice A0 1 c0, .slice A1 1 c1, .slice A2 1 c2, .slice A3 1 c3, .slice A4 1 c4] 25) := ⟨_, rfl⟩
 obtain ⟨s, hs⟩ : ∃ s, w.heap.size = s := ⟨_, rfl⟩
 have hq := heap_alloc_new w (.cells #[.slice A0 1 c0, .slice A1 1 c1, .slice A2 1 c2, .slice A3 1 c3, .slice A4 1 c4] 25)
 have hE : Ext w W0 := by rw [hW0]; exact Ext.alloc _ _
 rw [← hW0, hs] at hq
 have Hx := Lib.hid (fun Y (hY : Ext W0 Y) => RN.up hx (hE.trans hY))
 have He := Lib.hid (fun Y (hY : Ext W0 Y) => RN.up he (hE.trans hY))
 have Hn := Lib.hid (fun Y (hY : Ext W0 Y) => RN.up hn (hE.trans hY))
 have hc := fun Y (hY : Ext W0 Y) => u_cmp (RN.up hx (hE.trans hY)) (RN.up hn (hE.trans hY)) (X := X) (Y := M) (by simp) (by simp)
 simp only [List.length_cons, List.length_nil, Nat.zero_add] at hc
 have hz : decide ((0 : Int) ≤ cmpV X M) = false := by rw [cmp_ge]; exact decide_eq_false (by omega)
 obtain ⟨z, hzz⟩ : ∃ z, cmpV X M = z := ⟨_, rfl⟩
 rw [hzz] at hz
 simp only [hzz] at hc
 have z0 : ¬ (0 : Int) ≤ z := by simpa using hz
 have HC := Lib.hid hc
 have Hp := Lib.hid (fun Y (hY : Ext W0 Y) => pow_one (RN.up hx (hE.trans hY)) (RN.up he (hE.trans hY)) (RN.up hn (hE.trans hY)) hM ho (by omega) hEl hMl R hR hR0)
 have HQ := Lib.hid hq
 have HE := Lib.hid hE
 have Hs := Lib.hid hs
 obtain ⟨y0, y1, y2, y3, y4⟩ := fiveF hq
 clear hx he hn hc hzz hq hE hs hR hR0 hEl hMl hM ho hX hz
 go_enter Tryz.func32, Tryz.ntmps32
 go_upto_region 1 with fail
 rw [← hW0, Hs.out]
 clear hW0
 go_wp2_with fail
 refine (HC.out W0 (Ext.refl _)).mono ?_
 rintro e w1 ⟨rfl, hE1⟩
 replace y0 := hE1.cell y0
 have Hp1 := Lib.hid (Hp.out w1 hE1)
 have HE1 := Lib.hid (HE.out.trans hE1)
 clear hE1 Hp HC y1 y2 y3 y4
 go_wp2_with fail
 refine Hp1.out.mono ?_
 rintro e w2 ⟨Ar, cr, rfl, hr, hE2⟩
 have HE2 := Lib.hid (HE1.out.trans hE2)
 have HR := Lib.hid hr
 clear hr hE2 y0
 go_wp2_with fail
 go_ret2
 exact ⟨Ar, cr, rfl, HR.out, HE2.out⟩
set_option maxRecDepth 100000 in
set_option maxHeartbeats 4000000 in
theorem public_one {E : Nat} (hx : RU w Ax cx [X]) (he : RU w A1 c1 [E]) (hn : RU w A0 c0 [M]) (hM : 1 < M) (ho : M % 2 = 1) (hX : X < M) (hEl : E < 18446744073709551616) (hMl : M < 18446744073709551616) (R : Nat) (hR : X ^ E % M = R) (hR0 : 0 < R) :
 Calls Tryz.prog 9 #[.agg #[.slice A0 1 c0, .slice A1 1 c1, .slice A2 1 c2, .slice A3 1 c3, .slice A4 1 c4], .slice Ax 1 cx] w fun e w' => ∃ A1 c1, e = .returned (.tuple #[.slice A1 1 c1, .bool true]) ∧ RU w' A1 c1 [R] ∧ Ext w w' := by
 obtain ⟨W0, hW0⟩ : ∃ W0, W0 = w.alloc (.cells #[.slice A0 1 c0, .slice A1 1 c1, .slice A2 1 c2, .slice A3 1 c3, .slice A4 1 c4] 25) := ⟨_, rfl⟩
 obtain ⟨s, hs⟩ : ∃ s, w.heap.size = s := ⟨_, rfl⟩
 have hq := heap_alloc_new w (.cells #[.slice A0 1 c0, .slice A1 1 c1, .slice A2 1 c2, .slice A3 1 c3, .slice A4 1 c4] 25)
 have hE : Ext w W0 := by rw [hW0]; exact Ext.alloc _ _
 rw [← hW0, hs] at hq
 have Hp := Lib.hid (raise_one (A1 := A1) (A2 := A2) (A3 := A3) (A4 := A4) (c1 := c1) (c2 := c2) (c3 := c3) (c4 := c4) (RN.up hx hE) (RN.up he hE) (RN.up hn hE) hM ho hX hEl hMl R hR hR0)
 have HE := Lib.hid hE
 have Hs := Lib.hid hs
 obtain ⟨y0, y1, y2, y3, y4⟩ := fiveF hq
 clear hx he hn hq hE hs hR hR0 hEl hMl hM ho hX
 go_enter Tryz.func9, Tryz.ntmps9
 go_upto_region 1 with fail
 rw [← hW0, Hs.out]
 clear hW0
 go_wp2_with fail
 refine Hp.out.mono ?_
 rintro e w2 ⟨Ar, cr, rfl, hr, hE2⟩
 have HE2 := Lib.hid (HE.out.trans hE2)
 have HR := Lib.hid hr
 clear hr hE2 y0 y1 y2 y3 y4
 go_wp2_with fail
 go_ret2
 exact ⟨Ar, cr, rfl, HR.out, HE2.out⟩
set_option maxRecDepth 100000 in
set_option maxHeartbeats 4000000 in
theorem private_one {E : Nat} (hx : RU w Ax cx [X]) (he : RU w A2 c2 [E]) (hn : RU w A0 c0 [M]) (hM : 1 < M) (ho : M % 2 = 1) (hX : X < M) (hEl : E < 18446744073709551616) (hMl : M < 18446744073709551616) (R : Nat) (hR : X ^ E % M = R) (hR0 : 0 < R) :
 Calls Tryz.prog 10 #[.agg #[.slice A0 1 c0, .slice A1 1 c1, .slice A2 1 c2, .slice A3 1 c3, .slice A4 1 c4], .slice Ax 1 cx] w fun e w' => ∃ A1 c1, e = .returned (.tuple #[.slice A1 1 c1, .bool true]) ∧ RU w' A1 c1 [R] ∧ Ext w w' := by
 obtain ⟨W0, hW0⟩ : ∃ W0, W0 = w.alloc (.cells #[.slice A0 1 c0, .slice A1 1 c1, .slice A2 1 c2, .slice A3 1 c3, .slice A4 1 c4] 25) := ⟨_, rfl⟩
 obtain ⟨s, hs⟩ : ∃ s, w.heap.size = s := ⟨_, rfl⟩
 have hq := heap_alloc_new w (.cells #[.slice A0 1 c0, .slice A1 1 c1, .slice A2 1 c2, .slice A3 1 c3, .slice A4 1 c4] 25)
 have hE : Ext w W0 := by rw [hW0]; exact Ext.alloc _ _
 rw [← hW0, hs] at hq
 have Hp := Lib.hid (raise_one (A1 := A1) (A2 := A2) (A3 := A3) (A4 := A4) (c1 := c1) (c2 := c2) (c3 := c3) (c4 := c4) (RN.up hx hE) (RN.up he hE) (RN.up hn hE) hM ho hX hEl hMl R hR hR0)
 have HE := Lib.hid hE
 have Hs := Lib.hid hs
 obtain ⟨y0, y1, y2, y3, y4⟩ := fiveF hq
 clear hx he hn hq hE hs hR hR0 hEl hMl hM ho hX
 go_enter Tryz.func10, Tryz.ntmps10
 go_upto_region 1 with fail
 rw [← hW0, Hs.out]
 clear hW0
 go_wp2_with fail
 refine Hp.out.mono ?_
 rintro e w2 ⟨Ar, cr, rfl, hr, hE2⟩
 have HE2 := Lib.hid (HE.out.trans hE2)
 have HR := Lib.hid hr
 clear hr hE2 y0 y1 y2 y3 y4
 go_wp2_with fail
 go_ret2
 exact ⟨Ar, cr, rfl, HR.out, HE2.out⟩
set_option maxRecDepth 100000 in
set_option maxHeartbeats 4000000 in
theorem rsize_one (hn : RU w A0 c0 [M]) (k : Nat) (hk : nbits M = k) (hkl : k < 10000) (r : Int) (hr : ((k : Int) + 7).tdiv 8 = r) :
 Calls Tryz.prog 13 #[.agg #[.slice A0 1 c0, .slice A1 1 c1, .slice A2 1 c2, .slice A3 1 c3, .slice A4 1 c4]] w fun e w' => e = .returned (.int .i64 r) ∧ Ext w w' := by
 obtain ⟨W0, hW0⟩ : ∃ W0, W0 = w.alloc (.cells #[.slice A0 1 c0, .slice A1 1 c1, .slice A2 1 c2, .slice A3 1 c3, .slice A4 1 c4] 25) := ⟨_, rfl⟩
 obtain ⟨s, hs⟩ : ∃ s, w.heap.size = s := ⟨_, rfl⟩
 have hq := heap_alloc_new w (.cells #[.slice A0 1 c0, .slice A1 1 c1, .slice A2 1 c2, .slice A3 1 c3, .slice A4 1 c4] 25)
 have hE : Ext w W0 := by rw [hW0]; exact Ext.alloc _ _
 rw [← hW0, hs] at hq
 have hb := u_bits (RN.up hn hE) (X := M) (by simp)
 rw [hk] at hb
 simp only [List.length_cons, List.length_nil, Nat.zero_add] at hb
 have Hb := Lib.hid hb
 have HE := Lib.hid hE
 have Hs := Lib.hid hs
 have q0 : IntKind.i64.wrap ((k : Int) + 7) = (k : Int) + 7 := IntWalk.i64_in _ (by omega)
 have q1 : ((k : Int) + 7) / 8 = r := by rw [← hr, Int.tdiv_eq_ediv_of_nonneg (by omega)]
 have q2 : IntKind.i64.wrap r = r := IntWalk.i64_in _ (by omega)
 obtain ⟨y0, y1, y2, y3, y4⟩ := fiveF hq
 clear hn hq hE hs hk hb
 go_enter Tryz.func13, Tryz.ntmps13
 go_upto_region 1 with fail
 rw [← hW0, Hs.out]
 clear hW0
 go_wp2_with fail
 refine Hb.out.mono ?_
 rintro e w2 ⟨rfl, hE2⟩
 have HE2 := Lib.hid (HE.out.trans hE2)
 clear hE2 y0 y1 y2 y3 y4
 go_wp2_with fail
 go_ret
 exact ⟨rfl, HE2.out⟩
end
theorem primes_call (A : Option Addr) (l c : Nat) (D : Option Addr) (w : World) : Calls Tryz.prog 11 #[.int .i64 64, .slice A l c, .pointer D] w fun e w' => e = .returned (.func (.func 33) #[] #[.pointer (some ⟨w.heap.size, 0, none⟩), .pointer (some ⟨w.heap.size + 1, 0, none⟩), .pointer (some ⟨w.heap.size + 1 + 1, 0, none⟩)]) ∧
 w' = ((w.alloc (.cells #[.int .i64 64] 3)).alloc (.cells #[.slice A l c] 23)).alloc (.cells #[.pointer D] 40) := by
 go_enter Tryz.func11, Tryz.ntmps11
 go_wp2
 go_ret
 exact ⟨rfl, rfl⟩
end Go.Proofs.YtlaphnlolgokiaaGreatDoor

namespace Go.Proofs.YtlaphnlolgokiaaGreatDoor
open Go.RowKit Go.Shelf
open Sha

def CK (W W' : World) : Prop := W.heap.size ≤ W'.heap.size ∧ ∀ (b : Nat) (cs : Array Value) (T : TypeId) (fr : Nat × Nat), W.heap[b]? = some (.cells cs T fr) → W'.heap[b]? = some (.cells cs T fr)
theorem CK.cell {W W' : World} (h : CK W W') {p : Addr} {v : Value} (hp : W.cell? p = some v) : W'.cell? p = some v := by
 have hb : ∃ cs T fr, W.heap[p.block]? = some (.cells cs T fr) := by
  unfold World.cell? at hp
  split at hp
  · rename_i cs T fr hc
    exact ⟨cs, T, fr, hc⟩
  all_goals cases hp
 obtain ⟨cs, T, fr, hb⟩ := hb
 exact (World.cell?_of_block ((h.2 _ _ _ _ hb).trans hb.symm)).trans hp
theorem RB.ck {W W' : World} {A : Option Addr} {c : Nat} {d : List Nat} (h : RB W (fun g => g < W.heap.size) A c d) (hk : CK W W') : RB W' (fun g => g < W'.heap.size) A c d :=
 (h.by_ fun _ _ _ hc => hk.cell hc).mono fun _ hg => Nat.lt_of_lt_of_le hg hk.1
theorem KW.ck {W W' : World} (h : KW W) (hk : CK W W') : KW W' := fun i hi => let ⟨y, h1, h2⟩ := h i hi; ⟨y, hk.cell h1, h2⟩
theorem DR.ck {W W' : World} {b : Nat} {k v : List Nat} {n : Int} (h : DR W b k v n) (hk : CK W W') : DR W' b k v n := let ⟨Ak, ck, Av, cv, h1, h2, h3, h4, h5⟩ := h; ⟨Ak, ck, Av, cv, hk.2 _ _ _ _ h1, h2.ck hk, h3.ck hk, h4, h5⟩
theorem CK.grown {X X' : World} {row : Option Nat} {B : Nat} (hg : X.grownBy X' row) (hr : ∀ r, row = some r → B ≤ r ∧ ∃ o : Obj, X.heap[r]? = some o ∧ o.isCells = false) : CK X X' :=
 ⟨hg.size, fun _b _cs _T _fr hb => (grownBy_keeps_cells hg (fun r e => (hr r e).2) hb rfl).trans hb⟩
theorem Ext.grown {w X X' : World} {row : Option Nat} {B : Nat} (hE : Ext w X) (hB : w.heap.size ≤ B) (hg : X.grownBy X' row) (hr : ∀ r, row = some r → B ≤ r ∧ ∃ o : Obj, X.heap[r]? = some o ∧ o.isCells = false) : Ext w X' :=
 ⟨hg.os.trans hE.os, hg.tape.trans hE.tape, hg.output.trans hE.output, Nat.le_trans hE.bsize hg.size, fun b hb => (hg.block b (Nat.lt_of_lt_of_le hb hE.bsize) (fun e => by have := (hr b e.symm).1; omega)).trans (hE.block b hb)⟩
end Go.Proofs.YtlaphnlolgokiaaGreatDoor

namespace Go.Proofs.YtlaphnlolgokiaaGreatDoor
open Go.RowKit Go.Shelf
open Sha

attribute [local go_sem] Oper.semAt_some

theorem one_new (w : World) (x : Nat) (hx : x < 18446744073709551616) : ∃ X, w.alloc (.cells #[.int .u64 (x : Int)] 34) = X ∧ RU X (some ⟨w.heap.size, 0, none⟩) 1 [x] ∧ Ext w X ∧ X.heap.size = w.heap.size + 1 :=
 ⟨_, rfl, (RN.one w x hx).mono fun b hb => by rw [World.size_alloc]; exact hb.2, Ext.alloc _ _, World.size_alloc _ _⟩
theorem vOf_small : vOf 3233 17 413 61 53 = false := by decide +kernel
theorem nbits_3233 : nbits 3233 = 12 := nbits_eq (k := 11) (by decide) (by decide)
def I7 (w4 : World) (pb pe pd pk D : Nat) (k : Nat) (W : World) : Prop := k = 0 ∧ W.heap[pk]? = some (.cells #[.int .i64 0] 3 (0, 0)) ∧ Ext w4 W ∧ DR W D (news []).1 (news []).2 0 ∧ W.cell? ⟨pb, 0, none⟩ = some (.int .i64 64) ∧ W.cell? ⟨pe, 0, none⟩ = some (.slice (some ⟨w4.heap.size - 1, 0, none⟩) 1 1) ∧ W.cell? ⟨pd, 0, none⟩ = some (.pointer (some ⟨D, 0, none⟩))
def H7 (w4 : World) (pk v : Nat) (k : Nat) (W : World) : Prop := k = v ∧ W.heap[pk]? = some (.cells #[.int .i64 (v : Int)] 3 (0, 0)) ∧ Ext w4 W
theorem own_I7 {w4 : World} {pb pe pd pk D B : Nat} (hB : w4.heap.size ≤ B) : OwnFrom B (I7 w4 pb pe pd pk D) := by
 rintro k X X' row ⟨h0, h1, h2, h3, h4, h5, h6⟩ hg hr
 have hck := CK.grown hg hr
 exact ⟨h0, hck.2 _ _ _ _ h1, h2.grown hB hg hr, h3.ck hck, hck.cell h4, hck.cell h5, hck.cell h6⟩
theorem own_H7 {w4 : World} {pk v B : Nat} (hB : w4.heap.size ≤ B) : OwnFrom B (H7 w4 pk v) := by
 rintro k X X' row ⟨h0, h1, h2⟩ hg hr
 have hck := CK.grown hg hr
 exact ⟨h0, hck.2 _ _ _ _ h1, h2.grown hB hg hr⟩
set_option maxRecDepth 100000 in
set_option maxHeartbeats 4000000 in
theorem begun7_any (w : World) (hk : KW w) : Calls Tryz.prog 4 #[] w fun e w' => e = .returned (.bool true) ∧ Ext w w' := by
 obtain ⟨s, hs⟩ : ∃ s, w.heap.size = s := ⟨_, rfl⟩
 obtain ⟨w1, e1, r1, E1, z1⟩ := one_new w 3233 (by omega)
 obtain ⟨w2, e2, r2, E2, z2⟩ := one_new w1 17 (by omega)
 obtain ⟨w3, e3, r3, E3, z3⟩ := one_new w2 413 (by omega)
 obtain ⟨w4, e4, r4, E4, z4⟩ := one_new w3 61 (by omega)
 obtain ⟨w5, e5, r5, E5, z5⟩ := one_new w4 53 (by omega)
 rw [hs] at r1 z1
 rw [z1] at r2 z2
 rw [z2] at r3 z3
 rw [z3] at r4 z4
 rw [z4] at r5 z5
 obtain ⟨cs, hcs⟩ : ∃ cs : Array Value, #[.slice (some ⟨s, 0, none⟩) 1 1, .slice (some ⟨s + 1, 0, none⟩) 1 1, .slice (some ⟨s + 1 + 1, 0, none⟩) 1 1, .slice (some ⟨s + 1 + 1 + 1, 0, none⟩) 1 1, .slice (some ⟨s + 1 + 1 + 1 + 1, 0, none⟩) 1 1] = cs := ⟨_, rfl⟩
 obtain ⟨w6, e6⟩ : ∃ X, w5.alloc (.cells cs 25) = X := ⟨_, rfl⟩
 have E6 : Ext w5 w6 := by rw [← e6]; exact Ext.alloc _ _
 have q6 : w6.heap[s + 1 + 1 + 1 + 1 + 1]? = some (.cells cs 25 (0, 0)) := by rw [← e6, ← z5]; exact heap_alloc_new _ _
 have z6 : w6.heap.size = s + 1 + 1 + 1 + 1 + 1 + 1 := by rw [← e6, World.size_alloc, z5]
 have R1 := Lib.hid (RN.up r1 (E2.trans (E3.trans (E4.trans (E5.trans E6)))))
 have R2 := Lib.hid (RN.up r2 (E3.trans (E4.trans (E5.trans E6))))
 have R3 := Lib.hid (RN.up r3 (E4.trans (E5.trans E6)))
 have R4 := Lib.hid (RN.up r4 (E5.trans E6))
 have R5 := Lib.hid (RN.up r5 E6)
 have HE6 := Lib.hid (E1.trans (E2.trans (E3.trans (E4.trans (E5.trans E6)))))
 obtain ⟨w7, e7, r7, E7, z7⟩ := one_new w6 65 (by omega)
 rw [z6] at r7 z7
 subst hcs
 have Hq6 := Lib.hid q6
 have Hp7 := Lib.hid (public_one (A2 := some ⟨s + 1 + 1, 0, none⟩) (A3 := some ⟨s + 1 + 1 + 1, 0, none⟩) (A4 := some ⟨s + 1 + 1 + 1 + 1, 0, none⟩) (c2 := 1) (c3 := 1) (c4 := 1) r7 (RN.up R2.out E7) (RN.up R1.out E7) (by omega) (by decide) (by omega) (by omega) (by omega) 2790 (by decide +kernel) (by omega))
 have HE7 := Lib.hid E7
 have e1 : w.alloc (.cells #[.int .u64 3233] 34) = w1 := e1
 have e2 : w1.alloc (.cells #[.int .u64 17] 34) = w2 := e2
 have e3 : w2.alloc (.cells #[.int .u64 413] 34) = w3 := e3
 have e4 : w3.alloc (.cells #[.int .u64 61] 34) = w4 := e4
 have e5 : w4.alloc (.cells #[.int .u64 53] 34) = w5 := e5
 have e7 : w6.alloc (.cells #[.int .u64 65] 34) = w7 := e7
 have Z6 := Lib.hid z6
 have G7 := Lib.hid e7
 have HK := Lib.hid hk
 clear r1 r2 r3 r4 r5 E1 E2 E3 E4 E5 E6 z6 r7 E7 e7 z7 hk
 refine (callsIn_wide (n := 6)).1 ?_
 refine callsIn_of_wp_marks Tryz.func4 rfl trivial ?_ rfl
 simp only [Tryz.ntmps4, List.size_toArray, List.length_nil, Nat.reduceSub, Array.replicate_succ, Array.replicate_zero, List.push_toArray, List.append_toArray, List.nil_append, List.cons_append]
 refine wpIn_wide.2 ?_
 go_upto_region 2 with fail
 try rw [e6]
 clear e1 e2 e3 e4 e5 e6 z1 z2 z3 z4 z5
 obtain ⟨y0, y1, y2, y3, y4⟩ := fiveF q6
 clear q6
 go_wp2_with fail
 rw [G7.out, Z6.out]
 refine Hp7.out.mono ?_
 rintro e w8 ⟨A8, c8, rfl, r8, E8⟩
 have E68 := HE7.out.trans E8
 have Hq8 := Lib.hid (E68.at_ Hq6.out)
 have HE8 := Lib.hid (HE6.out.trans E68)
 have Hp8 := Lib.hid (private_one (A1 := some ⟨s + 1, 0, none⟩) (A3 := some ⟨s + 1 + 1 + 1, 0, none⟩) (A4 := some ⟨s + 1 + 1 + 1 + 1, 0, none⟩) (c1 := 1) (c3 := 1) (c4 := 1) r8 (RN.up R3.out E68) (RN.up R1.out E68) (by omega) (by decide) (by omega) (by omega) (by omega) 65 (by decide +kernel) (by omega))
 have R8 := Lib.hid r8
 have HRR := Lib.hid (fun Y (hY : Ext w8 Y) => (⟨_, _, _, _, _, _, _, _, _, _, [3233], [17], [413], [61], [53], rfl, ⟨RN.up R1.out (E68.trans hY), by simp, by simp⟩, ⟨RN.up R2.out (E68.trans hY), by simp, by simp⟩, ⟨RN.up R3.out (E68.trans hY), by simp, by simp⟩, ⟨RN.up R4.out (E68.trans hY), by simp, by simp⟩, ⟨RN.up R5.out (E68.trans hY), by simp, by simp⟩⟩ : RK Y (.agg #[.slice (some ⟨s, 0, none⟩) [3233].length 1, .slice (some ⟨s + 1, 0, none⟩) [17].length 1, .slice (some ⟨s + 1 + 1, 0, none⟩) [413].length 1, .slice (some ⟨s + 1 + 1 + 1, 0, none⟩) [61].length 1, .slice (some ⟨s + 1 + 1 + 1 + 1, 0, none⟩) [53].length 1]) 3233 17 413 61 53))
 have HR1 := Lib.hid (fun Y (hY : Ext w8 Y) => RN.up R1.out (E68.trans hY))
 clear r8 E8 E68 y0 y1 y2 y3 y4 G7 Hp7 Hq6 R1 R2 R3 R4 R5 HE7 HE6 Z6 hs
 go_upto_region 3 with fail
 obtain ⟨y0, y1, y2, y3, y4⟩ := fiveF Hq8.out
 go_wp2_with fail
 refine Hp8.out.mono ?_
 rintro e w9 ⟨A9, c9, rfl, r9, E9⟩
 obtain ⟨w10, e10, r10, E10, z10⟩ := one_new w9 3 (by omega)
 have e10 : w9.alloc (.cells #[.int .u64 3] 34) = w10 := e10
 have E810 := E9.trans E10
 have HE10 := Lib.hid (HE8.out.trans E810)
 have HK10 := HK.out.ext HE10.out
 have Hn := Lib.hid (new_any (P := fun b => b < w10.heap.size) (A := none) (c := 0) (d := []) w10 HK10 ⟨⟨by simp, by unfold maxLen; omega, by simp [bys], fun h => absurd h (by simp)⟩, by simp, by simp⟩ (fun _ h => h) (by simp))
 rw [show ([] : List Nat).length = 0 from rfl] at Hn
 have G10 := Lib.hid e10
 have Z10 := Lib.hid z10
 have Ra := Lib.hid (fun Y (hY : Ext w10 Y) => And.intro (RN.up R8.out (E810.trans hY)) (And.intro (RN.up r9 (E10.trans hY)) (And.intro (E810.trans hY) ((E810.trans hY).at_ Hq8.out))))
 have R10 := Lib.hid r10
 clear e10 z10 r10 r9 E9 E10 E810 y0 y1 y2 y3 y4 HK10 Hp8 Hq8 R8 HE8
 go_upto_region 4 with fail
 go_wp2_with fail
 rw [G10.out]
 refine Hn.out.mono ?_
 rintro e w11 ⟨D, rfl, hD, hd, E11⟩
 have HD := Lib.hid hd
 have HDl := Lib.hid hD
 have HE11 := Lib.hid E11
 clear hd hD E11 Hn
 go_wp2_with fail
 refine (primes_call _ _ _ _ _).mono ?_
 rintro e w12 ⟨rfl, hw12⟩
 obtain ⟨pb, hpb⟩ : ∃ b, w11.heap.size = b := ⟨_, rfl⟩
 have q0 := heap_alloc_new w11 (.cells #[.int .i64 64] 3)
 have F1 := Ext.alloc w11 (.cells #[.int .i64 64] 3)
 have x1 : (w11.alloc (.cells #[.int .i64 64] 3)).heap.size = pb + 1 := by rw [World.size_alloc, hpb]
 rw [hpb] at q0
 generalize w11.alloc (.cells #[.int .i64 64] 3) = v1 at *
 obtain ⟨t0, ht0⟩ : ∃ b, w9.heap.size = b := ⟨_, rfl⟩
 rw [ht0] at hw12
 have q1 := heap_alloc_new v1 (.cells #[.slice (some ⟨t0, 0, none⟩) 1 1] 23)
 have F2 := Ext.alloc v1 (.cells #[.slice (some ⟨t0, 0, none⟩) 1 1] 23)
 have x2 : (v1.alloc (.cells #[.slice (some ⟨t0, 0, none⟩) 1 1] 23)).heap.size = pb + 1 + 1 := by rw [World.size_alloc, x1]
 rw [x1] at q1
 generalize v1.alloc (.cells #[.slice (some ⟨t0, 0, none⟩) 1 1] 23) = v2 at *
 have q2 := heap_alloc_new v2 (.cells #[.pointer (some ⟨D, 0, none⟩)] 40)
 have F3 := Ext.alloc v2 (.cells #[.pointer (some ⟨D, 0, none⟩)] 40)
 have x3 : (v2.alloc (.cells #[.pointer (some ⟨D, 0, none⟩)] 40)).heap.size = pb + 1 + 1 + 1 := by rw [World.size_alloc, x2]
 rw [x2] at q2
 rw [← hw12] at q2 F3 x3
 replace q0 := F3.at_ (F2.at_ q0)
 replace q1 := F3.at_ q1
 have F := F1.trans (F2.trans F3)
 clear F1 F2 F3 x1 x2 hw12
 have hnil := fun W => seqNil W (.func 33) #[] #[.pointer (some ⟨pb, 0, none⟩), .pointer (some ⟨pb + 1, 0, none⟩), .pointer (some ⟨pb + 1 + 1, 0, none⟩)]
 have q3 := heap_alloc_new w12 (.cells #[.int .i64 0] 3)
 have F4 := Ext.alloc w12 (.cells #[.int .i64 0] 3)
 rw [x3] at q3
 have e13 : ∃ X, w12.alloc (.cells #[.int .i64 0] 3) = X := ⟨_, rfl⟩
 obtain ⟨w13, e13⟩ := e13
 rw [e13] at q3 F4
 have HDpb := HD.out.lt
 rw [hpb] at HDpb
 have hd13 := HD.out.ext (F.trans F4)
 have HI0 := Lib.hid (show I7 w10 pb (pb + 1) (pb + 1 + 1) (pb + 1 + 1 + 1) D 0 w13 from ⟨rfl, q3, HE11.out.trans (F.trans F4), hd13, F4.cell (blk_cell q0 0), by rw [Z10.out, ht0]; exact F4.cell (blk_cell q1 0), F4.cell (blk_cell q2 0)⟩)
 have H10 := Lib.hid (show w10.heap.size ≤ w13.heap.size from (HE11.out.trans (F.trans F4)).bsize)
 have HX3 := Lib.hid x3
 have Hpb := Lib.hid hpb
 have Ht0 := Lib.hid ht0
 have H13 := Lib.hid e13
 have HLt := Lib.hid (And.intro HDl.out HDpb)
 clear q0 q1 q2 q3 F F4 x3 hpb ht0 HDpb hd13 e13 HDl HD HE11
 rw [Hpb.out, Ht0.out]
 go_upto_region 7 with fail
 go_wp2
 rw [H13.out, HX3.out]
 clear hnil
 refine (wpIn_wide (n := 6)).1 ?_
 refine' wpIn_iterV (by omega) (gf := 33) (lb := #[.pointer (some ⟨pb, 0, none⟩), .pointer (some ⟨pb + 1, 0, none⟩), .pointer (some ⟨pb + 1 + 1, 0, none⟩)]) rfl (enters_of Tryz.func33 (by kernel_rfl) rfl)
  (primes_seq pb (pb + 1) (pb + 1 + 1) D w13) (fun _ _ => trivial) (fun _ _ _ _ _ _ _ _ => trivial) (tp_keeps D) (Below.refl _ _) (fun _ _ => rfl) (fun _ _ _ _ _ _ _ _ _ => trivial)
  (I7 w10 pb (pb + 1) (pb + 1 + 1) (pb + 1 + 1 + 1) D) (H7 w10 (pb + 1 + 1 + 1) 0) (fun cc k W => cc = .exit 0 ∧ H7 w10 (pb + 1 + 1 + 1) 1 k W)
  (own_I7 H10.out) (own_H7 H10.out) (fun cc k X X' row hs hg hr => ⟨hs.1, own_H7 H10.out k X X' row hs.2 hg hr⟩) (fun k W hk hi => ?hNd) (fun B k A C _ _ hi ht => ?hIT) (fun _ W' h => by have := h.1; omega) HI0.out _ ?assign ?body ?done ?stop
 case hNd =>
  obtain ⟨rfl, h1, hE, hd, cb, ce, cd⟩ := hi
  have hlt := HLt.out
  refine ⟨?_, fun _ => ⟨⟨by omega, by omega⟩, HK.out.ext (HE10.out.trans hE), hd, cb, ⟨_, _, ce, ?_⟩, cd⟩⟩
  · obtain ⟨Ak, ck, Av, cv, hD, _⟩ := hd
    exact ⟨_, hD⟩
  · rw [show w10.heap.size - 1 = w9.heap.size by rw [Z10.out]; omega]
    exact (R10.out.below hE (fun b hb => hb)).mono fun b hb => ⟨Nat.lt_of_lt_of_le hb hE.bsize, by omega⟩
 case hIT =>
  obtain ⟨rfl, h1, hE, hd, cb, ce, cd⟩ := hi
  have hlt := HLt.out
  exact ⟨rfl, ht.1.at_ (blk_lt h1) (by omega) h1, ht.1.ext' hE hlt.1 hE.bsize⟩
 case assign =>
  intro l k b W K hK
  dsimp only
  gi_wp2
  exact hK
 case body =>
  rintro l k b X ⟨rfl, h1, hE⟩ _ hlt hm
  have hl := HLt.out
  have hx := H10.out
  have y2 := blk_cell h1 0
  simp only [List.getElem?_toArray, List.getElem?_cons_zero] at y2
  have y3 := blk_free h1 0
  have y2 : X.cell? ⟨pb + 1 + 1 + 1, 0, none⟩ = some (.int .i64 0) := y2
  have hq4 : (X.setCell ⟨pb + 1 + 1 + 1, 0, none⟩ (.int .i64 1)).heap[pb + 1 + 1 + 1]? = some (.cells #[.int .i64 ((1 : Nat) : Int)] 3 (0, 0)) := by simpa using blk_set h1 0 (.int .i64 1)
  have hB4 : Ext w10 (X.setCell ⟨pb + 1 + 1 + 1, 0, none⟩ (.int .i64 1)) := Below.setCell hE (p := ⟨pb + 1 + 1 + 1, 0, none⟩) (by show w10.heap.size ≤ pb + 1 + 1 + 1; omega) _
  have hz13 : w13.heap.size = pb + 1 + 1 + 1 + 1 := by rw [← H13.out, World.size_alloc, HX3.out]
  have hK4 : Keeps w13.heap.size (w13.heap.size + 2) 0 X (X.setCell ⟨pb + 1 + 1 + 1, 0, none⟩ (.int .i64 1)) := Keeps.setCell _ _ _ _ (.inl (by show pb + 1 + 1 + 1 < _; omega)) _
  clear h1 hz13
  gi_wp2
  exact ⟨hK4, rfl, rfl, hq4, hB4⟩
 case done => exact fun _ _ _ h _ => absurd h.1 (by omega)
 case stop =>
  rintro D' cc k X hD' _ hk ⟨rfl, rfl, h1, hE⟩ hK
  have y2 := blk_cell h1 0
  simp only [List.getElem?_toArray, List.getElem?_cons_zero] at y2
  obtain ⟨ra, rb, rE, rq⟩ := Ra.out X hE
  obtain ⟨y0, y1, y3, y4, y5⟩ := fiveF rq
  obtain ⟨a8, rfl, _, c8f⟩ := ra.at_ (i := 0) (by simp)
  obtain ⟨a9, rfl, _, c9f⟩ := rb.at_ (i := 0) (by simp)
  simp [Addr.add] at c8f c9f
  have Hsz := Lib.hid (rsize_one (A1 := some ⟨s + 1, 0, none⟩) (A2 := some ⟨s + 1 + 1, 0, none⟩) (A3 := some ⟨s + 1 + 1 + 1, 0, none⟩) (A4 := some ⟨s + 1 + 1 + 1 + 1, 0, none⟩) (c1 := 1) (c2 := 1) (c3 := 1) (c4 := 1) (HR1.out X rE) 12 nbits_3233 (by omega) 2 (by decide))
  have y2 : X.cell? ⟨pb + 1 + 1 + 1, 0, none⟩ = some (.int .i64 1) := y2
  have hDl : w.heap.size ≤ D' := Nat.le_trans (HE10.out.bsize) (Nat.le_trans H10.out hD')
  have HDl := Lib.hid hDl
  have HEX := Lib.hid (HE10.out.trans hE)
  have HrE := Lib.hid rE
  have HhK := Lib.hid hK
  clear hDl hE rE hK ra rb rq h1 HI0 Ra
  refine wpIn_wide.2 ?_
  go_wp2_with fail
  refine Hsz.out.mono ?_
  rintro e X1 ⟨rfl, F1⟩
  have hv := valid_any X1 (HRR.out X1 (HrE.out.trans F1))
  rw [vOf_small] at hv
  simp only [List.length_cons, List.length_nil, Nat.zero_add] at hv
  have Hv := Lib.hid hv
  replace y0 := F1.cell y0
  replace y1 := F1.cell y1
  replace y2 := F1.cell y2
  replace y3 := F1.cell y3
  replace y4 := F1.cell y4
  replace y5 := F1.cell y5
  replace HEX := Lib.hid (HEX.out.trans F1)
  replace HhK := Lib.hid (F1.at_ HhK.out)
  clear hv F1 c8f c9f Hsz
  go_wp2_with fail
  refine Hv.out.mono ?_
  rintro e X2 ⟨rfl, F2⟩
  replace y2 := F2.cell y2
  replace HEX := Lib.hid (HEX.out.trans F2)
  replace HhK := Lib.hid (F2.at_ HhK.out)
  clear Hv y0 y1 y3 y4 y5 F2
  go_wp2
  exact ⟨by simp, .inl ⟨_, _, rfl, run_takeDeferred HhK.out, _, results_tmp rfl _ _ _, by simp, Below.trans HEX.out ⟨rfl, rfl, rfl, by simp, fun b hb => World.putObj_heap_other (by have := HDl.out; omega)⟩⟩⟩
end Go.Proofs.YtlaphnlolgokiaaGreatDoor

namespace Go.Proofs.YtlaphnlolgokiaaGreatDoor
open Go.RowKit

set_option maxRecDepth 100000 in
set_option maxHeartbeats 1000000 in
theorem refStrong_any (A A' : Option Addr) (c c' N W : Nat) (w : World) (h : RU w A c (digs 4294967296 N)) (h' : RU w A' c' (digs 4294967296 W)) (hl : (digs 4294967296 N).length < 20000) (hlW : (digs 4294967296 W).length < 40000) (hmay : nbits N ≤ 4096) :
 Calls Tryz.prog 53 #[.slice A (digs 4294967296 N).length c, .slice A' (digs 4294967296 W).length c'] w fun e w' => e = .returned (.bool (strongB N W)) ∧ Below w.heap.size w w' := by
 by_cases hno : N % 2 = 0 ∨ N < 2
 · exact refStrong_no A A' c c' N W w h hno
 · exact refStrong_odd A A' c c' N W w h h' hl hlW (by omega) (by omega) hmay
end Go.Proofs.YtlaphnlolgokiaaGreatDoor

namespace Go.Proofs.YtlaphnlolgokiaaGreatDoor
open Go.RowKit

attribute [local go_sem] Oper.semAt_some

theorem digs_nil_iff {B x : Nat} (hB : 2 ≤ B) : (((digs B x).length : Nat) : Int) = 0 ↔ x = 0 := by
 rw [← digs_nil hB, ← List.length_eq_zero_iff]
 omega
set_option maxRecDepth 100000 in
set_option maxHeartbeats 8000000 in
theorem refProb_any {A : Option Addr} {c N : Nat} (w : World) (h : RU w A c (digs 4294967296 N)) (hl : (digs 4294967296 N).length < 20000) (hb : nbits N ≤ 4096) :
 Calls Tryz.prog 27 #[.slice A (digs 4294967296 N).length c] w fun e w' => e = .returned (.bool (refProbB N)) ∧ Ext w w' := by
 obtain ⟨dn, hdn⟩ : ∃ d, (digs 4294967296 N).length = d := ⟨_, rfl⟩
 have HU := Lib.hid (fun X (hX : Ext w X) => h.up hX)
 have hMod : ∀ X (hX : Ext w X) (A' : Option Addr) (c' p : Nat), RU X A' c' (digs 4294967296 p) → 0 < p → Calls Tryz.prog 29 #[.slice A dn c, .slice A' (digs 4294967296 p).length c'] X fun e w' => ∃ A1 c1, e = .returned (.slice A1 (digs 4294967296 (N % p)).length c1) ∧ RU w' A1 c1 (digs 4294967296 (N % p)) ∧ Below X.heap.size X w' := fun X hX A' c' p h' h0 => by
  have := refMod_any A A' c c' N p X (HU.out X hX) h' (by omega) h0
  rwa [hdn] at this
 have hCmp : ∀ X (hX : Ext w X) (A' : Option Addr) (c' p : Nat), RU X A' c' (digs 4294967296 p) → Calls Tryz.prog 25 #[.slice A dn c, .slice A' (digs 4294967296 p).length c'] X fun e w' => e = .returned (.int .i64 (cmpV N p)) ∧ Ext X w' := fun X hX A' c' p h' => by
  have := refCmp_any _ _ A A' c c' N p X (HU.out X hX) h'
  rw [hdn] at this
  refine this.mono ?_
  rintro e w' ⟨rfl, n, rfl⟩
  exact ⟨rfl, below_drewN (Below.refl _ X) n⟩
 have hStr : ∀ X (hX : Ext w X) (A' : Option Addr) (c' p : Nat), RU X A' c' (digs 4294967296 p) → (digs 4294967296 p).length < 40000 → Calls Tryz.prog 53 #[.slice A dn c, .slice A' (digs 4294967296 p).length c'] X fun e w' => e = .returned (.bool (strongB N p)) ∧ Below X.heap.size X w' := fun X hX A' c' p h' hl' => by
  have := refStrong_any A A' c c' N p X (HU.out X hX) h' hl hl' hb
  rwa [hdn] at this
 have hOdd : ∀ X (hX : Ext w X), Calls Tryz.prog 52 #[.slice A dn c] X fun e w' => e = .returned (.bool (decide (N % 2 = 1))) ∧ X = w' := fun X hX => by
  have := refOdd_any A c N X (HU.out X hX)
  rwa [hdn] at this
 have hBits : ∀ X (hX : Ext w X), Calls Tryz.prog 23 #[.slice A dn c] X fun e w' => e = .returned (.int .i64 (nbits N : Int)) ∧ X = w' := fun X hX => by
  have := refBits_any _ A c N X (HU.out X hX)
  rwa [hdn] at this
 rw [hdn]
 have HMod := Lib.hid hMod
 have HCmp := Lib.hid hCmp
 have HStr := Lib.hid hStr
 have HOdd := Lib.hid hOdd
 have HBits := Lib.hid hBits
 have Hb := Lib.hid hb
 obtain ⟨V, hV⟩ : ∃ V, refProbB N = V := ⟨_, rfl⟩
 rw [hV]
 have HV := Lib.hid hV
 have hA0 := Ext.alloc w (.cells #[.int .u64 2, .int .u64 3, .int .u64 5, .int .u64 7, .int .u64 11, .int .u64 13, .int .u64 17, .int .u64 19, .int .u64 23, .int .u64 29, .int .u64 31, .int .u64 37] 34)
 have hf := (RS.fresh (w := w) (P := fun b => b = w.heap.size) #[.int .u64 2, .int .u64 3, .int .u64 5, .int .u64 7, .int .u64 11, .int .u64 13, .int .u64 17, .int .u64 19, .int .u64 23, .int .u64 29, .int .u64 31, .int .u64 37] 34 1 12 rfl (by unfold maxLen; omega) rfl)
 have hfew : RN (w.alloc (.cells #[.int .u64 2, .int .u64 3, .int .u64 5, .int .u64 7, .int .u64 11, .int .u64 13, .int .u64 17, .int .u64 19, .int .u64 23, .int .u64 29, .int .u64 31, .int .u64 37] 34)) (fun b => b = w.heap.size) (some ⟨w.heap.size, 0, none⟩) 12 fewL := ⟨hf, fun x hx => by simp [fewL] at hx; omega, by decide⟩
 have HFew : Hid (∀ X, Ext (w.alloc (.cells #[.int .u64 2, .int .u64 3, .int .u64 5, .int .u64 7, .int .u64 11, .int .u64 13, .int .u64 17, .int .u64 19, .int .u64 23, .int .u64 29, .int .u64 31, .int .u64 37] 34)) X → ∀ k, k < 12 → X.cell? ⟨w.heap.size, k, none⟩ = some (.int .u64 (fewL.getD k 0 : Int))) := Lib.hid fun X hX k hk => by
  have h1 := hfew.cells (ad := ⟨w.heap.size, 0, none⟩) k hk
  have h2 := hX.cell h1
  have e : (⟨w.heap.size, 0, none⟩ : Addr).add k = ⟨w.heap.size, k, none⟩ := by rw [add_blk]
  rw [e] at h2
  simpa [dg] using h2
 have HA0 := Lib.hid hA0
 obtain ⟨s, hs⟩ : ∃ s, w.heap.size = s := ⟨_, rfl⟩
 rw [hs] at HFew
 have Hs := Lib.hid hs
 clear h hl hb hdn HU hMod hCmp hStr hOdd hBits hV hA0 hf hfew hs
 go_enter Tryz.func27, Tryz.ntmps27
 go_wp2_with fail
 refine Calls.mono (R := fun e w' => e = .returned (.slice (some ⟨s, 0, none⟩) 12 12) ∧ w' = w.alloc (.cells #[.int .u64 2, .int .u64 3, .int .u64 5, .int .u64 7, .int .u64 11, .int .u64 13, .int .u64 17, .int .u64 19, .int .u64 23, .int .u64 29, .int .u64 31, .int .u64 37] 34)) ?_ ?_
 · rw [← Hs.out]
   go_enter Tryz.func51, Tryz.ntmps51
   go_wp2
   go_ret
   exact ⟨rfl, rfl⟩
 rintro e w1 ⟨rfl, hw1⟩
 rw [← hw1] at HFew HA0
 clear hw1 Hs
 go_upto_region 3 with fail
 go_loopw [4] (fun i wr => ∃ k : Nat, k ≤ 12 ∧ i = .int .i64 (k : Int) ∧ Ext w1 wr ∧ Hid (partTo N k = false)) (fun i _ => 12 - (intOf i).toNat)
 case atStart => exact ⟨0, by omega, rfl, Ext.refl _, Lib.hid rfl⟩
 case round =>
  obtain ⟨k, hk, rfl, hE, hp⟩ := hrel
  by_cases hk2 : k < 12
  rotate_left
  · obtain rfl : k = 12 := by omega
    have Hp := Lib.hid hp
    have HE := Lib.hid hE
    have HEw := Lib.hid (Ext.trans HA0.out hE)
    clear hp hE hk hk2
    have ht : V = (if N = 2 then true else if N % 2 = 1 ∧ 2 < N then fewTo N 12 else false) := by
     rw [← HV.out]
     unfold refProbB
     rw [if_neg (by rw [Hp.out]; decide)]
    have HT := Lib.hid ht
    obtain ⟨z, hz⟩ : ∃ z, cmpV N 2 = z := ⟨_, rfl⟩
    obtain ⟨o, ho⟩ : ∃ b, decide (N % 2 = 1) = b := ⟨_, rfl⟩
    have Hz := Lib.hid hz
    have Ho := Lib.hid ho
    clear ht hz ho Hp HV
    go_upto_region 9 with fail
    go_wp2_with fail
    refine (refOf_any 2 wr (by omega)).mono ?_
    rintro e w2 ⟨A2, c2, rfl, hO2, hB2⟩
    have HE2 := Lib.hid (Ext.trans HE.out hB2)
    have HEw2 := Lib.hid (Ext.trans HEw.out hB2)
    have hc := HCmp.out w2 HEw2.out A2 c2 2 hO2.ru
    rw [Hz.out] at hc
    have HC := Lib.hid hc
    clear hO2 hB2 hc HE HEw
    go_wp2_with fail
    refine HC.out.mono ?_
    rintro e w3 ⟨rfl, hB3⟩
    have HE3 := Lib.hid (Ext.trans HE2.out hB3)
    have HEw3 := Lib.hid (Ext.trans HEw2.out hB3)
    clear hB3 HC HE2 HEw2
    rcases cmpV_cases N 2 with h | h | h
    · have hz : z = -1 := by rw [← Hz.out]; exact h.2
      have hV : V = false := by rw [HT.out, if_neg (by omega), if_neg (by omega)]
      subst hz hV
      clear h
      go_upto_region 11 with fail
      have ho := HOdd.out w3 HEw3.out
      rw [Ho.out] at ho
      have HO1 := Lib.hid ho
      clear ho
      go_wp2_with fail
      refine HO1.out.mono ?_
      rintro e w4 ⟨rfl, rfl⟩
      cases o
      · go_wp2
        go_ret
        exact ⟨rfl, HEw3.out⟩
      · go_wp2_with fail
        refine (refOf_any 2 w3 (by omega)).mono ?_
        rintro e w5 ⟨A5, c5, rfl, hO5, hB5⟩
        have hc := HCmp.out w5 (Ext.trans HEw3.out hB5) A5 c5 2 hO5.ru
        rw [Hz.out] at hc
        have HC := Lib.hid hc
        have HEw5 := Lib.hid (Ext.trans HEw3.out hB5)
        clear hO5 hB5 hc
        go_wp2_with fail
        refine HC.out.mono ?_
        rintro e w6 ⟨rfl, hB6⟩
        have HEw6 := Lib.hid (Ext.trans HEw5.out hB6)
        clear hB6
        go_wp2
        go_ret
        exact ⟨rfl, HEw6.out⟩
    · have hz : z = 0 := by rw [← Hz.out]; exact h.2
      have hV : V = true := by rw [HT.out, if_pos h.1]
      subst hz hV
      clear h
      go_wp2
      go_ret
      exact ⟨rfl, HEw3.out⟩
    · have hz : z = 1 := by rw [← Hz.out]; exact h.2
      have hV : V = (o && fewTo N 12) := by
       rw [HT.out, if_neg (by omega)]
       have h2 := h.1
       rw [← Ho.out]
       by_cases ho : N % 2 = 1
       · rw [if_pos ⟨ho, h2⟩, decide_eq_true ho]; rfl
       · rw [if_neg (fun h => ho h.1), decide_eq_false ho]; rfl
      have Hn2 := Lib.hid h.1
      have HV2 := Lib.hid hV
      subst hz
      clear h hV HT
      go_upto_region 11 with fail
      have ho := HOdd.out w3 HEw3.out
      rw [Ho.out] at ho
      have HO1 := Lib.hid ho
      clear ho
      go_wp2_with fail
      refine HO1.out.mono ?_
      rintro e w4 ⟨rfl, rfl⟩
      cases o
      · have hV : V = false := by rw [HV2.out]; rfl
        subst hV
        go_wp2
        go_ret
        exact ⟨rfl, HEw3.out⟩
      go_wp2_with fail
      refine (refOf_any 2 w3 (by omega)).mono ?_
      rintro e w5 ⟨A5, c5, rfl, hO5, hB5⟩
      have hc := HCmp.out w5 (Ext.trans HEw3.out hB5) A5 c5 2 hO5.ru
      rw [Hz.out] at hc
      have HC := Lib.hid hc
      have HE5 := Lib.hid (Ext.trans HE3.out hB5)
      have HEw5 := Lib.hid (Ext.trans HEw3.out hB5)
      clear hO5 hB5 hc HE3 HEw3
      go_wp2_with fail
      refine HC.out.mono ?_
      rintro e w6 ⟨rfl, hB6⟩
      have HE6 := Lib.hid (Ext.trans HE5.out hB6)
      have HEw6 := Lib.hid (Ext.trans HEw5.out hB6)
      have HBi := Lib.hid (HBits.out w6 HEw6.out)
      have hnb : ¬ (4096 : Int) < (nbits N : Int) := by have := Hb.out; omega
      have hnb2 : decide ((4096 : Int) < (nbits N : Int)) = false := decide_eq_false hnb
      obtain ⟨nb, hn⟩ : ∃ nb, nbits N = nb := ⟨_, rfl⟩
      rw [hn] at HBi hnb hnb2
      clear hB6 HE5 HEw5 HC hn
      go_wp2_with fail
      refine HBi.out.mono ?_
      rintro e w7 ⟨rfl, rfl⟩
      have hV : V = fewTo N 12 := by rw [HV2.out]; rfl
      have HV3 := Lib.hid hV
      clear hV HV2 HBi
      go_upto_region 13 with fail
      clear hnb hnb2
      go_upto_region 14 with fail
      go_loopw [7] (fun i wr => ∃ k : Nat, k ≤ 12 ∧ i = .int .i64 (k : Int) ∧ Ext w6 wr ∧ Hid (fewTo N k = true)) (fun i _ => 12 - (intOf i).toNat)
      case atStart => exact ⟨0, by omega, rfl, Ext.refl _, Lib.hid rfl⟩
      case round =>
       obtain ⟨k, hk, rfl, hE, hp⟩ := hrel
       by_cases hk2 : k < 12
       rotate_left
       · obtain rfl : k = 12 := by omega
         have hV : V = true := by rw [HV3.out]; exact hp.out
         have HEx := Lib.hid (Ext.trans HEw6.out hE)
         subst hV
         clear hp hE hk hk2
         go_wp2
         go_ret
         exact ⟨rfl, HEx.out⟩
       · obtain ⟨pk, hpk⟩ : ∃ p, fewL.getD k 0 = p := ⟨_, rfl⟩
         have hcell := HFew.out wr (Ext.trans HE6.out hE) k hk2
         rw [hpk] at hcell
         have hfl := few_lt hk2
         rw [hpk] at hfl
         have hsucc := fewTo_succ N k
         rw [hp.out, hpk, Bool.true_and] at hsucc
         have kk : (k : Int) < 12 := by omega
         have k0 : (0 : Int) ≤ (k : Int) := by omega
         have HO := Lib.hid (refOf_any pk wr hfl.2.1)
         have hl2 : (digs 4294967296 pk).length < 40000 := Nat.lt_of_le_of_lt (digs_length_of_lt (n := 2) (by omega) (by have := hfl.2.1; omega)) (by omega)
         have Hl2 := Lib.hid hl2
         have HE := Lib.hid (Ext.trans HEw6.out hE)
         have HE6r := Lib.hid hE
         have Hk := Lib.hid hk2
         obtain ⟨sb, hsb⟩ : ∃ b, strongB N pk = b := ⟨_, rfl⟩
         rw [hsb] at hsucc
         have HSu := Lib.hid hsucc
         have Hsb := Lib.hid hsb
         clear hpk hfl hsucc hp hE hk2 hk hl2 hsb
         go_upto_region 16 with fail
         go_wp2_with fail
         refine HO.out.mono ?_
         rintro e v2 ⟨A2, c2, rfl, hO2, hB2⟩
         have hs := HStr.out v2 (Ext.trans HE.out hB2) A2 c2 pk hO2.ru Hl2.out
         rw [Hsb.out] at hs
         have HS := Lib.hid hs
         have HE2 := Lib.hid (Ext.trans HE.out hB2)
         have HE62 := Lib.hid (Ext.trans HE6r.out hB2)
         clear hO2 hB2 HO hcell hs
         go_wp2_with fail
         refine HS.out.mono ?_
         rintro e v3 ⟨rfl, hB3⟩
         have HE3 := Lib.hid (Ext.trans HE2.out hB3)
         have HE63 := Lib.hid (Ext.trans HE62.out hB3)
         clear hB3 HS
         cases sb
         · have hV : V = false := by rw [HV3.out]; exact fewTo_false (k := k + 1) HSu.out (by have := Hk.out; omega)
           subst hV
           go_wp2
           go_ret
           exact ⟨rfl, HE3.out⟩
         · go_wp2
           go_roundw
           case rel => exact ⟨k + 1, by have := Hk.out; omega, by go_num, HE63.out, Lib.hid HSu.out⟩
           case measure => simp [intOf]; have := Hk.out; omega
  · obtain ⟨pk, hpk⟩ : ∃ p, fewL.getD k 0 = p := ⟨_, rfl⟩
    have hcell := HFew.out wr hE k hk2
    rw [hpk] at hcell
    have hfl := few_lt hk2
    rw [hpk] at hfl
    have hsucc := partTo_succ N k
    rw [hp.out, hpk, Bool.false_or] at hsucc
    have HSu := Lib.hid hsucc
    have kk : (k : Int) < 12 := by omega
    have k0 : (0 : Int) ≤ (k : Int) := by omega
    have hO := refOf_any pk wr hfl.2.1
    have HO := Lib.hid hO
    have Hp0 := Lib.hid hfl.1
    have HE := Lib.hid hE
    have Hk := Lib.hid hk2
    have hmod0 : ((((digs 4294967296 (N % pk)).length : Nat) : Int) == 0) = decide (N % pk = 0) := by
     rw [Bool.eq_iff_iff]
     simp only [beq_iff_eq, decide_eq_true_eq]
     exact digs_nil_iff (by omega)
    obtain ⟨b1, hb1⟩ : ∃ b, decide (N % pk = 0) = b := ⟨_, rfl⟩
    obtain ⟨b2, hb2⟩ : ∃ b, decide (N ≠ pk) = b := ⟨_, rfl⟩
    rw [hb1, hb2] at HSu
    rw [hb1] at hmod0
    obtain ⟨z, hz⟩ : ∃ z, cmpV N pk = z := ⟨_, rfl⟩
    have hz2 : (z != 0) = b2 := by rw [← hz, ← hb2]; rcases cmpV_cases N pk with h | h | h <;> rw [h.2] <;> simp <;> omega
    have Hz := Lib.hid hz
    obtain ⟨L, hL⟩ : ∃ L, (digs 4294967296 (N % pk)).length = L := ⟨_, rfl⟩
    rw [hL] at hmod0
    have HL := Lib.hid hL
    clear hpk hfl hsucc hp hE hO hk2 hk hb1 hb2 hz hL
    go_upto_region 5 with fail
    go_wp2_with fail
    refine HO.out.mono ?_
    rintro e w2 ⟨A2, c2, rfl, hO2, hB2⟩
    have HM := HMod.out w2 (Ext.trans HA0.out (Ext.trans HE.out hB2)) A2 c2 pk hO2.ru Hp0.out
    rw [HL.out] at HM
    have HM := Lib.hid HM
    have HO2 := Lib.hid (show RU w2 A2 c2 (digs 4294967296 pk) from hO2.ru)
    have HE2 := Lib.hid (Ext.trans HE.out hB2)
    clear hO2 hB2 HO hcell
    go_upto_region 6 with fail
    go_wp2_with fail
    refine HM.out.mono ?_
    rintro e w3 ⟨A3, c3, rfl, hr3, hB3⟩
    have hc := HCmp.out w3 (Ext.trans HA0.out (Ext.trans HE2.out hB3)) A2 c2 pk (RN.up HO2.out hB3)
    rw [Hz.out] at hc
    have HC := Lib.hid hc
    have HE3 := Lib.hid (Ext.trans HE2.out hB3)
    clear hr3 hB3 HM hc HO2
    go_upto_region 7 with fail
    cases b1
    · go_wp2
      go_roundw
      case rel => exact ⟨k + 1, by have := Hk.out; omega, by go_num, HE3.out, Lib.hid (by rw [HSu.out]; rfl)⟩
      case measure => simp [intOf]; have := Hk.out; omega
    · go_wp2_with fail
      refine HC.out.mono ?_
      rintro e w4 ⟨rfl, hB4⟩
      have HE4 := Lib.hid (Ext.trans HE3.out hB4)
      clear hB4
      cases b2
      · go_wp2
        go_roundw
        case rel => exact ⟨k + 1, by have := Hk.out; omega, by go_num, HE4.out, Lib.hid (by rw [HSu.out]; rfl)⟩
        case measure => simp [intOf]; have := Hk.out; omega
      · have hV : V = false := by
         rw [← HV.out]
         unfold refProbB
         rw [if_pos (partTo_true (by rw [HSu.out]; rfl) (by have := Hk.out; omega))]
        subst hV
        go_wp2
        go_ret
        exact ⟨rfl, Ext.trans HA0.out HE4.out⟩
end Go.Proofs.YtlaphnlolgokiaaGreatDoor

namespace Go.Proofs.YtlaphnlolgokiaaGreatDoor
open Go.RowKit

attribute [local go_sem] Oper.semAt_some

def NR (w : World) (A : Option Addr) (c x : Nat) : Prop := RU w A c (digs 4294967296 x) ∧ (digs 4294967296 x).length < 20000
theorem NR.ext {w X : World} {A : Option Addr} {c x : Nat} (h : NR w A c x) (hE : Ext w X) : NR X A c x := ⟨h.1.up hE, h.2⟩
def RKr (w : World) (v : Value) (n e d p q : Nat) : Prop := ∃ (A0 A1 A2 A3 A4 : Option Addr) (c0 c1 c2 c3 c4 : Nat),
 v = .agg #[.slice A0 (digs 4294967296 n).length c0, .slice A1 (digs 4294967296 e).length c1, .slice A2 (digs 4294967296 d).length c2, .slice A3 (digs 4294967296 p).length c3, .slice A4 (digs 4294967296 q).length c4] ∧ NR w A0 c0 n ∧ NR w A1 c1 e ∧ NR w A2 c2 d ∧ NR w A3 c3 p ∧ NR w A4 c4 q
theorem RKr.ext {w X : World} {v : Value} {n e d p q : Nat} (h : RKr w v n e d p q) (hE : Ext w X) : RKr X v n e d p q := by
 obtain ⟨A0, A1, A2, A3, A4, c0, c1, c2, c3, c4, rfl, h0, h1, h2, h3, h4⟩ := h
 exact ⟨A0, A1, A2, A3, A4, c0, c1, c2, c3, c4, rfl, h0.ext hE, h1.ext hE, h2.ext hE, h3.ext hE, h4.ext hE⟩
theorem r_cmp {A A' : Option Addr} {c c' x y : Nat} {w : World} (h : RU w A c (digs 4294967296 x)) (h' : RU w A' c' (digs 4294967296 y)) :
 Calls Tryz.prog 25 #[.slice A (digs 4294967296 x).length c, .slice A' (digs 4294967296 y).length c'] w fun e w' => e = .returned (.int .i64 (cmpV x y)) ∧ Ext w w' := by
 refine (refCmp_any _ _ A A' c c' x y w h h').mono ?_
 rintro e w' ⟨rfl, n, rfl⟩
 exact ⟨rfl, below_drewN (Below.refl _ w) n⟩
theorem r_bits {A : Option Addr} {c x : Nat} {w : World} (h : RU w A c (digs 4294967296 x)) :
 Calls Tryz.prog 23 #[.slice A (digs 4294967296 x).length c] w fun e w' => e = .returned (.int .i64 (nbits x : Int)) ∧ Ext w w' := by
 refine (refBits_any _ A c x w h).mono ?_
 rintro e w' ⟨rfl, rfl⟩
 exact ⟨rfl, Ext.refl w⟩
theorem r_bit0 {A : Option Addr} {c x : Nat} {w : World} (h : RU w A c (digs 4294967296 x)) :
 Calls Tryz.prog 28 #[.slice A (digs 4294967296 x).length c, .int .i64 0] w fun e w' => e = .returned (.int .u64 ((x % 2 : Nat) : Int)) ∧ Ext w w' := by
 refine (refBit_any _ A c x 0 w h (by omega)).mono ?_
 rintro e w' ⟨rfl, rfl⟩
 exact ⟨by rw [bitOf_zero], Ext.refl w⟩
theorem r_of (x : Nat) (w : World) (hx : x < 18446744073709551616) :
 Calls Tryz.prog 24 #[.int .u64 (x : Int)] w fun e w' => ∃ A' c', e = .returned (.slice A' (digs 4294967296 x).length c') ∧ RU w' A' c' (digs 4294967296 x) ∧ Ext w w' := by
 refine (refOf_any x w hx).mono ?_
 rintro e w' ⟨A, c, rfl, hO, hB⟩
 exact ⟨A, c, rfl, hO.ru, hB⟩
theorem r_mul {A A' : Option Addr} {c c' x y : Nat} {w : World} (h : NR w A c x) (h' : NR w A' c' y) :
 Calls Tryz.prog 26 #[.slice A (digs 4294967296 x).length c, .slice A' (digs 4294967296 y).length c'] w fun e w' => ∃ A1 c1, e = .returned (.slice A1 (digs 4294967296 (x * y)).length c1) ∧ RU w' A1 c1 (digs 4294967296 (x * y)) ∧ Ext w w' := by
 refine (refMul_any _ _ A A' c c' x y w h.1 h'.1 lt_self lt_self (by have := h.2; omega) (by have := h'.2; omega)).mono ?_
 rintro e w' ⟨A1, c1, rfl, hO, hB⟩
 exact ⟨A1, c1, rfl, hO.ru, hB⟩
theorem r_sub1 {A A' : Option Addr} {c c' x : Nat} {w : World} (h : NR w A c x) (h' : RU w A' c' (digs 4294967296 1)) (h1 : 1 ≤ x) :
 Calls Tryz.prog 30 #[.slice A (digs 4294967296 x).length c, .slice A' (digs 4294967296 1).length c'] w fun e w' => ∃ A1 c1, e = .returned (.slice A1 (digs 4294967296 (x - 1)).length c1) ∧ RU w' A1 c1 (digs 4294967296 (x - 1)) ∧ Ext w w' := by
 refine (refSub_any _ _ A A' c c' x 1 w h.1 h' lt_self lt_self (by have := h.2; omega) h1).mono ?_
 rintro e w' ⟨A1, c1, rfl, hO, hB⟩
 exact ⟨A1, c1, rfl, hO.ru, hB⟩
theorem cmp_le {x y : Nat} : decide (cmpV x y ≤ (0 : Int)) = decide (x ≤ y) := by
 rcases cmpV_cases x y with h | h | h <;> rw [h.2] <;> simp <;> omega
theorem digs32_mul_len {x y j k : Nat} (hx : (digs 4294967296 x).length ≤ j) (hy : (digs 4294967296 y).length ≤ k) : (digs 4294967296 (x * y)).length ≤ j + k := by
 refine digs_length_of_lt (by omega) ?_
 have b : ∀ {z n : Nat}, (digs 4294967296 z).length ≤ n → z < 4294967296 ^ n := fun {z n} h => by
  have h1 := val_lt (digs_lt (B := 4294967296) (by omega) z)
  rw [val_digs (by omega)] at h1
  exact Nat.lt_of_lt_of_le h1 (Nat.pow_le_pow_right (by omega) h)
 rw [Nat.pow_add]
 exact Nat.mul_lt_mul'' (b hx) (b hy)
set_option maxRecDepth 100000 in
set_option maxHeartbeats 8000000 in
theorem refValid_any {v : Value} {n e d p q : Nat} (w : World) (hk : RKr w v n e d p q) :
 Calls Tryz.prog 7 #[v] w fun ev w' => ev = .returned (.bool (vOf n e d p q)) ∧ Ext w w' := by
 obtain ⟨A0, A1, A2, A3, A4, c0, c1, c2, c3, c4, rfl, h0, h1, h2, h3, h4⟩ := hk
 obtain ⟨dn, hdn⟩ : ∃ l, (digs 4294967296 n).length = l := ⟨_, rfl⟩
 obtain ⟨de, hde⟩ : ∃ l, (digs 4294967296 e).length = l := ⟨_, rfl⟩
 obtain ⟨dd, hdd⟩ : ∃ l, (digs 4294967296 d).length = l := ⟨_, rfl⟩
 obtain ⟨dp, hdp⟩ : ∃ l, (digs 4294967296 p).length = l := ⟨_, rfl⟩
 obtain ⟨dq, hdq⟩ : ∃ l, (digs 4294967296 q).length = l := ⟨_, rfl⟩
 rw [hdn, hde, hdd, hdp, hdq]
 obtain ⟨W0, hW0⟩ : ∃ W0, W0 = w.alloc (.cells #[.slice A0 dn c0, .slice A1 de c1, .slice A2 dd c2, .slice A3 dp c3, .slice A4 dq c4] 32) := ⟨_, rfl⟩
 obtain ⟨s, hs⟩ : ∃ s, w.heap.size = s := ⟨_, rfl⟩
 have hq0 := heap_alloc_new w (.cells #[.slice A0 dn c0, .slice A1 de c1, .slice A2 dd c2, .slice A3 dp c3, .slice A4 dq c4] 32)
 have hE : Ext w W0 := by rw [hW0]; exact Ext.alloc _ _
 rw [← hW0, hs] at hq0
 have HN := fun X (hX : Ext W0 X) => h0.ext (Ext.trans hE hX)
 have HEe := fun X (hX : Ext W0 X) => h1.ext (Ext.trans hE hX)
 have HD := fun X (hX : Ext W0 X) => h2.ext (Ext.trans hE hX)
 have HPp := fun X (hX : Ext W0 X) => h3.ext (Ext.trans hE hX)
 have HQ := fun X (hX : Ext W0 X) => h4.ext (Ext.trans hE hX)
 have HE0 := Lib.hid hE
 have Hs := Lib.hid hs
 have Hq0 := Lib.hid hq0
 obtain ⟨V, hV⟩ : ∃ V, vOf n e d p q = V := ⟨_, rfl⟩
 rw [hV]
 obtain ⟨nb, hnb⟩ : ∃ nb, nbits n = nb := ⟨_, rfl⟩
 obtain ⟨r2, hr2⟩ : ∃ r, e % 2 = r := ⟨_, rfl⟩
 obtain ⟨z3, hz3⟩ : ∃ z, cmpV p q = z := ⟨_, rfl⟩
 obtain ⟨z4, hz4⟩ : ∃ z, cmpV d n = z := ⟨_, rfl⟩
 obtain ⟨z5, hz5⟩ : ∃ z, cmpV e n = z := ⟨_, rfl⟩
 obtain ⟨z7, hz7⟩ : ∃ z, cmpV e 2 = z := ⟨_, rfl⟩
 obtain ⟨z9, hz9⟩ : ∃ z, cmpV (p * q) n = z := ⟨_, rfl⟩
 obtain ⟨dm, hdm⟩ : ∃ l, (digs 4294967296 (p * q)).length = l := ⟨_, rfl⟩
 obtain ⟨dx, hdx⟩ : ∃ l, (digs 4294967296 (e * d)).length = l := ⟨_, rfl⟩
 obtain ⟨two, htwo⟩ : ∃ l, (digs 4294967296 2).length = l := ⟨_, rfl⟩
 obtain ⟨b1, hb1⟩ : ∃ b, decide ((nb : Int) < 256) = b := ⟨_, rfl⟩
 obtain ⟨b2, hb2⟩ : ∃ b, decide ((4096 : Int) < (nb : Int)) = b := ⟨_, rfl⟩
 obtain ⟨b3, hb3⟩ : ∃ b, (z3 == 0) = b := ⟨_, rfl⟩
 obtain ⟨b4, hb4⟩ : ∃ b, decide ((0 : Int) ≤ z4) = b := ⟨_, rfl⟩
 obtain ⟨b5, hb5⟩ : ∃ b, decide ((0 : Int) ≤ z5) = b := ⟨_, rfl⟩
 obtain ⟨b6, hb6⟩ : ∃ b, (((r2 : Nat) : Int) == 0) = b := ⟨_, rfl⟩
 obtain ⟨b7, hb7⟩ : ∃ b, decide (z7 ≤ (0 : Int)) = b := ⟨_, rfl⟩
 obtain ⟨b9, hb9⟩ : ∃ b, (z9 != 0) = b := ⟨_, rfl⟩
 have e3 : b3 = decide (p = q) := by rw [← hb3, ← hz3, cmp_z]
 have e4 : b4 = decide (n ≤ d) := by rw [← hb4, ← hz4, cmp_ge]
 have e5 : b5 = decide (n ≤ e) := by rw [← hb5, ← hz5, cmp_ge]
 have e7 : b7 = decide (e ≤ 2) := by rw [← hb7, ← hz7, cmp_le]
 have e9 : b9 = decide (p * q ≠ n) := by rw [← hb9, ← hz9, cmp_ne]
 have hv : V = (!b1 && !b2 && !b3 && !b4 && !b5 && !b6 && !b7 && decide (p * q = n) && probB p && probB q && decide (e * d % (p - 1) = 1) && decide (e * d % (q - 1) = 1)) := by
  rw [← hV, e3, e4, e5, e7, ← hb1, ← hb2, ← hb6]
  unfold vOf
  rw [hnb]
  congr 5
  have hr : r2 = 0 ∨ r2 = 1 := by omega
  have x1 : decide (256 ≤ nb) = !decide ((nb : Int) < 256) := by
   by_cases h : nb < 256
   · rw [decide_eq_false (by omega), decide_eq_true (by omega : (nb : Int) < 256)]; rfl
   · rw [decide_eq_true (by omega), decide_eq_false (by omega)]; rfl
  have x2 : decide (nb ≤ 4096) = !decide ((4096 : Int) < (nb : Int)) := by
   by_cases h : 4096 < nb
   · rw [decide_eq_false (by omega), decide_eq_true (by omega : (4096 : Int) < (nb : Int))]; rfl
   · rw [decide_eq_true (by omega), decide_eq_false (by omega)]; rfl
  have x4 : decide (d < n) = !decide (n ≤ d) := by by_cases h : n ≤ d <;> simp [h] <;> omega
  have x5 : decide (e < n) = !decide (n ≤ e) := by by_cases h : n ≤ e <;> simp [h] <;> omega
  have x6 : (decide (e % 2 = 1) && decide (2 ≤ nbits e)) = (!(((r2 : Nat) : Int) == 0) && !decide (e ≤ 2)) := by
   rcases hr with h | h
   · rw [hr2, h]; rfl
   · rw [hr2, h]
     have : decide (2 ≤ nbits e) = !decide (e ≤ 2) := by
      by_cases he : e ≤ 2
      · have h1 : e = 1 := by omega
        subst h1; decide
      · have := nbits_two (N := e) (by omega)
        simp [he, this]
     rw [this]; rfl
  rw [x1, x2, x4, x5]
  simp only [Bool.and_assoc]
  rw [x6]
  simp
 have hlx : dx < 40000 := by rw [← hdx]; have y1 := digs32_mul_len (x := e) (y := d) (Nat.le_refl _) (Nat.le_refl _); have y2 := h1.2; have y3 := h2.2; omega
 have HBn := Lib.hid (fun X (hX : Ext W0 X) => (hnb ▸ hdn ▸ r_bits (HN X hX).1 : Calls Tryz.prog 23 #[.slice A0 dn c0] X fun e w' => e = .returned (.int .i64 (nb : Int)) ∧ Ext X w'))
 have HC1 := Lib.hid (fun X (hX : Ext W0 X) => (hz3 ▸ hdp ▸ hdq ▸ r_cmp (HPp X hX).1 (HQ X hX).1 : Calls Tryz.prog 25 #[.slice A3 dp c3, .slice A4 dq c4] X fun e w' => e = .returned (.int .i64 z3) ∧ Ext X w'))
 have HMu := Lib.hid (fun X (hX : Ext W0 X) => (hdm ▸ hdp ▸ hdq ▸ r_mul (HPp X hX) (HQ X hX) : Calls Tryz.prog 26 #[.slice A3 dp c3, .slice A4 dq c4] X fun e w' => ∃ A1 c1, e = .returned (.slice A1 dm c1) ∧ RU w' A1 c1 (digs 4294967296 (p * q)) ∧ Ext X w'))
 have HCm := Lib.hid (fun X (hX : Ext W0 X) (A1 : Option Addr) (c1 : Nat) (h : RU X A1 c1 (digs 4294967296 (p * q))) => (hz9 ▸ hdm ▸ hdn ▸ r_cmp h (HN X hX).1 : Calls Tryz.prog 25 #[.slice A1 dm c1, .slice A0 dn c0] X fun e w' => e = .returned (.int .i64 z9) ∧ Ext X w'))
 have HT0 := Lib.hid (fun X (hX : Ext W0 X) => (hr2 ▸ hde ▸ r_bit0 (HEe X hX).1 : Calls Tryz.prog 28 #[.slice A1 de c1, .int .i64 0] X fun e w' => e = .returned (.int .u64 (r2 : Int)) ∧ Ext X w'))
 have HOf := Lib.hid (fun X => (htwo ▸ r_of 2 X (by omega) : Calls Tryz.prog 24 #[.int .u64 2] X fun e w' => ∃ A' c', e = .returned (.slice A' two c') ∧ RU w' A' c' (digs 4294967296 2) ∧ Ext X w'))
 have HC2 := Lib.hid (fun X (hX : Ext W0 X) (A' : Option Addr) (c' : Nat) (h : RU X A' c' (digs 4294967296 2)) => (hz7 ▸ hde ▸ htwo ▸ r_cmp (HEe X hX).1 h : Calls Tryz.prog 25 #[.slice A1 de c1, .slice A' two c'] X fun e w' => e = .returned (.int .i64 z7) ∧ Ext X w'))
 have HC5 := Lib.hid (fun X (hX : Ext W0 X) => (hz5 ▸ hde ▸ hdn ▸ r_cmp (HEe X hX).1 (HN X hX).1 : Calls Tryz.prog 25 #[.slice A1 de c1, .slice A0 dn c0] X fun e w' => e = .returned (.int .i64 z5) ∧ Ext X w'))
 have HC4 := Lib.hid (fun X (hX : Ext W0 X) => (hz4 ▸ hdd ▸ hdn ▸ r_cmp (HD X hX).1 (HN X hX).1 : Calls Tryz.prog 25 #[.slice A2 dd c2, .slice A0 dn c0] X fun e w' => e = .returned (.int .i64 z4) ∧ Ext X w'))
 have HPr := Lib.hid (fun X (hX : Ext W0 X) (hb : nbits p ≤ 4096) => (hdp ▸ refProb_any X (HPp X hX).1 (HPp X hX).2 hb : Calls Tryz.prog 27 #[.slice A3 dp c3] X fun e w' => e = .returned (.bool (refProbB p)) ∧ Ext X w'))
 have HPs := Lib.hid (fun X (hX : Ext W0 X) (hb : nbits q ≤ 4096) => (hdq ▸ refProb_any X (HQ X hX).1 (HQ X hX).2 hb : Calls Tryz.prog 27 #[.slice A4 dq c4] X fun e w' => e = .returned (.bool (refProbB q)) ∧ Ext X w'))
 have HMx := Lib.hid (fun X (hX : Ext W0 X) => (hdx ▸ hde ▸ hdd ▸ r_mul (HEe X hX) (HD X hX) : Calls Tryz.prog 26 #[.slice A1 de c1, .slice A2 dd c2] X fun e' w' => ∃ A1 c1, e' = .returned (.slice A1 dx c1) ∧ RU w' A1 c1 (digs 4294967296 (e * d)) ∧ Ext X w'))
 have HCo := Lib.hid (fun (X : World) (A A' : Option Addr) (c c' x : Nat) (h : RU X A c (digs 4294967296 x)) (h' : RU X A' c' (digs 4294967296 1)) => r_cmp h h')
 have HSp' := fun X (hX : Ext W0 X) (A' : Option Addr) (c' : Nat) (h' : RU X A' c' (digs 4294967296 1)) (h1 : 1 ≤ p) => (hdp ▸ r_sub1 (HPp X hX) h' h1 : Calls Tryz.prog 30 #[.slice A3 dp c3, .slice A' (digs 4294967296 1).length c'] X fun e w' => ∃ A1 c1, e = .returned (.slice A1 (digs 4294967296 (p - 1)).length c1) ∧ RU w' A1 c1 (digs 4294967296 (p - 1)) ∧ Ext X w')
 have HSq' := fun X (hX : Ext W0 X) (A' : Option Addr) (c' : Nat) (h' : RU X A' c' (digs 4294967296 1)) (h1 : 1 ≤ q) => (hdq ▸ r_sub1 (HQ X hX) h' h1 : Calls Tryz.prog 30 #[.slice A4 dq c4, .slice A' (digs 4294967296 1).length c'] X fun e w' => ∃ A1 c1, e = .returned (.slice A1 (digs 4294967296 (q - 1)).length c1) ∧ RU w' A1 c1 (digs 4294967296 (q - 1)) ∧ Ext X w')
 have HSp0 := Lib.hid HSp'
 have HSq0 := Lib.hid HSq'
 have HLx := Lib.hid hdx
 have Hlx : Hid ((digs 4294967296 (e * d)).length < 40000) := Lib.hid (by rw [hdx]; exact hlx)
 have Hv := Lib.hid hv
 have Hnb := Lib.hid hnb
 have He9 := Lib.hid e9
 have Hg1 := Lib.hid hb1
 have Hg2 := Lib.hid hb2
 have Hg3 := Lib.hid hb3
 have Hg4 := Lib.hid hb4
 have Hg5 := Lib.hid hb5
 have Hg6 := Lib.hid hb6
 have Hg7 := Lib.hid hb7
 have Hg9 := Lib.hid hb9
 clear h0 h1 h2 h3 h4 hE hs hV hnb hr2 hz3 hz4 hz5 hz7 hz9 e3 e4 e5 e7 e9 hv hq0 HN HEe HD HPp HQ HSp' HSq' hlx hdn hde hdd hdp hdq hdm hdx htwo hb1 hb2 hb3 hb4 hb5 hb6 hb7 hb9
 go_enter Tryz.func7, Tryz.ntmps7
 go_upto_region 1 with fail
 rw [← hW0, Hs.out]
 clear hW0
 have HE := Lib.hid (Ext.refl W0)
 obtain ⟨y0, y1, y2, y3, y4⟩ := fiveF Hq0.out
 go_wp2_with fail
 refine (HBn.out _ HE.out).mono ?_
 rintro e9 w9 ⟨rfl, hx⟩
 replace HE := Lib.hid (Ext.trans HE.out hx)
 clear hx y0 y1 y2 y3 y4
 go_upto_region 2 with fail
 go_wp2_with fail
 refine (r_of 1 _ (by omega)).mono ?_
 rintro e9 w10 ⟨A5, c5, rfl, hr5, hx⟩
 replace HE := Lib.hid (Ext.trans HE.out hx)
 have HR4 := Lib.hid hr5
 clear hx hr5
 obtain ⟨y0, y1, y2, y3, y4⟩ := fiveF (Ext.at_ HE.out Hq0.out)
 have HSp := Lib.hid (fun X (hX : Ext W0 X) (A' : Option Addr) (c' : Nat) (h' : RU X A' c' (digs 4294967296 1)) (h1 : 1 ≤ p) => HSp0.out X hX A' c' h' h1)
 have HSq := Lib.hid (fun X (hX : Ext W0 X) (A' : Option Addr) (c' : Nat) (h' : RU X A' c' (digs 4294967296 1)) (h1 : 1 ≤ q) => HSq0.out X hX A' c' h' h1)
 clear HSp0 HSq0
 rename World => V2
 go_upto_region 3 with fail
 cases b1
 rotate_left
 · have hV : V = false := by rw [Hv.out]; simp
   subst hV
   refine Par.region_ext (by kernel_rfl) 25 [0, 1, 3, 7, 15, 31, 63, 127, 255, 127, 639, 2047, 4095, 8191, 16383, 32767, 65535, 32767, 163839, 524287, 32767, 1081343, 4194303, 8388607, 16777215] [] (fun j f X => match j with
    | 0 => f 0 = .int .i64 (nb : Int)
    | 1 => f 1 = .bool true
    | 2 => f 2 = .bool true
    | 3 => f 3 = undef
    | 4 => f 4 = undef
    | 5 => f 5 = .bool true
    | 6 => f 6 = .bool true
    | 7 => f 7 = undef
    | 8 => f 8 = undef
    | 9 => f 9 = undef
    | 10 => f 10 = undef
    | 11 => f 11 = undef
    | 12 => f 12 = undef
    | 13 => f 13 = .bool true
    | 14 => f 14 = .bool true
    | 15 => f 15 = undef
    | 16 => f 16 = undef
    | 17 => f 17 = undef
    | 18 => f 18 = undef
    | 19 => f 19 = undef
    | 20 => f 20 = undef
    | 21 => f 21 = undef
    | 22 => f 22 = undef
    | 23 => f 23 = undef
    | 24 => f 24 = .bool true
    | _ => True) (by kernel_rfl) [(12, 0), (13, 1), (14, 2), (15, 3), (16, 4), (17, 5), (18, 6), (19, 7), (20, 8), (21, 9), (22, 10), (23, 11), (24, 12), (25, 13), (26, 14), (27, 15), (28, 16), (29, 17), (30, 18), (31, 19), (32, 20), (33, 21), (34, 22), (35, 23), (36, 24)] (by kernel_rfl) ?_
   refine Par.v0 1 24 ?_
   refine Par.S 2 23 [(12, 0)] (fun f X hX hR K hK => ?_) ?_
   · have e0 : f 0 = _ := hR.out 0 rfl
     have g1 := Hg1.out
     simp only [yA, yB, yC, yD, yE, e0]
     refine ⟨?_⟩
     go_simp
     exact Par.k hK (s := by simp only [yA, yB, yC, yD, yE, e0])
   refine Par.v1 3 22 1 ?_
   refine Par.sk 4 21 2 ?_
   refine Par.sk 5 20 2 ?_
   refine Par.v2 6 19 2 4 ?_
   refine Par.v1 7 18 5 ?_
   refine Par.sk 8 17 6 ?_
   refine Par.sk 9 16 6 ?_
   refine Par.sk 10 15 6 ?_
   refine Par.sk 11 14 6 ?_
   refine Par.sk 12 13 6 ?_
   refine Par.sk 13 12 6 ?_
   refine Par.v2 14 11 6 12 ?_
   refine Par.v1 15 10 13 ?_
   refine Par.sk 16 9 14 ?_
   refine Par.sk 17 8 14 ?_
   refine Par.sk 18 7 14 ?_
   refine Par.sk 19 6 14 ?_
   refine Par.sk 20 5 14 ?_
   refine Par.sk 21 4 14 ?_
   refine Par.sk 22 3 14 ?_
   refine Par.sk 23 2 14 ?_
   refine Par.sk 24 1 14 ?_
   refine Par.v2 25 0 14 23 ?_
   refine Par.AllOps.fin ⟨fun f X hX hR hal hap => ?_⟩
   have e24 : f 24 = _ := hR 24 (by decide)
   simp only [yA, yB, yD, yE, e24]
   clear hR hal hap e24
   refine Par.Chain.done ?_
   go_wp2
   go_ret
   exact ⟨rfl, Ext.trans HE0.out (Ext.trans HE.out hX)⟩
 cases b2
 rotate_left
 · have hV : V = false := by rw [Hv.out]; simp
   subst hV
   refine Par.region_ext (by kernel_rfl) 25 [0, 1, 3, 7, 15, 31, 63, 127, 255, 127, 639, 2047, 4095, 8191, 16383, 32767, 65535, 32767, 163839, 524287, 32767, 1081343, 4194303, 8388607, 16777215] [] (fun j f X => match j with
    | 0 => f 0 = .int .i64 (nb : Int)
    | 1 => f 1 = .bool false
    | 2 => f 2 = .bool false
    | 3 => f 3 = .int .i64 (nb : Int)
    | 4 => f 4 = .bool true
    | 5 => f 5 = .bool true
    | 6 => f 6 = .bool true
    | 7 => f 7 = undef
    | 8 => f 8 = undef
    | 9 => f 9 = undef
    | 10 => f 10 = undef
    | 11 => f 11 = undef
    | 12 => f 12 = undef
    | 13 => f 13 = .bool true
    | 14 => f 14 = .bool true
    | 15 => f 15 = undef
    | 16 => f 16 = undef
    | 17 => f 17 = undef
    | 18 => f 18 = undef
    | 19 => f 19 = undef
    | 20 => f 20 = undef
    | 21 => f 21 = undef
    | 22 => f 22 = undef
    | 23 => f 23 = undef
    | 24 => f 24 = .bool true
    | _ => True) (by kernel_rfl) [(12, 0), (13, 1), (14, 2), (15, 3), (16, 4), (17, 5), (18, 6), (19, 7), (20, 8), (21, 9), (22, 10), (23, 11), (24, 12), (25, 13), (26, 14), (27, 15), (28, 16), (29, 17), (30, 18), (31, 19), (32, 20), (33, 21), (34, 22), (35, 23), (36, 24)] (by kernel_rfl) ?_
   refine Par.v0 1 24 ?_
   refine Par.S 2 23 [(12, 0)] (fun f X hX hR K hK => ?_) ?_
   · have e0 : f 0 = _ := hR.out 0 rfl
     have g1 := Hg1.out
     simp only [yA, yB, yC, yD, yE, e0]
     refine ⟨?_⟩
     go_simp
     exact Par.k hK (s := by simp only [yA, yB, yC, yD, yE, e0])
   refine Par.v1 3 22 1 ?_
   refine Par.v1 4 21 2 ?_
   refine Par.S 5 20 [(12, 0), (13, 1), (14, 2), (15, 3)] (fun f X hX hR K hK => ?_) ?_
   · have e2 : f 2 = _ := hR.out 2 rfl
     have e3 : f 3 = _ := hR.out 3 rfl
     have g2 := Hg2.out
     simp only [yA, yB, yC, yD, yE, e2, e3]
     refine ⟨Par.want (by kernel_rfl) ?_⟩
     go_simp
     exact Par.k hK (s := by simp only [yA, yB, yC, yD, yE, e2, e3])
   refine Par.v2 6 19 2 4 ?_
   refine Par.v1 7 18 5 ?_
   refine Par.sk 8 17 6 ?_
   refine Par.sk 9 16 6 ?_
   refine Par.sk 10 15 6 ?_
   refine Par.sk 11 14 6 ?_
   refine Par.sk 12 13 6 ?_
   refine Par.sk 13 12 6 ?_
   refine Par.v2 14 11 6 12 ?_
   refine Par.v1 15 10 13 ?_
   refine Par.sk 16 9 14 ?_
   refine Par.sk 17 8 14 ?_
   refine Par.sk 18 7 14 ?_
   refine Par.sk 19 6 14 ?_
   refine Par.sk 20 5 14 ?_
   refine Par.sk 21 4 14 ?_
   refine Par.sk 22 3 14 ?_
   refine Par.sk 23 2 14 ?_
   refine Par.sk 24 1 14 ?_
   refine Par.v2 25 0 14 23 ?_
   refine Par.AllOps.fin ⟨fun f X hX hR hal hap => ?_⟩
   have e24 : f 24 = _ := hR 24 (by decide)
   simp only [yA, yB, yD, yE, e24]
   clear hR hal hap e24
   refine Par.Chain.done ?_
   go_wp2
   go_ret
   exact ⟨rfl, Ext.trans HE0.out (Ext.trans HE.out hX)⟩
 cases b3
 rotate_left
 · have hV : V = false := by rw [Hv.out]; simp
   subst hV
   refine Par.region_ext (by kernel_rfl) 25 [0, 1, 3, 7, 15, 31, 63, 127, 255, 127, 639, 2047, 4095, 8191, 16383, 32767, 65535, 32767, 163839, 524287, 32767, 1081343, 4194303, 8388607, 16777215] [] (fun j f X => match j with
    | 0 => f 0 = .int .i64 (nb : Int)
    | 1 => f 1 = .bool false
    | 2 => f 2 = .bool false
    | 3 => f 3 = .int .i64 (nb : Int)
    | 4 => f 4 = .bool false
    | 5 => f 5 = .bool false
    | 6 => f 6 = .bool false
    | 7 => f 7 = .pointer (some ⟨s, 3, none⟩)
    | 8 => f 8 = .slice A3 dp c3
    | 9 => f 9 = .pointer (some ⟨s, 4, none⟩)
    | 10 => f 10 = .slice A4 dq c4
    | 11 => f 11 = .int .i64 z3
    | 12 => f 12 = .bool true
    | 13 => f 13 = .bool true
    | 14 => f 14 = .bool true
    | 15 => f 15 = undef
    | 16 => f 16 = undef
    | 17 => f 17 = undef
    | 18 => f 18 = undef
    | 19 => f 19 = undef
    | 20 => f 20 = undef
    | 21 => f 21 = undef
    | 22 => f 22 = undef
    | 23 => f 23 = undef
    | 24 => f 24 = .bool true
    | _ => True) (by kernel_rfl) [(12, 0), (13, 1), (14, 2), (15, 3), (16, 4), (17, 5), (18, 6), (19, 7), (20, 8), (21, 9), (22, 10), (23, 11), (24, 12), (25, 13), (26, 14), (27, 15), (28, 16), (29, 17), (30, 18), (31, 19), (32, 20), (33, 21), (34, 22), (35, 23), (36, 24)] (by kernel_rfl) ?_
   refine Par.v0 1 24 ?_
   refine Par.S 2 23 [(12, 0)] (fun f X hX hR K hK => ?_) ?_
   · have e0 : f 0 = _ := hR.out 0 rfl
     have g1 := Hg1.out
     simp only [yA, yB, yC, yD, yE, e0]
     refine ⟨?_⟩
     go_simp
     exact Par.k hK (s := by simp only [yA, yB, yC, yD, yE, e0])
   refine Par.v1 3 22 1 ?_
   refine Par.v1 4 21 2 ?_
   refine Par.S 5 20 [(12, 0), (13, 1), (14, 2), (15, 3)] (fun f X hX hR K hK => ?_) ?_
   · have e2 : f 2 = _ := hR.out 2 rfl
     have e3 : f 3 = _ := hR.out 3 rfl
     have g2 := Hg2.out
     simp only [yA, yB, yC, yD, yE, e2, e3]
     refine ⟨Par.want (by kernel_rfl) ?_⟩
     go_simp
     exact Par.k hK (s := by simp only [yA, yB, yC, yD, yE, e2, e3])
   refine Par.v2 6 19 2 4 ?_
   refine Par.v1 7 18 5 ?_
   refine Par.v1 8 17 6 ?_
   refine Par.S 9 16 [(12, 0), (13, 1), (14, 2), (15, 3), (16, 4), (17, 5), (18, 6), (19, 7), (21, 9), (22, 10)] (fun f X hX hR K hK => ?_) ?_
   · have e6 : f 6 = _ := hR.out 6 rfl
     have e7 : f 7 = _ := hR.out 7 rfl
     have x0 := hX.cell y3
     simp only [yA, yB, yC, yD, yE, e6, e7]
     refine ⟨Par.want (by kernel_rfl) ?_⟩
     go_simp
     exact Par.k hK (s := by simp only [yA, yB, yC, yD, yE, e6, e7])
   refine Par.v1 10 15 6 ?_
   refine Par.S 11 14 [(12, 0), (13, 1), (14, 2), (15, 3), (16, 4), (17, 5), (18, 6), (19, 7), (20, 8), (21, 9)] (fun f X hX hR K hK => ?_) ?_
   · have e6 : f 6 = _ := hR.out 6 rfl
     have e9 : f 9 = _ := hR.out 9 rfl
     have x0 := hX.cell y4
     simp only [yA, yB, yC, yD, yE, e6, e9]
     refine ⟨Par.want (by kernel_rfl) ?_⟩
     go_simp
     exact Par.k hK (s := by simp only [yA, yB, yC, yD, yE, e6, e9])
   refine Par.c1 12 13 6 (fun f => #[f 8, f 10]) (F' := 25) (fun f X hX hR => ?_) ?_
   · have e8 : f 8 = _ := hR.out 8 rfl
     have e10 : f 10 = _ := hR.out 10 rfl
     simp only [e8, e10]
     refine (HC1.out X (Ext.trans HE.out hX)).mono ?_
     rintro e w' ⟨rfl, hB⟩
     exact ⟨(.int .i64 z3), rfl, hB, fun _ _ => rfl⟩
   refine Par.S 13 12 [(12, 0), (13, 1), (14, 2), (15, 3), (16, 4), (17, 5), (18, 6), (19, 7), (20, 8), (21, 9), (22, 10), (23, 11)] (fun f X hX hR K hK => ?_) ?_
   · have e6 : f 6 = _ := hR.out 6 rfl
     have e11 : f 11 = _ := hR.out 11 rfl
     have g3 := Hg3.out
     simp only [yA, yB, yC, yD, yE, e6, e11]
     refine ⟨Par.want (by kernel_rfl) ?_⟩
     go_simp
     exact Par.k hK (s := by simp only [yA, yB, yC, yD, yE, e6, e11])
   refine Par.v2 14 11 6 12 ?_
   refine Par.v1 15 10 13 ?_
   refine Par.sk 16 9 14 ?_
   refine Par.sk 17 8 14 ?_
   refine Par.sk 18 7 14 ?_
   refine Par.sk 19 6 14 ?_
   refine Par.sk 20 5 14 ?_
   refine Par.sk 21 4 14 ?_
   refine Par.sk 22 3 14 ?_
   refine Par.sk 23 2 14 ?_
   refine Par.sk 24 1 14 ?_
   refine Par.v2 25 0 14 23 ?_
   refine Par.AllOps.fin ⟨fun f X hX hR hal hap => ?_⟩
   have e24 : f 24 = _ := hR 24 (by decide)
   simp only [yA, yB, yD, yE, e24]
   clear hR hal hap e24
   refine Par.Chain.done ?_
   go_wp2
   go_ret
   exact ⟨rfl, Ext.trans HE0.out (Ext.trans HE.out hX)⟩
 refine Par.region_ext (by kernel_rfl) 25 [0, 1, 3, 7, 15, 31, 63, 127, 255, 127, 639, 2047, 4095, 8191, 16383, 32767, 65535, 32767, 163839, 524287, 32767, 1081343, 4194303, 8388607, 16777215] [] (fun j f X => match j with
  | 0 => f 0 = .int .i64 (nb : Int)
  | 1 => f 1 = .bool false
  | 2 => f 2 = .bool false
  | 3 => f 3 = .int .i64 (nb : Int)
  | 4 => f 4 = .bool false
  | 5 => f 5 = .bool false
  | 6 => f 6 = .bool false
  | 7 => f 7 = .pointer (some ⟨s, 3, none⟩)
  | 8 => f 8 = .slice A3 dp c3
  | 9 => f 9 = .pointer (some ⟨s, 4, none⟩)
  | 10 => f 10 = .slice A4 dq c4
  | 11 => f 11 = .int .i64 z3
  | 12 => f 12 = .bool false
  | 13 => f 13 = .bool false
  | 14 => f 14 = .bool false
  | 15 => f 15 = .pointer (some ⟨s, 3, none⟩)
  | 16 => f 16 = .slice A3 dp c3
  | 17 => f 17 = .pointer (some ⟨s, 4, none⟩)
  | 18 => f 18 = .slice A4 dq c4
  | 19 => ∃ A c, f 19 = .slice A dm c ∧ RU X A c (digs 4294967296 (p * q))
  | 20 => f 20 = .pointer (some ⟨s, 0, none⟩)
  | 21 => f 21 = .slice A0 dn c0
  | 22 => f 22 = .int .i64 z9
  | 23 => f 23 = .bool b9
  | 24 => f 24 = .bool b9
  | _ => True) (by kernel_rfl) [(12, 0), (13, 1), (14, 2), (15, 3), (16, 4), (17, 5), (18, 6), (19, 7), (20, 8), (21, 9), (22, 10), (23, 11), (24, 12), (25, 13), (26, 14), (27, 15), (28, 16), (29, 17), (30, 18), (31, 19), (32, 20), (33, 21), (34, 22), (35, 23), (36, 24)] (by kernel_rfl) ?_
 refine Par.v0 1 24 ?_
 refine Par.S 2 23 [(12, 0)] (fun f X hX hR K hK => ?_) ?_
 · have e0 : f 0 = _ := hR.out 0 rfl
   have g1 := Hg1.out
   simp only [yA, yB, yC, yD, yE, e0]
   refine ⟨?_⟩
   go_simp
   exact Par.k hK (s := by simp only [yA, yB, yC, yD, yE, e0])
 refine Par.v1 3 22 1 ?_
 refine Par.v1 4 21 2 ?_
 refine Par.S 5 20 [(12, 0), (13, 1), (14, 2), (15, 3)] (fun f X hX hR K hK => ?_) ?_
 · have e2 : f 2 = _ := hR.out 2 rfl
   have e3 : f 3 = _ := hR.out 3 rfl
   have g2 := Hg2.out
   simp only [yA, yB, yC, yD, yE, e2, e3]
   refine ⟨Par.want (by kernel_rfl) ?_⟩
   go_simp
   exact Par.k hK (s := by simp only [yA, yB, yC, yD, yE, e2, e3])
 refine Par.v2 6 19 2 4 ?_
 refine Par.v1 7 18 5 ?_
 refine Par.v1 8 17 6 ?_
 refine Par.S 9 16 [(12, 0), (13, 1), (14, 2), (15, 3), (16, 4), (17, 5), (18, 6), (19, 7), (21, 9), (22, 10)] (fun f X hX hR K hK => ?_) ?_
 · have e6 : f 6 = _ := hR.out 6 rfl
   have e7 : f 7 = _ := hR.out 7 rfl
   have x0 := hX.cell y3
   simp only [yA, yB, yC, yD, yE, e6, e7]
   refine ⟨Par.want (by kernel_rfl) ?_⟩
   go_simp
   exact Par.k hK (s := by simp only [yA, yB, yC, yD, yE, e6, e7])
 refine Par.v1 10 15 6 ?_
 refine Par.S 11 14 [(12, 0), (13, 1), (14, 2), (15, 3), (16, 4), (17, 5), (18, 6), (19, 7), (20, 8), (21, 9)] (fun f X hX hR K hK => ?_) ?_
 · have e6 : f 6 = _ := hR.out 6 rfl
   have e9 : f 9 = _ := hR.out 9 rfl
   have x0 := hX.cell y4
   simp only [yA, yB, yC, yD, yE, e6, e9]
   refine ⟨Par.want (by kernel_rfl) ?_⟩
   go_simp
   exact Par.k hK (s := by simp only [yA, yB, yC, yD, yE, e6, e9])
 refine Par.c1 12 13 6 (fun f => #[f 8, f 10]) (F' := 25) (fun f X hX hR => ?_) ?_
 · have e8 : f 8 = _ := hR.out 8 rfl
   have e10 : f 10 = _ := hR.out 10 rfl
   simp only [e8, e10]
   refine (HC1.out X (Ext.trans HE.out hX)).mono ?_
   rintro e w' ⟨rfl, hB⟩
   exact ⟨(.int .i64 z3), rfl, hB, fun _ _ => rfl⟩
 refine Par.S 13 12 [(12, 0), (13, 1), (14, 2), (15, 3), (16, 4), (17, 5), (18, 6), (19, 7), (20, 8), (21, 9), (22, 10), (23, 11)] (fun f X hX hR K hK => ?_) ?_
 · have e6 : f 6 = _ := hR.out 6 rfl
   have e11 : f 11 = _ := hR.out 11 rfl
   have g3 := Hg3.out
   simp only [yA, yB, yC, yD, yE, e6, e11]
   refine ⟨Par.want (by kernel_rfl) ?_⟩
   go_simp
   exact Par.k hK (s := by simp only [yA, yB, yC, yD, yE, e6, e11])
 refine Par.v2 14 11 6 12 ?_
 refine Par.v1 15 10 13 ?_
 refine Par.v1 16 9 14 ?_
 refine Par.S 17 8 [(12, 0), (13, 1), (14, 2), (15, 3), (16, 4), (17, 5), (18, 6), (19, 7), (20, 8), (21, 9), (22, 10), (23, 11), (24, 12), (25, 13), (26, 14), (27, 15), (29, 17), (30, 18), (32, 20), (33, 21)] (fun f X hX hR K hK => ?_) ?_
 · have e14 : f 14 = _ := hR.out 14 rfl
   have e15 : f 15 = _ := hR.out 15 rfl
   have x0 := hX.cell y3
   simp only [yA, yB, yC, yD, yE, e14, e15]
   refine ⟨Par.want (by kernel_rfl) ?_⟩
   go_simp
   exact Par.k hK (s := by simp only [yA, yB, yC, yD, yE, e14, e15])
 refine Par.v1 18 7 14 ?_
 refine Par.S 19 6 [(12, 0), (13, 1), (14, 2), (15, 3), (16, 4), (17, 5), (18, 6), (19, 7), (20, 8), (21, 9), (22, 10), (23, 11), (24, 12), (25, 13), (26, 14), (27, 15), (28, 16), (29, 17), (32, 20), (33, 21)] (fun f X hX hR K hK => ?_) ?_
 · have e14 : f 14 = _ := hR.out 14 rfl
   have e17 : f 17 = _ := hR.out 17 rfl
   have x0 := hX.cell y4
   simp only [yA, yB, yC, yD, yE, e14, e17]
   refine ⟨Par.want (by kernel_rfl) ?_⟩
   go_simp
   exact Par.k hK (s := by simp only [yA, yB, yC, yD, yE, e14, e17])
 refine Par.c1 20 5 14 (fun f => #[f 16, f 18]) (F' := 26) (fun f X hX hR => ?_) ?_
 · have e16 : f 16 = _ := hR.out 16 rfl
   have e18 : f 18 = _ := hR.out 18 rfl
   simp only [e16, e18]
   refine (HMu.out X (Ext.trans HE.out hX)).mono ?_
   rintro e w' ⟨Ax, cx, rfl, hr, hB⟩
   exact ⟨(.slice Ax dm cx), rfl, hB, fun Y hY => ⟨Ax, cx, rfl, RN.up hr hY⟩⟩
 refine Par.v1 21 4 14 ?_
 refine Par.S 22 3 [(12, 0), (13, 1), (14, 2), (15, 3), (16, 4), (17, 5), (18, 6), (19, 7), (20, 8), (21, 9), (22, 10), (23, 11), (24, 12), (25, 13), (26, 14), (27, 15), (28, 16), (29, 17), (30, 18), (31, 19), (32, 20)] (fun f X hX hR K hK => ?_) ?_
 · have e14 : f 14 = _ := hR.out 14 rfl
   have e20 : f 20 = _ := hR.out 20 rfl
   have x0 := hX.cell y0
   simp only [yA, yB, yC, yD, yE, e14, e20]
   refine ⟨Par.want (by kernel_rfl) ?_⟩
   go_simp
   exact Par.k hK (s := by simp only [yA, yB, yC, yD, yE, e14, e20])
 refine Par.c1 23 2 14 (fun f => #[f 19, f 21]) (F' := 25) (fun f X hX hR => ?_) ?_
 · obtain ⟨A19, c19, (e19 : f 19 = _), r19⟩ := hR.out 19 rfl
   have e21 : f 21 = _ := hR.out 21 rfl
   simp only [e19, e21]
   refine (HCm.out X (Ext.trans HE.out hX) _ _ r19).mono ?_
   rintro e w' ⟨rfl, hB⟩
   exact ⟨(.int .i64 z9), rfl, hB, fun _ _ => rfl⟩
 refine Par.S 24 1 [(12, 0), (13, 1), (14, 2), (15, 3), (16, 4), (17, 5), (18, 6), (19, 7), (20, 8), (21, 9), (22, 10), (23, 11), (24, 12), (25, 13), (26, 14), (27, 15), (28, 16), (29, 17), (30, 18), (31, 19), (32, 20), (33, 21), (34, 22)] (fun f X hX hR K hK => ?_) ?_
 · have e14 : f 14 = _ := hR.out 14 rfl
   have e22 : f 22 = _ := hR.out 22 rfl
   have g9 := Hg9.out
   simp only [yA, yB, yC, yD, yE, e14, e22]
   refine ⟨Par.want (by kernel_rfl) ?_⟩
   go_simp
   exact Par.k hK (s := by simp only [yA, yB, yC, yD, yE, e14, e22])
 refine Par.v2 25 0 14 23 ?_
 refine Par.AllOps.fin ⟨fun f X hX hR hal hap => ?_⟩
 obtain ⟨A19, c19, (e19 : f 19 = _), r19⟩ := hR 19 (by decide)
 have e24 : f 24 = _ := hR 24 (by decide)
 simp only [yA, yB, yD, yE, e19, e24]
 clear hR hal hap e19 e24
 refine Par.Chain.done ?_
 replace HE := Lib.hid (Ext.trans HE.out hX)
 replace HR4 := Lib.hid (RN.up HR4.out hX)
 clear hX r19 y0 y1 y2 y3 y4
 rename World => V5
 obtain ⟨y0, y1, y2, y3, y4⟩ := fiveF (Ext.at_ HE.out Hq0.out)
 cases b9
 rotate_left
 · have hne : ¬ p * q = n := by have := He9.out; simpa using this.symm
   have hV : V = false := by rw [Hv.out]; simp [hne]
   subst hV
   go_wp2
   go_ret
   exact ⟨rfl, Ext.trans HE0.out HE.out⟩
 have hpq : p * q = n := by have := He9.out; simpa using this.symm
 have hn0 : 0 < n := Nat.pos_of_ne_zero fun e => by have h1 := Hnb.out; have h2 := Hg1.out; rw [e, nbits_zero] at h1; rw [← h1] at h2; simp at h2
 have hbn := nbits_mul_le hpq hn0
 rw [Hnb.out] at hbn
 have hb4 : nb ≤ 4096 := by have := Hg2.out; have := of_decide_eq_false this; omega
 obtain ⟨pp, hpp⟩ : ∃ b, probB p = b := ⟨_, rfl⟩
 obtain ⟨pq, hpq'⟩ : ∃ b, probB q = b := ⟨_, rfl⟩
 have HPp5 := Lib.hid (fun X (hX : Ext W0 X) => (hpp ▸ refProb_eq (by omega : nbits p ≤ 4096) ▸ HPr.out X hX (by omega) : Calls Tryz.prog 27 #[.slice A3 dp c3] X fun e w' => e = .returned (.bool pp) ∧ Ext X w'))
 have HQ5 := Lib.hid (fun X (hX : Ext W0 X) => (hpq' ▸ refProb_eq (by omega : nbits q ≤ 4096) ▸ HPs.out X hX (by omega) : Calls Tryz.prog 27 #[.slice A4 dq c4] X fun e w' => e = .returned (.bool pq) ∧ Ext X w'))
 have hv2 := Hv.out
 rw [hpp, hpq', decide_eq_true hpq] at hv2
 have h2p : pp = true → 2 ≤ p := fun h => by rw [h] at hpp; exact prob_two hpp
 have h2q : pq = true → 2 ≤ q := fun h => by rw [h] at hpq'; exact prob_two hpq'
 replace Hv := Lib.hid hv2
 have H2p := Lib.hid h2p
 have H2q := Lib.hid h2q
 clear hpq hn0 hbn hb4 hpp hpq' hv2 h2p h2q
 go_upto_region 5 with fail
 go_wp2_with fail
 refine (HPp5.out _ HE.out).mono ?_
 rintro e9 w9 ⟨rfl, hx⟩
 replace HE := Lib.hid (Ext.trans HE.out hx)
 replace HR4 := Lib.hid (RN.up HR4.out hx)
 clear hx y0 y1 y2 y3 y4
 obtain ⟨y0, y1, y2, y3, y4⟩ := fiveF (Ext.at_ HE.out Hq0.out)
 cases pp
 · have hV : V = false := by rw [Hv.out]; simp
   subst hV
   go_wp2
   go_ret
   exact ⟨rfl, Ext.trans HE0.out HE.out⟩
 go_wp2_with fail
 refine (HQ5.out _ HE.out).mono ?_
 rintro e9 w9 ⟨rfl, hx⟩
 replace HE := Lib.hid (Ext.trans HE.out hx)
 replace HR4 := Lib.hid (RN.up HR4.out hx)
 clear hx y0 y1 y2 y3 y4
 obtain ⟨y0, y1, y2, y3, y4⟩ := fiveF (Ext.at_ HE.out Hq0.out)
 cases pq
 · have hV : V = false := by rw [Hv.out]; simp
   subst hV
   go_wp2
   go_ret
   exact ⟨rfl, Ext.trans HE0.out HE.out⟩
 have Hp1 := Lib.hid (H2p.out (by first | trivial | rfl))
 have Hq1 := Lib.hid (H2q.out (by first | trivial | rfl))
 clear H2p H2q HPp5 HQ5
 rename World => V7
 go_upto_region 7 with fail
 cases b6
 rotate_left
 · have hV : V = false := by rw [Hv.out]; simp
   subst hV
   refine Par.region_ext (by kernel_rfl) 27 [0, 1, 3, 7, 15, 31, 63, 31, 255, 511, 1023, 2047, 4095, 8191, 4095, 20479, 65535, 131071, 262143, 524287, 1048575, 2097151, 1048575, 5242879, 16777215, 33554431, 67108863] [] (fun j f X => match j with
    | 0 => f 0 = .pointer (some ⟨s, 1, none⟩)
    | 1 => f 1 = .slice A1 de c1
    | 2 => f 2 = .int .u64 (r2 : Int)
    | 3 => f 3 = .bool true
    | 4 => f 4 = .bool true
    | 5 => f 5 = undef
    | 6 => f 6 = undef
    | 7 => f 7 = undef
    | 8 => f 8 = undef
    | 9 => f 9 = undef
    | 10 => f 10 = .bool true
    | 11 => f 11 = .bool true
    | 12 => f 12 = undef
    | 13 => f 13 = undef
    | 14 => f 14 = undef
    | 15 => f 15 = undef
    | 16 => f 16 = undef
    | 17 => f 17 = undef
    | 18 => f 18 = .bool true
    | 19 => f 19 = .bool true
    | 20 => f 20 = undef
    | 21 => f 21 = undef
    | 22 => f 22 = undef
    | 23 => f 23 = undef
    | 24 => f 24 = undef
    | 25 => f 25 = undef
    | 26 => f 26 = .bool true
    | _ => True) (by kernel_rfl) [(47, 0), (48, 1), (49, 2), (50, 3), (51, 4), (52, 5), (53, 6), (54, 7), (55, 8), (56, 9), (57, 10), (58, 11), (59, 12), (60, 13), (61, 14), (62, 15), (63, 16), (64, 17), (65, 18), (66, 19), (67, 20), (68, 21), (69, 22), (70, 23), (71, 24), (72, 25), (73, 26)] (by kernel_rfl) ?_
   refine Par.v0 1 26 ?_
   refine Par.ld1 2 25 0 y1 ?_
   refine Par.c0 3 24 (fun f => #[f 1, Value.int IntKind.i64 0]) (F' := 28) (fun f X hX hR => ?_) ?_
   · have e1 : f 1 = _ := hR.out 1 rfl
     simp only [e1]
     refine (HT0.out X (Ext.trans HE.out hX)).mono ?_
     rintro e w' ⟨rfl, hB⟩
     exact ⟨(.int .u64 (r2 : Int)), rfl, hB, fun _ _ => rfl⟩
   refine Par.S 4 23 [(47, 0), (48, 1), (49, 2)] (fun f X hX hR K hK => ?_) ?_
   · have e2 : f 2 = _ := hR.out 2 rfl
     have g6 := Hg6.out
     simp only [yA, yB, yC, yD, yE, e2]
     refine ⟨?_⟩
     go_simp
     exact Par.k hK (s := by simp only [yA, yB, yC, yD, yE, e2])
   refine Par.v1 5 22 3 ?_
   refine Par.sk 6 21 4 ?_
   refine Par.sk 7 20 4 ?_
   refine Par.sk 8 19 4 ?_
   refine Par.sk 9 18 4 ?_
   refine Par.sk 10 17 4 ?_
   refine Par.v2 11 16 4 9 ?_
   refine Par.v1 12 15 10 ?_
   refine Par.sk 13 14 11 ?_
   refine Par.sk 14 13 11 ?_
   refine Par.sk 15 12 11 ?_
   refine Par.sk 16 11 11 ?_
   refine Par.sk 17 10 11 ?_
   refine Par.sk 18 9 11 ?_
   refine Par.v2 19 8 11 17 ?_
   refine Par.v1 20 7 18 ?_
   refine Par.sk 21 6 19 ?_
   refine Par.sk 22 5 19 ?_
   refine Par.sk 23 4 19 ?_
   refine Par.sk 24 3 19 ?_
   refine Par.sk 25 2 19 ?_
   refine Par.sk 26 1 19 ?_
   refine Par.v2 27 0 19 25 ?_
   refine Par.AllOps.fin ⟨fun f X hX hR hal hap => ?_⟩
   have e26 : f 26 = _ := hR 26 (by decide)
   simp only [yA, yB, yD, yE, e26]
   clear hR hal hap e26
   refine Par.Chain.done ?_
   go_wp2
   go_ret
   exact ⟨rfl, Ext.trans HE0.out (Ext.trans HE.out hX)⟩
 cases b7
 rotate_left
 · have hV : V = false := by rw [Hv.out]; simp
   subst hV
   refine Par.region_ext (by kernel_rfl) 27 [0, 1, 3, 7, 15, 31, 63, 31, 255, 511, 1023, 2047, 4095, 8191, 4095, 20479, 65535, 131071, 262143, 524287, 1048575, 2097151, 1048575, 5242879, 16777215, 33554431, 67108863] [] (fun j f X => match j with
    | 0 => f 0 = .pointer (some ⟨s, 1, none⟩)
    | 1 => f 1 = .slice A1 de c1
    | 2 => f 2 = .int .u64 (r2 : Int)
    | 3 => f 3 = .bool false
    | 4 => f 4 = .bool false
    | 5 => f 5 = .pointer (some ⟨s, 1, none⟩)
    | 6 => f 6 = .slice A1 de c1
    | 7 => ∃ A c, f 7 = .slice A two c ∧ RU X A c (digs 4294967296 2)
    | 8 => f 8 = .int .i64 z7
    | 9 => f 9 = .bool true
    | 10 => f 10 = .bool true
    | 11 => f 11 = .bool true
    | 12 => f 12 = undef
    | 13 => f 13 = undef
    | 14 => f 14 = undef
    | 15 => f 15 = undef
    | 16 => f 16 = undef
    | 17 => f 17 = undef
    | 18 => f 18 = .bool true
    | 19 => f 19 = .bool true
    | 20 => f 20 = undef
    | 21 => f 21 = undef
    | 22 => f 22 = undef
    | 23 => f 23 = undef
    | 24 => f 24 = undef
    | 25 => f 25 = undef
    | 26 => f 26 = .bool true
    | _ => True) (by kernel_rfl) [(47, 0), (48, 1), (49, 2), (50, 3), (51, 4), (52, 5), (53, 6), (54, 7), (55, 8), (56, 9), (57, 10), (58, 11), (59, 12), (60, 13), (61, 14), (62, 15), (63, 16), (64, 17), (65, 18), (66, 19), (67, 20), (68, 21), (69, 22), (70, 23), (71, 24), (72, 25), (73, 26)] (by kernel_rfl) ?_
   refine Par.v0 1 26 ?_
   refine Par.ld1 2 25 0 y1 ?_
   refine Par.c0 3 24 (fun f => #[f 1, Value.int IntKind.i64 0]) (F' := 28) (fun f X hX hR => ?_) ?_
   · have e1 : f 1 = _ := hR.out 1 rfl
     simp only [e1]
     refine (HT0.out X (Ext.trans HE.out hX)).mono ?_
     rintro e w' ⟨rfl, hB⟩
     exact ⟨(.int .u64 (r2 : Int)), rfl, hB, fun _ _ => rfl⟩
   refine Par.S 4 23 [(47, 0), (48, 1), (49, 2)] (fun f X hX hR K hK => ?_) ?_
   · have e2 : f 2 = _ := hR.out 2 rfl
     have g6 := Hg6.out
     simp only [yA, yB, yC, yD, yE, e2]
     refine ⟨?_⟩
     go_simp
     exact Par.k hK (s := by simp only [yA, yB, yC, yD, yE, e2])
   refine Par.v1 5 22 3 ?_
   refine Par.v1 6 21 4 ?_
   refine Par.S 7 20 [(47, 0), (48, 1), (49, 2), (50, 3), (51, 4), (52, 5), (54, 7)] (fun f X hX hR K hK => ?_) ?_
   · have e4 : f 4 = _ := hR.out 4 rfl
     have e5 : f 5 = _ := hR.out 5 rfl
     have x0 := hX.cell y1
     simp only [yA, yB, yC, yD, yE, e4, e5]
     refine ⟨Par.want (by kernel_rfl) ?_⟩
     go_simp
     exact Par.k hK (s := by simp only [yA, yB, yC, yD, yE, e4, e5])
   refine Par.c1 8 19 4 (fun _ => #[Value.int IntKind.u64 2]) (F' := 24) (fun f X hX hR => ?_) ?_
   · refine (HOf.out X).mono ?_
     rintro e w' ⟨Ax, cx, rfl, hr, hB⟩
     exact ⟨(.slice Ax two cx), rfl, hB, fun Y hY => ⟨Ax, cx, rfl, RN.up hr hY⟩⟩
   refine Par.c1 9 18 4 (fun f => #[f 6, f 7]) (F' := 25) (fun f X hX hR => ?_) ?_
   · have e6 : f 6 = _ := hR.out 6 rfl
     obtain ⟨A7, c7, (e7 : f 7 = _), r7⟩ := hR.out 7 rfl
     simp only [e6, e7]
     refine (HC2.out X (Ext.trans HE.out hX) _ _ r7).mono ?_
     rintro e w' ⟨rfl, hB⟩
     exact ⟨(.int .i64 z7), rfl, hB, fun _ _ => rfl⟩
   refine Par.S 10 17 [(47, 0), (48, 1), (49, 2), (50, 3), (51, 4), (52, 5), (53, 6), (54, 7), (55, 8)] (fun f X hX hR K hK => ?_) ?_
   · have e4 : f 4 = _ := hR.out 4 rfl
     have e8 : f 8 = _ := hR.out 8 rfl
     have g7 := Hg7.out
     simp only [yA, yB, yC, yD, yE, e4, e8]
     refine ⟨Par.want (by kernel_rfl) ?_⟩
     go_simp
     exact Par.k hK (s := by simp only [yA, yB, yC, yD, yE, e4, e8])
   refine Par.v2 11 16 4 9 ?_
   refine Par.v1 12 15 10 ?_
   refine Par.sk 13 14 11 ?_
   refine Par.sk 14 13 11 ?_
   refine Par.sk 15 12 11 ?_
   refine Par.sk 16 11 11 ?_
   refine Par.sk 17 10 11 ?_
   refine Par.sk 18 9 11 ?_
   refine Par.v2 19 8 11 17 ?_
   refine Par.v1 20 7 18 ?_
   refine Par.sk 21 6 19 ?_
   refine Par.sk 22 5 19 ?_
   refine Par.sk 23 4 19 ?_
   refine Par.sk 24 3 19 ?_
   refine Par.sk 25 2 19 ?_
   refine Par.sk 26 1 19 ?_
   refine Par.v2 27 0 19 25 ?_
   refine Par.AllOps.fin ⟨fun f X hX hR hal hap => ?_⟩
   obtain ⟨A7, c7, (e7 : f 7 = _), r7⟩ := hR 7 (by decide)
   have e26 : f 26 = _ := hR 26 (by decide)
   simp only [yA, yB, yD, yE, e7, e26]
   clear hR hal hap e7 e26
   refine Par.Chain.done ?_
   go_wp2
   go_ret
   exact ⟨rfl, Ext.trans HE0.out (Ext.trans HE.out hX)⟩
 cases b5
 rotate_left
 · have hV : V = false := by rw [Hv.out]; simp
   subst hV
   refine Par.region_ext (by kernel_rfl) 27 [0, 1, 3, 7, 15, 31, 63, 31, 255, 511, 1023, 2047, 4095, 8191, 4095, 20479, 65535, 131071, 262143, 524287, 1048575, 2097151, 1048575, 5242879, 16777215, 33554431, 67108863] [] (fun j f X => match j with
    | 0 => f 0 = .pointer (some ⟨s, 1, none⟩)
    | 1 => f 1 = .slice A1 de c1
    | 2 => f 2 = .int .u64 (r2 : Int)
    | 3 => f 3 = .bool false
    | 4 => f 4 = .bool false
    | 5 => f 5 = .pointer (some ⟨s, 1, none⟩)
    | 6 => f 6 = .slice A1 de c1
    | 7 => ∃ A c, f 7 = .slice A two c ∧ RU X A c (digs 4294967296 2)
    | 8 => f 8 = .int .i64 z7
    | 9 => f 9 = .bool false
    | 10 => f 10 = .bool false
    | 11 => f 11 = .bool false
    | 12 => f 12 = .pointer (some ⟨s, 1, none⟩)
    | 13 => f 13 = .slice A1 de c1
    | 14 => f 14 = .pointer (some ⟨s, 0, none⟩)
    | 15 => f 15 = .slice A0 dn c0
    | 16 => f 16 = .int .i64 z5
    | 17 => f 17 = .bool true
    | 18 => f 18 = .bool true
    | 19 => f 19 = .bool true
    | 20 => f 20 = undef
    | 21 => f 21 = undef
    | 22 => f 22 = undef
    | 23 => f 23 = undef
    | 24 => f 24 = undef
    | 25 => f 25 = undef
    | 26 => f 26 = .bool true
    | _ => True) (by kernel_rfl) [(47, 0), (48, 1), (49, 2), (50, 3), (51, 4), (52, 5), (53, 6), (54, 7), (55, 8), (56, 9), (57, 10), (58, 11), (59, 12), (60, 13), (61, 14), (62, 15), (63, 16), (64, 17), (65, 18), (66, 19), (67, 20), (68, 21), (69, 22), (70, 23), (71, 24), (72, 25), (73, 26)] (by kernel_rfl) ?_
   refine Par.v0 1 26 ?_
   refine Par.ld1 2 25 0 y1 ?_
   refine Par.c0 3 24 (fun f => #[f 1, Value.int IntKind.i64 0]) (F' := 28) (fun f X hX hR => ?_) ?_
   · have e1 : f 1 = _ := hR.out 1 rfl
     simp only [e1]
     refine (HT0.out X (Ext.trans HE.out hX)).mono ?_
     rintro e w' ⟨rfl, hB⟩
     exact ⟨(.int .u64 (r2 : Int)), rfl, hB, fun _ _ => rfl⟩
   refine Par.S 4 23 [(47, 0), (48, 1), (49, 2)] (fun f X hX hR K hK => ?_) ?_
   · have e2 : f 2 = _ := hR.out 2 rfl
     have g6 := Hg6.out
     simp only [yA, yB, yC, yD, yE, e2]
     refine ⟨?_⟩
     go_simp
     exact Par.k hK (s := by simp only [yA, yB, yC, yD, yE, e2])
   refine Par.v1 5 22 3 ?_
   refine Par.v1 6 21 4 ?_
   refine Par.S 7 20 [(47, 0), (48, 1), (49, 2), (50, 3), (51, 4), (52, 5), (54, 7)] (fun f X hX hR K hK => ?_) ?_
   · have e4 : f 4 = _ := hR.out 4 rfl
     have e5 : f 5 = _ := hR.out 5 rfl
     have x0 := hX.cell y1
     simp only [yA, yB, yC, yD, yE, e4, e5]
     refine ⟨Par.want (by kernel_rfl) ?_⟩
     go_simp
     exact Par.k hK (s := by simp only [yA, yB, yC, yD, yE, e4, e5])
   refine Par.c1 8 19 4 (fun _ => #[Value.int IntKind.u64 2]) (F' := 24) (fun f X hX hR => ?_) ?_
   · refine (HOf.out X).mono ?_
     rintro e w' ⟨Ax, cx, rfl, hr, hB⟩
     exact ⟨(.slice Ax two cx), rfl, hB, fun Y hY => ⟨Ax, cx, rfl, RN.up hr hY⟩⟩
   refine Par.c1 9 18 4 (fun f => #[f 6, f 7]) (F' := 25) (fun f X hX hR => ?_) ?_
   · have e6 : f 6 = _ := hR.out 6 rfl
     obtain ⟨A7, c7, (e7 : f 7 = _), r7⟩ := hR.out 7 rfl
     simp only [e6, e7]
     refine (HC2.out X (Ext.trans HE.out hX) _ _ r7).mono ?_
     rintro e w' ⟨rfl, hB⟩
     exact ⟨(.int .i64 z7), rfl, hB, fun _ _ => rfl⟩
   refine Par.S 10 17 [(47, 0), (48, 1), (49, 2), (50, 3), (51, 4), (52, 5), (53, 6), (54, 7), (55, 8)] (fun f X hX hR K hK => ?_) ?_
   · have e4 : f 4 = _ := hR.out 4 rfl
     have e8 : f 8 = _ := hR.out 8 rfl
     have g7 := Hg7.out
     simp only [yA, yB, yC, yD, yE, e4, e8]
     refine ⟨Par.want (by kernel_rfl) ?_⟩
     go_simp
     exact Par.k hK (s := by simp only [yA, yB, yC, yD, yE, e4, e8])
   refine Par.v2 11 16 4 9 ?_
   refine Par.v1 12 15 10 ?_
   refine Par.v1 13 14 11 ?_
   refine Par.S 14 13 [(47, 0), (48, 1), (49, 2), (50, 3), (51, 4), (52, 5), (53, 6), (54, 7), (55, 8), (56, 9), (57, 10), (58, 11), (59, 12), (61, 14), (62, 15)] (fun f X hX hR K hK => ?_) ?_
   · have e11 : f 11 = _ := hR.out 11 rfl
     have e12 : f 12 = _ := hR.out 12 rfl
     have x0 := hX.cell y1
     simp only [yA, yB, yC, yD, yE, e11, e12]
     refine ⟨Par.want (by kernel_rfl) ?_⟩
     go_simp
     exact Par.k hK (s := by simp only [yA, yB, yC, yD, yE, e11, e12])
   refine Par.v1 15 12 11 ?_
   refine Par.S 16 11 [(47, 0), (48, 1), (49, 2), (50, 3), (51, 4), (52, 5), (53, 6), (54, 7), (55, 8), (56, 9), (57, 10), (58, 11), (59, 12), (60, 13), (61, 14)] (fun f X hX hR K hK => ?_) ?_
   · have e11 : f 11 = _ := hR.out 11 rfl
     have e14 : f 14 = _ := hR.out 14 rfl
     have x0 := hX.cell y0
     simp only [yA, yB, yC, yD, yE, e11, e14]
     refine ⟨Par.want (by kernel_rfl) ?_⟩
     go_simp
     exact Par.k hK (s := by simp only [yA, yB, yC, yD, yE, e11, e14])
   refine Par.c1 17 10 11 (fun f => #[f 13, f 15]) (F' := 25) (fun f X hX hR => ?_) ?_
   · have e13 : f 13 = _ := hR.out 13 rfl
     have e15 : f 15 = _ := hR.out 15 rfl
     simp only [e13, e15]
     refine (HC5.out X (Ext.trans HE.out hX)).mono ?_
     rintro e w' ⟨rfl, hB⟩
     exact ⟨(.int .i64 z5), rfl, hB, fun _ _ => rfl⟩
   refine Par.S 18 9 [(47, 0), (48, 1), (49, 2), (50, 3), (51, 4), (52, 5), (53, 6), (54, 7), (55, 8), (56, 9), (57, 10), (58, 11), (59, 12), (60, 13), (61, 14), (62, 15), (63, 16)] (fun f X hX hR K hK => ?_) ?_
   · have e11 : f 11 = _ := hR.out 11 rfl
     have e16 : f 16 = _ := hR.out 16 rfl
     have g5 := Hg5.out
     simp only [yA, yB, yC, yD, yE, e11, e16]
     refine ⟨Par.want (by kernel_rfl) ?_⟩
     go_simp
     exact Par.k hK (s := by simp only [yA, yB, yC, yD, yE, e11, e16])
   refine Par.v2 19 8 11 17 ?_
   refine Par.v1 20 7 18 ?_
   refine Par.sk 21 6 19 ?_
   refine Par.sk 22 5 19 ?_
   refine Par.sk 23 4 19 ?_
   refine Par.sk 24 3 19 ?_
   refine Par.sk 25 2 19 ?_
   refine Par.sk 26 1 19 ?_
   refine Par.v2 27 0 19 25 ?_
   refine Par.AllOps.fin ⟨fun f X hX hR hal hap => ?_⟩
   obtain ⟨A7, c7, (e7 : f 7 = _), r7⟩ := hR 7 (by decide)
   have e26 : f 26 = _ := hR 26 (by decide)
   simp only [yA, yB, yD, yE, e7, e26]
   clear hR hal hap e7 e26
   refine Par.Chain.done ?_
   go_wp2
   go_ret
   exact ⟨rfl, Ext.trans HE0.out (Ext.trans HE.out hX)⟩
 refine Par.region_ext (by kernel_rfl) 27 [0, 1, 3, 7, 15, 31, 63, 31, 255, 511, 1023, 2047, 4095, 8191, 4095, 20479, 65535, 131071, 262143, 524287, 1048575, 2097151, 1048575, 5242879, 16777215, 33554431, 67108863] [] (fun j f X => match j with
  | 0 => f 0 = .pointer (some ⟨s, 1, none⟩)
  | 1 => f 1 = .slice A1 de c1
  | 2 => f 2 = .int .u64 (r2 : Int)
  | 3 => f 3 = .bool false
  | 4 => f 4 = .bool false
  | 5 => f 5 = .pointer (some ⟨s, 1, none⟩)
  | 6 => f 6 = .slice A1 de c1
  | 7 => ∃ A c, f 7 = .slice A two c ∧ RU X A c (digs 4294967296 2)
  | 8 => f 8 = .int .i64 z7
  | 9 => f 9 = .bool false
  | 10 => f 10 = .bool false
  | 11 => f 11 = .bool false
  | 12 => f 12 = .pointer (some ⟨s, 1, none⟩)
  | 13 => f 13 = .slice A1 de c1
  | 14 => f 14 = .pointer (some ⟨s, 0, none⟩)
  | 15 => f 15 = .slice A0 dn c0
  | 16 => f 16 = .int .i64 z5
  | 17 => f 17 = .bool false
  | 18 => f 18 = .bool false
  | 19 => f 19 = .bool false
  | 20 => f 20 = .pointer (some ⟨s, 2, none⟩)
  | 21 => f 21 = .slice A2 dd c2
  | 22 => f 22 = .pointer (some ⟨s, 0, none⟩)
  | 23 => f 23 = .slice A0 dn c0
  | 24 => f 24 = .int .i64 z4
  | 25 => f 25 = .bool b4
  | 26 => f 26 = .bool b4
  | _ => True) (by kernel_rfl) [(47, 0), (48, 1), (49, 2), (50, 3), (51, 4), (52, 5), (53, 6), (54, 7), (55, 8), (56, 9), (57, 10), (58, 11), (59, 12), (60, 13), (61, 14), (62, 15), (63, 16), (64, 17), (65, 18), (66, 19), (67, 20), (68, 21), (69, 22), (70, 23), (71, 24), (72, 25), (73, 26)] (by kernel_rfl) ?_
 refine Par.v0 1 26 ?_
 refine Par.ld1 2 25 0 y1 ?_
 refine Par.c0 3 24 (fun f => #[f 1, Value.int IntKind.i64 0]) (F' := 28) (fun f X hX hR => ?_) ?_
 · have e1 : f 1 = _ := hR.out 1 rfl
   simp only [e1]
   refine (HT0.out X (Ext.trans HE.out hX)).mono ?_
   rintro e w' ⟨rfl, hB⟩
   exact ⟨(.int .u64 (r2 : Int)), rfl, hB, fun _ _ => rfl⟩
 refine Par.S 4 23 [(47, 0), (48, 1), (49, 2)] (fun f X hX hR K hK => ?_) ?_
 · have e2 : f 2 = _ := hR.out 2 rfl
   have g6 := Hg6.out
   simp only [yA, yB, yC, yD, yE, e2]
   refine ⟨?_⟩
   go_simp
   exact Par.k hK (s := by simp only [yA, yB, yC, yD, yE, e2])
 refine Par.v1 5 22 3 ?_
 refine Par.v1 6 21 4 ?_
 refine Par.S 7 20 [(47, 0), (48, 1), (49, 2), (50, 3), (51, 4), (52, 5), (54, 7)] (fun f X hX hR K hK => ?_) ?_
 · have e4 : f 4 = _ := hR.out 4 rfl
   have e5 : f 5 = _ := hR.out 5 rfl
   have x0 := hX.cell y1
   simp only [yA, yB, yC, yD, yE, e4, e5]
   refine ⟨Par.want (by kernel_rfl) ?_⟩
   go_simp
   exact Par.k hK (s := by simp only [yA, yB, yC, yD, yE, e4, e5])
 refine Par.c1 8 19 4 (fun _ => #[Value.int IntKind.u64 2]) (F' := 24) (fun f X hX hR => ?_) ?_
 · refine (HOf.out X).mono ?_
   rintro e w' ⟨Ax, cx, rfl, hr, hB⟩
   exact ⟨(.slice Ax two cx), rfl, hB, fun Y hY => ⟨Ax, cx, rfl, RN.up hr hY⟩⟩
 refine Par.c1 9 18 4 (fun f => #[f 6, f 7]) (F' := 25) (fun f X hX hR => ?_) ?_
 · have e6 : f 6 = _ := hR.out 6 rfl
   obtain ⟨A7, c7, (e7 : f 7 = _), r7⟩ := hR.out 7 rfl
   simp only [e6, e7]
   refine (HC2.out X (Ext.trans HE.out hX) _ _ r7).mono ?_
   rintro e w' ⟨rfl, hB⟩
   exact ⟨(.int .i64 z7), rfl, hB, fun _ _ => rfl⟩
 refine Par.S 10 17 [(47, 0), (48, 1), (49, 2), (50, 3), (51, 4), (52, 5), (53, 6), (54, 7), (55, 8)] (fun f X hX hR K hK => ?_) ?_
 · have e4 : f 4 = _ := hR.out 4 rfl
   have e8 : f 8 = _ := hR.out 8 rfl
   have g7 := Hg7.out
   simp only [yA, yB, yC, yD, yE, e4, e8]
   refine ⟨Par.want (by kernel_rfl) ?_⟩
   go_simp
   exact Par.k hK (s := by simp only [yA, yB, yC, yD, yE, e4, e8])
 refine Par.v2 11 16 4 9 ?_
 refine Par.v1 12 15 10 ?_
 refine Par.v1 13 14 11 ?_
 refine Par.S 14 13 [(47, 0), (48, 1), (49, 2), (50, 3), (51, 4), (52, 5), (53, 6), (54, 7), (55, 8), (56, 9), (57, 10), (58, 11), (59, 12), (61, 14), (62, 15)] (fun f X hX hR K hK => ?_) ?_
 · have e11 : f 11 = _ := hR.out 11 rfl
   have e12 : f 12 = _ := hR.out 12 rfl
   have x0 := hX.cell y1
   simp only [yA, yB, yC, yD, yE, e11, e12]
   refine ⟨Par.want (by kernel_rfl) ?_⟩
   go_simp
   exact Par.k hK (s := by simp only [yA, yB, yC, yD, yE, e11, e12])
 refine Par.v1 15 12 11 ?_
 refine Par.S 16 11 [(47, 0), (48, 1), (49, 2), (50, 3), (51, 4), (52, 5), (53, 6), (54, 7), (55, 8), (56, 9), (57, 10), (58, 11), (59, 12), (60, 13), (61, 14)] (fun f X hX hR K hK => ?_) ?_
 · have e11 : f 11 = _ := hR.out 11 rfl
   have e14 : f 14 = _ := hR.out 14 rfl
   have x0 := hX.cell y0
   simp only [yA, yB, yC, yD, yE, e11, e14]
   refine ⟨Par.want (by kernel_rfl) ?_⟩
   go_simp
   exact Par.k hK (s := by simp only [yA, yB, yC, yD, yE, e11, e14])
 refine Par.c1 17 10 11 (fun f => #[f 13, f 15]) (F' := 25) (fun f X hX hR => ?_) ?_
 · have e13 : f 13 = _ := hR.out 13 rfl
   have e15 : f 15 = _ := hR.out 15 rfl
   simp only [e13, e15]
   refine (HC5.out X (Ext.trans HE.out hX)).mono ?_
   rintro e w' ⟨rfl, hB⟩
   exact ⟨(.int .i64 z5), rfl, hB, fun _ _ => rfl⟩
 refine Par.S 18 9 [(47, 0), (48, 1), (49, 2), (50, 3), (51, 4), (52, 5), (53, 6), (54, 7), (55, 8), (56, 9), (57, 10), (58, 11), (59, 12), (60, 13), (61, 14), (62, 15), (63, 16)] (fun f X hX hR K hK => ?_) ?_
 · have e11 : f 11 = _ := hR.out 11 rfl
   have e16 : f 16 = _ := hR.out 16 rfl
   have g5 := Hg5.out
   simp only [yA, yB, yC, yD, yE, e11, e16]
   refine ⟨Par.want (by kernel_rfl) ?_⟩
   go_simp
   exact Par.k hK (s := by simp only [yA, yB, yC, yD, yE, e11, e16])
 refine Par.v2 19 8 11 17 ?_
 refine Par.v1 20 7 18 ?_
 refine Par.v1 21 6 19 ?_
 refine Par.S 22 5 [(47, 0), (48, 1), (49, 2), (50, 3), (51, 4), (52, 5), (53, 6), (54, 7), (55, 8), (56, 9), (57, 10), (58, 11), (59, 12), (60, 13), (61, 14), (62, 15), (63, 16), (64, 17), (65, 18), (66, 19), (67, 20), (69, 22), (70, 23)] (fun f X hX hR K hK => ?_) ?_
 · have e19 : f 19 = _ := hR.out 19 rfl
   have e20 : f 20 = _ := hR.out 20 rfl
   have x0 := hX.cell y2
   simp only [yA, yB, yC, yD, yE, e19, e20]
   refine ⟨Par.want (by kernel_rfl) ?_⟩
   go_simp
   exact Par.k hK (s := by simp only [yA, yB, yC, yD, yE, e19, e20])
 refine Par.v1 23 4 19 ?_
 refine Par.S 24 3 [(47, 0), (48, 1), (49, 2), (50, 3), (51, 4), (52, 5), (53, 6), (54, 7), (55, 8), (56, 9), (57, 10), (58, 11), (59, 12), (60, 13), (61, 14), (62, 15), (63, 16), (64, 17), (65, 18), (66, 19), (67, 20), (68, 21), (69, 22)] (fun f X hX hR K hK => ?_) ?_
 · have e19 : f 19 = _ := hR.out 19 rfl
   have e22 : f 22 = _ := hR.out 22 rfl
   have x0 := hX.cell y0
   simp only [yA, yB, yC, yD, yE, e19, e22]
   refine ⟨Par.want (by kernel_rfl) ?_⟩
   go_simp
   exact Par.k hK (s := by simp only [yA, yB, yC, yD, yE, e19, e22])
 refine Par.c1 25 2 19 (fun f => #[f 21, f 23]) (F' := 25) (fun f X hX hR => ?_) ?_
 · have e21 : f 21 = _ := hR.out 21 rfl
   have e23 : f 23 = _ := hR.out 23 rfl
   simp only [e21, e23]
   refine (HC4.out X (Ext.trans HE.out hX)).mono ?_
   rintro e w' ⟨rfl, hB⟩
   exact ⟨(.int .i64 z4), rfl, hB, fun _ _ => rfl⟩
 refine Par.S 26 1 [(47, 0), (48, 1), (49, 2), (50, 3), (51, 4), (52, 5), (53, 6), (54, 7), (55, 8), (56, 9), (57, 10), (58, 11), (59, 12), (60, 13), (61, 14), (62, 15), (63, 16), (64, 17), (65, 18), (66, 19), (67, 20), (68, 21), (69, 22), (70, 23), (71, 24)] (fun f X hX hR K hK => ?_) ?_
 · have e19 : f 19 = _ := hR.out 19 rfl
   have e24 : f 24 = _ := hR.out 24 rfl
   have g4 := Hg4.out
   simp only [yA, yB, yC, yD, yE, e19, e24]
   refine ⟨Par.want (by kernel_rfl) ?_⟩
   go_simp
   exact Par.k hK (s := by simp only [yA, yB, yC, yD, yE, e19, e24])
 refine Par.v2 27 0 19 25 ?_
 refine Par.AllOps.fin ⟨fun f X hX hR hal hap => ?_⟩
 obtain ⟨A7, c7, (e7 : f 7 = _), r7⟩ := hR 7 (by decide)
 have e26 : f 26 = _ := hR 26 (by decide)
 simp only [yA, yB, yD, yE, e7, e26]
 clear hR hal hap e7 e26
 refine Par.Chain.done ?_
 replace HE := Lib.hid (Ext.trans HE.out hX)
 replace HR4 := Lib.hid (RN.up HR4.out hX)
 clear hX r7 y0 y1 y2 y3 y4
 obtain ⟨y0, y1, y2, y3, y4⟩ := fiveF (Ext.at_ HE.out Hq0.out)
 cases b4
 rotate_left
 · have hV : V = false := by rw [Hv.out]; simp
   subst hV
   go_wp2
   go_ret
   exact ⟨rfl, Ext.trans HE0.out HE.out⟩
 obtain ⟨zp, hzp⟩ : ∃ z, cmpV (e * d % (p - 1)) 1 = z := ⟨_, rfl⟩
 obtain ⟨zq, hzq⟩ : ∃ z, cmpV (e * d % (q - 1)) 1 = z := ⟨_, rfl⟩
 obtain ⟨bp, hbp⟩ : ∃ b, (zp == 0) = b := ⟨_, rfl⟩
 obtain ⟨bq, hbq⟩ : ∃ b, (zq == 0) = b := ⟨_, rfl⟩
 have hV : V = (bp && bq) := by
  rw [Hv.out, ← hbp, ← hbq, ← hzp, ← hzq, digs_is_one, digs_is_one]
  simp
 have HV := Lib.hid hV
 have Hzp := Lib.hid hzp
 have Hzq := Lib.hid hzq
 clear hV hzp hzq Hv
 go_upto_region 9 with fail
 go_wp2_with fail
 refine (HMx.out _ HE.out).mono ?_
 rintro e9 w9 ⟨Ax, cx, rfl, hrx, hB9⟩
 replace HE := Lib.hid (Ext.trans HE.out hB9)
 replace HR4 := Lib.hid (RN.up HR4.out hB9)
 have HRx := Lib.hid hrx
 clear hB9 hrx y0 y1 y2 y3 y4
 obtain ⟨y0, y1, y2, y3, y4⟩ := fiveF (Ext.at_ HE.out Hq0.out)
 go_upto_region 10 with fail
 go_wp2_with fail
 refine (HSp.out _ HE.out _ _ HR4.out (by have := Hp1.out; omega)).mono ?_
 rintro e9 w9 ⟨A9, c9, rfl, hr9, hB9⟩
 replace HE := Lib.hid (Ext.trans HE.out hB9)
 replace HR4 := Lib.hid (RN.up HR4.out hB9)
 replace HRx := Lib.hid (RN.up HRx.out hB9)
 have hm := refMod_any _ _ _ _ (e * d) (p - 1) _ HRx.out hr9 (by have := Hlx.out; omega) (by have := Hp1.out; omega)
 have HM := Lib.hid hm
 clear hr9 hB9 hm y0 y1 y2 y3 y4
 obtain ⟨y0, y1, y2, y3, y4⟩ := fiveF (Ext.at_ HE.out Hq0.out)
 go_wp2_with fail
 rw [HLx.out] at HM
 refine HM.out.mono ?_
 rintro e9 w9 ⟨Aa, ca, rfl, hra, hB9⟩
 replace HE := Lib.hid (Ext.trans HE.out hB9)
 replace HR4 := Lib.hid (RN.up HR4.out hB9)
 replace HRx := Lib.hid (RN.up HRx.out hB9)
 have HRa := Lib.hid hra
 clear hB9 HM hra y0 y1 y2 y3 y4
 obtain ⟨y0, y1, y2, y3, y4⟩ := fiveF (Ext.at_ HE.out Hq0.out)
 go_upto_region 11 with fail
 go_wp2_with fail
 refine (HSq.out _ HE.out _ _ HR4.out (by have := Hq1.out; omega)).mono ?_
 rintro e9 w9 ⟨A9, c9, rfl, hr9, hB9⟩
 replace HE := Lib.hid (Ext.trans HE.out hB9)
 replace HR4 := Lib.hid (RN.up HR4.out hB9)
 replace HRx := Lib.hid (RN.up HRx.out hB9)
 replace HRa := Lib.hid (RN.up HRa.out hB9)
 have hm := refMod_any _ _ _ _ (e * d) (q - 1) _ HRx.out hr9 (by have := Hlx.out; omega) (by have := Hq1.out; omega)
 have HM := Lib.hid hm
 clear hr9 hB9 hm y0 y1 y2 y3 y4
 obtain ⟨y0, y1, y2, y3, y4⟩ := fiveF (Ext.at_ HE.out Hq0.out)
 go_wp2_with fail
 rw [HLx.out] at HM
 refine HM.out.mono ?_
 rintro e9 w9 ⟨Ab, cb, rfl, hrb, hB9⟩
 replace HE := Lib.hid (Ext.trans HE.out hB9)
 replace HR4 := Lib.hid (RN.up HR4.out hB9)
 replace HRx := Lib.hid (RN.up HRx.out hB9)
 replace HRa := Lib.hid (RN.up HRa.out hB9)
 have HRb := Lib.hid hrb
 clear hB9 HM hrb y0 y1 y2 y3 y4
 obtain ⟨y0, y1, y2, y3, y4⟩ := fiveF (Ext.at_ HE.out Hq0.out)
 go_upto_region 12 with fail
 go_wp2_with fail
 refine (HCo.out _ _ _ _ _ _ HRa.out HR4.out).mono ?_
 rintro e9 w9 ⟨rfl, hB9⟩
 rw [Hzp.out]
 replace HE := Lib.hid (Ext.trans HE.out hB9)
 replace HR4 := Lib.hid (RN.up HR4.out hB9)
 replace HRb := Lib.hid (RN.up HRb.out hB9)
 clear hB9
 cases bp
 · have hV : V = false := by rw [HV.out]; rfl
   subst hV
   go_wp2
   go_ret
   exact ⟨rfl, Ext.trans HE0.out HE.out⟩
 go_wp2_with fail
 refine (HCo.out _ _ _ _ _ _ HRb.out HR4.out).mono ?_
 rintro e9 w9 ⟨rfl, hB9⟩
 rw [Hzq.out]
 replace HE := Lib.hid (Ext.trans HE.out hB9)
 clear hB9
 have hV : V = bq := by rw [HV.out]; simp
 subst hV
 go_wp2
 go_ret
 exact ⟨rfl, Ext.trans HE0.out HE.out⟩
end Go.Proofs.YtlaphnlolgokiaaGreatDoor

namespace Go.Proofs.YtlaphnlolgokiaaGreatDoor
open Go.RowKit

def noInt (v : Value) : Bool := match v with | .int _ _ => false | _ => true
theorem RN.offJ {X Y : World} {A : Option Addr} {c : Nat} {l : List Nat} {g : Nat} {cs : Array Value} {T : TypeId} {fr : Nat × Nat} (h : RU X A c l) (hj : Just g X Y) (hg : X.heap[g]? = some (.cells cs T fr)) (hc : cs.all noInt = true) : RU Y A c l := by
 obtain ⟨⟨h1, h2, h3, h4⟩, h5⟩ := h
 refine ⟨⟨h1, h2, h3, fun hl => ?_⟩, h5⟩
 obtain ⟨ad, e, hb, hr⟩ := h4 hl
 refine ⟨ad, e, Nat.lt_of_lt_of_le hb hj.size, fun j v hv => ?_⟩
 have hcell := hr j v hv
 by_cases hne : (ad.add j).block = g
 · exfalso
   have hn : noInt v = false := by
    rw [nts, List.getElem?_map] at hv
    obtain ⟨n, _, rfl⟩ := Option.map_eq_some_iff.1 hv
    rfl
   unfold World.cell? at hcell
   rw [hne, hg] at hcell
   simp only at hcell
   split at hcell
   · cases hcell
   · rw [Array.all_eq_true] at hc
     obtain ⟨hlt, he⟩ := Array.getElem?_eq_some_iff.1 hcell
     have := hc _ hlt
     rw [he, hn] at this
     cases this
 · exact (World.cell?_of_block (hj.block _ (World.block_lt_of_cell? X _ hcell) hne)).trans hcell
theorem two_at2 (w : World) (o1 o2 : Obj) : ((w.alloc o1).alloc o2).heap[w.heap.size]? = some o1 ∧ ((w.alloc o1).alloc o2).heap[w.heap.size + 1]? = some o2 ∧ ((w.alloc o1).alloc o2).heap.size = w.heap.size + 2 :=
 ⟨(Ext.alloc _ _).at_ (heap_alloc_new w _), by have := heap_alloc_new (w.alloc o1) o2; rwa [World.size_alloc] at this, by simp⟩
end Go.Proofs.YtlaphnlolgokiaaGreatDoor
namespace Go.Proofs.YtlaphnlolgokiaaGreatDoor.Der
open Go.RowKit Go.Shelf
theorem bset {w : World} {g : Nat} {t : TypeId} {cs : Array Value} (h : w.heap[g]? = some (.cells cs t (0, 0))) (i : Nat) (u : Value) : (w.setCell ⟨g, i, none⟩ u).heap[g]? = some (.cells (cs.setIfInBounds i u) t (0, 0)) := by
 simp [World.setCell, Array.getElem?_modify, h]
theorem five_node {W Y : World} {s : Nat} {a0 a1 a2 a3 a4 : Value} {ty : TypeId} {u0 u1 u2 u3 u4 : Value} (hY : ((((W.setCell ⟨s, 0, none⟩ u0).setCell ⟨s, 1, none⟩ u1).setCell ⟨s, 2, none⟩ u2).setCell ⟨s, 3, none⟩ u3).setCell ⟨s, 4, none⟩ u4 = Y) (ha : W.heap[s]? = some (.cells #[a0, a1, a2, a3, a4] ty (0, 0))) :
 (∀ b, b ≠ s → Y.heap[b]? = W.heap[b]?) ∧ Y.heap.size = W.heap.size ∧ Y.heap[s]? = some (.cells #[u0, u1, u2, u3, u4] ty (0, 0)) ∧ ∀ B, B ≤ s → Below B W Y := by
 subst hY
 refine ⟨fun b hb => (Below.heap_setCell _ _ _ _ hb).trans ((Below.heap_setCell _ _ _ _ hb).trans ((Below.heap_setCell _ _ _ _ hb).trans ((Below.heap_setCell _ _ _ _ hb).trans (Below.heap_setCell _ _ _ _ hb)))), by simp [World.setCell], by simpa using bset (bset (bset (bset (bset ha 0 u0) 1 u1) 2 u2) 3 u3) 4 u4, fun B hB => ?_⟩
 exact (((((Below.refl B W).setCell (p := ⟨s, 0, none⟩) hB u0).setCell (p := ⟨s, 1, none⟩) hB u1).setCell (p := ⟨s, 2, none⟩) hB u2).setCell (p := ⟨s, 3, none⟩) hB u3).setCell (p := ⟨s, 4, none⟩) hB u4
theorem fiveZ {W : World} {g : Nat} {ty : TypeId} {x0 x1 x2 x3 x4 : Value} (h : W.heap[g]? = some (.cells #[x0, x1, x2, x3, x4] ty (0, 0))) :
 W.frozen? ⟨g, 0, none⟩ = false ∧ W.frozen? ⟨g, 1, none⟩ = false ∧ W.frozen? ⟨g, 2, none⟩ = false ∧ W.frozen? ⟨g, 3, none⟩ = false ∧ W.frozen? ⟨g, 4, none⟩ = false :=
 ⟨blk_free h 0, blk_free h 1, blk_free h 2, blk_free h 3, blk_free h 4⟩
end Go.Proofs.YtlaphnlolgokiaaGreatDoor.Der
