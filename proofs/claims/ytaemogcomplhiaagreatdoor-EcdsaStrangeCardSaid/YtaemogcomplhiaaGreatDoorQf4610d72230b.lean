/- The reference's curves: words, and its arithmetic modulo the prime. The reference's On. The reference's curves: Of. zfield: One and From. Points by three elements, in memory. Words of the reference's points. -/
import Derived.Test.YtaemogcomplhiaaGreatDoorQ031bffceb605
import Derived.Deep.DeepCutAuto
namespace Go.Proofs.YtaemogcomplhiaaGreatDoor
open Go.RowKit

def RC (w : World) (C : Crv) (v : Value) : Prop := ∃ (Ap An Ab Ax Ay : Option Addr) (cp cn cb cx cy : Nat),
 v = .agg #[.slice Ap (digs 4294967296 C.M).length cp, .slice An (digs 4294967296 (val 18446744073709551616 C.nl)).length cn, .slice Ab (digs 4294967296 C.bb).length cb, .slice Ax (digs 4294967296 (val 18446744073709551616 C.xl)).length cx, .slice Ay (digs 4294967296 (val 18446744073709551616 C.yl)).length cy, .int .i64 (C.size : Int)] ∧
 RU w Ap cp (digs 4294967296 C.M) ∧ RU w An cn (digs 4294967296 (val 18446744073709551616 C.nl)) ∧ RU w Ab cb (digs 4294967296 C.bb) ∧ RU w Ax cx (digs 4294967296 (val 18446744073709551616 C.xl)) ∧ RU w Ay cy (digs 4294967296 (val 18446744073709551616 C.yl))
theorem RC.ext {w X : World} {C : Crv} {v : Value} (h : RC w C v) (hE : Ext w X) : RC X C v := by
 obtain ⟨Ap, An, Ab, Ax, Ay, cp, cn, cb, cx, cy, e, h1, h2, h3, h4, h5⟩ := h
 exact ⟨Ap, An, Ab, Ax, Ay, cp, cn, cb, cx, cy, e, h1.up hE, h2.up hE, h3.up hE, h4.up hE, h5.up hE⟩
theorem infoRC : (Tryz.prog.info? 30).map (·.size) = some 6 := by kernel_rfl
theorem infoRP : (Tryz.prog.info? 45).map (·.size) = some 3 := by kernel_rfl

set_option maxRecDepth 100000 in
set_option maxHeartbeats 4000000 in
theorem times_any {C : Crv} {v : Value} (A A' : Option Addr) (c c' x y : Nat) (w : World) (hc : RC w C v) (h : RU w A c (digs 4294967296 x)) (h' : RU w A' c' (digs 4294967296 y)) (hl : (digs 4294967296 x).length < 40000) (hl' : (digs 4294967296 y).length < 40000) (h0 : 0 < C.M) :
 Calls Tryz.prog 44 #[v, .slice A (digs 4294967296 x).length c, .slice A' (digs 4294967296 y).length c'] w fun e w' => ∃ A1 c1, e = .returned (.slice A1 (digs 4294967296 (x * y % C.M)).length c1) ∧ RU w' A1 c1 (digs 4294967296 (x * y % C.M)) ∧ Ext w w' := by
 obtain ⟨Ap, An, Ab, Ax, Ay, cp, cn, cb, cx, cy, rfl, h1, h2, h3, h4, h5⟩ := hc
 have hE := fun o => Ext.alloc w o
 have hm := fun o => refMulMod_any A A' Ap c c' cp x y C.M (w.alloc o) (h.up (hE o)) (h'.up (hE o)) (h1.up (hE o)) hl hl' h0
 have Hm := Lib.hid hm
 clear hm hE
 go_enter Tryz.func44, Tryz.ntmps44
 go_wp2_with (go_at_call 82; refine (Hm.out _).mono ?_; rintro e w2 ⟨A1, c1, rfl, hO, hB⟩)
 go_ret
 exact ⟨A1, c1, rfl, hO, (Ext.alloc w _).trans hB⟩

theorem Tu.ext {w X : World} {b : Nat} (h : Tu w b) (hE : Ext w X) : Tu X b := let ⟨cur, hc⟩ := h; ⟨cur, hE.at_ hc⟩
theorem OB.rt1 {w : World} {base : Nat} {A : Option Addr} {c : Nat} {l : List Nat} (h : OB w base A c l) : RT w A c l := h.tt
theorem RT.ru {w : World} {A : Option Addr} {c : Nat} {l : List Nat} (h : RT w A c l) : RU w A c l := RN.mono h fun _ hb => hb.1
theorem RT.up {w X : World} {A : Option Addr} {c : Nat} {l : List Nat} (h : RT w A c l) (hE : Ext w X) : RT X A c l := (RN.below h hE fun _ hb => hb.1).mono fun _ hb => ⟨Nat.lt_of_lt_of_le hb.1 hE.bsize, hb.2.ext hE⟩
set_option maxRecDepth 100000 in
set_option maxHeartbeats 4000000 in
theorem minus_t {C : Crv} {v : Value} (A A' : Option Addr) (c c' x y : Nat) (w : World) (hc : RC w C v) (h : RU w A c (digs 4294967296 x)) (h' : RU w A' c' (digs 4294967296 y)) (hl : (digs 4294967296 x).length < 40000) (hlM : (digs 4294967296 C.M).length < 40000) (hxy : y ≤ x + C.M) (h0 : 0 < C.M) :
 Calls Tryz.prog 51 #[v, .slice A (digs 4294967296 x).length c, .slice A' (digs 4294967296 y).length c'] w fun e w' => ∃ A1 c1, e = .returned (.slice A1 (digs 4294967296 ((x + C.M - y) % C.M)).length c1) ∧ RT w' A1 c1 (digs 4294967296 ((x + C.M - y) % C.M)) ∧ Ext w w' := by
 obtain ⟨Ap, An, Ab, Ax, Ay, cp, cn, cb, cx, cy, rfl, h1, h2, h3, h4, h5⟩ := hc
 have hls : (digs 4294967296 (x + C.M)).length < 50000 := by
  have a1 := Nat.lt_of_lt_of_le (lt_pow_digs (B := 4294967296) (by omega) x) (Nat.pow_le_pow_right (by omega) (Nat.le_of_lt hl))
  have a2 := Nat.lt_of_lt_of_le (lt_pow_digs (B := 4294967296) (by omega) C.M) (Nat.pow_le_pow_right (by omega) (Nat.le_of_lt hlM))
  obtain ⟨k, hk⟩ : ∃ k, k = 40000 := ⟨_, rfl⟩
  rw [← hk] at a1 a2
  have := digs_length_of_lt (B := 4294967296) (n := k + 1) (by omega) (show x + C.M < 4294967296 ^ (k + 1) by rw [Nat.pow_succ]; generalize 4294967296 ^ k = R at *; omega)
  omega
 have hle : (digs 4294967296 (x + C.M - y)).length ≤ 50000 := by
  obtain ⟨k, hk⟩ : ∃ k, k = 50000 := ⟨_, rfl⟩
  rw [← hk] at hls ⊢
  exact digs_length_of_lt (by omega) (Nat.lt_of_le_of_lt (Nat.sub_le (x + C.M) y) (Nat.lt_of_lt_of_le (lt_pow_digs (B := 4294967296) (by omega) (x + C.M)) (Nat.pow_le_pow_right (by omega) (Nat.le_of_lt hls))))
 obtain ⟨q, hq⟩ : ∃ q, w.heap.size = q := ⟨_, rfl⟩
 obtain ⟨W0, hW0⟩ : ∃ W0, W0 = w.alloc (.cells #[.slice Ap (digs 4294967296 C.M).length cp, .slice An (digs 4294967296 (val 18446744073709551616 C.nl)).length cn, .slice Ab (digs 4294967296 C.bb).length cb, .slice Ax (digs 4294967296 (val 18446744073709551616 C.xl)).length cx, .slice Ay (digs 4294967296 (val 18446744073709551616 C.yl)).length cy, .int .i64 (C.size : Int)] 30) := ⟨_, rfl⟩
 have hE0 : Ext w W0 := by rw [hW0]; exact Ext.alloc _ _
 have b0 : W0.cell? ⟨q, 0, none⟩ = some (.slice Ap (digs 4294967296 C.M).length cp) := by rw [hW0, ← hq]; exact blk_cell (heap_alloc_new w _) 0
 have HE0 := Lib.hid hE0
 clear hE0
 go_enter Tryz.func51, Tryz.ntmps51
 go_upto_region 1 with fail
 rw [← hW0]
 have HW0 := Lib.hid hW0
 have Hq := Lib.hid hq
 clear hW0 hq
 refine Par.region_ext (by kernel_rfl) 10 [0, 0, 2, 7, 0, 31, 0, 64, 255, 511] [] (fun j f X => match j with
  | 0 => f 0 = .slice A (digs 4294967296 x).length c
  | 1 => f 1 = .pointer (some ⟨q, 0, none⟩)
  | 2 => f 2 = .slice Ap (digs 4294967296 C.M).length cp
  | 3 => ∃ A1 c1, f 3 = .slice A1 (digs 4294967296 (x + C.M)).length c1 ∧ RU X A1 c1 (digs 4294967296 (x + C.M))
  | 4 => f 4 = .slice A' (digs 4294967296 y).length c'
  | 5 => ∃ A1 c1, f 5 = .slice A1 (digs 4294967296 (x + C.M - y)).length c1 ∧ RT X A1 c1 (digs 4294967296 (x + C.M - y))
  | 6 => f 6 = .pointer (some ⟨q, 0, none⟩)
  | 7 => f 7 = .slice Ap (digs 4294967296 C.M).length cp
  | 8 => ∃ A1 c1, f 8 = .slice A1 (digs 4294967296 ((x + C.M - y) % C.M)).length c1 ∧ RT X A1 c1 (digs 4294967296 ((x + C.M - y) % C.M))
  | 9 => f 9 = (f 8)
  | _ => True) (by kernel_rfl) [(7, 0), (8, 1), (9, 2), (10, 3), (11, 4), (12, 5), (13, 6), (14, 7), (15, 8), (6, 9)] (by kernel_rfl) ?_
 refine Par.v0 1 9 ?_
 refine Par.v0 2 8 ?_
 refine Par.ld1 3 7 1 b0 ?_
 refine Par.c0 4 6 (fun f => #[f 0, f 2]) (F' := 50) (fun f X hX hR => ?_) ?_
 · have e0 : f 0 = _ := hR.out 0 rfl
   have e2 : f 2 = _ := hR.out 2 rfl
   simp only [e0, e2]
   refine (refAdd_any _ _ A Ap c cp x C.M X (h.up (HE0.out.trans hX)) (h1.up (HE0.out.trans hX)) (fun _ hb => hb) (fun _ hb => hb) (by omega) (by omega)).mono ?_
   rintro e w2 ⟨A1, c1, rfl, hO, hB⟩
   exact ⟨(.slice A1 (digs 4294967296 (x + C.M)).length c1), rfl, hB, fun Y hY => ⟨A1, c1, rfl, hO.ru.up hY⟩⟩
 refine Par.v0 5 5 ?_
 refine Par.c0 6 4 (fun f => #[f 3, f 4]) (F' := 81) (fun f X hX hR => ?_) ?_
 · obtain ⟨A3, c3, (e3 : f 3 = _), o3⟩ := hR.out 3 rfl
   have e4 : f 4 = _ := hR.out 4 rfl
   simp only [e3, e4]
   refine (refSub_any _ _ A3 A' c3 c' (x + C.M) y X o3 (h'.up (HE0.out.trans hX)) (fun _ hb => hb) (fun _ hb => hb) (by omega) hxy).mono ?_
   rintro e w2 ⟨A1, c1, rfl, hO, hB⟩
   exact ⟨(.slice A1 (digs 4294967296 (x + C.M - y)).length c1), rfl, hB, fun Y hY => ⟨A1, c1, rfl, (OB.rt1 hO).up hY⟩⟩
 refine Par.v0 7 3 ?_
 refine Par.ld1 8 2 6 b0 ?_
 refine Par.c0 9 1 (fun f => #[f 5, f 7]) (F' := 49) (fun f X hX hR => ?_) ?_
 · obtain ⟨A5, c5, (e5 : f 5 = _), o5⟩ := hR.out 5 rfl
   have e7 : f 7 = _ := hR.out 7 rfl
   simp only [e5, e7]
   refine (refMod_t A5 Ap c5 cp (x + C.M - y) C.M X o5 (h1.up (HE0.out.trans hX)) (by omega) h0).mono ?_
   rintro e w2 ⟨A1, c1, rfl, hO, hB⟩
   exact ⟨(.slice A1 (digs 4294967296 ((x + C.M - y) % C.M)).length c1), rfl, hB, fun Y hY => ⟨A1, c1, rfl, hO.up hY⟩⟩
 refine Par.S 10 0 [(7, 0), (8, 1), (9, 2), (10, 3), (11, 4), (12, 5), (13, 6), (14, 7), (15, 8)] (fun f X hX hR K hK => ?_) ?_
 · obtain ⟨A8, c8, (e8 : f 8 = _), o8⟩ := hR.out 8 rfl
   simp only [yA, yB, yC, yD, yE, e8]
   refine ⟨?_⟩
   go_simp
   exact hK.out _ ((f 8)) _ (by simp only [yA, yB, yC, yD, yE, e8]) (Ext.refl _) trivial (fun _ _ => rfl)
 refine Par.AllOps.fin ⟨fun f X hX hR hal hap => ?_⟩
 obtain ⟨A3, c3, (e3 : f 3 = _), o3⟩ := hR 3 (by decide)
 obtain ⟨A5, c5, (e5 : f 5 = _), o5⟩ := hR 5 (by decide)
 obtain ⟨A8, c8, (e8 : f 8 = _), o8⟩ := hR 8 (by decide)
 have e9 : f 9 = (f 8) := hR 9 (by decide)
 simp only [yA, yB, yD, yE, e3, e5, e8, e9]
 clear hR hal hap e3 e5 e8 e9
 refine Par.Chain.done ?_
 go_wp2
 go_ret
 exact ⟨A8, c8, rfl, o8, HE0.out.trans hX⟩
theorem minus_any {C : Crv} {v : Value} (A A' : Option Addr) (c c' x y : Nat) (w : World) (hc : RC w C v) (h : RU w A c (digs 4294967296 x)) (h' : RU w A' c' (digs 4294967296 y)) (hl : (digs 4294967296 x).length < 40000) (hlM : (digs 4294967296 C.M).length < 40000) (hxy : y ≤ x + C.M) (h0 : 0 < C.M) :
 Calls Tryz.prog 51 #[v, .slice A (digs 4294967296 x).length c, .slice A' (digs 4294967296 y).length c'] w fun e w' => ∃ A1 c1, e = .returned (.slice A1 (digs 4294967296 ((x + C.M - y) % C.M)).length c1) ∧ RU w' A1 c1 (digs 4294967296 ((x + C.M - y) % C.M)) ∧ Ext w w' :=
 (minus_t A A' c c' x y w hc h h' hl hlM hxy h0).mono fun _ _ ⟨A1, c1, he, hO, hB⟩ => ⟨A1, c1, he, hO.ru, hB⟩
end Go.Proofs.YtaemogcomplhiaaGreatDoor

namespace Go.Proofs.YtaemogcomplhiaaGreatDoor
open Go.RowKit

theorem digs_mod_len {x M k : Nat} (hM : 0 < M) (hl : (digs 4294967296 M).length ≤ k) : (digs 4294967296 (x % M)).length ≤ k :=
 digs_length_of_lt (by omega) (Nat.lt_of_lt_of_le (Nat.lt_trans (Nat.mod_lt x hM) (lt_pow_digs (B := 4294967296) (by omega) M)) (Nat.pow_le_pow_right (by omega) hl))
theorem digs_le_len {x M k : Nat} (hM : x ≤ M) (hl : (digs 4294967296 M).length ≤ k) : (digs 4294967296 x).length ≤ k :=
 digs_length_of_lt (by omega) (Nat.lt_of_lt_of_le (Nat.lt_of_le_of_lt hM (lt_pow_digs (B := 4294967296) (by omega) M)) (Nat.pow_le_pow_right (by omega) hl))
theorem Crv.Fine.len {C : Crv} (h : C.Fine) : (digs 4294967296 C.M).length ≤ 96 := by
 have h1 := h.room
 have h2 : (256 : Nat) ^ C.size ≤ 256 ^ 48 := Nat.pow_le_pow_right (by omega) h.small
 have h3 : (256 : Nat) ^ 48 ≤ 4294967296 ^ 96 := by decide +kernel
 exact digs_length_of_lt (by omega) (Nat.lt_of_lt_of_le h1 (Nat.le_trans h2 h3))

theorem cmpV_eq0 (a b : Nat) : (cmpV a b == 0) = decide (a = b) := by
 unfold cmpV
 split
 · rw [decide_eq_false (by omega)]; rfl
 · split
   · rw [decide_eq_true (by omega)]; rfl
   · rw [decide_eq_false (by omega)]; rfl

set_option maxRecDepth 100000 in
set_option maxHeartbeats 8000000 in
theorem refOn_any {C : Crv} {v : Value} (hF : C.Fine) (A A' : Option Addr) (c c' x y : Nat) (inf : Bool) (w : World) (hc : RC w C v) (h : RU w A c (digs 4294967296 x)) (h' : RU w A' c' (digs 4294967296 y)) :
 Calls Tryz.prog 22 #[v, .agg #[.bool inf, .slice A (digs 4294967296 x).length c, .slice A' (digs 4294967296 y).length c']] w fun e w' => e = .returned (.bool (inf || onB C.M C.bb x y)) ∧ Ext w w' := by
 have hcv := hc
 obtain ⟨Ap, An, Ab, Ax, Ay, cp, cn, cb, cx, cy, rfl, h1, h2, h3, h4, h5⟩ := hc
 obtain ⟨s, hs⟩ : ∃ s, C.size = s := ⟨_, rfl⟩
 have s1 : 32 ≤ s := by rw [← hs]; exact hF.pos
 have hs0 : ((s : Int) == 0) = false := by simp; omega
 obtain ⟨r, hr⟩ : ∃ r, (inf || onB C.M C.bb x y) = r := ⟨_, rfl⟩
 rw [hr, hs]
 rw [hs] at hcv
 have Hr := Lib.hid hr
 have HF := Lib.hid hF
 have L := Lib.hid hF.len
 have Hcv := Lib.hid hcv
 have hM0 : 0 < C.M := by have := hF.three; omega
 have HM0 := Lib.hid hM0
 clear hr hF hs hcv
 obtain ⟨q, hq⟩ : ∃ q, w.heap.size = q := ⟨_, rfl⟩
 obtain ⟨W0, hW0⟩ : ∃ W0, W0 = (w.alloc (.cells #[.slice Ap (digs 4294967296 C.M).length cp, .slice An (digs 4294967296 (val 18446744073709551616 C.nl)).length cn, .slice Ab (digs 4294967296 C.bb).length cb, .slice Ax (digs 4294967296 (val 18446744073709551616 C.xl)).length cx, .slice Ay (digs 4294967296 (val 18446744073709551616 C.yl)).length cy, .int .i64 (s : Int)] 30)).alloc (.cells #[.bool inf, .slice A (digs 4294967296 x).length c, .slice A' (digs 4294967296 y).length c'] 45) := ⟨_, rfl⟩
 have hE0 : Ext w W0 := by rw [hW0]; exact (Ext.alloc _ _).trans (Ext.alloc _ _)
 have hcb : W0.heap[q]? = some (.cells #[.slice Ap (digs 4294967296 C.M).length cp, .slice An (digs 4294967296 (val 18446744073709551616 C.nl)).length cn, .slice Ab (digs 4294967296 C.bb).length cb, .slice Ax (digs 4294967296 (val 18446744073709551616 C.xl)).length cx, .slice Ay (digs 4294967296 (val 18446744073709551616 C.yl)).length cy, .int .i64 (s : Int)] 30 (0, 0)) := by rw [hW0, ← hq]; exact (Ext.alloc _ _).at_ (heap_alloc_new w _)
 have hpb : W0.heap[q + 1]? = some (.cells #[.bool inf, .slice A (digs 4294967296 x).length c, .slice A' (digs 4294967296 y).length c'] 45 (0, 0)) := by rw [hW0, ← hq]; have := heap_alloc_new (w.alloc (.cells #[.slice Ap (digs 4294967296 C.M).length cp, .slice An (digs 4294967296 (val 18446744073709551616 C.nl)).length cn, .slice Ab (digs 4294967296 C.bb).length cb, .slice Ax (digs 4294967296 (val 18446744073709551616 C.xl)).length cx, .slice Ay (digs 4294967296 (val 18446744073709551616 C.yl)).length cy, .int .i64 (s : Int)] 30)) (.cells #[.bool inf, .slice A (digs 4294967296 x).length c, .slice A' (digs 4294967296 y).length c'] 45); rwa [World.size_alloc] at this
 have b0 : W0.cell? ⟨q, 0, none⟩ = some (.slice Ap (digs 4294967296 C.M).length cp) := blk_cell hcb 0
 have b2 : W0.cell? ⟨q, 2, none⟩ = some (.slice Ab (digs 4294967296 C.bb).length cb) := blk_cell hcb 2
 have p1 : W0.cell? ⟨q + 1, 1, none⟩ = some (.slice A (digs 4294967296 x).length c) := blk_cell hpb 1
 have p2 : W0.cell? ⟨q + 1, 2, none⟩ = some (.slice A' (digs 4294967296 y).length c') := blk_cell hpb 2
 have HE0 := Lib.hid hE0
 have HW0 := Lib.hid hW0
 clear hE0
 cases inf
 case true =>
  obtain rfl : r = true := by rw [← Hr.out]; rfl
  clear hW0 hq
  have hW0 := HW0.out
  go_enter Tryz.func22, Tryz.ntmps22
  go_wp2
  go_ret
  exact ⟨rfl, by have := HE0.out; rw [hW0] at this; exact this⟩
 case false =>
  rw [Bool.false_or] at Hr
  have arm1 := Lib.hid (fun X (hX : Ext W0 X) => refCmp_any _ _ A Ap c cp x C.M X (h.up (HE0.out.trans hX)) (h1.up (HE0.out.trans hX)))
  have arm2 := Lib.hid (fun X (hX : Ext W0 X) => refCmp_any _ _ A' Ap c' cp y C.M X (h'.up (HE0.out.trans hX)) (h1.up (HE0.out.trans hX)))
  by_cases hxM : x < C.M
  · have tx := Lib.hid (cmpV_lt hxM)
    by_cases hyM : y < C.M
    · have ty := Lib.hid (cmpV_lt hyM)
      obtain ⟨cvv, hcvv⟩ : ∃ cvv, cvv = Value.agg #[.slice Ap (digs 4294967296 C.M).length cp, .slice An (digs 4294967296 (val 18446744073709551616 C.nl)).length cn, .slice Ab (digs 4294967296 C.bb).length cb, .slice Ax (digs 4294967296 (val 18446744073709551616 C.xl)).length cx, .slice Ay (digs 4294967296 (val 18446744073709551616 C.yl)).length cy, .int .i64 (s : Int)] := ⟨_, rfl⟩
      rw [← hcvv] at Hcv
      have HV := Lib.hid hcvv
      obtain ⟨m2, hm2⟩ : ∃ m, x * x % C.M = m := ⟨_, rfl⟩
      obtain ⟨m3, hm3⟩ : ∃ m, m2 * x % C.M = m := ⟨_, rfl⟩
      obtain ⟨t3, ht3⟩ : ∃ m, 3 * x % C.M = m := ⟨_, rfl⟩
      obtain ⟨mi, hmi⟩ : ∃ m, (m3 + C.M - t3) % C.M = m := ⟨_, rfl⟩
      obtain ⟨rt, hrt⟩ : ∃ m, (mi + C.bb) % C.M = m := ⟨_, rfl⟩
      obtain ⟨yy, hyy⟩ : ∃ m, y * y % C.M = m := ⟨_, rfl⟩
      have K2 := Lib.hid (hm2 ▸ digs_mod_len (x := x * x) HM0.out L.out)
      have K3 := Lib.hid (hm3 ▸ digs_mod_len (x := m2 * x) HM0.out L.out)
      have Kt := Lib.hid (ht3 ▸ digs_mod_len (x := 3 * x) HM0.out L.out)
      have Ki := Lib.hid (hmi ▸ digs_mod_len (x := m3 + C.M - t3) HM0.out L.out)
      have Ky := Lib.hid (hyy ▸ digs_mod_len (x := y * y) HM0.out L.out)
      have Kx := Lib.hid (digs_le_len (Nat.le_of_lt hxM) L.out)
      have KY := Lib.hid (digs_le_len (Nat.le_of_lt hyM) L.out)
      have K0 := Lib.hid (digs_le_len (Nat.le_of_lt HF.out.three) L.out)
      have Kb := Lib.hid (digs_le_len (Nat.le_of_lt HF.out.bb) L.out)
      have Ks := Lib.hid (show (digs 4294967296 (mi + C.bb)).length ≤ 97 by
       have a1 := Nat.lt_of_lt_of_le (lt_pow_digs (B := 4294967296) (by omega) C.M) (Nat.pow_le_pow_right (by omega) L.out)
       have a2 := Nat.mod_lt (m3 + C.M - t3) HM0.out
       have a3 := HF.out.bb
       refine digs_length_of_lt (by omega) ?_
       rw [Nat.pow_succ]; generalize 4294967296 ^ 96 = R at *; omega)
      have Htm := Lib.hid (show t3 ≤ m3 + C.M by have := Nat.mod_lt (3 * x) HM0.out; omega)
      have Hmb := Lib.hid (show mi < C.M by have := Nat.mod_lt (m3 + C.M - t3) HM0.out; omega)
      have Hres := Lib.hid (show r = decide (yy = rt) by rw [← Hr.out, onB, decide_eq_true hxM, decide_eq_true hyM, hm2, hm3, ht3, hmi, hrt, hyy]; rfl)
      have E2 := Lib.hid hm2
      have E3 := Lib.hid hm3
      have Et := Lib.hid ht3
      have Ei := Lib.hid hmi
      have Er := Lib.hid hrt
      have Ey := Lib.hid hyy
      clear hcvv hm2 hm3 ht3 hmi hrt hyy hxM hyM
      go_enter Tryz.func22, Tryz.ntmps22
      go_upto_region 5 with fail
      rw [← hW0]
      clear hW0 hq
      refine Par.region_txt 14 [0, 1, 0, 4, 15, 31, 63, 127, 255, 127, 639, 2047, 4095, 8191] [] (fun j f X => match j with
       | 0 => f 0 = .pointer (some ⟨q + 1, 1, none⟩)
       | 1 => f 1 = .slice A (digs 4294967296 x).length c
       | 2 => f 2 = .pointer (some ⟨q, 0, none⟩)
       | 3 => f 3 = .slice Ap (digs 4294967296 C.M).length cp
       | 4 => f 4 = .int .i64 (-1)
       | 5 => f 5 = .bool false
       | 6 => f 6 = .bool false
       | 7 => f 7 = .pointer (some ⟨q + 1, 2, none⟩)
       | 8 => f 8 = .slice A' (digs 4294967296 y).length c'
       | 9 => f 9 = .pointer (some ⟨q, 0, none⟩)
       | 10 => f 10 = .slice Ap (digs 4294967296 C.M).length cp
       | 11 => f 11 = .int .i64 (-1)
       | 12 => f 12 = .bool false
       | 13 => f 13 = .bool false
       | _ => True) (by kernel_rfl) [(13, 0), (14, 1), (15, 2), (16, 3), (17, 4), (18, 5), (19, 6), (20, 7), (21, 8), (22, 9), (23, 10), (24, 11), (25, 12), (26, 13)] (by kernel_rfl) ?_
      refine Par.v0 1 13 ?_
      refine Par.ld1 2 12 0 p1 ?_
      refine Par.v0 3 11 ?_
      refine Par.ld1 4 10 2 b0 ?_
      refine Par.c0 5 9 (fun f => #[f 1, f 3]) (F' := 38) (fun f X hX hR => ?_) ?_
      · have e1 : f 1 = _ := hR.out 1 rfl
        have e3 : f 3 = _ := hR.out 3 rfl
        simp only [e1, e3]
        refine (arm1.out X hX).mono ?_
        rintro e w2 ⟨rfl, nq, rfl⟩
        rw [tx.out]
        exact ⟨(.int .i64 (-1)), rfl, (Ext.drewN _ _), fun _ _ => rfl⟩
      refine Par.S 6 8 [(13, 0), (14, 1), (15, 2), (16, 3), (17, 4)] (fun f X hX hR K hK => ?_) ?_
      · have e4 : f 4 = _ := hR.out 4 rfl
        simp only [yA, yB, yC, yD, yE, e4]
        refine ⟨?_⟩
        go_simp
        exact Par.k hK (s := by simp only [yA, yB, yC, yD, yE, e4])
      refine Par.v1 7 7 5 ?_
      refine Par.v1 8 6 6 ?_
      refine Par.S 9 5 [(13, 0), (14, 1), (15, 2), (16, 3), (17, 4), (18, 5), (19, 6), (20, 7), (22, 9), (23, 10)] (fun f X hX hR K hK => ?_) ?_
      · have e6 : f 6 = _ := hR.out 6 rfl
        have e7 : f 7 = _ := hR.out 7 rfl
        have x0 := hX.cell p2
        simp only [yA, yB, yC, yD, yE, e6, e7]
        refine ⟨Par.want (by kernel_rfl) ?_⟩
        go_simp
        exact Par.k hK (s := by simp only [yA, yB, yC, yD, yE, e6, e7])
      refine Par.v1 10 4 6 ?_
      refine Par.S 11 3 [(13, 0), (14, 1), (15, 2), (16, 3), (17, 4), (18, 5), (19, 6), (20, 7), (21, 8), (22, 9)] (fun f X hX hR K hK => ?_) ?_
      · have e6 : f 6 = _ := hR.out 6 rfl
        have e9 : f 9 = _ := hR.out 9 rfl
        have x0 := hX.cell b0
        simp only [yA, yB, yC, yD, yE, e6, e9]
        refine ⟨Par.want (by kernel_rfl) ?_⟩
        go_simp
        exact Par.k hK (s := by simp only [yA, yB, yC, yD, yE, e6, e9])
      refine Par.c1 12 2 6 (fun f => #[f 8, f 10]) (F' := 38) (fun f X hX hR => ?_) ?_
      · have e8 : f 8 = _ := hR.out 8 rfl
        have e10 : f 10 = _ := hR.out 10 rfl
        simp only [e8, e10]
        refine (arm2.out X hX).mono ?_
        rintro e w2 ⟨rfl, nq, rfl⟩
        rw [ty.out]
        exact ⟨(.int .i64 (-1)), rfl, (Ext.drewN _ _), fun _ _ => rfl⟩
      refine Par.S 13 1 [(13, 0), (14, 1), (15, 2), (16, 3), (17, 4), (18, 5), (19, 6), (20, 7), (21, 8), (22, 9), (23, 10), (24, 11)] (fun f X hX hR K hK => ?_) ?_
      · have e6 : f 6 = _ := hR.out 6 rfl
        have e11 : f 11 = _ := hR.out 11 rfl
        simp only [yA, yB, yC, yD, yE, e6, e11]
        refine ⟨Par.want (by kernel_rfl) ?_⟩
        go_simp
        exact Par.k hK (s := by simp only [yA, yB, yC, yD, yE, e6, e11])
      refine Par.v2 14 0 6 12 ?_
      refine Par.AllOps.fin ⟨fun f X hX hR hal hap => ?_⟩
      have e13 : f 13 = _ := hR 13 (by decide)
      simp only [yA, yB, yD, yE, e13]
      clear hR hal hap e13
      refine Par.Chain.done ?_
      have hE : Ext W0 X := hX
      clear hX
      go_upto_region 7 with fail
      have d1 := hE.cell p1
      refine Par.region_ext (by kernel_rfl) 11 [0, 0, 0, 4, 0, 16, 62, 0, 128, 511, 1023] [] (fun j f X => match j with
       | 0 => f 0 = cvv
       | 1 => f 1 = cvv
       | 2 => f 2 = .pointer (some ⟨q + 1, 1, none⟩)
       | 3 => f 3 = .slice A (digs 4294967296 x).length c
       | 4 => f 4 = .pointer (some ⟨q + 1, 1, none⟩)
       | 5 => f 5 = .slice A (digs 4294967296 x).length c
       | 6 => ∃ A1 c1, f 6 = .slice A1 (digs 4294967296 m2).length c1 ∧ RU X A1 c1 (digs 4294967296 m2)
       | 7 => f 7 = .pointer (some ⟨q + 1, 1, none⟩)
       | 8 => f 8 = .slice A (digs 4294967296 x).length c
       | 9 => ∃ A1 c1, f 9 = .slice A1 (digs 4294967296 m3).length c1 ∧ RU X A1 c1 (digs 4294967296 m3)
       | 10 => ∃ A1 c1, f 10 = .slice A1 (digs 4294967296 m3).length c1 ∧ RU X A1 c1 (digs 4294967296 m3)
       | _ => True) (by kernel_rfl) [(27, 0), (28, 1), (29, 2), (30, 3), (31, 4), (32, 5), (33, 6), (34, 7), (35, 8), (36, 9), (5, 10)] (by kernel_rfl) ?_
      refine Par.S 1 10 [(28, 1), (29, 2), (30, 3), (31, 4), (32, 5), (33, 6), (34, 7), (35, 8)] (fun f X hX hR K hK => ?_) ?_
      · simp only [yA, yB, yC, yD, yE]
        refine ⟨Par.want (by kernel_rfl) (wp_loadV 30 (.tmp 2) rfl rfl (hE.trans hX |>.at_ hcb) Tryz.underlying30 rfl infoRC HV.out ?_)⟩
        exact hK.out _ (cvv) _ (by simp only [yA, yB, yC, yD, yE]) (Ext.refl _) trivial (fun _ _ => rfl)
      refine Par.S 2 9 [(27, 0), (29, 2), (30, 3), (31, 4), (32, 5), (34, 7), (35, 8)] (fun f X hX hR K hK => ?_) ?_
      · simp only [yA, yB, yC, yD, yE]
        refine ⟨Par.want (by kernel_rfl) (wp_loadV 30 (.tmp 2) rfl rfl (hE.trans hX |>.at_ hcb) Tryz.underlying30 rfl infoRC HV.out ?_)⟩
        exact hK.out _ (cvv) _ (by simp only [yA, yB, yC, yD, yE]) (Ext.refl _) trivial (fun _ _ => rfl)
      refine Par.v0 3 8 ?_
      refine Par.ld1 4 7 2 d1 ?_
      refine Par.v0 5 6 ?_
      refine Par.ld1 6 5 4 d1 ?_
      refine Par.c0 7 4 (fun f => #[f 1, f 3, f 5]) (F' := 44) (fun f X hX hR => ?_) ?_
      · have e1 : f 1 = _ := hR.out 1 rfl
        have e3 : f 3 = _ := hR.out 3 rfl
        have e5 : f 5 = _ := hR.out 5 rfl
        simp only [e1, e3, e5]
        refine (times_any A A c c x x X (Hcv.out.ext (HE0.out.trans (hE.trans hX))) (h.up (HE0.out.trans (hE.trans hX))) (h.up (HE0.out.trans (hE.trans hX))) (by have := Kx.out; omega) (by have := Kx.out; omega) HM0.out).mono ?_
        rw [E2.out]
        rintro e w2 ⟨A1, c1, rfl, hO, hB⟩
        exact ⟨(.slice A1 (digs 4294967296 m2).length c1), rfl, hB, fun Y hY => ⟨A1, c1, rfl, hO.up hY⟩⟩
      refine Par.v0 8 3 ?_
      refine Par.ld1 9 2 7 d1 ?_
      refine Par.c0 10 1 (fun f => #[f 0, f 6, f 8]) (F' := 44) (fun f X hX hR => ?_) ?_
      · have e0 : f 0 = _ := hR.out 0 rfl
        obtain ⟨A6, c6, (e6 : f 6 = _), o6⟩ := hR.out 6 rfl
        have e8 : f 8 = _ := hR.out 8 rfl
        simp only [e0, e6, e8]
        refine (times_any A6 A c6 c m2 x X (Hcv.out.ext (HE0.out.trans (hE.trans hX))) o6 (h.up (HE0.out.trans (hE.trans hX))) (by have := K2.out; omega) (by have := Kx.out; omega) HM0.out).mono ?_
        rw [E3.out]
        rintro e w2 ⟨A1, c1, rfl, hO, hB⟩
        exact ⟨(.slice A1 (digs 4294967296 m3).length c1), rfl, hB, fun Y hY => ⟨A1, c1, rfl, hO.up hY⟩⟩
      refine Par.S 11 0 [(27, 0), (28, 1), (29, 2), (30, 3), (31, 4), (32, 5), (33, 6), (34, 7), (35, 8), (36, 9)] (fun f X hX hR K hK => ?_) ?_
      · obtain ⟨A9, c9, (e9 : f 9 = _), o9⟩ := hR.out 9 rfl
        simp only [yA, yB, yC, yD, yE, e9]
        refine ⟨?_⟩
        go_simp
        exact hK.out _ (.slice A9 (digs 4294967296 m3).length c9) _ (by simp only [yA, yB, yC, yD, yE, e9]) (Ext.refl _) trivial (fun Y hY => ⟨A9, c9, rfl, o9.up hY⟩)
      refine Par.AllOps.fin ⟨fun f X hX hR hal hap => ?_⟩
      obtain ⟨A6, c6, (e6 : f 6 = _), o6⟩ := hR 6 (by decide)
      obtain ⟨A9, c9, (e9 : f 9 = _), o9⟩ := hR 9 (by decide)
      obtain ⟨A10, c10, (e10 : f 10 = _), o10⟩ := hR 10 (by decide)
      simp only [yA, yB, yD, yE, e6, e9, e10]
      clear hR hal hap e6 e9 e10
      refine Par.Chain.done ?_
      replace hE := hE.trans hX
      clear hX d1 o6 o9
      go_upto_region 8 with fail
      have d1 := hE.cell p1
      refine Par.region_ext (by kernel_rfl) 6 [0, 0, 0, 4, 15, 31] [] (fun j f X => match j with
       | 0 => f 0 = cvv
       | 1 => ∃ A1 c1, f 1 = .slice A1 (digs 4294967296 3).length c1 ∧ RU X A1 c1 (digs 4294967296 3)
       | 2 => f 2 = .pointer (some ⟨q + 1, 1, none⟩)
       | 3 => f 3 = .slice A (digs 4294967296 x).length c
       | 4 => ∃ A1 c1, f 4 = .slice A1 (digs 4294967296 t3).length c1 ∧ RU X A1 c1 (digs 4294967296 t3)
       | 5 => ∃ A1 c1, f 5 = .slice A1 (digs 4294967296 t3).length c1 ∧ RU X A1 c1 (digs 4294967296 t3)
       | _ => True) (by kernel_rfl) [(37, 0), (38, 1), (39, 2), (40, 3), (41, 4), (6, 5)] (by kernel_rfl) ?_
      refine Par.S 1 5 [(38, 1), (39, 2), (40, 3)] (fun f X hX hR K hK => ?_) ?_
      · simp only [yA, yB, yC, yD, yE]
        refine ⟨Par.want (by kernel_rfl) (wp_loadV 30 (.tmp 2) rfl rfl (hE.trans hX |>.at_ hcb) Tryz.underlying30 rfl infoRC HV.out ?_)⟩
        exact hK.out _ (cvv) _ (by simp only [yA, yB, yC, yD, yE]) (Ext.refl _) trivial (fun _ _ => rfl)
      refine Par.c0 2 4 (fun _ => #[Value.int IntKind.u64 3]) (F' := 48) (fun f X hX hR => ?_) ?_
      · refine (refOf_any 3 X (by omega)).mono ?_
        rintro e w2 ⟨A1, c1, rfl, hO, hB⟩
        exact ⟨(.slice A1 (digs 4294967296 3).length c1), rfl, hB, fun Y hY => ⟨A1, c1, rfl, hO.ru.up hY⟩⟩
      refine Par.v0 3 3 ?_
      refine Par.ld1 4 2 2 d1 ?_
      refine Par.c0 5 1 (fun f => #[f 0, f 1, f 3]) (F' := 44) (fun f X hX hR => ?_) ?_
      · have e0 : f 0 = _ := hR.out 0 rfl
        obtain ⟨A1, c1, (e1 : f 1 = _), o1⟩ := hR.out 1 rfl
        have e3 : f 3 = _ := hR.out 3 rfl
        simp only [e0, e1, e3]
        refine (times_any A1 A c1 c 3 x X (Hcv.out.ext (HE0.out.trans (hE.trans hX))) o1 (h.up (HE0.out.trans (hE.trans hX))) (by have := K0.out; omega) (by have := Kx.out; omega) HM0.out).mono ?_
        rw [Et.out]
        rintro e w2 ⟨A1, c1, rfl, hO, hB⟩
        exact ⟨(.slice A1 (digs 4294967296 t3).length c1), rfl, hB, fun Y hY => ⟨A1, c1, rfl, hO.up hY⟩⟩
      refine Par.S 6 0 [(37, 0), (38, 1), (39, 2), (40, 3), (41, 4)] (fun f X hX hR K hK => ?_) ?_
      · obtain ⟨A4, c4, (e4 : f 4 = _), o4⟩ := hR.out 4 rfl
        simp only [yA, yB, yC, yD, yE, e4]
        refine ⟨?_⟩
        go_simp
        exact hK.out _ (.slice A4 (digs 4294967296 t3).length c4) _ (by simp only [yA, yB, yC, yD, yE, e4]) (Ext.refl _) trivial (fun Y hY => ⟨A4, c4, rfl, o4.up hY⟩)
      refine Par.AllOps.fin ⟨fun f X hX hR hal hap => ?_⟩
      obtain ⟨A1, c1, (e1 : f 1 = _), o1⟩ := hR 1 (by decide)
      obtain ⟨A4, c4, (e4 : f 4 = _), o4⟩ := hR 4 (by decide)
      obtain ⟨A5, c5, (e5 : f 5 = _), o5⟩ := hR 5 (by decide)
      simp only [yA, yB, yD, yE, e1, e4, e5]
      clear hR hal hap e1 e4 e5
      refine Par.Chain.done ?_
      have g10 := o10.up hX
      replace hE := hE.trans hX
      clear hX d1 o1 o4 o10
      go_upto_region 9 with fail
      have d0 := hE.cell b0
      have d2 := hE.cell b2
      refine Par.region_ext (by kernel_rfl) 11 [0, 0, 0, 7, 0, 16, 63, 0, 128, 511, 1023] [] (fun j f X => match j with
       | 0 => f 0 = cvv
       | 1 => f 1 = .slice A10 (digs 4294967296 m3).length c10
       | 2 => f 2 = .slice A5 (digs 4294967296 t3).length c5
       | 3 => ∃ A1 c1, f 3 = .slice A1 (digs 4294967296 mi).length c1 ∧ RU X A1 c1 (digs 4294967296 mi)
       | 4 => f 4 = .pointer (some ⟨q, 2, none⟩)
       | 5 => f 5 = .slice Ab (digs 4294967296 C.bb).length cb
       | 6 => ∃ A1 c1, f 6 = .slice A1 (digs 4294967296 (mi + C.bb)).length c1 ∧ RU X A1 c1 (digs 4294967296 (mi + C.bb))
       | 7 => f 7 = .pointer (some ⟨q, 0, none⟩)
       | 8 => f 8 = .slice Ap (digs 4294967296 C.M).length cp
       | 9 => ∃ A1 c1, f 9 = .slice A1 (digs 4294967296 rt).length c1 ∧ RU X A1 c1 (digs 4294967296 rt)
       | 10 => ∃ A1 c1, f 10 = .slice A1 (digs 4294967296 rt).length c1 ∧ RU X A1 c1 (digs 4294967296 rt)
       | _ => True) (by kernel_rfl) [(42, 0), (43, 1), (44, 2), (45, 3), (46, 4), (47, 5), (48, 6), (49, 7), (50, 8), (51, 9), (7, 10)] (by kernel_rfl) ?_
      refine Par.S 1 10 [(43, 1), (44, 2), (46, 4), (47, 5), (49, 7), (50, 8)] (fun f X hX hR K hK => ?_) ?_
      · simp only [yA, yB, yC, yD, yE]
        refine ⟨Par.want (by kernel_rfl) (wp_loadV 30 (.tmp 2) rfl rfl (hE.trans hX |>.at_ hcb) Tryz.underlying30 rfl infoRC HV.out ?_)⟩
        exact hK.out _ (cvv) _ (by simp only [yA, yB, yC, yD, yE]) (Ext.refl _) trivial (fun _ _ => rfl)
      refine Par.v0 2 9 ?_
      refine Par.v0 3 8 ?_
      refine Par.c0 4 7 (fun f => #[f 0, f 1, f 2]) (F' := 51) (fun f X hX hR => ?_) ?_
      · have e0 : f 0 = _ := hR.out 0 rfl
        have e1 : f 1 = _ := hR.out 1 rfl
        have e2 : f 2 = _ := hR.out 2 rfl
        simp only [e0, e1, e2]
        refine (minus_any A10 A5 c10 c5 m3 t3 X (Hcv.out.ext (HE0.out.trans (hE.trans hX))) (g10.up hX) (o5.up hX) (by have := K3.out; omega) (by have := L.out; omega) Htm.out HM0.out).mono ?_
        rw [Ei.out]
        rintro e w2 ⟨A1, c1, rfl, hO, hB⟩
        exact ⟨(.slice A1 (digs 4294967296 mi).length c1), rfl, hB, fun Y hY => ⟨A1, c1, rfl, hO.up hY⟩⟩
      refine Par.v0 5 6 ?_
      refine Par.ld1 6 5 4 d2 ?_
      refine Par.c0 7 4 (fun f => #[f 3, f 5]) (F' := 50) (fun f X hX hR => ?_) ?_
      · obtain ⟨A3, c3, (e3 : f 3 = _), o3⟩ := hR.out 3 rfl
        have e5 : f 5 = _ := hR.out 5 rfl
        simp only [e3, e5]
        refine (refAdd_any _ _ A3 Ab c3 cb mi C.bb X o3 (h3.up (HE0.out.trans (hE.trans hX))) (fun _ hb => hb) (fun _ hb => hb) (by have := Ki.out; omega) (by have := Kb.out; omega)).mono ?_
        rintro e w2 ⟨A1, c1, rfl, hO, hB⟩
        exact ⟨(.slice A1 (digs 4294967296 (mi + C.bb)).length c1), rfl, hB, fun Y hY => ⟨A1, c1, rfl, hO.ru.up hY⟩⟩
      refine Par.v0 8 3 ?_
      refine Par.ld1 9 2 7 d0 ?_
      refine Par.c0 10 1 (fun f => #[f 6, f 8]) (F' := 49) (fun f X hX hR => ?_) ?_
      · obtain ⟨A6, c6, (e6 : f 6 = _), o6⟩ := hR.out 6 rfl
        have e8 : f 8 = _ := hR.out 8 rfl
        simp only [e6, e8]
        refine (refMod_any A6 Ap c6 cp (mi + C.bb) C.M X o6 (h1.up (HE0.out.trans (hE.trans hX))) (by have := Ks.out; omega) HM0.out).mono ?_
        rw [Er.out]
        rintro e w2 ⟨A1, c1, rfl, hO, hB⟩
        exact ⟨(.slice A1 (digs 4294967296 rt).length c1), rfl, hB, fun Y hY => ⟨A1, c1, rfl, hO.up hY⟩⟩
      refine Par.S 11 0 [(42, 0), (43, 1), (44, 2), (45, 3), (46, 4), (47, 5), (48, 6), (49, 7), (50, 8), (51, 9)] (fun f X hX hR K hK => ?_) ?_
      · obtain ⟨A9, c9, (e9 : f 9 = _), o9⟩ := hR.out 9 rfl
        simp only [yA, yB, yC, yD, yE, e9]
        refine ⟨?_⟩
        go_simp
        exact hK.out _ (.slice A9 (digs 4294967296 rt).length c9) _ (by simp only [yA, yB, yC, yD, yE, e9]) (Ext.refl _) trivial (fun Y hY => ⟨A9, c9, rfl, o9.up hY⟩)
      refine Par.AllOps.fin ⟨fun f X hX hR hal hap => ?_⟩
      obtain ⟨A3, c3, (e3 : f 3 = _), o3⟩ := hR 3 (by decide)
      obtain ⟨A6, c6, (e6 : f 6 = _), o6⟩ := hR 6 (by decide)
      obtain ⟨A9, c9, (e9 : f 9 = _), o9⟩ := hR 9 (by decide)
      obtain ⟨A11, c11, (e10 : f 10 = _), o11⟩ := hR 10 (by decide)
      simp only [yA, yB, yD, yE, e3, e6, e9, e10]
      clear hR hal hap e3 e6 e9 e10
      refine Par.Chain.done ?_
      replace hE := hE.trans hX
      clear hX d0 d2 o3 o6 o9 g10 o5
      go_upto_region 10 with fail
      have d2 := hE.cell p2
      refine Par.region_txt 10 [0, 0, 2, 0, 8, 31, 0, 127, 255, 511] [] (fun j f X => match j with
       | 0 => f 0 = cvv
       | 1 => f 1 = .pointer (some ⟨q + 1, 2, none⟩)
       | 2 => f 2 = .slice A' (digs 4294967296 y).length c'
       | 3 => f 3 = .pointer (some ⟨q + 1, 2, none⟩)
       | 4 => f 4 = .slice A' (digs 4294967296 y).length c'
       | 5 => ∃ A1 c1, f 5 = .slice A1 (digs 4294967296 yy).length c1 ∧ RU X A1 c1 (digs 4294967296 yy)
       | 6 => f 6 = .slice A11 (digs 4294967296 rt).length c11
       | 7 => f 7 = .int .i64 (cmpV yy rt)
       | 8 => f 8 = .bool r
       | 9 => f 9 = .bool r
       | _ => True) (by kernel_rfl) [(52, 0), (53, 1), (54, 2), (55, 3), (56, 4), (57, 5), (58, 6), (59, 7), (60, 8), (4, 9)] (by kernel_rfl) ?_
      refine Par.S 1 9 [(53, 1), (54, 2), (55, 3), (56, 4), (58, 6)] (fun f X hX hR K hK => ?_) ?_
      · simp only [yA, yB, yC, yD, yE]
        refine ⟨Par.want (by kernel_rfl) (wp_loadV 30 (.tmp 2) rfl rfl (hE.trans hX |>.at_ hcb) Tryz.underlying30 rfl infoRC HV.out ?_)⟩
        exact hK.out _ (cvv) _ (by simp only [yA, yB, yC, yD, yE]) (Ext.refl _) trivial (fun _ _ => rfl)
      refine Par.v0 2 8 ?_
      refine Par.ld1 3 7 1 d2 ?_
      refine Par.v0 4 6 ?_
      refine Par.ld1 5 5 3 d2 ?_
      refine Par.c0 6 4 (fun f => #[f 0, f 2, f 4]) (F' := 44) (fun f X hX hR => ?_) ?_
      · have e0 : f 0 = _ := hR.out 0 rfl
        have e2 : f 2 = _ := hR.out 2 rfl
        have e4 : f 4 = _ := hR.out 4 rfl
        simp only [e0, e2, e4]
        refine (times_any A' A' c' c' y y X (Hcv.out.ext (HE0.out.trans (hE.trans hX))) (h'.up (HE0.out.trans (hE.trans hX))) (h'.up (HE0.out.trans (hE.trans hX))) (by have := KY.out; omega) (by have := KY.out; omega) HM0.out).mono ?_
        rw [Ey.out]
        rintro e w2 ⟨A1, c1, rfl, hO, hB⟩
        exact ⟨(.slice A1 (digs 4294967296 yy).length c1), rfl, hB, fun Y hY => ⟨A1, c1, rfl, hO.up hY⟩⟩
      refine Par.v0 7 3 ?_
      refine Par.c0 8 2 (fun f => #[f 5, f 6]) (F' := 38) (fun f X hX hR => ?_) ?_
      · obtain ⟨A5, c5, (e5 : f 5 = _), o5⟩ := hR.out 5 rfl
        have e6 : f 6 = _ := hR.out 6 rfl
        simp only [e5, e6]
        refine (refCmp_any _ _ A5 A11 c5 c11 yy rt X o5 (o11.up hX)).mono ?_
        rintro e w2 ⟨rfl, nq, rfl⟩
        exact ⟨(.int .i64 (cmpV yy rt)), rfl, (Ext.drewN _ _), fun _ _ => rfl⟩
      refine Par.S 9 1 [(52, 0), (53, 1), (54, 2), (55, 3), (56, 4), (57, 5), (58, 6), (59, 7)] (fun f X hX hR K hK => ?_) ?_
      · have e7 : f 7 = _ := hR.out 7 rfl
        simp only [yA, yB, yC, yD, yE, e7]
        refine ⟨?_⟩
        go_simp
        have hd : (cmpV yy rt == 0) = r := by rw [Hres.out]; exact cmpV_eq0 yy rt
        rw [hd]
        exact Par.k hK (s := by simp only [yA, yB, yC, yD, yE, e7])
      refine Par.v1 10 0 8 ?_
      refine Par.AllOps.fin ⟨fun f X hX hR hal hap => ?_⟩
      obtain ⟨A5, c5, (e5 : f 5 = _), o5⟩ := hR 5 (by decide)
      have e9 : f 9 = _ := hR 9 (by decide)
      simp only [yA, yB, yD, yE, e5, e9]
      clear hR hal hap e5 e9
      refine Par.Chain.done ?_
      go_wp2
      go_ret
      exact ⟨rfl, HE0.out.trans (hE.trans hX)⟩
    · obtain ⟨v, hv⟩ : ∃ v, cmpV y C.M = v := ⟨_, rfl⟩
      have hv0 : 0 ≤ v := by rw [← hv]; rcases cmpV_cases y C.M with h | h | h <;> omega
      have Hv := Lib.hid hv
      have HH := Lib.hid hyM
      clear hv hyM
      go_enter Tryz.func22, Tryz.ntmps22
      go_upto_region 5 with fail
      rw [← hW0]
      clear hW0 hq
      refine Par.region_txt 14 [0, 1, 0, 4, 15, 31, 63, 127, 255, 127, 639, 2047, 4095, 8191] [] (fun j f X => match j with
       | 0 => f 0 = .pointer (some ⟨q + 1, 1, none⟩)
       | 1 => f 1 = .slice A (digs 4294967296 x).length c
       | 2 => f 2 = .pointer (some ⟨q, 0, none⟩)
       | 3 => f 3 = .slice Ap (digs 4294967296 C.M).length cp
       | 4 => f 4 = .int .i64 (-1)
       | 5 => f 5 = .bool false
       | 6 => f 6 = .bool false
       | 7 => f 7 = .pointer (some ⟨q + 1, 2, none⟩)
       | 8 => f 8 = .slice A' (digs 4294967296 y).length c'
       | 9 => f 9 = .pointer (some ⟨q, 0, none⟩)
       | 10 => f 10 = .slice Ap (digs 4294967296 C.M).length cp
       | 11 => f 11 = .int .i64 v
       | 12 => f 12 = .bool true
       | 13 => f 13 = .bool true
       | _ => True) (by kernel_rfl) [(13, 0), (14, 1), (15, 2), (16, 3), (17, 4), (18, 5), (19, 6), (20, 7), (21, 8), (22, 9), (23, 10), (24, 11), (25, 12), (26, 13)] (by kernel_rfl) ?_
      refine Par.v0 1 13 ?_
      refine Par.ld1 2 12 0 p1 ?_
      refine Par.v0 3 11 ?_
      refine Par.ld1 4 10 2 b0 ?_
      refine Par.c0 5 9 (fun f => #[f 1, f 3]) (F' := 38) (fun f X hX hR => ?_) ?_
      · have e1 : f 1 = _ := hR.out 1 rfl
        have e3 : f 3 = _ := hR.out 3 rfl
        simp only [e1, e3]
        refine (arm1.out X hX).mono ?_
        rintro e w2 ⟨rfl, nq, rfl⟩
        rw [tx.out]
        exact ⟨(.int .i64 (-1)), rfl, (Ext.drewN _ _), fun _ _ => rfl⟩
      refine Par.S 6 8 [(13, 0), (14, 1), (15, 2), (16, 3), (17, 4)] (fun f X hX hR K hK => ?_) ?_
      · have e4 : f 4 = _ := hR.out 4 rfl
        simp only [yA, yB, yC, yD, yE, e4]
        refine ⟨?_⟩
        go_simp
        exact Par.k hK (s := by simp only [yA, yB, yC, yD, yE, e4])
      refine Par.v1 7 7 5 ?_
      refine Par.v1 8 6 6 ?_
      refine Par.S 9 5 [(13, 0), (14, 1), (15, 2), (16, 3), (17, 4), (18, 5), (19, 6), (20, 7), (22, 9), (23, 10)] (fun f X hX hR K hK => ?_) ?_
      · have e6 : f 6 = _ := hR.out 6 rfl
        have e7 : f 7 = _ := hR.out 7 rfl
        have x0 := hX.cell p2
        simp only [yA, yB, yC, yD, yE, e6, e7]
        refine ⟨Par.want (by kernel_rfl) ?_⟩
        go_simp
        exact Par.k hK (s := by simp only [yA, yB, yC, yD, yE, e6, e7])
      refine Par.v1 10 4 6 ?_
      refine Par.S 11 3 [(13, 0), (14, 1), (15, 2), (16, 3), (17, 4), (18, 5), (19, 6), (20, 7), (21, 8), (22, 9)] (fun f X hX hR K hK => ?_) ?_
      · have e6 : f 6 = _ := hR.out 6 rfl
        have e9 : f 9 = _ := hR.out 9 rfl
        have x0 := hX.cell b0
        simp only [yA, yB, yC, yD, yE, e6, e9]
        refine ⟨Par.want (by kernel_rfl) ?_⟩
        go_simp
        exact Par.k hK (s := by simp only [yA, yB, yC, yD, yE, e6, e9])
      refine Par.c1 12 2 6 (fun f => #[f 8, f 10]) (F' := 38) (fun f X hX hR => ?_) ?_
      · have e8 : f 8 = _ := hR.out 8 rfl
        have e10 : f 10 = _ := hR.out 10 rfl
        simp only [e8, e10]
        refine (arm2.out X hX).mono ?_
        rintro e w2 ⟨rfl, nq, rfl⟩
        rw [Hv.out]
        exact ⟨(.int .i64 v), rfl, (Ext.drewN _ _), fun _ _ => rfl⟩
      refine Par.S 13 1 [(13, 0), (14, 1), (15, 2), (16, 3), (17, 4), (18, 5), (19, 6), (20, 7), (21, 8), (22, 9), (23, 10), (24, 11)] (fun f X hX hR K hK => ?_) ?_
      · have e6 : f 6 = _ := hR.out 6 rfl
        have e11 : f 11 = _ := hR.out 11 rfl
        simp only [yA, yB, yC, yD, yE, e6, e11]
        refine ⟨Par.want (by kernel_rfl) ?_⟩
        go_simp
        exact Par.k hK (s := by simp only [yA, yB, yC, yD, yE, e6, e11])
      refine Par.v2 14 0 6 12 ?_
      refine Par.AllOps.fin ⟨fun f X hX hR hal hap => ?_⟩
      have e13 : f 13 = _ := hR 13 (by decide)
      simp only [yA, yB, yD, yE, e13]
      clear hR hal hap e13
      refine Par.Chain.done ?_
      go_wp2
      go_ret
      exact ⟨by rw [show r = false by rw [← Hr.out]; simp [onB, HH.out]]; rfl, HE0.out.trans hX⟩
  · obtain ⟨v, hv⟩ : ∃ v, cmpV x C.M = v := ⟨_, rfl⟩
    have hv0 : 0 ≤ v := by rw [← hv]; rcases cmpV_cases x C.M with h | h | h <;> omega
    have Hv := Lib.hid hv
    have HH := Lib.hid hxM
    clear hv hxM
    go_enter Tryz.func22, Tryz.ntmps22
    go_upto_region 5 with fail
    rw [← hW0]
    clear hW0 hq
    refine Par.region_txt 14 [0, 1, 0, 4, 15, 31, 63, 127, 255, 127, 639, 2047, 4095, 8191] [] (fun j f X => match j with
     | 0 => f 0 = .pointer (some ⟨q + 1, 1, none⟩)
     | 1 => f 1 = .slice A (digs 4294967296 x).length c
     | 2 => f 2 = .pointer (some ⟨q, 0, none⟩)
     | 3 => f 3 = .slice Ap (digs 4294967296 C.M).length cp
     | 4 => f 4 = .int .i64 v
     | 5 => f 5 = .bool true
     | 6 => f 6 = .bool true
     | 7 => f 7 = undef
     | 8 => f 8 = undef
     | 9 => f 9 = undef
     | 10 => f 10 = undef
     | 11 => f 11 = undef
     | 12 => f 12 = undef
     | 13 => f 13 = .bool true
     | _ => True) (by kernel_rfl) [(13, 0), (14, 1), (15, 2), (16, 3), (17, 4), (18, 5), (19, 6), (20, 7), (21, 8), (22, 9), (23, 10), (24, 11), (25, 12), (26, 13)] (by kernel_rfl) ?_
    refine Par.v0 1 13 ?_
    refine Par.ld1 2 12 0 p1 ?_
    refine Par.v0 3 11 ?_
    refine Par.ld1 4 10 2 b0 ?_
    refine Par.c0 5 9 (fun f => #[f 1, f 3]) (F' := 38) (fun f X hX hR => ?_) ?_
    · have e1 : f 1 = _ := hR.out 1 rfl
      have e3 : f 3 = _ := hR.out 3 rfl
      simp only [e1, e3]
      refine (arm1.out X hX).mono ?_
      rintro e w2 ⟨rfl, nq, rfl⟩
      rw [Hv.out]
      exact ⟨(.int .i64 v), rfl, (Ext.drewN _ _), fun _ _ => rfl⟩
    refine Par.S 6 8 [(13, 0), (14, 1), (15, 2), (16, 3), (17, 4)] (fun f X hX hR K hK => ?_) ?_
    · have e4 : f 4 = _ := hR.out 4 rfl
      simp only [yA, yB, yC, yD, yE, e4]
      refine ⟨?_⟩
      go_simp
      exact Par.k hK (s := by simp only [yA, yB, yC, yD, yE, e4])
    refine Par.v1 7 7 5 ?_
    refine Par.sk 8 6 6 ?_
    refine Par.sk 9 5 6 ?_
    refine Par.sk 10 4 6 ?_
    refine Par.sk 11 3 6 ?_
    refine Par.sk 12 2 6 ?_
    refine Par.sk 13 1 6 ?_
    refine Par.v2 14 0 6 12 ?_
    refine Par.AllOps.fin ⟨fun f X hX hR hal hap => ?_⟩
    have e13 : f 13 = _ := hR 13 (by decide)
    simp only [yA, yB, yD, yE, e13]
    clear hR hal hap e13
    refine Par.Chain.done ?_
    go_wp2
    go_ret
    exact ⟨by rw [show r = false by rw [← Hr.out]; simp [onB, HH.out]]; rfl, HE0.out.trans hX⟩
end Go.Proofs.YtaemogcomplhiaaGreatDoor

namespace Go.Proofs.YtaemogcomplhiaaGreatDoor
open Go.RowKit

def c0 : Crv := ⟨0, 0, 0, 0, [], [], [], [], []⟩
theorem end_rc {fn : Func} {R : Ending → World → Prop} {a : Act} {W : World} {p : Tmp} {g : Nat} {ty : TypeId} {fr : Nat × Nat} {x0 x1 x2 x3 x4 x5 : Value} (hr : fn.results = #[.cell p 30]) (hp : a.tmps.getD p undef = .pointer (some ⟨g, 0, none⟩)) (hd : a.defers = [])
 (hg : W.heap[g]? = some (.cells #[x0, x1, x2, x3, x4, x5] ty fr)) (hR : R (.returned (.agg #[x0, x1, x2, x3, x4, x5])) W) : bodyPost Tryz.prog fn R .ret a W :=
 bodyPost_ret (results_cell_row hr a.tmps W g _ _ _ _ hp hg Tryz.underlying30 rfl infoRC) hd hR
theorem rc_one (A1 A2 A3 A4 A5 : Option Addr) (n1 n2 n3 n4 n5 c1 c2 c3 c4 c5 : Nat) (s : Int) : (#[Value.slice A1 n1 c1, .slice A2 n2 c2, .slice A3 n3 c3, .slice A4 n4 c4, .slice A5 n5 c5, .int .i64 s] : Array Value).all (·.oneCell') = true := by simp [Value.oneCell']
set_option maxRecDepth 100000 in
set_option maxHeartbeats 8000000 in
theorem refOf_c {c : Int} {C : Crv} (hC : IsC c C) (w : World) : Calls Tryz.prog 9 #[.int .i64 c] w fun e w' => ∃ v, e = .returned v ∧ RC w' C v ∧ Ext w w' := by
 have hz : (w.alloc (.cells #[.slice none 0 0, .slice none 0 0, .slice none 0 0, .slice none 0 0, .slice none 0 0, .int .i64 0] 30)).heap[w.heap.size]? = some (.cells #[.slice none 0 0, .slice none 0 0, .slice none 0 0, .slice none 0 0, .slice none 0 0, .int .i64 0] 30 (0, 0)) := heap_alloc_new w _
 rcases hC with ⟨rfl, rfl⟩ | ⟨rfl, rfl⟩
 · go_enter Tryz.func9, Tryz.ntmps9
   go_upto_region 3 with fail
   refine Par.region_txt 11 [0, 1, 0, 7, 0, 31, 0, 127, 0, 511, 1023, 2047] [] (fun j f X => match j with
    | 0 => ∃ b, f 0 = .slice (some ⟨b, 0, none⟩) 4 4 ∧ RU X (some ⟨b, 0, none⟩) 4 p256p
    | 1 => ∃ A1 c1, f 1 = .slice A1 (digs 4294967296 (val 18446744073709551616 p256p)).length c1 ∧ OB X w.heap.size A1 c1 (digs 4294967296 (val 18446744073709551616 p256p))
    | 2 => ∃ b, f 2 = .slice (some ⟨b, 0, none⟩) 4 4 ∧ RU X (some ⟨b, 0, none⟩) 4 p256n
    | 3 => ∃ A1 c1, f 3 = .slice A1 (digs 4294967296 (val 18446744073709551616 p256n)).length c1 ∧ OB X w.heap.size A1 c1 (digs 4294967296 (val 18446744073709551616 p256n))
    | 4 => ∃ b, f 4 = .slice (some ⟨b, 0, none⟩) 4 4 ∧ RU X (some ⟨b, 0, none⟩) 4 p256b
    | 5 => ∃ A1 c1, f 5 = .slice A1 (digs 4294967296 (val 18446744073709551616 p256b)).length c1 ∧ OB X w.heap.size A1 c1 (digs 4294967296 (val 18446744073709551616 p256b))
    | 6 => ∃ b, f 6 = .slice (some ⟨b, 0, none⟩) 4 4 ∧ RU X (some ⟨b, 0, none⟩) 4 p256x
    | 7 => ∃ A1 c1, f 7 = .slice A1 (digs 4294967296 (val 18446744073709551616 p256x)).length c1 ∧ OB X w.heap.size A1 c1 (digs 4294967296 (val 18446744073709551616 p256x))
    | 8 => ∃ b, f 8 = .slice (some ⟨b, 0, none⟩) 4 4 ∧ RU X (some ⟨b, 0, none⟩) 4 p256y
    | 9 => ∃ A1 c1, f 9 = .slice A1 (digs 4294967296 (val 18446744073709551616 p256y)).length c1 ∧ OB X w.heap.size A1 c1 (digs 4294967296 (val 18446744073709551616 p256y))
    | 10 => f 10 = .agg #[f 1, f 3, f 5, f 7, f 9, .int .i64 32]
    | _ => True) (by kernel_rfl) [(6, 0), (7, 1), (8, 2), (9, 3), (10, 4), (11, 5), (12, 6), (13, 7), (14, 8), (15, 9), (16, 10)] (by kernel_rfl) ?_
   refine Par.S 1 10 [(8, 2), (10, 4), (12, 6), (14, 8)] (fun f X hX hR K hK => ?_) ?_
   · simp only [yA, yB, yC, yD, yE]
     refine ⟨?_⟩
     go_simp
     exact hK.out _ (.slice (some ⟨X.heap.size, 0, none⟩) 4 4) _ (by simp only [yA, yB, yC, yD, yE]) (Ext.alloc _ _) trivial (fun Y hY => ⟨X.heap.size, rfl, ((RN.lits X p256p ⟨by decide, by decide⟩).mono (fun b hb => by rw [World.size_alloc]; exact hb.2)).up hY⟩)
   refine Par.c0 2 9 (fun f => #[f 0]) (F' := 13) (fun f X hX hR => ?_) ?_
   · obtain ⟨b0, (e0 : f 0 = _), h0⟩ := hR.out 0 rfl
     simp only [e0]
     refine (from_any _ (some ⟨b0, 0, none⟩) 4 p256p X h0 (fun _ hb => hb) (by decide)).mono ?_
     rintro e w2 ⟨A1, c1, rfl, hO, hB⟩
     exact ⟨(.slice A1 (digs 4294967296 (val 18446744073709551616 p256p)).length c1), rfl, hB, fun Y hY => ⟨A1, c1, rfl, (hO.mono (Nat.le_trans (Ext.alloc w _).bsize hX.bsize)).below hY (Nat.le_refl _)⟩⟩
   refine Par.S 3 8 [(6, 0), (7, 1), (10, 4), (12, 6), (14, 8)] (fun f X hX hR K hK => ?_) ?_
   · simp only [yA, yB, yC, yD, yE]
     refine ⟨?_⟩
     go_simp
     exact hK.out _ (.slice (some ⟨X.heap.size, 0, none⟩) 4 4) _ (by simp only [yA, yB, yC, yD, yE]) (Ext.alloc _ _) trivial (fun Y hY => ⟨X.heap.size, rfl, ((RN.lits X p256n ⟨by decide, by decide⟩).mono (fun b hb => by rw [World.size_alloc]; exact hb.2)).up hY⟩)
   refine Par.c0 4 7 (fun f => #[f 2]) (F' := 13) (fun f X hX hR => ?_) ?_
   · obtain ⟨b2, (e2 : f 2 = _), h2⟩ := hR.out 2 rfl
     simp only [e2]
     refine (from_any _ (some ⟨b2, 0, none⟩) 4 p256n X h2 (fun _ hb => hb) (by decide)).mono ?_
     rintro e w2 ⟨A1, c1, rfl, hO, hB⟩
     exact ⟨(.slice A1 (digs 4294967296 (val 18446744073709551616 p256n)).length c1), rfl, hB, fun Y hY => ⟨A1, c1, rfl, (hO.mono (Nat.le_trans (Ext.alloc w _).bsize hX.bsize)).below hY (Nat.le_refl _)⟩⟩
   refine Par.S 5 6 [(6, 0), (7, 1), (8, 2), (9, 3), (12, 6), (14, 8)] (fun f X hX hR K hK => ?_) ?_
   · simp only [yA, yB, yC, yD, yE]
     refine ⟨?_⟩
     go_simp
     exact hK.out _ (.slice (some ⟨X.heap.size, 0, none⟩) 4 4) _ (by simp only [yA, yB, yC, yD, yE]) (Ext.alloc _ _) trivial (fun Y hY => ⟨X.heap.size, rfl, ((RN.lits X p256b ⟨by decide, by decide⟩).mono (fun b hb => by rw [World.size_alloc]; exact hb.2)).up hY⟩)
   refine Par.c0 6 5 (fun f => #[f 4]) (F' := 13) (fun f X hX hR => ?_) ?_
   · obtain ⟨b4, (e4 : f 4 = _), h4⟩ := hR.out 4 rfl
     simp only [e4]
     refine (from_any _ (some ⟨b4, 0, none⟩) 4 p256b X h4 (fun _ hb => hb) (by decide)).mono ?_
     rintro e w2 ⟨A1, c1, rfl, hO, hB⟩
     exact ⟨(.slice A1 (digs 4294967296 (val 18446744073709551616 p256b)).length c1), rfl, hB, fun Y hY => ⟨A1, c1, rfl, (hO.mono (Nat.le_trans (Ext.alloc w _).bsize hX.bsize)).below hY (Nat.le_refl _)⟩⟩
   refine Par.S 7 4 [(6, 0), (7, 1), (8, 2), (9, 3), (10, 4), (11, 5), (14, 8)] (fun f X hX hR K hK => ?_) ?_
   · simp only [yA, yB, yC, yD, yE]
     refine ⟨?_⟩
     go_simp
     exact hK.out _ (.slice (some ⟨X.heap.size, 0, none⟩) 4 4) _ (by simp only [yA, yB, yC, yD, yE]) (Ext.alloc _ _) trivial (fun Y hY => ⟨X.heap.size, rfl, ((RN.lits X p256x ⟨by decide, by decide⟩).mono (fun b hb => by rw [World.size_alloc]; exact hb.2)).up hY⟩)
   refine Par.c0 8 3 (fun f => #[f 6]) (F' := 13) (fun f X hX hR => ?_) ?_
   · obtain ⟨b6, (e6 : f 6 = _), h6⟩ := hR.out 6 rfl
     simp only [e6]
     refine (from_any _ (some ⟨b6, 0, none⟩) 4 p256x X h6 (fun _ hb => hb) (by decide)).mono ?_
     rintro e w2 ⟨A1, c1, rfl, hO, hB⟩
     exact ⟨(.slice A1 (digs 4294967296 (val 18446744073709551616 p256x)).length c1), rfl, hB, fun Y hY => ⟨A1, c1, rfl, (hO.mono (Nat.le_trans (Ext.alloc w _).bsize hX.bsize)).below hY (Nat.le_refl _)⟩⟩
   refine Par.S 9 2 [(6, 0), (7, 1), (8, 2), (9, 3), (10, 4), (11, 5), (12, 6), (13, 7)] (fun f X hX hR K hK => ?_) ?_
   · simp only [yA, yB, yC, yD, yE]
     refine ⟨?_⟩
     go_simp
     exact hK.out _ (.slice (some ⟨X.heap.size, 0, none⟩) 4 4) _ (by simp only [yA, yB, yC, yD, yE]) (Ext.alloc _ _) trivial (fun Y hY => ⟨X.heap.size, rfl, ((RN.lits X p256y ⟨by decide, by decide⟩).mono (fun b hb => by rw [World.size_alloc]; exact hb.2)).up hY⟩)
   refine Par.c0 10 1 (fun f => #[f 8]) (F' := 13) (fun f X hX hR => ?_) ?_
   · obtain ⟨b8, (e8 : f 8 = _), h8⟩ := hR.out 8 rfl
     simp only [e8]
     refine (from_any _ (some ⟨b8, 0, none⟩) 4 p256y X h8 (fun _ hb => hb) (by decide)).mono ?_
     rintro e w2 ⟨A1, c1, rfl, hO, hB⟩
     exact ⟨(.slice A1 (digs 4294967296 (val 18446744073709551616 p256y)).length c1), rfl, hB, fun Y hY => ⟨A1, c1, rfl, (hO.mono (Nat.le_trans (Ext.alloc w _).bsize hX.bsize)).below hY (Nat.le_refl _)⟩⟩
   refine Par.S 11 0 [(6, 0), (7, 1), (8, 2), (9, 3), (10, 4), (11, 5), (12, 6), (13, 7), (14, 8), (15, 9)] (fun f X hX hR K hK => ?_) ?_
   · obtain ⟨A1, c1, (e1 : f 1 = _), o1⟩ := hR.out 1 rfl
     obtain ⟨A3, c3, (e3 : f 3 = _), o3⟩ := hR.out 3 rfl
     obtain ⟨A5, c5, (e5 : f 5 = _), o5⟩ := hR.out 5 rfl
     obtain ⟨A7, c7, (e7 : f 7 = _), o7⟩ := hR.out 7 rfl
     obtain ⟨A9, c9, (e9 : f 9 = _), o9⟩ := hR.out 9 rfl
     simp only [yA, yB, yC, yD, yE, e1, e3, e5, e7, e9]
     refine ⟨?_⟩
     go_simp
     exact hK.out _ (.agg #[f 1, f 3, f 5, f 7, f 9, .int .i64 32]) _ (by simp only [yA, yB, yC, yD, yE, e1, e3, e5, e7, e9]) (Ext.refl _) trivial (fun _ _ => rfl)
   refine Par.AllOps.fin ⟨fun f X hX hR hal hap => ?_⟩
   obtain ⟨b0, (e0 : f 0 = _), h0⟩ := hR 0 (by decide)
   obtain ⟨A1, c1, (e1 : f 1 = _), o1⟩ := hR 1 (by decide)
   obtain ⟨b2, (e2 : f 2 = _), h2⟩ := hR 2 (by decide)
   obtain ⟨A3, c3, (e3 : f 3 = _), o3⟩ := hR 3 (by decide)
   obtain ⟨b4, (e4 : f 4 = _), h4⟩ := hR 4 (by decide)
   obtain ⟨A5, c5, (e5 : f 5 = _), o5⟩ := hR 5 (by decide)
   obtain ⟨b6, (e6 : f 6 = _), h6⟩ := hR 6 (by decide)
   obtain ⟨A7, c7, (e7 : f 7 = _), o7⟩ := hR 7 (by decide)
   obtain ⟨b8, (e8 : f 8 = _), h8⟩ := hR 8 (by decide)
   obtain ⟨A9, c9, (e9 : f 9 = _), o9⟩ := hR 9 (by decide)
   have e10 : f 10 = .agg #[f 1, f 3, f 5, f 7, f 9, .int .i64 32] := hR 10 (by decide)
   simp only [yA, yB, yD, yE, e0, e1, e2, e3, e4, e5, e6, e7, e8, e9, e10]
   clear hR hal hap e0 e1 e2 e3 e4 e5 e6 e7 e8 e9 e10
   refine Par.Chain.next (fun K hK => ⟨Par.want (by kernel_rfl) (wp_storeV 30 (.tmp 2) (.tmp 16) rfl rfl rfl rfl (hX.at_ hz) infoRC rfl (rc_one _ _ _ _ _ _ _ _ _ _ _ _ _ _ _ _) (fun Y1 g1 g2 g3 => hK.out _ _ ?_))⟩)
   refine Par.Chain.done ?_
   go_wp2
   refine end_rc rfl rfl rfl g1 ⟨_, rfl, ⟨A1, A3, A5, A7, A9, c1, c3, c5, c7, c9, rfl, (o1.just g2 (hX.at_ hz) (by decide)).ru, (o3.just g2 (hX.at_ hz) (by decide)).ru, (o5.just g2 (hX.at_ hz) (by decide)).ru, (o7.just g2 (hX.at_ hz) (by decide)).ru, (o9.just g2 (hX.at_ hz) (by decide)).ru⟩, g2.ext ((Ext.alloc w _).trans hX) (Nat.le_refl _)⟩
 · go_enter Tryz.func9, Tryz.ntmps9
   go_upto_region 5 with fail
   refine Par.region_txt 11 [0, 1, 0, 7, 0, 31, 0, 127, 0, 511, 1023, 2047] [] (fun j f X => match j with
    | 0 => ∃ b, f 0 = .slice (some ⟨b, 0, none⟩) 6 6 ∧ RU X (some ⟨b, 0, none⟩) 6 p384p
    | 1 => ∃ A1 c1, f 1 = .slice A1 (digs 4294967296 (val 18446744073709551616 p384p)).length c1 ∧ OB X w.heap.size A1 c1 (digs 4294967296 (val 18446744073709551616 p384p))
    | 2 => ∃ b, f 2 = .slice (some ⟨b, 0, none⟩) 6 6 ∧ RU X (some ⟨b, 0, none⟩) 6 p384n
    | 3 => ∃ A1 c1, f 3 = .slice A1 (digs 4294967296 (val 18446744073709551616 p384n)).length c1 ∧ OB X w.heap.size A1 c1 (digs 4294967296 (val 18446744073709551616 p384n))
    | 4 => ∃ b, f 4 = .slice (some ⟨b, 0, none⟩) 6 6 ∧ RU X (some ⟨b, 0, none⟩) 6 p384b
    | 5 => ∃ A1 c1, f 5 = .slice A1 (digs 4294967296 (val 18446744073709551616 p384b)).length c1 ∧ OB X w.heap.size A1 c1 (digs 4294967296 (val 18446744073709551616 p384b))
    | 6 => ∃ b, f 6 = .slice (some ⟨b, 0, none⟩) 6 6 ∧ RU X (some ⟨b, 0, none⟩) 6 p384x
    | 7 => ∃ A1 c1, f 7 = .slice A1 (digs 4294967296 (val 18446744073709551616 p384x)).length c1 ∧ OB X w.heap.size A1 c1 (digs 4294967296 (val 18446744073709551616 p384x))
    | 8 => ∃ b, f 8 = .slice (some ⟨b, 0, none⟩) 6 6 ∧ RU X (some ⟨b, 0, none⟩) 6 p384y
    | 9 => ∃ A1 c1, f 9 = .slice A1 (digs 4294967296 (val 18446744073709551616 p384y)).length c1 ∧ OB X w.heap.size A1 c1 (digs 4294967296 (val 18446744073709551616 p384y))
    | 10 => f 10 = .agg #[f 1, f 3, f 5, f 7, f 9, .int .i64 48]
    | _ => True) (by kernel_rfl) [(19, 0), (20, 1), (21, 2), (22, 3), (23, 4), (24, 5), (25, 6), (26, 7), (27, 8), (28, 9), (29, 10)] (by kernel_rfl) ?_
   refine Par.S 1 10 [(21, 2), (23, 4), (25, 6), (27, 8)] (fun f X hX hR K hK => ?_) ?_
   · simp only [yA, yB, yC, yD, yE]
     refine ⟨?_⟩
     go_simp
     exact hK.out _ (.slice (some ⟨X.heap.size, 0, none⟩) 6 6) _ (by simp only [yA, yB, yC, yD, yE]) (Ext.alloc _ _) trivial (fun Y hY => ⟨X.heap.size, rfl, ((RN.lits X p384p ⟨by decide, by decide⟩).mono (fun b hb => by rw [World.size_alloc]; exact hb.2)).up hY⟩)
   refine Par.c0 2 9 (fun f => #[f 0]) (F' := 13) (fun f X hX hR => ?_) ?_
   · obtain ⟨b0, (e0 : f 0 = _), h0⟩ := hR.out 0 rfl
     simp only [e0]
     refine (from_any _ (some ⟨b0, 0, none⟩) 6 p384p X h0 (fun _ hb => hb) (by decide)).mono ?_
     rintro e w2 ⟨A1, c1, rfl, hO, hB⟩
     exact ⟨(.slice A1 (digs 4294967296 (val 18446744073709551616 p384p)).length c1), rfl, hB, fun Y hY => ⟨A1, c1, rfl, (hO.mono (Nat.le_trans (Ext.alloc w _).bsize hX.bsize)).below hY (Nat.le_refl _)⟩⟩
   refine Par.S 3 8 [(19, 0), (20, 1), (23, 4), (25, 6), (27, 8)] (fun f X hX hR K hK => ?_) ?_
   · simp only [yA, yB, yC, yD, yE]
     refine ⟨?_⟩
     go_simp
     exact hK.out _ (.slice (some ⟨X.heap.size, 0, none⟩) 6 6) _ (by simp only [yA, yB, yC, yD, yE]) (Ext.alloc _ _) trivial (fun Y hY => ⟨X.heap.size, rfl, ((RN.lits X p384n ⟨by decide, by decide⟩).mono (fun b hb => by rw [World.size_alloc]; exact hb.2)).up hY⟩)
   refine Par.c0 4 7 (fun f => #[f 2]) (F' := 13) (fun f X hX hR => ?_) ?_
   · obtain ⟨b2, (e2 : f 2 = _), h2⟩ := hR.out 2 rfl
     simp only [e2]
     refine (from_any _ (some ⟨b2, 0, none⟩) 6 p384n X h2 (fun _ hb => hb) (by decide)).mono ?_
     rintro e w2 ⟨A1, c1, rfl, hO, hB⟩
     exact ⟨(.slice A1 (digs 4294967296 (val 18446744073709551616 p384n)).length c1), rfl, hB, fun Y hY => ⟨A1, c1, rfl, (hO.mono (Nat.le_trans (Ext.alloc w _).bsize hX.bsize)).below hY (Nat.le_refl _)⟩⟩
   refine Par.S 5 6 [(19, 0), (20, 1), (21, 2), (22, 3), (25, 6), (27, 8)] (fun f X hX hR K hK => ?_) ?_
   · simp only [yA, yB, yC, yD, yE]
     refine ⟨?_⟩
     go_simp
     exact hK.out _ (.slice (some ⟨X.heap.size, 0, none⟩) 6 6) _ (by simp only [yA, yB, yC, yD, yE]) (Ext.alloc _ _) trivial (fun Y hY => ⟨X.heap.size, rfl, ((RN.lits X p384b ⟨by decide, by decide⟩).mono (fun b hb => by rw [World.size_alloc]; exact hb.2)).up hY⟩)
   refine Par.c0 6 5 (fun f => #[f 4]) (F' := 13) (fun f X hX hR => ?_) ?_
   · obtain ⟨b4, (e4 : f 4 = _), h4⟩ := hR.out 4 rfl
     simp only [e4]
     refine (from_any _ (some ⟨b4, 0, none⟩) 6 p384b X h4 (fun _ hb => hb) (by decide)).mono ?_
     rintro e w2 ⟨A1, c1, rfl, hO, hB⟩
     exact ⟨(.slice A1 (digs 4294967296 (val 18446744073709551616 p384b)).length c1), rfl, hB, fun Y hY => ⟨A1, c1, rfl, (hO.mono (Nat.le_trans (Ext.alloc w _).bsize hX.bsize)).below hY (Nat.le_refl _)⟩⟩
   refine Par.S 7 4 [(19, 0), (20, 1), (21, 2), (22, 3), (23, 4), (24, 5), (27, 8)] (fun f X hX hR K hK => ?_) ?_
   · simp only [yA, yB, yC, yD, yE]
     refine ⟨?_⟩
     go_simp
     exact hK.out _ (.slice (some ⟨X.heap.size, 0, none⟩) 6 6) _ (by simp only [yA, yB, yC, yD, yE]) (Ext.alloc _ _) trivial (fun Y hY => ⟨X.heap.size, rfl, ((RN.lits X p384x ⟨by decide, by decide⟩).mono (fun b hb => by rw [World.size_alloc]; exact hb.2)).up hY⟩)
   refine Par.c0 8 3 (fun f => #[f 6]) (F' := 13) (fun f X hX hR => ?_) ?_
   · obtain ⟨b6, (e6 : f 6 = _), h6⟩ := hR.out 6 rfl
     simp only [e6]
     refine (from_any _ (some ⟨b6, 0, none⟩) 6 p384x X h6 (fun _ hb => hb) (by decide)).mono ?_
     rintro e w2 ⟨A1, c1, rfl, hO, hB⟩
     exact ⟨(.slice A1 (digs 4294967296 (val 18446744073709551616 p384x)).length c1), rfl, hB, fun Y hY => ⟨A1, c1, rfl, (hO.mono (Nat.le_trans (Ext.alloc w _).bsize hX.bsize)).below hY (Nat.le_refl _)⟩⟩
   refine Par.S 9 2 [(19, 0), (20, 1), (21, 2), (22, 3), (23, 4), (24, 5), (25, 6), (26, 7)] (fun f X hX hR K hK => ?_) ?_
   · simp only [yA, yB, yC, yD, yE]
     refine ⟨?_⟩
     go_simp
     exact hK.out _ (.slice (some ⟨X.heap.size, 0, none⟩) 6 6) _ (by simp only [yA, yB, yC, yD, yE]) (Ext.alloc _ _) trivial (fun Y hY => ⟨X.heap.size, rfl, ((RN.lits X p384y ⟨by decide, by decide⟩).mono (fun b hb => by rw [World.size_alloc]; exact hb.2)).up hY⟩)
   refine Par.c0 10 1 (fun f => #[f 8]) (F' := 13) (fun f X hX hR => ?_) ?_
   · obtain ⟨b8, (e8 : f 8 = _), h8⟩ := hR.out 8 rfl
     simp only [e8]
     refine (from_any _ (some ⟨b8, 0, none⟩) 6 p384y X h8 (fun _ hb => hb) (by decide)).mono ?_
     rintro e w2 ⟨A1, c1, rfl, hO, hB⟩
     exact ⟨(.slice A1 (digs 4294967296 (val 18446744073709551616 p384y)).length c1), rfl, hB, fun Y hY => ⟨A1, c1, rfl, (hO.mono (Nat.le_trans (Ext.alloc w _).bsize hX.bsize)).below hY (Nat.le_refl _)⟩⟩
   refine Par.S 11 0 [(19, 0), (20, 1), (21, 2), (22, 3), (23, 4), (24, 5), (25, 6), (26, 7), (27, 8), (28, 9)] (fun f X hX hR K hK => ?_) ?_
   · obtain ⟨A1, c1, (e1 : f 1 = _), o1⟩ := hR.out 1 rfl
     obtain ⟨A3, c3, (e3 : f 3 = _), o3⟩ := hR.out 3 rfl
     obtain ⟨A5, c5, (e5 : f 5 = _), o5⟩ := hR.out 5 rfl
     obtain ⟨A7, c7, (e7 : f 7 = _), o7⟩ := hR.out 7 rfl
     obtain ⟨A9, c9, (e9 : f 9 = _), o9⟩ := hR.out 9 rfl
     simp only [yA, yB, yC, yD, yE, e1, e3, e5, e7, e9]
     refine ⟨?_⟩
     go_simp
     exact hK.out _ (.agg #[f 1, f 3, f 5, f 7, f 9, .int .i64 48]) _ (by simp only [yA, yB, yC, yD, yE, e1, e3, e5, e7, e9]) (Ext.refl _) trivial (fun _ _ => rfl)
   refine Par.AllOps.fin ⟨fun f X hX hR hal hap => ?_⟩
   obtain ⟨b0, (e0 : f 0 = _), h0⟩ := hR 0 (by decide)
   obtain ⟨A1, c1, (e1 : f 1 = _), o1⟩ := hR 1 (by decide)
   obtain ⟨b2, (e2 : f 2 = _), h2⟩ := hR 2 (by decide)
   obtain ⟨A3, c3, (e3 : f 3 = _), o3⟩ := hR 3 (by decide)
   obtain ⟨b4, (e4 : f 4 = _), h4⟩ := hR 4 (by decide)
   obtain ⟨A5, c5, (e5 : f 5 = _), o5⟩ := hR 5 (by decide)
   obtain ⟨b6, (e6 : f 6 = _), h6⟩ := hR 6 (by decide)
   obtain ⟨A7, c7, (e7 : f 7 = _), o7⟩ := hR 7 (by decide)
   obtain ⟨b8, (e8 : f 8 = _), h8⟩ := hR 8 (by decide)
   obtain ⟨A9, c9, (e9 : f 9 = _), o9⟩ := hR 9 (by decide)
   have e10 : f 10 = .agg #[f 1, f 3, f 5, f 7, f 9, .int .i64 48] := hR 10 (by decide)
   simp only [yA, yB, yD, yE, e0, e1, e2, e3, e4, e5, e6, e7, e8, e9, e10]
   clear hR hal hap e0 e1 e2 e3 e4 e5 e6 e7 e8 e9 e10
   refine Par.Chain.next (fun K hK => ⟨Par.want (by kernel_rfl) (wp_storeV 30 (.tmp 2) (.tmp 29) rfl rfl rfl rfl (hX.at_ hz) infoRC rfl (rc_one _ _ _ _ _ _ _ _ _ _ _ _ _ _ _ _) (fun Y1 g1 g2 g3 => hK.out _ _ ?_))⟩)
   refine Par.Chain.done ?_
   go_wp2
   refine end_rc rfl rfl rfl g1 ⟨_, rfl, ⟨A1, A3, A5, A7, A9, c1, c3, c5, c7, c9, rfl, (o1.just g2 (hX.at_ hz) (by decide)).ru, (o3.just g2 (hX.at_ hz) (by decide)).ru, (o5.just g2 (hX.at_ hz) (by decide)).ru, (o7.just g2 (hX.at_ hz) (by decide)).ru, (o9.just g2 (hX.at_ hz) (by decide)).ru⟩, g2.ext ((Ext.alloc w _).trans hX) (Nat.le_refl _)⟩
set_option maxRecDepth 100000 in
theorem refOf_none {c : Int} (h1 : c ≠ 1) (h2 : c ≠ 2) (w : World) : Calls Tryz.prog 9 #[.int .i64 c] w fun e w' => ∃ v, e = .returned v ∧ RC w' c0 v ∧ Ext w w' := by
 have e1 : (c == 1) = false := by simpa using h1
 have e2 : (c == 2) = false := by simpa using h2
 have hn : ∀ X : World, RU X none 0 (digs 4294967296 0) := fun X => by rw [digs_zero]; exact RN.nil_ X _
 have hd : (digs 4294967296 0).length = 0 := by rw [digs_zero]; rfl
 have hc : ∀ X : World, RC X c0 (.agg #[.slice none 0 0, .slice none 0 0, .slice none 0 0, .slice none 0 0, .slice none 0 0, .int .i64 0]) := fun X => by
  refine ⟨none, none, none, none, none, 0, 0, 0, 0, 0, ?_, hn X, hn X, hn X, hn X, hn X⟩
  show _ = Value.agg #[.slice none (digs 4294967296 0).length 0, .slice none (digs 4294967296 0).length 0, .slice none (digs 4294967296 0).length 0, .slice none (digs 4294967296 0).length 0, .slice none (digs 4294967296 0).length 0, .int .i64 0]
  rw [hd]
 have Hc := Lib.hid hc
 clear hc hn hd
 go_enter Tryz.func9, Tryz.ntmps9
 go_wp2
 refine end_rc rfl rfl rfl (heap_alloc_new w _) ⟨_, rfl, Hc.out _, Ext.alloc _ _⟩
end Go.Proofs.YtaemogcomplhiaaGreatDoor

namespace Go.Proofs.YtaemogcomplhiaaGreatDoor
open Go.RowKit

theorem end_e {fn : Func} {R : Ending → World → Prop} {a : Act} {W : World} {p : Tmp} {g : Nat} {l : List Nat} (hr : fn.results = #[.cell p 109]) (hp : a.tmps.getD p undef = .pointer (some ⟨g, 0, none⟩)) (hd : a.defers = [])
 (hg : BlkE W g l) (h6 : l.length = 6) (hR : R (.returned (EV l)) W) : bodyPost Tryz.prog fn R .ret a W :=
 bodyPost_ret (results_cell_row hr a.tmps W g _ _ _ _ hp hg Tryz.underlying109 rfl (by rw [List.size_toArray, nts_length, h6]; exact infoE)) hd hR
theorem zero6 : ([.int .u64 0, .int .u64 0, .int .u64 0, .int .u64 0, .int .u64 0, .int .u64 0] : List Value).length = 6 := rfl
theorem FR.r_one {w : World} {g n inv M : Nat} {ml ol rl : List Nat} (h : FR w g n inv M ml ol rl) : w.rangeAt g 8 (nts ol) := fun j v hv => by
 rw [blk_cell h.ff.fld.blk]
 obtain ⟨a, b, c, d, e, f, rfl⟩ := six h.ff.fld.m6
 obtain ⟨a, b, c, d, e, f, rfl⟩ := six h.ff.fld.o6
 match j, hv with
 | 0, hv | 1, hv | 2, hv | 3, hv | 4, hv | 5, hv => exact hv
 | j + 6, hv => simp [nts] at hv
theorem FR.fone {w : World} {g n inv M : Nat} {ml ol rl : List Nat} (h : FR w g n inv M ml ol rl) : FE M n ol 1 := ⟨h.oelt, by rw [h.oval, Nat.one_mul]⟩
theorem FR.ext {w X : World} {g n inv M : Nat} {ml ol rl : List Nat} (h : FR w g n inv M ml ol rl) (hE : Ext w X) : FR X g n inv M ml ol rl := h.below hE h.ff.fld.lt
set_option maxRecDepth 100000 in
set_option maxHeartbeats 2000000 in
theorem one_any {g n inv M : Nat} {ml ol rl : List Nat} (w : World) (hF : FR w g n inv M ml ol rl) : Calls Tryz.prog 105 #[.pointer (some ⟨g, 0, none⟩)] w fun e w' => e = .returned (EV ol) ∧ Ext w w' := by
 have hF' := Lib.hid hF
 have hz := heap_alloc_new w (.cells #[.int .u64 0, .int .u64 0, .int .u64 0, .int .u64 0, .int .u64 0, .int .u64 0] 109)
 go_enter Tryz.func105, Tryz.ntmps105
 go_upto_region 1 with fail
 refine Par.region_txt 4 [0, 1, 3, 7, 15] [] (fun j f X => match j with
  | 0 => f 0 = .pointer (some ⟨g, 0, none⟩)
  | 1 => f 1 = .pointer (some ⟨g, 0, none⟩)
  | 2 => f 2 = .pointer (some ⟨g, 8, none⟩)
  | 3 => f 3 = EV ol
  | _ => True) (by kernel_rfl) [(3, 0), (4, 1), (5, 2), (6, 3)] (by kernel_rfl) ?_
 refine Par.v0 1 3 ?_
 refine Par.v1 2 2 0 ?_
 refine Par.v1 3 1 1 ?_
 refine Par.S 4 0 [(3, 0), (4, 1), (5, 2)] (fun f X hX hR K hK => ?_) ?_
 · have e2 : f 2 = _ := hR.out 2 rfl
   simp only [yA, yB, yC, yD, yE, e2]
   refine ⟨Par.want (by kernel_rfl) (wp_loadE (.tmp 5) rfl rfl (hF'.out.ext ((Ext.alloc _ _).trans hX)).r_one hF'.out.oelt.six ?_)⟩
   exact hK.out _ (EV ol) _ (by simp only [yA, yB, yC, yD, yE, e2]) (Ext.refl _) trivial (fun _ _ => rfl)
 refine Par.AllOps.fin ⟨fun f X hX hR hal hap => ?_⟩
 have e3 : f 3 = _ := hR 3 (by decide)
 simp only [yA, yB, yD, yE, e3]
 clear hR hal hap e3
 refine Par.Chain.next (fun K hK => ⟨Par.want (by kernel_rfl) (wp_storeE (.tmp 2) (.tmp 6) rfl rfl rfl rfl (hX.at_ hz) zero6 hF'.out.oelt.six (fun Y1 hl1 => hK.out _ _ ?_))⟩)
 refine Par.Chain.done ?_
 go_wp2
 exact end_e rfl rfl rfl hl1.blk hF'.out.oelt.six ⟨rfl, hl1.ext ((Ext.alloc _ _).trans hX) (Nat.le_refl _)⟩
theorem BlkE.rn {w : World} {b : Nat} {l : List Nat} (h : BlkE w b l) (h6 : l.length = 6) (hl : ∀ x ∈ l, x < 18446744073709551616) : RN w (fun b => b < w.heap.size) (some ⟨b, 0, none⟩) 6 l := by
 refine ⟨⟨by omega, by unfold maxLen; omega, by rw [nts_length]; omega, fun _ => ⟨_, rfl, h.lt, fun j v hv => ?_⟩⟩, hl, by omega⟩
 rw [add_blk, blk_cell h j]
 simpa using hv
set_option maxRecDepth 100000 in
set_option maxHeartbeats 2000000 in
theorem from_f {g n inv M : Nat} {ml ol rl a : List Nat} {x : Nat} (w : World) (hF : FR w g n inv M ml ol rl) (ha : FE M n a x) : Calls Tryz.prog 109 #[.pointer (some ⟨g, 0, none⟩), EV a] w fun e w' => ∃ A1 c1, e = .returned (.slice A1 (digs 18446744073709551616 (x % M)).length c1) ∧ OB w' w.heap.size A1 c1 (digs 18446744073709551616 (x % M)) ∧ Ext w w' := by
 have hF' := Lib.hid hF
 have ha' := Lib.hid ha
 have h1M := hF.ff.big
 have he1 : Elt M [1, 0, 0, 0, 0, 0] := ⟨rfl, by decide, by simpa using h1M⟩
 obtain ⟨q, hq⟩ : ∃ q, w.heap.size = q := ⟨_, rfl⟩
 have hbx : (w.alloc (.cells (nts a).toArray 109)).heap[w.heap.size]? = some (.cells (nts a).toArray 109 (0, 0)) := heap_alloc_new w _
 obtain ⟨y, hy⟩ : ∃ y, x % M = y := ⟨_, rfl⟩
 have hmul := Lib.hid (fun X (hX : Ext w X) => (zmul_any a [1, 0, 0, 0, 0, 0] X (hF.ext hX).ff ha.elt he1).mono (R' := fun e w' => ∃ o, e = .returned (EV o) ∧ o.length = 6 ∧ (∀ x ∈ o, x < 18446744073709551616) ∧ val 18446744073709551616 o = y ∧ Ext X w') (by
  rintro e w' ⟨o, rfl, ho, hv, hB⟩
  refine ⟨o, rfl, ho.six, ho.lim, ?_, hB⟩
  have hv1 : val 18446744073709551616 [1, 0, 0, 0, 0, 0] = 1 := by simp
  rw [hv1, Nat.mul_one, ha.form, Nat.mod_mod] at hv
  have := cancelR hF.ff.invV hv
  rw [Nat.mod_eq_of_lt ho.lt] at this
  rw [this, hy]))
 rw [hy]
 have h6 := ha.elt.six
 have e1 : EV [1, 0, 0, 0, 0, 0] = .agg #[.int .u64 1, .int .u64 0, .int .u64 0, .int .u64 0, .int .u64 0, .int .u64 0] := rfl
 rw [e1] at hmul
 have hev : EV a = .agg (nts a).toArray := rfl
 obtain ⟨W0, hW0⟩ : ∃ W0, W0 = w.alloc (.cells (nts a).toArray 109) := ⟨_, rfl⟩
 rw [← hW0, hq] at hbx
 have hE0 : Ext w W0 := by rw [hW0]; exact Ext.alloc _ _
 have HE0 := Lib.hid hE0
 have Hq := Lib.hid hq
 have Hz := Lib.hid (show W0.heap.size = w.heap.size + 1 by rw [hW0]; simp)
 have H6 := Lib.hid h6
 have HW0 := Lib.hid hW0
 clear hF ha h1M he1 hy e1 hE0 hW0 h6
 rw [hev]
 clear hev
 go_enter Tryz.func109, Tryz.ntmps109
 go_upto_region 1 with fail
 rw [← HW0.out]
 refine Par.region_txt 5 [0, 0, 0, 7, 0, 31] [4] (fun j f X => match j with
  | 0 => f 0 = .pointer (some ⟨g, 0, none⟩)
  | 1 => f 1 = EV a
  | 2 => f 2 = .agg #[.int .u64 1, .int .u64 0, .int .u64 0, .int .u64 0, .int .u64 0, .int .u64 0]
  | 3 => ∃ o, f 3 = EV o ∧ o.length = 6 ∧ (∀ x ∈ o, x < 18446744073709551616) ∧ val 18446744073709551616 o = y
  | 4 => ∃ b, f 4 = .pointer (some ⟨b, 0, none⟩) ∧ W0.heap.size ≤ b ∧ X.heap[b]? = some (.cells #[.int .u64 0, .int .u64 0, .int .u64 0, .int .u64 0, .int .u64 0, .int .u64 0] 109 (0, 0))
  | _ => True) (by kernel_rfl) [(6, 0), (7, 1), (8, 2), (9, 3), (5, 4)] (by kernel_rfl) ?_
 refine Par.v0 1 4 ?_
 refine Par.S 2 3 [(6, 0), (8, 2), (5, 4)] (fun f X hX hR K hK => ?_) ?_
 · simp only [yA, yB, yC, yD, yE]
   refine ⟨Par.want (by kernel_rfl) (wp_loadE (.tmp 3) rfl rfl (BlkE.range (hX.at_ hbx)) H6.out ?_)⟩
   exact hK.out _ (EV a) _ (by simp only [yA, yB, yC, yD, yE]) (Ext.refl _) trivial (fun _ _ => rfl)
 refine Par.v0 3 2 ?_
 refine Par.c0 4 1 (fun f => #[f 0, f 1, f 2]) (F' := 102) (fun f X hX hR => ?_) ?_
 · have e0 : f 0 = _ := hR.out 0 rfl
   have e1 : f 1 = _ := hR.out 1 rfl
   have e2 : f 2 = _ := hR.out 2 rfl
   simp only [e0, e1, e2]
   refine (hmul.out X (HE0.out.trans hX)).mono ?_
   rintro e w2 ⟨o, rfl, h6, hb, hv, hB⟩
   exact ⟨(EV o), rfl, hB, fun Y hY => ⟨o, rfl, h6, hb, hv⟩⟩
 refine Par.al 5 0 ?_
 refine Par.AllOps.fin ⟨fun f X hX hR hal hap => ?_⟩
 obtain ⟨o3, (e3 : f 3 = _), l3, b3, v3⟩ := hR 3 (by decide)
 obtain ⟨b4, (e4 : f 4 = _), l4, h4⟩ := hR 4 (by decide)
 simp only [yA, yB, yD, yE, e3, e4]
 clear hR hal hap e3 e4
 refine Par.Chain.next (fun K hK => ⟨Par.want (by kernel_rfl) (wp_storeE (.tmp 5) (.tmp 9) rfl rfl rfl rfl h4 zero6 l3 (fun Y1 hl1 => hK.out _ _ ?_))⟩)
 refine Par.Chain.done ?_
 have hE1 : Ext w Y1 := hl1.ext (HE0.out.trans hX) (by have := Hz.out; omega)
 have hno := norm_any _ (some ⟨b4, 0, none⟩) 6 o3 Y1 (hl1.blk.rn l3 b3)
 rw [v3, l3] at hno
 have Hno := Lib.hid hno
 have HE1 := Lib.hid hE1
 clear hno hl1 b3 v3 h4 l4 hX l3 hE1
 go_wp2_with (go_at_call 100; refine Hno.out.mono ?_; rintro e w2 ⟨A1, c1, rfl, hO, hB⟩)
 go_ret
 exact ⟨A1, c1, rfl, hO.mono (by have := HE1.out.bsize; have := Hq.out; omega), HE1.out.trans hB⟩
end Go.Proofs.YtaemogcomplhiaaGreatDoor

namespace Go.Proofs.YtaemogcomplhiaaGreatDoor
open Go.RowKit

def JV (x y z : List Nat) : Value := .agg (nts (x ++ y ++ z)).toArray
def BlkJ (X : World) (b : Nat) (x y z : List Nat) : Prop := X.heap[b]? = some (.cells (nts (x ++ y ++ z)).toArray 123 (0, 0))
theorem infoJ : (Tryz.prog.info? 123).map (·.size) = some 18 := by kernel_rfl
theorem nts_append (a b : List Nat) : nts (a ++ b) = nts a ++ nts b := by simp [nts]
section
variable {X : World} {b : Nat} {x y z : List Nat}
theorem BlkJ.range (h : BlkJ X b x y z) (pre l post : List Nat) (e : x ++ y ++ z = pre ++ l ++ post) : X.rangeAt b pre.length (nts l) := fun j v hv => by
 rw [blk_cell h, e, List.getElem?_toArray, nts_append, nts_append, List.append_assoc, List.getElem?_append_right (by rw [nts_length]; omega), nts_length, Nat.add_sub_cancel_left, List.getElem?_append_left, hv]
 exact (List.getElem?_eq_some_iff.1 hv).1
theorem BlkJ.rx (h : BlkJ X b x y z) : X.rangeAt b 0 (nts x) := by have := h.range [] x (y ++ z) (by simp); simpa using this
theorem BlkJ.ry (h : BlkJ X b x y z) (hx : x.length = 6) : X.rangeAt b 6 (nts y) := by have := h.range x y z rfl; rwa [hx] at this
theorem BlkJ.rz (h : BlkJ X b x y z) (hx : x.length = 6) (hy : y.length = 6) : X.rangeAt b 12 (nts z) := by have := h.range (x ++ y) z [] (by simp); rwa [List.length_append, hx, hy] at this
end
theorem builtJ {x y z : List Nat} (hx : x.length = 6) (hy : y.length = 6) (hz : z.length = 6) : Tryz.prog.built 123 [(0, EV x), (1, EV y), (2, EV z)] = some (nts (x ++ y ++ z)).toArray := by
 obtain ⟨x0, x1, x2, x3, x4, x5, rfl⟩ := six hx
 obtain ⟨y0, y1, y2, y3, y4, y5, rfl⟩ := six hy
 obtain ⟨z0, z1, z2, z3, z4, z5, rfl⟩ := six hz
 kernel_rfl
theorem wp_buildJ {op : Oper} {a : Act} {X : World} {K : Act → World → Prop} {Q : Exit → Act → World → Prop} (p q r : Operand) (ho : op.op = .build 123 #[(0, p), (1, q), (2, r)]) {x y z : List Nat} (hp : a.eval p = EV x) (hq : a.eval q = EV y) (hr : a.eval r = EV z)
 (hx : x.length = 6) (hy : y.length = 6) (hz : z.length = 6) (hK : K (a.put op.dst (JV x y z)) X) : op.wp Tryz.prog a X K Q := by
 have hb : (#[(0, p), (1, q), (2, r)].map fun (i, x) => (i, a.eval x)).toList = [(0, EV x), (1, EV y), (2, EV z)] := by simp [hp, hq, hr]
 refine wp_build 123 #[(0, p), (1, q), (2, r)] ho (by rw [hb, builtJ hx hy hz]; rfl) ?_
 rw [hb, builtJ hx hy hz]
 exact hK
theorem all_one (l : List Nat) : (nts l).toArray.all (·.oneCell') = true := all_oneCell_toArray (oneCell_nts l)
theorem end_j {fn : Func} {R : Ending → World → Prop} {a : Act} {W : World} {p : Tmp} {g : Nat} {x y z : List Nat} (hr : fn.results = #[.cell p 123]) (hp : a.tmps.getD p undef = .pointer (some ⟨g, 0, none⟩)) (hd : a.defers = [])
 (hg : BlkJ W g x y z) (hx : x.length = 6) (hy : y.length = 6) (hz : z.length = 6) (hR : R (.returned (JV x y z)) W) : bodyPost Tryz.prog fn R .ret a W :=
 bodyPost_ret (results_cell_row hr a.tmps W g _ _ _ _ hp hg Tryz.underlying123 rfl (by rw [List.size_toArray, nts_length, List.length_append, List.length_append, hx, hy, hz]; exact infoJ)) hd hR
theorem wp_storeJ {op : Oper} {a : Act} {X : World} {K : Act → World → Prop} {Q : Exit → Act → World → Prop} (p q : Operand) (ho : op.op = .store 123 p q) (hd : op.dst = none) {b : Nat} {x y z : List Nat} {cs : Array Value}
 (hp : a.eval p = .pointer (some ⟨b, 0, none⟩)) (hq : a.eval q = JV x y z) (hg : X.heap[b]? = some (.cells cs 123 (0, 0))) (hc : cs.size = 18) (hx : x.length = 6) (hy : y.length = 6) (hz : z.length = 6)
 (hK : ∀ Y, BlkJ Y b x y z → Just b X Y → Y.heap.size = X.heap.size → K a Y) : op.wp Tryz.prog a X K Q := by
 have hs : (nts (x ++ y ++ z)).toArray.size = 18 := by rw [List.size_toArray, nts_length, List.length_append, List.length_append, hx, hy, hz]
 exact wp_storeV 123 p q ho hd hp hq hg (by rw [hs]; exact infoJ) (by rw [hs, hc]) (all_one _) hK
def mm (M a b : Nat) : Nat := a * b % M
def am (M a b : Nat) : Nat := (a + b) % M
def sm (M a b : Nat) : Nat := (a + M - b % M) % M
theorem fm_any {g n inv M : Nat} {ml ol rl a b : List Nat} {x y : Nat} (w : World) (hF : FF w g n inv M ml ol rl) (ha : FE M n a x) (hb : FE M n b y) :
 Calls Tryz.prog 102 #[.pointer (some ⟨g, 0, none⟩), EV a, EV b] w fun e w' => ∃ o, e = .returned (EV o) ∧ FE M n o (mm M x y) ∧ Ext w w' :=
 (fmul_any w hF ha hb).mono fun _ _ ⟨o, h1, h2, h3⟩ => ⟨o, h1, h2.mod, h3⟩
theorem fa_any {g n inv M : Nat} {ml ol rl a b : List Nat} {x y : Nat} (w : World) (hF : FF w g n inv M ml ol rl) (ha : FE M n a x) (hb : FE M n b y) :
 Calls Tryz.prog 101 #[.pointer (some ⟨g, 0, none⟩), EV a, EV b] w fun e w' => ∃ o, e = .returned (EV o) ∧ FE M n o (am M x y) ∧ Ext w w' :=
 (fadd_any w hF ha hb).mono fun _ _ ⟨o, h1, h2, h3⟩ => ⟨o, h1, h2.mod, h3⟩
theorem fs_any {g n inv M : Nat} {ml ol rl a b : List Nat} {x y : Nat} (w : World) (hF : FF w g n inv M ml ol rl) (ha : FE M n a x) (hb : FE M n b y) :
 Calls Tryz.prog 103 #[.pointer (some ⟨g, 0, none⟩), EV a, EV b] w fun e w' => ∃ o, e = .returned (EV o) ∧ FE M n o (sm M x y) ∧ Ext w w' :=
 (fsub_any w hF ha hb.mod (Nat.le_of_lt (Nat.mod_lt _ (by have := hF.big; omega)))).mono fun _ _ ⟨o, h1, h2, h3⟩ => ⟨o, h1, h2.mod, h3⟩
theorem two_at2 (w : World) (o1 o2 : Obj) : ((w.alloc o1).alloc o2).heap[w.heap.size]? = some o1 ∧ ((w.alloc o1).alloc o2).heap[w.heap.size + 1]? = some o2 ∧ ((w.alloc o1).alloc o2).heap.size = w.heap.size + 2 :=
 ⟨(Ext.alloc _ _).at_ (heap_alloc_new w _), by have := heap_alloc_new (w.alloc o1) o2; rwa [World.size_alloc] at this, by simp⟩
structure FJ (M n : Nat) (lx ly lz : List Nat) (x y z : Nat) : Prop where
 x : FE M n lx x
 y : FE M n ly y
 z : FE M n lz z
end Go.Proofs.YtaemogcomplhiaaGreatDoor

namespace Go.Proofs.YtaemogcomplhiaaGreatDoor
open Go.RowKit

def noInt (v : Value) : Bool := match v with | .int _ _ => false | _ => true
theorem RN.offJ {X Y : World} {A : Option Addr} {c : Nat} {l : List Nat} {g : Nat} {cs : Array Value} {T : TypeId} {fr : Nat × Nat} (h : RU X A c l) (hj : Just g X Y) (hg : X.heap[g]? = some (.cells cs T fr)) (hc : cs.all noInt = true) : RU Y A c l := by
 obtain ⟨⟨h1, h2, h3, h4⟩, h5⟩ := h
 refine ⟨⟨h1, h2, h3, fun hl => ?_⟩, h5⟩
 obtain ⟨ad, e, hb, hr⟩ := h4 hl
 refine ⟨ad, e, Nat.lt_of_lt_of_le hb hj.size, fun j v hv => ?_⟩
 have hcell := hr j v hv
 by_cases hne : (ad.add j).block = g
 · exfalso
   have hn : noInt v = false := by
    rw [nts, List.getElem?_map] at hv
    obtain ⟨n, _, rfl⟩ := Option.map_eq_some_iff.1 hv
    rfl
   unfold World.cell? at hcell
   rw [hne, hg] at hcell
   simp only at hcell
   split at hcell
   · cases hcell
   · rw [Array.all_eq_true] at hc
     obtain ⟨hlt, he⟩ := Array.getElem?_eq_some_iff.1 hcell
     have := hc _ hlt
     rw [he, hn] at this
     cases this
 · exact (World.cell?_of_block (hj.block _ (World.block_lt_of_cell? X _ hcell) hne)).trans hcell
theorem RN.nil0 (w : World) : RU w none 0 (digs 4294967296 0) := by rw [digs_zero]; exact RN.nil_ _ _
def RPU (w : World) (v : Value) : Option (Nat × Nat) → Prop
 | none => v = infV
 | some p => ∃ A c A' c', v = .agg #[.bool false, .slice A (digs 4294967296 p.1).length c, .slice A' (digs 4294967296 p.2).length c'] ∧ RU w A c (digs 4294967296 p.1) ∧ RU w A' c' (digs 4294967296 p.2)
theorem RPU.ext {w X : World} {v : Value} {o : Option (Nat × Nat)} (h : RPU w v o) (hE : Ext w X) : RPU X v o := by
  cases o with
  | none => exact h
  | some p =>
    obtain ⟨A, c, A', c', rfl, h1, h2⟩ := h
    exact ⟨A, c, A', c', rfl, RN.up h1 hE, RN.up h2 hE⟩
theorem end_rpt {fn : Func} {R : Ending → World → Prop} {a : Act} {W : World} {p : Tmp} {g : Nat} {ty : TypeId} {fr : Nat × Nat} {x0 x1 x2 : Value} (hr : fn.results = #[.cell p 45]) (hp : a.tmps.getD p undef = .pointer (some ⟨g, 0, none⟩)) (hd : a.defers = [])
 (hg : W.heap[g]? = some (.cells #[x0, x1, x2] ty fr)) (hR : R (.returned (.agg #[x0, x1, x2])) W) : bodyPost Tryz.prog fn R .ret a W :=
 bodyPost_ret (results_cell_row hr a.tmps W g _ _ _ _ hp hg Tryz.underlying45 rfl infoRP) hd hR
end Go.Proofs.YtaemogcomplhiaaGreatDoor
