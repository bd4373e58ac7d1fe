/- The law's point: Point, of a curve. -/
import Derived.Test.YtldhmjfjbalakaaQ116c0a2644eb
import Derived.RegionTactic
set_option maxRecDepth 100000
set_option maxHeartbeats 16000000
namespace Go.Proofs.Ytldhmjfjbalakaa
open Go.RowKit
theorem IsC.ptlt {c : Int} {C : Crv} (h : IsC c C) : val 18446744073709551616 C.xl < C.M ∧ val 18446744073709551616 C.yl < C.M ∧ 8 < C.M := by
 rcases h with ⟨_, rfl⟩ | ⟨_, rfl⟩ <;> exact ⟨by decide +kernel, by decide +kernel, by decide +kernel⟩
theorem seven_facts {W : World} {g : Nat} {ty : TypeId} {x0 x1 x2 x3 x4 x5 : Value} (h : W.heap[g]? = some (.cells #[x0, x1, x2, x3, x4, x5] ty (0, 0))) :
 W.cell? ⟨g, 0, none⟩ = some x0 ∧ W.cell? ⟨g, 1, none⟩ = some x1 ∧ W.cell? ⟨g, 2, none⟩ = some x2 ∧ W.cell? ⟨g, 3, none⟩ = some x3 ∧ W.cell? ⟨g, 4, none⟩ = some x4 ∧ W.cell? ⟨g, 5, none⟩ = some x5 :=
 ⟨blk_cell h 0, blk_cell h 1, blk_cell h 2, blk_cell h 3, blk_cell h 4, blk_cell h 5⟩
theorem rmulP_lt {M : Nat} (hM : 0 < M) {bi : Bool} {qx qy E : Nat} {p : Nat × Nat} (h : rmulP M bi qx qy E = some p) : p.1 < M ∧ p.2 < M := by
 unfold rmulP rdown at h
 split at h
 · cases h
 · split at h
   · cases h
   · injection h with h
     subst h
     exact ⟨Nat.mod_lt _ hM, Nat.mod_lt _ hM⟩
def PtO (R : Option (Nat × Nat)) (bi : Bool) (x y : Nat) : Prop := bi = R.isNone ∧ x = R.elim 0 (·.1) ∧ y = R.elim 0 (·.2)
def PtD (bi : Bool) (a b : List Nat) (R : Option (Nat × Nat)) : Prop := ∃ x y, PtO R bi x y ∧ a = digs 18446744073709551616 x ∧ b = digs 18446744073709551616 y
def PtG (sp bi : Bool) (a b : List Nat) (R : Option (Nat × Nat)) : Prop := sp = false → PtD bi a b R
theorem RPU.split {w : World} {v : Value} {o : Option (Nat × Nat)} {M : Nat} (h : RPU w v o) (hM : 0 < M) (ho : ∀ p, o = some p → p.1 < M ∧ p.2 < M) : ∃ bi x y, RPv w v bi x y ∧ x < M ∧ y < M ∧ PtO o bi x y := by
 cases o with
 | none => exact ⟨_, _, _, h.pv, hM, hM, rfl, rfl, rfl⟩
 | some p => exact ⟨_, _, _, h.pv, (ho p rfl).1, (ho p rfl).2, rfl, rfl, rfl⟩
theorem IsC.dlen {c : Int} {C : Crv} (h : IsC c C) {x : Nat} (hx : x < C.M) : (digs 18446744073709551616 x).length < 100000 := by
 have h1 : x < 18446744073709551616 ^ 6 := by
  rcases h with ⟨_, rfl⟩ | ⟨_, rfl⟩ <;> exact Nat.lt_trans hx (by decide +kernel)
 have := digs_length_of_lt (B := 18446744073709551616) (by omega) h1
 omega
theorem xor_nat {v : Nat} (hv : v < 18446744073709551616) : ∃ m : Nat, bits BinOp.xor IntKind.u64 (v : Int) 1 = (m : Int) ∧ m < 18446744073709551616 :=
 ⟨v ^^^ 1, bits_xor_u64_nat v 1 hv (by omega), Nat.xor_lt_two_pow (n := 64) (by omega) (by omega)⟩
theorem OB.off_set {Y : World} {base g n : Nat} {A : Option Addr} {c : Nat} {l : List Nat} (h : OB Y base A c l) (ha : Apart A (some ⟨g, 0, none⟩) l.length n) (hn : 0 < n) (i : Nat) (v : Value) : RU (Y.setCell ⟨g, i, none⟩ v) A c l := by
 refine ⟨⟨h.2.1, h.2.2.1, by simp [nts], fun hl => ?_⟩, h.1⟩
 obtain ⟨g', cur, rfl, hg', hh, hc⟩ := h.2.2.2 hl
 have hlt : g' < g := ha _ _ rfl rfl hl hn
 have hj := (Just.refl g Y).set i v
 have hb := (hj.block g' (blk_lt hh) (by omega)).trans hh
 refine ⟨_, rfl, blk_lt hb, fun j u hu => ?_⟩
 have := blk_cell hb j
 rw [hc j u hu] at this
 rw [add_blk]
 exact this
theorem OB.head_set {Y : World} {base g : Nat} {c : Nat} {v : Nat} {t : List Nat} (h : OB Y base (some ⟨g, 0, none⟩) c (v :: t)) {m : Nat} (hm : m < 18446744073709551616) : RU (Y.setCell ⟨g, 0, none⟩ (.int .u64 (m : Int))) (some ⟨g, 0, none⟩) c (m :: t) := by
  obtain ⟨hl, h1, h2, h3⟩ := h
  obtain ⟨g', cur, e, _, hh, hc⟩ := h3 (by simp)
  injection e with e
  injection e with e _ _
  subst e
  have hb := blk_set hh 0 (.int .u64 (m : Int))
  have h0 : 0 < cur.size := by
    have := hc 0 (.int .u64 (v : Int)) rfl
    exact (Array.getElem?_eq_some_iff.1 this).1
  refine ⟨⟨h1, h2, by simp [nts], fun _ => ⟨_, rfl, blk_lt hb, fun j u hu => ?_⟩⟩, fun x hx => ?_, by have := hl.2; simpa using this⟩
  · have := blk_cell hb j
    rw [add_blk, this]
    cases j with
    | zero =>
      simp [nts] at hu
      subst hu
      simp [h0]
    | succ j =>
      rw [Array.getElem?_setIfInBounds_ne (by omega)]
      exact hc (j + 1) u hu
  · rcases List.mem_cons.1 hx with rfl | hx
    · exact hm
    · exact hl.1 x (List.mem_cons_of_mem _ hx)
theorem point_c {c : Int} {C : Crv} (hC : IsC c C) {P : Nat → Prop} {A : Option Addr} {cap : Nat} {l l1 : List Nat} {R : Option (Nat × Nat)} (sp : Bool) (hl1 : l.take 1 = l1) (hR : rmulP C.M false (val 18446744073709551616 C.xl) (val 18446744073709551616 C.yl) (val 18446744073709551616 l1) = R) (w : World) (hk : RL w P A cap l) (hP : ∀ b, P b → b < w.heap.size) :
    Calls Try.prog 12 #[.int .i64 c, .slice A l.length cap, .bool sp] w fun e w' => ∃ v bi a b, e = .returned v ∧ APn w' v bi a b ∧ a.length < 100000 ∧ b.length < 100000 ∧ PtG sp bi a b R ∧ Ext w w' := by
  have hr := heap_alloc_new w (.cells #[.bool false, .slice none 0 0, .slice none 0 0] 27)
  have hA0 := Ext.alloc w (.cells #[.bool false, .slice none 0 0, .slice none 0 0] 27)
  obtain ⟨W0, hW0⟩ : ∃ W0, W0 = w.alloc (.cells #[.bool false, .slice none 0 0, .slice none 0 0] 27) := ⟨_, rfl⟩
  obtain ⟨b0, hb0⟩ : ∃ b, w.heap.size = b := ⟨_, rfl⟩
  rw [← hW0, hb0] at hr
  rw [← hW0] at hA0
  have HK := Lib.hid hk
  have HP := Lib.hid hP
  have hl2 : l1.length ≤ 1 := by rw [← hl1, List.length_take]; omega
  have Hl1 := Lib.hid hl1
  have Hl2 := Lib.hid hl2
  have HR := Lib.hid hR
  have HL := Lib.hid (show ∀ p, R = some p → p.1 < C.M ∧ p.2 < C.M from fun p hp => rmulP_lt (by have := hC.ptlt.2.2; omega) (hR.trans hp))
  clear hl1 hl2 hR
  have HA0 := Lib.hid hA0
  have HC := Lib.hid hC
  clear hk hP hA0
  have hs : C.size ≠ 0 := by have := hC.fine.pos; omega
  have hs' : ((C.size : Int) == 0) = false := by rw [beq_eq_false_iff_ne]; omega
  clear hC
  go_enter Try.func12, Try.ntmps12
  go_upto_region 1 with fail
  rw [← hW0]
  have Hb0 := Lib.hid hb0
  clear hW0 hb0
  go_upto_region 2 with (go_at_call 13; refine (refOf_c HC.out _).mono ?_; rintro e w2 ⟨v, rfl, ⟨Ap, An, Ab, Ax, Ay, cp, cn, cb, cx, cy, rfl, hp, hn, hb, hx, hy⟩, hE2⟩)
  have hc0 := heap_alloc_new w2 (.cells #[.slice Ap (digs 4294967296 C.M).length cp, .slice An (digs 4294967296 (val 18446744073709551616 C.nl)).length cn, .slice Ab (digs 4294967296 C.bb).length cb, .slice Ax (digs 4294967296 (val 18446744073709551616 C.xl)).length cx, .slice Ay (digs 4294967296 (val 18446744073709551616 C.yl)).length cy, .int .i64 (C.size : Int)] 31)
  have hA := Ext.alloc w2 (.cells #[.slice Ap (digs 4294967296 C.M).length cp, .slice An (digs 4294967296 (val 18446744073709551616 C.nl)).length cn, .slice Ab (digs 4294967296 C.bb).length cb, .slice Ax (digs 4294967296 (val 18446744073709551616 C.xl)).length cx, .slice Ay (digs 4294967296 (val 18446744073709551616 C.yl)).length cy, .int .i64 (C.size : Int)] 31)
  have hrc : RC w2 C (.agg #[.slice Ap (digs 4294967296 C.M).length cp, .slice An (digs 4294967296 (val 18446744073709551616 C.nl)).length cn, .slice Ab (digs 4294967296 C.bb).length cb, .slice Ax (digs 4294967296 (val 18446744073709551616 C.xl)).length cx, .slice Ay (digs 4294967296 (val 18446744073709551616 C.yl)).length cy, .int .i64 (C.size : Int)]) := ⟨Ap, An, Ab, Ax, Ay, cp, cn, cb, cx, cy, rfl, hp, hn, hb, hx, hy⟩
  have Hrc := Lib.hid (hrc.ext hA)
  replace hr := hA.at_ (hE2.at_ hr)
  have HE := Lib.hid (HA0.out.trans (hE2.trans hA))
  generalize hV1 : w2.alloc (.cells #[.slice Ap (digs 4294967296 C.M).length cp, .slice An (digs 4294967296 (val 18446744073709551616 C.nl)).length cn, .slice Ab (digs 4294967296 C.bb).length cb, .slice Ax (digs 4294967296 (val 18446744073709551616 C.xl)).length cx, .slice Ay (digs 4294967296 (val 18446744073709551616 C.yl)).length cy, .int .i64 (C.size : Int)] 31) = V1 at *
  obtain ⟨b1, hq1⟩ : ∃ b, w2.heap.size = b := ⟨_, rfl⟩
  rw [hq1] at hc0 ⊢
  clear hV1 hq1 hp hn hb hx hy hrc hE2 hA HA0
  obtain ⟨z0, z1, z2, z3, z4, z5⟩ := seven_facts hc0
  go_upto_region 4 with fail
  clear z0 z1 z2 z3 z4 z5 hs hs'
  refine Par.region_ext (by kernel_rfl) 9 [0, 0, 2, 6, 0, 30, 63, 127, 0, 511] [8] (fun j f X => match j with
    | 0 => f 0 = .agg #[.slice Ap (digs 4294967296 C.M).length cp, .slice An (digs 4294967296 (val 18446744073709551616 C.nl)).length cn, .slice Ab (digs 4294967296 C.bb).length cb, .slice Ax (digs 4294967296 (val 18446744073709551616 C.xl)).length cx, .slice Ay (digs 4294967296 (val 18446744073709551616 C.yl)).length cy, .int .i64 (C.size : Int)]
    | 1 => f 1 = .slice A l.length cap
    | 2 => ∃ A c, f 2 = .slice A l1.length c ∧ RU X A c l1
    | 3 => ∃ A c, f 3 = .slice A (digs 4294967296 (val 18446744073709551616 l1)).length c ∧ RU X A c (digs 4294967296 (val 18446744073709551616 l1))
    | 4 => f 4 = .agg #[.slice Ap (digs 4294967296 C.M).length cp, .slice An (digs 4294967296 (val 18446744073709551616 C.nl)).length cn, .slice Ab (digs 4294967296 C.bb).length cb, .slice Ax (digs 4294967296 (val 18446744073709551616 C.xl)).length cx, .slice Ay (digs 4294967296 (val 18446744073709551616 C.yl)).length cy, .int .i64 (C.size : Int)]
    | 5 => ∃ B B' k k', f 5 = .agg #[.bool false, .slice B (digs 4294967296 (val 18446744073709551616 C.xl)).length k, .slice B' (digs 4294967296 (val 18446744073709551616 C.yl)).length k'] ∧ RU X B k (digs 4294967296 (val 18446744073709551616 C.xl)) ∧ RU X B' k' (digs 4294967296 (val 18446744073709551616 C.yl))
    | 6 => ∃ o, f 6 = o ∧ RPU X o R
    | 7 => ∃ bi x y A B c d, f 7 = .agg #[.bool bi, .slice A (digs 18446744073709551616 x).length c, .slice B (digs 18446744073709551616 y).length d] ∧ OB X V1.heap.size A c (digs 18446744073709551616 x) ∧ OB X V1.heap.size B d (digs 18446744073709551616 y) ∧ Apart A B (digs 18446744073709551616 x).length (digs 18446744073709551616 y).length ∧ x < C.M ∧ y < C.M ∧ PtO R bi x y
    | 8 => ∃ b, f 8 = .pointer (some ⟨b, 0, none⟩) ∧ V1.heap.size ≤ b ∧ X.heap[b]? = some (.cells #[.bool false, .slice none 0 0, .slice none 0 0] 27 (0, 0))
    | _ => True) (by kernel_rfl) [(17, 0), (18, 1), (19, 2), (20, 3), (21, 4), (22, 5), (23, 6), (24, 7), (8, 8)] (by kernel_rfl) ?_
  refine lV0 1 8 hc0 infoRC ?_
  refine Par.v0 2 7 ?_
  refine Par.c0 3 6 (fun f => #[f 1, Value.int IntKind.i64 1]) (F' := 11) (fun f X hX hR => ?_) ?_
  · have e1 : f 1 = .slice A l.length cap := hR.out 1 rfl
    simp only [e1]
    refine (cut_any P A cap l 1 X (HK.out.below (HE.out.trans hX) HP.out) (by omega)).mono ?_
    rw [Hl1.out]
    rintro e w2 ⟨A, c, rfl, h, hB⟩
    exact ⟨(.slice A l1.length c), rfl, hB, fun Y hY => ⟨A, c, rfl, RN.up h.ru hY⟩⟩
  refine Par.c0 4 5 (fun f => #[f 2]) (F' := 19) (fun f X hX hR => ?_) ?_
  · obtain ⟨A2, c2, e2, h2⟩ : ∃ A c, f 2 = .slice A l1.length c ∧ RU X A c l1 := hR.out 2 rfl
    simp only [e2]
    refine (from_any _ A2 c2 l1 X h2 (fun _ h => h) (by have := Hl2.out; omega)).mono ?_
    rintro e w2 ⟨A, c, rfl, h, hB⟩
    exact ⟨(.slice A (digs 4294967296 (val 18446744073709551616 l1)).length c), rfl, hB, fun Y hY => ⟨A, c, rfl, RN.up h.ru hY⟩⟩
  refine lV0 5 4 hc0 infoRC ?_
  refine Par.c0 6 3 (fun f => #[f 4]) (F' := 32) (fun f X hX hR => ?_) ?_
  · have e4 : f 4 = .agg #[.slice Ap (digs 4294967296 C.M).length cp, .slice An (digs 4294967296 (val 18446744073709551616 C.nl)).length cn, .slice Ab (digs 4294967296 C.bb).length cb, .slice Ax (digs 4294967296 (val 18446744073709551616 C.xl)).length cx, .slice Ay (digs 4294967296 (val 18446744073709551616 C.yl)).length cy, .int .i64 (C.size : Int)] := hR.out 4 rfl
    simp only [e4]
    refine (rbase_n X (Hrc.out.ext hX)).mono ?_
    rintro e w2 ⟨o, rfl, ⟨B, B', k, k', rfl, hu, hv⟩, hB⟩
    exact ⟨(.agg #[.bool false, .slice B (digs 4294967296 (val 18446744073709551616 C.xl)).length k, .slice B' (digs 4294967296 (val 18446744073709551616 C.yl)).length k']), rfl, hB, fun Y hY => ⟨B, B', k, k', rfl, RN.up hu hY, RN.up hv hY⟩⟩
  refine Par.c0 7 2 (fun f => #[f 0, f 3, f 5]) (F' := 18) (fun f X hX hR => ?_) ?_
  · have e0 : f 0 = .agg #[.slice Ap (digs 4294967296 C.M).length cp, .slice An (digs 4294967296 (val 18446744073709551616 C.nl)).length cn, .slice Ab (digs 4294967296 C.bb).length cb, .slice Ax (digs 4294967296 (val 18446744073709551616 C.xl)).length cx, .slice Ay (digs 4294967296 (val 18446744073709551616 C.yl)).length cy, .int .i64 (C.size : Int)] := hR.out 0 rfl
    obtain ⟨A3, c3, e3, h3⟩ : ∃ A c, f 3 = .slice A (digs 4294967296 (val 18446744073709551616 l1)).length c ∧ RU X A c (digs 4294967296 (val 18446744073709551616 l1)) := hR.out 3 rfl
    obtain ⟨B5, B5', k5, k5', e5, h5, h5'⟩ : ∃ B B' k k', f 5 = .agg #[.bool false, .slice B (digs 4294967296 (val 18446744073709551616 C.xl)).length k, .slice B' (digs 4294967296 (val 18446744073709551616 C.yl)).length k'] ∧ RU X B k (digs 4294967296 (val 18446744073709551616 C.xl)) ∧ RU X B' k' (digs 4294967296 (val 18446744073709551616 C.yl)) := hR.out 5 rfl
    simp only [e0, e3, e5]
    refine (rmul_n HC.out.fine HC.out.ptlt.2.2 X (Hrc.out.ext hX) h3 h5 h5' (fun _ => ⟨HC.out.ptlt.1, HC.out.ptlt.2.1⟩)).mono ?_
    rw [HR.out]
    rintro e w2 ⟨o, rfl, h, hB⟩
    exact ⟨o, rfl, hB, fun Y hY => ⟨o, rfl, h.ext hY⟩⟩
  refine Par.c0 8 1 (fun f => #[f 6]) (F' := 41) (fun f X hX hR => ?_) ?_
  · obtain ⟨o6, e6, h6⟩ : ∃ o, f 6 = o ∧ RPU X o R := hR.out 6 rfl
    simp only [e6]
    obtain ⟨bi, x, y, hv, lx, ly, po⟩ := h6.split (by have := HC.out.ptlt.2.2; omega) HL.out
    refine (rto_n X hv).mono ?_
    rintro e w2 ⟨A, B, c, d, rfl, h, k, K1, hB⟩
    exact ⟨(.agg #[.bool bi, .slice A (digs 18446744073709551616 x).length c, .slice B (digs 18446744073709551616 y).length d]), rfl, hB, fun Y hY => ⟨bi, x, y, A, B, c, d, rfl, (h.mono hX.bsize).ext hY, (k.mono hX.bsize).ext hY, K1, lx, ly, po⟩⟩
  refine Par.al 9 0 ?_
  refine Par.AllOps.fin ⟨fun f X hX hR hal hap => ?_⟩
  obtain ⟨A2, c2, e2, h2⟩ : ∃ A c, f 2 = .slice A l1.length c ∧ RU X A c l1 := hR 2 (by decide)
  obtain ⟨A3, c3, e3, h3⟩ : ∃ A c, f 3 = .slice A (digs 4294967296 (val 18446744073709551616 l1)).length c ∧ RU X A c (digs 4294967296 (val 18446744073709551616 l1)) := hR 3 (by decide)
  obtain ⟨B5, B5', k5, k5', e5, h5, h5'⟩ : ∃ B B' k k', f 5 = .agg #[.bool false, .slice B (digs 4294967296 (val 18446744073709551616 C.xl)).length k, .slice B' (digs 4294967296 (val 18446744073709551616 C.yl)).length k'] ∧ RU X B k (digs 4294967296 (val 18446744073709551616 C.xl)) ∧ RU X B' k' (digs 4294967296 (val 18446744073709551616 C.yl)) := hR 5 (by decide)
  obtain ⟨o6, e6, h6⟩ : ∃ o, f 6 = o ∧ RPU X o R := hR 6 (by decide)
  obtain ⟨bi, x, y, A7, B7, c7, d7, e7, h7, k7, K7, lx7, ly7, po7⟩ : ∃ bi x y A B c d, f 7 = .agg #[.bool bi, .slice A (digs 18446744073709551616 x).length c, .slice B (digs 18446744073709551616 y).length d] ∧ OB X V1.heap.size A c (digs 18446744073709551616 x) ∧ OB X V1.heap.size B d (digs 18446744073709551616 y) ∧ Apart A B (digs 18446744073709551616 x).length (digs 18446744073709551616 y).length ∧ x < C.M ∧ y < C.M ∧ PtO R bi x y := hR 7 (by decide)
  obtain ⟨b8, e8, l8, h8⟩ : ∃ b, f 8 = .pointer (some ⟨b, 0, none⟩) ∧ V1.heap.size ≤ b ∧ X.heap[b]? = some (.cells #[.bool false, .slice none 0 0, .slice none 0 0] 27 (0, 0)) := hR 8 (by decide)
  simp only [Par.putL, Act.put, List.setIfInBounds_toArray, List.set_cons_succ, List.set_cons_zero, e2, e3, e5, e6, e7, e8]
  clear hR hal hap e2 e3 e5 e6 e7 e8
  refine Par.Chain.next (fun K hK => ⟨Par.want (by kernel_rfl) (wp_storeV (cs' := #[.bool bi, .slice A7 (digs 18446744073709551616 x).length c7, .slice B7 (digs 18446744073709551616 y).length d7]) (t := 27) 27 (.tmp 8) (.tmp 24) rfl rfl rfl rfl h8 infoP rfl (pt_one _ _ _ _ _ _ _) (fun Y hY1 hY2 hY3 => hK.out _ _ ?_))⟩)
  refine Par.Chain.done ?_
  have hb9 : b0 ≠ b8 := by have := blk_lt hr; omega
  have hr9 := hY2.at_ hb9 (hX.at_ hr)
  have HEY := Lib.hid (hY2.ext (HE.out.trans hX) (by have := HE.out.bsize; omega))
  have H7 := Lib.hid (h7.just hY2 h8 (by decide))
  have K8 := Lib.hid (k7.just hY2 h8 (by decide))
  have HK7 := Lib.hid K7
  have HLx := Lib.hid lx7
  have HLy := Lib.hid ly7
  have Hpo := Lib.hid po7
  clear h2 h3 h5 h5' h6 h7 k7 K7 h8 l8 hY2 hY3 hc0 hr lx7 ly7 po7
  obtain ⟨z0, z1, z2, f0, f1, f2⟩ := pt_facts hY1
  cases sp
  case false =>
    go_upto_region 7 with fail
    clear z0 z1 z2 f0 f1 f2 hX
    refine Par.region_txt 1 [0, 1] [] (fun j f X => match j with
      | 0 => f 0 = .agg #[.bool bi, .slice A7 (digs 18446744073709551616 x).length c7, .slice B7 (digs 18446744073709551616 y).length d7]
      | _ => True) (by kernel_rfl) [(38, 0)] (by kernel_rfl) ?_
    refine lV0 1 0 hY1 infoP ?_
    refine Par.AllOps.fin ⟨fun f X hX hR hal hap => ?_⟩
    have e0 : f 0 = .agg #[.bool bi, .slice A7 (digs 18446744073709551616 x).length c7, .slice B7 (digs 18446744073709551616 y).length d7] := hR 0 (by decide)
    simp only [Par.putL, Act.put, List.setIfInBounds_toArray, List.set_cons_succ, List.set_cons_zero, e0]
    clear hR hal hap e0
    refine Par.Chain.next (fun K hK => ⟨Par.want (by kernel_rfl) (wp_storeV (cs' := #[.bool bi, .slice A7 (digs 18446744073709551616 x).length c7, .slice B7 (digs 18446744073709551616 y).length d7]) (t := 27) 27 (.tmp 6) (.tmp 38) rfl rfl rfl rfl (hX.at_ hr9) infoP rfl (pt_one _ _ _ _ _ _ _) (fun Z hZ1 hZ2 hZ3 => hK.out _ _ ?_))⟩)
    refine Par.Chain.done ?_
    go_wp2
    exact end_p rfl rfl rfl hZ1 ⟨_, bi, digs 18446744073709551616 x, digs 18446744073709551616 y, rfl, ⟨_, _, _, _, rfl, ((H7.out.ext hX).just hZ2 (hX.at_ hr9) (by decide)).ru, ((K8.out.ext hX).just hZ2 (hX.at_ hr9) (by decide)).ru⟩, HC.out.dlen HLx.out, HC.out.dlen HLy.out, (fun _ => ⟨_, _, Hpo.out, rfl, rfl⟩), hZ2.ext (HEY.out.trans hX) (by have := Hb0.out; omega)⟩
  case true =>
    obtain ⟨dy, hdy⟩ : ∃ d, digs 18446744073709551616 y = d := ⟨_, rfl⟩
    rw [hdy] at hY1 z2
    have Hdy := Lib.hid hdy
    clear hdy
    cases dy with
    | nil =>
      go_upto_region 7 with fail
      clear z0 z1 z2 f0 f1 f2 hX
      refine Par.region_txt 1 [0, 1] [] (fun j f X => match j with
        | 0 => f 0 = .agg #[.bool bi, .slice A7 (digs 18446744073709551616 x).length c7, .slice B7 ([] : List Nat).length d7]
        | _ => True) (by kernel_rfl) [(38, 0)] (by kernel_rfl) ?_
      refine lV0 1 0 hY1 infoP ?_
      refine Par.AllOps.fin ⟨fun f X hX hR hal hap => ?_⟩
      have e0 : f 0 = .agg #[.bool bi, .slice A7 (digs 18446744073709551616 x).length c7, .slice B7 ([] : List Nat).length d7] := hR 0 (by decide)
      simp only [Par.putL, Act.put, List.setIfInBounds_toArray, List.set_cons_succ, List.set_cons_zero, e0]
      clear hR hal hap e0
      refine Par.Chain.next (fun K hK => ⟨Par.want (by kernel_rfl) (wp_storeV (cs' := #[.bool bi, .slice A7 (digs 18446744073709551616 x).length c7, .slice B7 ([] : List Nat).length d7]) (t := 27) 27 (.tmp 6) (.tmp 38) rfl rfl rfl rfl (hX.at_ hr9) infoP rfl (pt_one _ _ _ _ _ _ _) (fun Z hZ1 hZ2 hZ3 => hK.out _ _ ?_))⟩)
      refine Par.Chain.done ?_
      go_wp2
      exact end_p rfl rfl rfl hZ1 ⟨_, bi, digs 18446744073709551616 x, [], rfl, ⟨_, _, _, _, rfl, ((H7.out.ext hX).just hZ2 (hX.at_ hr9) (by decide)).ru, (by have := ((K8.out.ext hX).just hZ2 (hX.at_ hr9) (by decide)).ru; rw [Hdy.out] at this; exact this)⟩, HC.out.dlen HLx.out, by simp, (fun h => Bool.noConfusion h), hZ2.ext (HEY.out.trans hX) (by have := Hb0.out; omega)⟩
    | cons v t =>
      have hk9 := K8.out
      rw [Hdy.out] at hk9
      obtain ⟨hlim, hcap, hmax, hown⟩ := id hk9
      obtain ⟨g, cur, rfl, hg, hh, hcur⟩ := hown (by simp)
      have m0 := blk_cell hh 0
      rw [hcur 0 (.int .u64 (v : Int)) rfl] at m0
      have n0 := blk_free hh 0
      have Hg := Lib.hid hg
      have Hh := Lib.hid hh
      have Hcur := Lib.hid hcur
      have Hk9 := Lib.hid hk9
      clear hk9 hlim hmax hown hg hh hcur hX
      go_upto_region 7 with fail
      obtain ⟨m, hm, hm2⟩ := xor_nat (Hk9.out.1.1 v List.mem_cons_self)
      rw [hm]
      have hj := (Just.refl g Y).set 0 (.int .u64 (m : Int))
      have g8 : b8 ≠ g := fun e => by have := Hh.out; rw [← e, hY1] at this; injection this with this; injection this with _ this; exact absurd this (by decide)
      have g0 : b0 ≠ g := fun e => by have := Hh.out; rw [← e, hr9] at this; injection this with this; injection this with _ this; exact absurd this (by decide)
      have hY9 := hj.at_ g8 hY1
      have hr8 := hj.at_ g0 hr9
      have HE9 := Lib.hid (hj.ext HEY.out (by have := HE.out.bsize; have := Hg.out; omega))
      have Hxv := Lib.hid (H7.out.off_set HK7.out (by rw [Hdy.out]; simp) 0 (.int .u64 (m : Int)))
      have Hyv := Lib.hid (Hk9.out.head_set hm2)
      have Hlt := Lib.hid (show (m :: t).length < 100000 from by have := HC.out.dlen HLy.out; rw [Hdy.out] at this; simpa using this)
      clear z0 z1 z2 f0 f1 f2 m0 n0 hm hm2 hj g8 g0 hY1 hr9
      generalize Y.setCell ⟨g, 0, none⟩ (.int .u64 (m : Int)) = V9 at *
      refine Par.region_txt 1 [0, 1] [] (fun j f X => match j with
        | 0 => f 0 = .agg #[.bool bi, .slice A7 (digs 18446744073709551616 x).length c7, .slice (some ⟨g, 0, none⟩) (v :: t).length d7]
        | _ => True) (by kernel_rfl) [(38, 0)] (by kernel_rfl) ?_
      refine lV0 1 0 hY9 infoP ?_
      refine Par.AllOps.fin ⟨fun f X hX hR hal hap => ?_⟩
      have e0 : f 0 = .agg #[.bool bi, .slice A7 (digs 18446744073709551616 x).length c7, .slice (some ⟨g, 0, none⟩) (v :: t).length d7] := hR 0 (by decide)
      simp only [Par.putL, Act.put, List.setIfInBounds_toArray, List.set_cons_succ, List.set_cons_zero, e0]
      clear hR hal hap e0
      refine Par.Chain.next (fun K hK => ⟨Par.want (by kernel_rfl) (wp_storeV (cs' := #[.bool bi, .slice A7 (digs 18446744073709551616 x).length c7, .slice (some ⟨g, 0, none⟩) (v :: t).length d7]) (t := 27) 27 (.tmp 6) (.tmp 38) rfl rfl rfl rfl (hX.at_ hr8) infoP rfl (pt_one _ _ _ _ _ _ _) (fun Z hZ1 hZ2 hZ3 => hK.out _ _ ?_))⟩)
      refine Par.Chain.done ?_
      go_wp2
      exact end_p rfl rfl rfl hZ1 ⟨_, bi, digs 18446744073709551616 x, m :: t, rfl, ⟨_, _, _, _, rfl, (RN.up Hxv.out hX).offJ hZ2 (hX.at_ hr8) (by kernel_rfl), (RN.up Hyv.out hX).offJ hZ2 (hX.at_ hr8) (by kernel_rfl)⟩, HC.out.dlen HLx.out, Hlt.out, (fun h => Bool.noConfusion h), hZ2.ext (HE9.out.trans hX) (by have := Hb0.out; omega)⟩
end Go.Proofs.Ytldhmjfjbalakaa

namespace Go.Proofs.Ytldhmjfjbalakaa
namespace Kr
structure Op (α : Type) where
 add : α → α → α
 sub : α → α → α
 mul : α → α → α
 int : Int → α
structure Rel {α β : Type} (O : Op α) (U : Op β) (R : α → β → Prop) : Prop where
 add : ∀ {a b c d}, R a c → R b d → R (O.add a b) (U.add c d)
 sub : ∀ {a b c d}, R a c → R b d → R (O.sub a b) (U.sub c d)
 mul : ∀ {a b c d}, R a c → R b d → R (O.mul a b) (U.mul c d)
 int : ∀ n, R (O.int n) (U.int n)
def ext {α : Type} (O : Op α) (c : α) : Op (α × α) :=
 ⟨fun a b => (O.add a.1 b.1, O.add a.2 b.2), fun a b => (O.sub a.1 b.1, O.sub a.2 b.2), fun a b => (O.add (O.mul a.1 b.1) (O.mul (O.mul a.2 b.2) c), O.add (O.mul a.1 b.2) (O.mul a.2 b.1)), fun n => (O.int n, O.int 0)⟩
def two {α β : Type} (R : α → β → Prop) : α × α → β × β → Prop := fun a b => R a.1 b.1 ∧ R a.2 b.2
theorem Rel.ext {α β : Type} {O : Op α} {U : Op β} {R : α → β → Prop} {c : α} {d : β} (h : Rel O U R) (hc : R c d) : Rel (ext O c) (ext U d) (two R) :=
 ⟨fun h1 h2 => ⟨h.add h1.1 h2.1, h.add h1.2 h2.2⟩, fun h1 h2 => ⟨h.sub h1.1 h2.1, h.sub h1.2 h2.2⟩,
  fun h1 h2 => ⟨h.add (h.mul h1.1 h2.1) (h.mul (h.mul h1.2 h2.2) hc), h.add (h.mul h1.1 h2.2) (h.mul h1.2 h2.1)⟩, fun n => ⟨h.int n, h.int 0⟩⟩
structure Pr (α : Type) where
 x : α
 y : α
 z : α
structure RelP {α β : Type} (R : α → β → Prop) (P : Pr α) (Q : Pr β) : Prop where
 x : R P.x Q.x
 y : R P.y Q.y
 z : R P.z Q.z
section
variable {α β : Type}
def fx (O : Op α) (b : α) (P Q : Pr α) : α := O.sub (O.mul (O.add (O.mul P.x Q.y) (O.mul Q.x P.y)) (O.sub (O.mul P.y Q.y) (O.mul (O.int 3) (O.sub (O.mul b (O.mul P.z Q.z)) (O.add (O.mul P.x Q.z) (O.mul Q.x P.z)))))) (O.mul (O.add (O.mul P.y Q.z) (O.mul Q.y P.z)) (O.mul (O.int 3) (O.sub (O.sub (O.mul b (O.add (O.mul P.x Q.z) (O.mul Q.x P.z))) (O.mul P.x Q.x)) (O.mul (O.int 3) (O.mul P.z Q.z)))))
def fy (O : Op α) (b : α) (P Q : Pr α) : α := O.add (O.mul (O.mul (O.int 3) (O.sub (O.mul P.x Q.x) (O.mul P.z Q.z))) (O.mul (O.int 3) (O.sub (O.sub (O.mul b (O.add (O.mul P.x Q.z) (O.mul Q.x P.z))) (O.mul P.x Q.x)) (O.mul (O.int 3) (O.mul P.z Q.z))))) (O.mul (O.add (O.mul P.y Q.y) (O.mul (O.int 3) (O.sub (O.mul b (O.mul P.z Q.z)) (O.add (O.mul P.x Q.z) (O.mul Q.x P.z))))) (O.sub (O.mul P.y Q.y) (O.mul (O.int 3) (O.sub (O.mul b (O.mul P.z Q.z)) (O.add (O.mul P.x Q.z) (O.mul Q.x P.z))))))
def fz (O : Op α) (b : α) (P Q : Pr α) : α := O.add (O.mul (O.add (O.mul P.y Q.z) (O.mul Q.y P.z)) (O.add (O.mul P.y Q.y) (O.mul (O.int 3) (O.sub (O.mul b (O.mul P.z Q.z)) (O.add (O.mul P.x Q.z) (O.mul Q.x P.z)))))) (O.mul (O.add (O.mul P.x Q.y) (O.mul Q.x P.y)) (O.mul (O.int 3) (O.sub (O.mul P.x Q.x) (O.mul P.z Q.z))))
def cz (O : Op α) (T V : Pr α) : α × α := (O.sub (O.mul T.x V.z) (O.mul T.z V.x), O.sub (O.mul T.y V.z) (O.mul T.z V.y))
def cube (O : Op α) (b x : α) : α := O.add (O.sub (O.mul (O.mul x x) x) (O.mul (O.int 3) x)) b
def lift (O : Op α) (a : α) : α × α := (a, O.int 0)
def O1 (O : Op α) (b x1 : α) := ext O (cube O b x1)
def O2 (O : Op α) (b x1 x2 : α) := ext (O1 O b x1) (lift O (cube O b x2))
def O3 (O : Op α) (b x1 x2 x3 : α) := ext (O2 O b x1 x2) (lift (O1 O b x1) (lift O (cube O b x3)))
def lift3 (O : Op α) (b x1 x2 : α) (a : α) : ((α × α) × (α × α)) × ((α × α) × (α × α)) := lift (O2 O b x1 x2) (lift (O1 O b x1) (lift O a))
def p1 (O : Op α) (b x1 x2 x3 : α) : Pr (((α × α) × (α × α)) × ((α × α) × (α × α))) := ⟨lift3 O b x1 x2 x1, lift (O2 O b x1 x2) (lift (O1 O b x1) (O.int 0, O.int 1)), (O3 O b x1 x2 x3).int 1⟩
def p2 (O : Op α) (b x1 x2 x3 : α) : Pr (((α × α) × (α × α)) × ((α × α) × (α × α))) := ⟨lift3 O b x1 x2 x2, lift (O2 O b x1 x2) ((O1 O b x1).int 0, (O1 O b x1).int 1), (O3 O b x1 x2 x3).int 1⟩
def p3 (O : Op α) (b x1 x2 x3 : α) : Pr (((α × α) × (α × α)) × ((α × α) × (α × α))) := ⟨lift3 O b x1 x2 x3, ((O2 O b x1 x2).int 0, (O2 O b x1 x2).int 1), (O3 O b x1 x2 x3).int 1⟩
end
def both {α : Type} (p : α → Prop) : α × α → Prop := fun a => p a.1 ∧ p a.2
abbrev al {α : Type} (p : α → Prop) := both (both (both (both p)))
structure Tm where
 c : Int
 e : Nat → Nat
abbrev MP := List Tm
def mono (v : Nat → Int) (e : Nat → Nat) : Int := v 0 ^ e 0 * v 1 ^ e 1 * v 2 ^ e 2 * v 3 ^ e 3
def ev (v : Nat → Int) : MP → Int
 | [] => 0
 | t :: l => t.c * mono v t.e + ev v l
def dg (i : Nat) (P : MP) (d : Nat) : Prop := ∀ t ∈ P, t.e i < d
def S (f : Nat → Int) : List (Int × Nat) → Int
 | [] => 0
 | t :: l => t.1 * f t.2 + S f l
def n1 : List (Int × Nat) → Nat
 | [] => 0
 | t :: l => t.1.natAbs + n1 l
def c0 : List (Int × Nat) → Int
 | [] => 0
 | (c, 0) :: l => c + c0 l
 | (_, _ + 1) :: l => c0 l
section
variable (B d0 d1 d2 : Nat)
theorem bound : ∀ l : List (Int × Nat), ∃ M, ∀ t ∈ l, t.2 < M
  | [] => ⟨0, fun t ht => by cases ht⟩
  | s :: l => by
    obtain ⟨M, hM⟩ := bound l
    refine ⟨max M (s.2 + 1), fun t ht => ?_⟩
    rcases List.mem_cons.1 ht with rfl | ht
    · omega
    · have := hM t ht; omega
end
end Kr
end Go.Proofs.Ytldhmjfjbalakaa

namespace Go.Proofs.Ytldhmjfjbalakaa
namespace Pm
def Prime (p : Nat) : Prop := 2 ≤ p ∧ ∀ d, d ∣ p → d = 1 ∨ d = p
theorem Prime.two {p : Nat} (h : Prime p) : 2 ≤ p := h.1
theorem Prime.coprime {p a : Nat} (h : Prime p) (ha : ¬ p ∣ a) : Nat.gcd p a = 1 := by
 rcases h.2 _ (Nat.gcd_dvd_left p a) with h1 | h1
 · exact h1
 · exact absurd (h1 ▸ Nat.gcd_dvd_right p a) ha
theorem Prime.dvd_mul {p a b : Nat} (h : Prime p) (hd : p ∣ a * b) : p ∣ a ∨ p ∣ b := by
 rcases Nat.decEq (a % p) 0 with h0 | h0
 · exact Or.inr (Nat.Coprime.dvd_of_dvd_mul_left (h.coprime (fun hh => h0 (Nat.mod_eq_zero_of_dvd hh))) hd)
 · exact Or.inl (Nat.dvd_of_mod_eq_zero h0)
def ch : Nat → Nat → Nat
 | _, 0 => 1
 | 0, _ + 1 => 0
 | n + 1, k + 1 => ch n k + ch n (k + 1)
theorem ch_zero (n : Nat) : ch n 0 = 1 := by cases n <;> rfl
theorem ch_gt : ∀ {n k : Nat}, n < k → ch n k = 0
  | 0, k + 1, _ => rfl
  | n + 1, k + 1, h => by
    show ch n k + ch n (k + 1) = 0
    rw [ch_gt (by omega), ch_gt (by omega)]
theorem ch_self : ∀ n, ch n n = 1
  | 0 => rfl
  | n + 1 => by
    show ch n n + ch n (n + 1) = 1
    rw [ch_self n, ch_gt (by omega)]
theorem ch_mul : ∀ n k, (k + 1) * ch (n + 1) (k + 1) = (n + 1) * ch n k
  | 0, 0 => rfl
  | 0, k + 1 => by
    show (k + 1 + 1) * (ch 0 (k + 1) + ch 0 (k + 1 + 1)) = _
    rw [ch_gt (by omega), ch_gt (by omega)]
    simp
  | n + 1, 0 => by
    have := ch_mul n 0
    show 1 * (ch (n + 1) 0 + ch (n + 1) 1) = _
    rw [ch_zero] at *
    simp only [Nat.one_mul, Nat.mul_one] at *
    simp only [Nat.zero_add, Nat.one_mul] at this
    omega
  | n + 1, k + 1 => by
    have h1 := ch_mul n k
    have h2 := ch_mul n (k + 1)
    show (k + 1 + 1) * (ch (n + 1) (k + 1) + ch (n + 1) (k + 1 + 1)) = (n + 1 + 1) * ch (n + 1) (k + 1)
    have e : ch (n + 1) (k + 1) = ch n k + ch n (k + 1) := rfl
    rw [Nat.mul_add, h2, Nat.succ_mul (k + 1), h1, Nat.succ_mul (n + 1), e, Nat.mul_add]
    omega
def sm (f : Nat → Nat) : Nat → Nat
 | 0 => 0
 | n + 1 => sm f n + f n
theorem sm_add (f g : Nat → Nat) : ∀ n, sm (fun i => f i + g i) n = sm f n + sm g n
 | 0 => rfl
 | n + 1 => by simp only [sm]; rw [sm_add f g n]; omega
theorem sm_mul (f : Nat → Nat) (c : Nat) : ∀ n, sm (fun i => f i * c) n = sm f n * c
 | 0 => by simp [sm]
 | n + 1 => by simp only [sm]; rw [sm_mul f c n, Nat.add_mul]
theorem sm_head (f : Nat → Nat) : ∀ n, sm f (n + 1) = f 0 + sm (fun i => f (i + 1)) n
  | 0 => by simp [sm]
  | n + 1 => by
    have := sm_head f n
    simp only [sm] at *
    omega
theorem sm_congr {f g : Nat → Nat} : ∀ {n : Nat}, (∀ i, i < n → f i = g i) → sm f n = sm g n
 | 0, _ => rfl
 | n + 1, h => by simp only [sm]; rw [sm_congr (fun i hi => h i (by omega)), h n (by omega)]
theorem sm_dvd {f : Nat → Nat} {p : Nat} : ∀ {n : Nat}, (∀ i, i < n → p ∣ f i) → p ∣ sm f n
 | 0, _ => ⟨0, rfl⟩
 | n + 1, h => by simp only [sm]; exact Nat.dvd_add (sm_dvd (fun i hi => h i (by omega))) (h n (by omega))
theorem binom (a : Nat) : ∀ n, (a + 1) ^ n = sm (fun k => ch n k * a ^ k) (n + 1)
  | 0 => by simp [sm, ch]
  | n + 1 => by
    rw [Nat.pow_succ, binom a n, sm_head (fun k => ch (n + 1) k * a ^ k) (n + 1)]
    have e : sm (fun i => ch (n + 1) (i + 1) * a ^ (i + 1)) (n + 1) = sm (fun i => ch n i * a ^ i * a + ch n (i + 1) * a ^ (i + 1)) (n + 1) := by
      refine sm_congr (fun i _ => ?_)
      show (ch n i + ch n (i + 1)) * a ^ (i + 1) = _
      rw [Nat.add_mul, Nat.pow_succ a i, Nat.mul_assoc]
    rw [e, sm_add, sm_mul, Nat.mul_add, Nat.mul_one]
    have h2 := sm_head (fun k => ch n k * a ^ k) (n + 1)
    simp only [sm] at h2 ⊢
    rw [ch_gt (show n < n + 1 by omega)] at *
    rw [ch_zero] at *
    simp only [Nat.zero_mul, Nat.add_zero, Nat.pow_zero] at *
    omega
theorem ch_dvd {p k : Nat} (hp : Prime p) (h0 : 0 < k) (hk : k < p) : p ∣ ch p k := by
 obtain ⟨q, rfl⟩ : ∃ q, p = q + 1 := ⟨p - 1, by have := hp.two; omega⟩
 obtain ⟨j, rfl⟩ : ∃ j, k = j + 1 := ⟨k - 1, by omega⟩
 have h := ch_mul q j
 rcases hp.dvd_mul (a := j + 1) (b := ch (q + 1) (j + 1)) ⟨_, h⟩ with h1 | h1
 · exact absurd (Nat.le_of_dvd (by omega) h1) (by omega)
 · exact h1
theorem frob {p : Nat} (hp : Prime p) (a : Nat) : (a + 1) ^ p % p = (a ^ p + 1) % p := by
 obtain ⟨q, rfl⟩ : ∃ q, p = q + 1 := ⟨p - 1, by have := hp.two; omega⟩
 rw [binom a (q + 1), sm_head]
 show (ch (q + 1) 0 * a ^ 0 + (sm (fun i => ch (q + 1) (i + 1) * a ^ (i + 1)) q + ch (q + 1) (q + 1) * a ^ (q + 1))) % (q + 1) = _
 obtain ⟨m, hm⟩ := sm_dvd (f := fun i => ch (q + 1) (i + 1) * a ^ (i + 1)) (p := q + 1) (n := q) (fun i hi => Nat.dvd_trans (ch_dvd hp (by omega) (by omega)) (Nat.dvd_mul_right _ _))
 rw [hm, ch_zero, ch_self, Nat.pow_zero, Nat.one_mul, Nat.one_mul]
 have : 1 + ((q + 1) * m + a ^ (q + 1)) = a ^ (q + 1) + 1 + (q + 1) * m := by omega
 rw [this, Nat.add_mul_mod_self_left]
theorem fermat0 {p : Nat} (hp : Prime p) : ∀ a, a ^ p % p = a % p
 | 0 => by rw [Nat.zero_pow (by have := hp.two; omega)]
 | a + 1 => by rw [frob hp a, Nat.add_mod, fermat0 hp a, ← Nat.add_mod]
theorem mod_eq_dvd {p a b : Nat} (hle : b ≤ a) (h : a % p = b % p) : p ∣ a - b := by
 have h1 := Nat.div_add_mod a p
 have h2 := Nat.div_add_mod b p
 refine ⟨a / p - b / p, ?_⟩
 rw [Nat.mul_sub]
 omega
theorem dvd_mod_eq {p a b : Nat} (hle : b ≤ a) (h : p ∣ a - b) : a % p = b % p := by
 obtain ⟨k, hk⟩ := h
 have : a = b + p * k := by omega
 rw [this, Nat.add_mul_mod_self_left]
theorem fermat {p a : Nat} (hp : Prime p) (ha : ¬ p ∣ a) : a ^ (p - 1) % p = 1 := by
 have h2 := hp.two
 have hpos : 1 ≤ a ^ (p - 1) := Nat.pow_pos (by
  rcases Nat.eq_zero_or_pos a with h | h
  · exact absurd ⟨0, by omega⟩ ha
  · exact h)
 have h := fermat0 hp a
 have e : a ^ p = a * a ^ (p - 1) := by
  conv => lhs; rw [show p = p - 1 + 1 by omega]
  rw [Nat.pow_succ, Nat.mul_comm]
 have hd : p ∣ a * (a ^ (p - 1) - 1) := by
  rw [Nat.mul_sub, Nat.mul_one, ← e]
  refine mod_eq_dvd ?_ h
  rw [e]
  exact Nat.le_mul_of_pos_right _ hpos
 rcases hp.dvd_mul hd with h1 | h1
 · exact absurd h1 ha
 · have := dvd_mod_eq hpos h1
   rw [this, Nat.mod_eq_of_lt (by omega)]
theorem inv_mul {p a : Nat} (hp : Prime p) (ha : ¬ p ∣ a) : a * (a ^ (p - 2) % p) % p = 1 := by
 have h2 := hp.two
 rw [Nat.mul_mod, Nat.mod_mod, ← Nat.mul_mod, Nat.mul_comm, ← Nat.pow_succ, show (p - 2).succ = p - 1 by omega]
 exact fermat hp ha
theorem exists_prime : ∀ n, 2 ≤ n → ∃ r, Prime r ∧ r ∣ n := by
  intro n
  induction n using Nat.strongRecOn with
  | ind n ih =>
    intro hn
    rcases Classical.em (Prime n) with h | h
    · exact ⟨n, h, Nat.dvd_refl n⟩
    · have : ∃ d, d ∣ n ∧ d ≠ 1 ∧ d ≠ n := Classical.byContradiction fun hc => h ⟨hn, fun d hd => Classical.byContradiction fun h2 => hc ⟨d, hd, fun e => h2 (Or.inl e), fun e => h2 (Or.inr e)⟩⟩
      obtain ⟨d, hd, h1, h2⟩ := this
      have hle := Nat.le_of_dvd (by omega) hd
      have h0 : d ≠ 0 := by rintro rfl; obtain ⟨k, hk⟩ := hd; omega
      obtain ⟨r, hr, hrd⟩ := ih d (by omega) (by omega)
      exact ⟨r, hr, Nat.dvd_trans hrd hd⟩
theorem prime_of {n : Nat} (hn : 2 ≤ n) (h : ∀ r, Prime r → r ∣ n → r * r ≤ n → False) : Prime n := by
 refine ⟨hn, fun d hd => Classical.byContradiction fun hc => ?_⟩
 have h1 : d ≠ 1 := fun e => hc (Or.inl e)
 have h2 : d ≠ n := fun e => hc (Or.inr e)
 obtain ⟨e, he⟩ := hd
 have hd0 : d ≠ 0 := by rintro rfl; omega
 have he0 : e ≠ 0 := by rintro rfl; omega
 have he1 : e ≠ 1 := by rintro rfl; omega
 have key : ∀ a b : Nat, n = a * b → a ≤ b → 2 ≤ a → False := by
  intro a b hab hle h2a
  obtain ⟨r, hr, hra⟩ := exists_prime a h2a
  have := Nat.le_of_dvd (by omega) hra
  exact h r hr (hab ▸ Nat.dvd_trans hra (Nat.dvd_mul_right _ _)) (by rw [hab]; exact Nat.mul_le_mul this (by omega))
 rcases Nat.le_total d e with hle | hle
 · exact key d e he hle (by omega)
 · exact key e d (by rw [he, Nat.mul_comm]) hle (by omega)
def pw (m a : Nat) : Nat → Nat → Nat
 | 0, _ => 1 % m
 | k + 1, e => if e % 2 = 1 then pw m a k (e / 2) * pw m a k (e / 2) % m * a % m else pw m a k (e / 2) * pw m a k (e / 2) % m
theorem pw_eq {m a : Nat} : ∀ k e, e < 2 ^ k → pw m a k e = a ^ e % m
  | 0, e, h => by
    have : e = 0 := by omega
    subst this
    rfl
  | k + 1, e, h => by
    have hd : e / 2 < 2 ^ k := by rw [Nat.pow_succ] at h; omega
    have h1 := Nat.div_add_mod e 2
    simp only [pw]
    rw [pw_eq k (e / 2) hd]
    have sq : a ^ (e / 2) % m * (a ^ (e / 2) % m) % m = a ^ (2 * (e / 2)) % m := by
      rw [← Nat.mul_mod, ← Nat.pow_add]
      congr 2
      omega
    split
    · rename_i ho
      rw [sq, Nat.mod_mul_mod, ← Nat.pow_succ]
      congr 2
      omega
    · rw [sq]
      congr 2
      omega
theorem pow_gcd {r b : Nat} : ∀ (n q s : Nat), q + s ≤ n → b ^ q % r = 1 % r → b ^ s % r = 1 % r → b ^ Nat.gcd q s % r = 1 % r := by
  intro n
  induction n with
  | zero =>
    intro q s h _ hs
    have : q = 0 := by omega
    have : s = 0 := by omega
    subst q s
    rfl
  | succ n ih =>
    intro q s hn hq hs
    rcases Nat.eq_zero_or_pos q with rfl | h0
    · rw [Nat.gcd_zero_left]; exact hs
    rcases Nat.eq_zero_or_pos s with rfl | h1
    · rw [Nat.gcd_zero_right]; exact hq
    have sub : ∀ x y, x ≤ y → b ^ x % r = 1 % r → b ^ y % r = 1 % r → b ^ (y - x) % r = 1 % r := by
      intro x y hxy hx hy
      have : b ^ y = b ^ x * b ^ (y - x) := by rw [← Nat.pow_add]; congr 1; omega
      rw [this, Nat.mul_mod, hx, ← Nat.mul_mod, Nat.one_mul] at hy
      exact hy
    rcases Nat.le_total q s with hle | hle
    · have := ih q (s - q) (by omega) hq (sub q s hle hq hs)
      rwa [Nat.gcd_sub_self_right hle] at this
    · have := ih (q - s) s (by omega) (sub s q hle hs hq) hs
      rwa [Nat.gcd_sub_self_left hle] at this
theorem part {n q a r : Nat} (hn : 2 ≤ n) (hq : Prime q) (hr : Prime r) (hrn : r ∣ n) (hqn : q ∣ n - 1) (h1 : a ^ (n - 1) % n = 1) (h2 : Nat.gcd (a ^ ((n - 1) / q) % n + (n - 1)) n = 1) : q ∣ r - 1 := by
 have hr2 := hr.two
 refine Classical.byContradiction fun hno => ?_
 have hg := hq.coprime hno
 obtain ⟨m, hm⟩ := hqn
 have hm' : (n - 1) / q = m := by rw [hm]; exact Nat.mul_div_cancel_left _ (by have := hq.two; omega)
 rw [hm'] at h2
 obtain ⟨c, hc⟩ := hrn
 have h1r : a ^ (n - 1) % r = 1 % r := by
  have h : a ^ (n - 1) % n % r = 1 % r := by rw [h1]
  rwa [show a ^ (n - 1) % n % r = a ^ (n - 1) % r by rw [hc, Nat.mod_mul_right_mod]] at h
 have hbq : (a ^ m) ^ q % r = 1 % r := by rw [← Nat.pow_mul, Nat.mul_comm, ← hm]; exact h1r
 have hra : ¬ r ∣ a ^ m := by
  intro hd
  have : r ∣ (a ^ m) ^ q := by
   obtain ⟨t, rfl⟩ : ∃ t, q = t + 1 := ⟨q - 1, by have := hq.two; omega⟩
   exact Nat.dvd_trans hd (Nat.dvd_mul_left _ _)
  rw [Nat.mod_eq_zero_of_dvd this, Nat.mod_eq_of_lt (by omega)] at hbq
  omega
 have hf := fermat hr hra
 have hb := pow_gcd _ q (r - 1) (Nat.le_refl _) hbq (by rw [hf]; exact (Nat.mod_eq_of_lt (by omega)).symm)
 rw [hg, Nat.pow_one] at hb
 have hd : r ∣ a ^ m % n + (n - 1) := by
  refine Nat.dvd_of_mod_eq_zero ?_
  rw [Nat.add_mod, show a ^ m % n % r = 1 % r by rw [hc, Nat.mod_mul_right_mod]; exact hb, ← Nat.add_mod, show 1 + (n - 1) = n by omega, hc]
  exact Nat.mul_mod_right r c
 have := Nat.dvd_gcd hd ⟨c, hc⟩
 rw [h2] at this
 have := Nat.le_of_dvd (by omega) this
 omega
theorem pock1 {n q a : Nat} (hn : 2 ≤ n) (hq : Prime q) (hqn : q ∣ n - 1) (h1 : a ^ (n - 1) % n = 1) (h2 : Nat.gcd (a ^ ((n - 1) / q) % n + (n - 1)) n = 1) (hs : n < (q + 1) * (q + 1)) : Prime n := by
 refine prime_of hn fun r hr hrn hle => ?_
 have hd := part hn hq hr hrn hqn h1 h2
 have := hr.two
 have := Nat.le_of_dvd (by omega) hd
 have := Nat.mul_le_mul (show q + 1 ≤ r by omega) (show q + 1 ≤ r by omega)
 omega
theorem pock2 {n q s a : Nat} (hn : 2 ≤ n) (hq : Prime q) (hs : Prime s) (hne : q ≠ s) (hqn : q ∣ n - 1) (hsn : s ∣ n - 1) (h1 : a ^ (n - 1) % n = 1) (h2 : Nat.gcd (a ^ ((n - 1) / q) % n + (n - 1)) n = 1) (h3 : Nat.gcd (a ^ ((n - 1) / s) % n + (n - 1)) n = 1)
 (hb : n < (q * s + 1) * (q * s + 1)) : Prime n := by
 refine prime_of hn fun r hr hrn hle => ?_
 have hd := part hn hq hr hrn hqn h1 h2
 have hd' := part hn hs hr hrn hsn h1 h3
 have := hr.two
 have hg : Nat.gcd q s = 1 := hq.coprime fun h => by
  rcases hs.2 q h with h | h
  · have := hq.two; omega
  · exact hne h
 have := Nat.le_of_dvd (by omega) (Nat.Coprime.mul_dvd_of_dvd_of_dvd hg hd hd')
 have := Nat.mul_le_mul (show q * s + 1 ≤ r by omega) (show q * s + 1 ≤ r by omega)
 omega
def trial (n : Nat) : Nat → Nat → Bool
 | 0, _ => true
 | k + 1, d => n % d != 0 && trial n k (d + 1)
theorem trial_ok {n : Nat} : ∀ {k d : Nat}, trial n k d = true → ∀ e, d ≤ e → e < d + k → ¬ e ∣ n
  | 0, _, _, _, _, _ => by omega
  | k + 1, d, h, e, h1, h2 => by
    simp only [trial, Bool.and_eq_true, bne_iff_ne] at h
    rcases Nat.lt_or_ge d e with hlt | hge
    · exact trial_ok h.2 e hlt (by omega)
    · have : e = d := by omega
      subst this
      exact fun hd => h.1 (Nat.mod_eq_zero_of_dvd hd)
theorem prime_trial {n k : Nat} (hn : 2 ≤ n) (h : trial n k 2 = true) (hk : n < (k + 2) * (k + 2)) : Prime n :=
 prime_of hn fun r hr hrn hle => trial_ok h r hr.two (by
  rcases Nat.lt_or_ge r (2 + k) with h | h
  · exact h
  · have := Nat.mul_le_mul (show k + 2 ≤ r by omega) (show k + 2 ≤ r by omega)
    omega) hrn
end Pm
end Go.Proofs.Ytldhmjfjbalakaa

namespace Go.Proofs.Ytldhmjfjbalakaa
namespace Gl
open Kr
section
variable {p : Nat} [NeZero p]
structure Cv (iv : Fin p → Fin p) (b : Fin p) : Prop where
 dom : ∀ x y : Fin p, x * y = 0 → x = 0 ∨ y = 0
 inv : ∀ x : Fin p, x ≠ 0 → x * iv x = 1
 one : (1 : Fin p) ≠ 0
 two : (2 : Fin p) ≠ 0
 root : ∀ x : Fin p, x * x * x - 3 * x + b ≠ 0
abbrev Pt (p : Nat) := Option (Fin p × Fin p)
def Oc (b x y : Fin p) : Prop := y * y = x * x * x - 3 * x + b
def On (b : Fin p) : Pt p → Prop
 | none => True
 | some P => Oc b P.1 P.2
def thr (x1 y1 x2 l : Fin p) : Fin p × Fin p := (l * l - x1 - x2, l * (x1 - (l * l - x1 - x2)) - y1)
def ad (iv : Fin p → Fin p) : Pt p → Pt p → Pt p
 | none, Q => Q
 | some P, none => some P
 | some P, some Q => if P.1 = Q.1 then (if P.2 = Q.2 then some (thr P.1 P.2 Q.1 ((3 * (P.1 * P.1) - 3) * iv (2 * P.2))) else none) else some (thr P.1 P.2 Q.1 ((Q.2 - P.2) * iv (Q.1 - P.1)))
def ng : Pt p → Pt p
 | none => none
 | some P => some (P.1, 0 - P.2)
structure Ln (b x1 y1 x2 y2 l : Fin p) : Prop where
 on : Oc b x1 y1
 hd : y2 = y1 + l * (x2 - x1)
 r : 2 * y1 * l + l * l * (x2 - x1) = x1 * x1 + x1 * x2 + x2 * x2 - 3
theorem via {a c k u v : Fin p} (h : u = v) (e : a - c = k * (u - v)) : a = c := by subst h; grind
theorem Ln.close {b x1 y1 x2 y2 l : Fin p} (h : Ln b x1 y1 x2 y2 l) : Oc b (thr x1 y1 x2 l).1 (thr x1 y1 x2 l).2 := by
 obtain ⟨h1, -, h3⟩ := h
 unfold Oc thr at *
 have hb : b = y1 * y1 - x1 * x1 * x1 + 3 * x1 := by grind
 clear h1
 subst hb
 exact via h3 (k := l * l - 2 * x1 - x2) (by clear h3; grind)
def f1 (b x1 y1 x2 y2 : Fin p) : Fin p := (x1 * y2 + x2 * y1) * (y1 * y2 - 3 * (b - (x1 + x2))) - (y1 + y2) * (3 * (b * (x1 + x2) - x1 * x2 - 3))
def f2 (b x1 y1 x2 y2 : Fin p) : Fin p := 3 * (x1 * x2 - 1) * (3 * (b * (x1 + x2) - x1 * x2 - 3)) + (y1 * y2 + 3 * (b - (x1 + x2))) * (y1 * y2 - 3 * (b - (x1 + x2)))
def f3 (b x1 y1 x2 y2 : Fin p) : Fin p := (y1 + y2) * (y1 * y2 + 3 * (b - (x1 + x2))) + (x1 * y2 + x2 * y1) * (3 * (x1 * x2 - 1))
theorem Ln.fx {b x1 y1 x2 y2 l : Fin p} (h : Ln b x1 y1 x2 y2 l) : f1 b x1 y1 x2 y2 = f3 b x1 y1 x2 y2 * (thr x1 y1 x2 l).1 := by
 obtain ⟨h1, h2, h3⟩ := h
 unfold Oc at h1
 unfold thr f1 f3
 have hb : b = y1 * y1 - x1 * x1 * x1 + 3 * x1 := by grind
 clear h1
 subst h2 hb
 exact via h3 (k := l * l * x1 * y1 - l * l * x2 * y1 + 3 * l * x1 * x1 * x1 - 3 * l * x1 * x1 * x2 - 3 * l * x1 + 3 * l * x2 - 4 * l * y1 * y1 - 3 * x1 * x1 * y1 - 3 * x1 * x2 * y1 + 6 * y1) (by clear h3; grind)
theorem Ln.fy {b x1 y1 x2 y2 l : Fin p} (h : Ln b x1 y1 x2 y2 l) : f2 b x1 y1 x2 y2 = f3 b x1 y1 x2 y2 * (thr x1 y1 x2 l).2 := by
 obtain ⟨h1, h2, h3⟩ := h
 unfold Oc at h1
 unfold thr f2 f3
 have hb : b = y1 * y1 - x1 * x1 * x1 + 3 * x1 := by grind
 clear h1
 subst h2 hb
 exact via h3 (k := 0 - l * l * l * x1 * y1 + l * l * l * x2 * y1 - 3 * l * l * x1 * x1 * x1 + 3 * l * l * x1 * x1 * x2 + 3 * l * l * x1 - 3 * l * l * x2 + 4 * l * l * y1 * y1 + 3 * l * x1 * x1 * y1 + 3 * l * x1 * x2 * y1 - 6 * l * y1 + 9 * x1 * x1 * x1 * x1 - 18 * x1 * x1 - 12 * x1 * y1 * y1 + 9) (by clear h3; grind)
theorem Ln.fn {b x1 y1 x2 y2 l : Fin p} (h : Ln b x1 y1 x2 y2 l) : f3 b x1 y1 x2 y2 = (0 - (y1 + y2)) * ((x2 - x1) * (x2 - x1) * (2 * x1 + x2) - (y1 + y2) * (y1 + y2)) - (x2 - x1) * (x2 - x1) * (x2 - x1) * y1 := by
 obtain ⟨h1, h2, h3⟩ := h
 unfold Oc at h1
 unfold f3
 have hb : b = y1 * y1 - x1 * x1 * x1 + 3 * x1 := by grind
 clear h1
 subst h2 hb
 exact via h3 (k := 0 - (x1 - x2) * (l * x1 - l * x2 - 3 * y1)) (by clear h3; grind)
variable {iv : Fin p → Fin p} {b : Fin p}
theorem Cv.y0 (h : Cv iv b) {x y : Fin p} (ho : Oc b x y) : y ≠ 0 := by
 rintro rfl
 unfold Oc at ho
 have := h.root x
 grind
theorem Cv.y2 (h : Cv iv b) {x y : Fin p} (ho : Oc b x y) : 2 * y ≠ 0 := fun e => (h.dom _ _ e).elim h.two (h.y0 ho)
theorem Cv.cancel (h : Cv iv b) {d a c : Fin p} (hd : d ≠ 0) (e : d * a = d * c) : a = c := by
 have := h.dom d (a - c) (by grind)
 grind
theorem Cv.chord (h : Cv iv b) {x1 y1 x2 y2 : Fin p} (h1 : Oc b x1 y1) (h2 : Oc b x2 y2) (hx : x1 ≠ x2) : Ln b x1 y1 x2 y2 ((y2 - y1) * iv (x2 - x1)) := by
 have hd : x2 - x1 ≠ 0 := by grind
 have hi := h.inv _ hd
 have hl : ((y2 - y1) * iv (x2 - x1)) * (x2 - x1) = y2 - y1 := by grind
 generalize (y2 - y1) * iv (x2 - x1) = l at *
 refine ⟨h1, by grind, h.cancel hd ?_⟩
 unfold Oc at h1 h2
 have e1 : (x2 - x1) * (2 * y1 * l + l * l * (x2 - x1)) = 2 * y1 * (l * (x2 - x1)) + (l * (x2 - x1)) * (l * (x2 - x1)) := by clear hl hi h1 h2; grind
 rw [e1, hl]
 clear hl hi e1
 grind
theorem Cv.tang (h : Cv iv b) {x y : Fin p} (h1 : Oc b x y) : Ln b x y x y ((3 * (x * x) - 3) * iv (2 * y)) := by
 have hi := h.inv _ (h.y2 h1)
 refine ⟨h1, by grind, ?_⟩
 have e : 2 * y * ((3 * (x * x) - 3) * iv (2 * y)) + ((3 * (x * x) - 3) * iv (2 * y)) * ((3 * (x * x) - 3) * iv (2 * y)) * (x - x) = (2 * y * iv (2 * y)) * (3 * (x * x) - 3) := by clear hi h1; grind
 rw [e, hi]
 grind
theorem Oc.neg {x y : Fin p} (h : Oc b x y) : Oc b x (0 - y) := by unfold Oc at *; grind
theorem Cv.on_ad (h : Cv iv b) {P Q : Pt p} (hP : On b P) (hQ : On b Q) : On b (ad iv P Q) := by
  match P, Q with
  | none, Q => exact hQ
  | some P, none => exact hP
  | some (x1, y1), some (x2, y2) =>
    show On b (if x1 = x2 then _ else _)
    by_cases hx : x1 = x2
    · subst hx
      rw [if_pos rfl]
      show On b (if y1 = y2 then _ else _)
      by_cases hy : y1 = y2
      · rw [if_pos hy]; exact (h.tang hP).close
      · rw [if_neg hy]; trivial
    · rw [if_neg hx]; exact (h.chord hP hQ hx).close
theorem On.neg {P : Pt p} (h : On b P) : On b (ng P) := by
 match P with
 | none => exact h
 | some (x, y) => exact Oc.neg h
theorem Cv.same (h : Cv iv b) {x y z : Fin p} (h1 : Oc b x y) (h2 : Oc b x z) : y = z ∨ z = 0 - y := by
 unfold Oc at h1 h2
 have := h.dom (y - z) (y + z) (by grind)
 grind
def pr : Pt p → Pr (Fin p)
 | none => ⟨0, 1, 0⟩
 | some P => ⟨P.1, P.2, 1⟩
def sc (u : Fin p) (P : Pr (Fin p)) : Pr (Fin p) := ⟨u * P.x, u * P.y, u * P.z⟩
theorem NeZero.lt : 0 < p := Nat.pos_of_ne_zero (NeZero.ne p)
def cst (n : Int) : Fin p := ⟨(n % (p : Int)).toNat, by have h := Int.emod_lt_of_pos n (Int.ofNat_lt.2 (NeZero.lt (p := p))); have := Int.emod_nonneg n (show (p : Int) ≠ 0 by have := NeZero.lt (p := p); omega); omega⟩
theorem cst_nat (n : Nat) : cst (p := p) (n : Int) = Fin.ofNat p n := by
 apply Fin.ext
 show ((n : Int) % (p : Int)).toNat = n % p
 rw [← Int.natCast_emod]
 rfl
def R0 (a : Int) (k : Fin p) : Prop := cst a = k
def Rx {α : Type} (R : α → Fin p → Prop) (y : Fin p) (a : α × α) (k : Fin p) : Prop := ∃ u v, R a.1 u ∧ R a.2 v ∧ k = u + v * y
theorem Rx.zero {α : Type} {R : α → Fin p → Prop} {y : Fin p} {q : α → Prop} (hq : ∀ a k, R a k → q a → k = 0) {a : α × α} {k : Fin p} (h : Rx R y a k) (ha : both q a) : k = 0 := by
 obtain ⟨u, v, h1, h2, rfl⟩ := h
 rw [hq _ _ h1 ha.1, hq _ _ h2 ha.2]
 grind
theorem R0.lift (x : Fin p) : R0 (x.val : Int) x := by show cst _ = _; rw [cst_nat]; exact Fin.ofNat_val_eq_self x
def nm (iv : Fin p → Fin p) (P : Pt p) : Nat → Pt p
 | 0 => none
 | n + 1 => ad iv (nm iv P n) P
theorem Cv.on_nm (h : Cv iv b) {P : Pt p} (hP : On b P) : ∀ n, On b (nm iv P n)
 | 0 => trivial
 | n + 1 => h.on_ad (h.on_nm hP n) hP
theorem ad_none (P : Pt p) : ad iv P none = P := by cases P <;> rfl
end
end Gl
end Go.Proofs.Ytldhmjfjbalakaa

namespace Go.Proofs.Ytldhmjfjbalakaa
namespace Pm
theorem pock1' {n q a k : Nat} (hn : 2 ≤ n) (hq : Prime q) (hqn : (n - 1) % q = 0) (hk0 : Nat.ble n (2 ^ k) = true) (h1 : pw n a k (n - 1) = 1) (h2 : Nat.gcd (pw n a k ((n - 1) / q) + (n - 1)) n = 1) (hs : n < (q + 1) * (q + 1)) : Prime n := by
 have hle : (n - 1) / q ≤ n - 1 := Nat.div_le_self _ _
 have hk := Nat.le_of_ble_eq_true hk0
 have hk := Nat.le_of_ble_eq_true hk0
 rw [pw_eq k _ (by omega)] at h1 h2
 exact pock1 hn hq (Nat.dvd_of_mod_eq_zero hqn) h1 h2 hs
theorem pock2' {n q s a k : Nat} (hn : 2 ≤ n) (hq : Prime q) (hs : Prime s) (hne : q ≠ s) (hqn : (n - 1) % q = 0) (hsn : (n - 1) % s = 0) (hk0 : Nat.ble n (2 ^ k) = true) (h1 : pw n a k (n - 1) = 1) (h2 : Nat.gcd (pw n a k ((n - 1) / q) + (n - 1)) n = 1) (h3 : Nat.gcd (pw n a k ((n - 1) / s) + (n - 1)) n = 1)
 (hb : n < (q * s + 1) * (q * s + 1)) : Prime n := by
 have hle : (n - 1) / q ≤ n - 1 := Nat.div_le_self _ _
 have hle2 : (n - 1) / s ≤ n - 1 := Nat.div_le_self _ _
 have hk := Nat.le_of_ble_eq_true hk0
 have hk := Nat.le_of_ble_eq_true hk0
 rw [pw_eq k _ (by omega)] at h1 h2 h3
 exact pock2 hn hq hs hne (Nat.dvd_of_mod_eq_zero hqn) (Nat.dvd_of_mod_eq_zero hsn) h1 h2 h3 hb
theorem p704251 : Prime 704251 := prime_trial (k := 839) (by decide) (by kernel_rfl) (by decide)
theorem p78283 : Prime 78283 := prime_trial (k := 279) (by decide) (by kernel_rfl) (by decide)
theorem q4607695696 : Prime 46076956964474543 := pock2' (q := 704251) (s := 78283) (a := 2) (k := 56) (by decide) p704251 p78283 (by decide) (by kernel_rfl) (by kernel_rfl) (by kernel_rfl) (by kernel_rfl) (by kernel_rfl) (by kernel_rfl) (by decide)
theorem p3677 : Prime 3677 := prime_trial (k := 60) (by decide) (by kernel_rfl) (by decide)
theorem p197 : Prime 197 := prime_trial (k := 14) (by decide) (by kernel_rfl) (by decide)
theorem p66417393611 : Prime 66417393611 := pock2' (q := 3677) (s := 197) (a := 2) (k := 36) (by decide) p3677 p197 (by decide) (by kernel_rfl) (by kernel_rfl) (by kernel_rfl) (by kernel_rfl) (by kernel_rfl) (by kernel_rfl) (by decide)
theorem q1129095691 : Prime 11290956913871 := pock1' (q := 66417393611) (a := 2) (k := 44) (by decide) p66417393611 (by kernel_rfl) (by kernel_rfl) (by kernel_rfl) (by kernel_rfl) (by decide)
theorem q7740231872 : Prime 774023187263532362759620327192479577272145303 := pock2' (q := 46076956964474543) (s := 11290956913871) (a := 2) (k := 150) (by decide) q4607695696 q1129095691 (by decide) (by kernel_rfl) (by kernel_rfl) (by kernel_rfl) (by kernel_rfl) (by kernel_rfl) (by kernel_rfl) (by decide)
theorem q8359450422 : Prime 835945042244614951780389953367877943453916927241 := pock1' (q := 774023187263532362759620327192479577272145303) (a := 2) (k := 160) (by decide) q7740231872 (by kernel_rfl) (by kernel_rfl) (by kernel_rfl) (by kernel_rfl) (by decide)
theorem p256 : Prime 115792089210356248762697446949407573530086143415290314195533631308867097853951 := pock1' (q := 835945042244614951780389953367877943453916927241) (a := 2) (k := 256) (by decide) q8359450422 (by kernel_rfl) (by kernel_rfl) (by kernel_rfl) (by kernel_rfl) (by decide)
theorem p363557 : Prime 363557 := prime_trial (k := 602) (by decide) (by kernel_rfl) (by decide)
theorem p532247449 : Prime 532247449 := pock1' (q := 363557) (a := 2) (k := 29) (by decide) p363557 (by kernel_rfl) (by kernel_rfl) (by kernel_rfl) (by kernel_rfl) (by decide)
theorem q4492594267 : Prime 44925942675193 := pock1' (q := 532247449) (a := 2) (k := 46) (by decide) p532247449 (by kernel_rfl) (by kernel_rfl) (by kernel_rfl) (by kernel_rfl) (by decide)
theorem q3558145864 : Prime 35581458644053887931343 := pock1' (q := 44925942675193) (a := 2) (k := 75) (by decide) q4492594267 (by kernel_rfl) (by kernel_rfl) (by kernel_rfl) (by kernel_rfl) (by decide)
theorem q2396461053 : Prime 23964610537191310276190549303 := pock1' (q := 35581458644053887931343) (a := 2) (k := 95) (by decide) q3558145864 (by kernel_rfl) (by kernel_rfl) (by kernel_rfl) (by kernel_rfl) (by decide)
theorem q8627259793 : Prime 862725979338887169942859774909 := pock1' (q := 23964610537191310276190549303) (a := 2) (k := 100) (by decide) q2396461053 (by kernel_rfl) (by kernel_rfl) (by kernel_rfl) (by kernel_rfl) (by decide)
theorem q2070542350 : Prime 20705423504133292078628634597817 := pock1' (q := 862725979338887169942859774909) (a := 2) (k := 105) (by decide) q8627259793 (by kernel_rfl) (by kernel_rfl) (by kernel_rfl) (by kernel_rfl) (by decide)
theorem q4132446198 : Prime 413244619895455989650825325680172591660047 := pock1' (q := 20705423504133292078628634597817) (a := 2) (k := 139) (by decide) q2070542350 (by kernel_rfl) (by kernel_rfl) (by kernel_rfl) (by kernel_rfl) (by decide)
theorem q1239733859 : Prime 12397338596863679689524759770405177749801411 := pock1' (q := 413244619895455989650825325680172591660047) (a := 2) (k := 144) (by decide) q4132446198 (by kernel_rfl) (by kernel_rfl) (by kernel_rfl) (by kernel_rfl) (by decide)
theorem p21407 : Prime 21407 := prime_trial (k := 146) (by decide) (by kernel_rfl) (by decide)
theorem p246608641 : Prime 246608641 := pock1' (q := 21407) (a := 2) (k := 28) (by decide) p21407 (by kernel_rfl) (by kernel_rfl) (by kernel_rfl) (by kernel_rfl) (by decide)
theorem p881 : Prime 881 := prime_trial (k := 29) (by decide) (by kernel_rfl) (by decide)
theorem p211 : Prime 211 := prime_trial (k := 14) (by decide) (by kernel_rfl) (by decide)
theorem p105957871 : Prime 105957871 := pock2' (q := 881) (s := 211) (a := 2) (k := 27) (by decide) p881 p211 (by decide) (by kernel_rfl) (by kernel_rfl) (by kernel_rfl) (by kernel_rfl) (by kernel_rfl) (by kernel_rfl) (by decide)
theorem q5297099258 : Prime 529709925838459440593 := pock2' (q := 246608641) (s := 105957871) (a := 2) (k := 69) (by decide) p246608641 p105957871 (by decide) (by kernel_rfl) (by kernel_rfl) (by kernel_rfl) (by kernel_rfl) (by kernel_rfl) (by kernel_rfl) (by decide)
theorem q1917379029 : Prime 19173790298027098165721053155794528970226934547887232785722672956982046098136719667167519737147526097 := pock2' (q := 12397338596863679689524759770405177749801411) (s := 529709925838459440593) (a := 2) (k := 334) (by decide) q1239733859 q5297099258 (by decide) (by kernel_rfl) (by kernel_rfl) (by kernel_rfl) (by kernel_rfl) (by kernel_rfl) (by kernel_rfl) (by decide)
theorem p384 : Prime 39402006196394479212279040100143613805079739270465446667948293404245721771496870329047266088258938001861606973112319 := pock1' (q := 19173790298027098165721053155794528970226934547887232785722672956982046098136719667167519737147526097) (a := 2) (k := 384) (by decide) q1917379029 (by kernel_rfl) (by kernel_rfl) (by kernel_rfl) (by kernel_rfl) (by decide)
end Pm
end Go.Proofs.Ytldhmjfjbalakaa

namespace Go.Proofs.Ytldhmjfjbalakaa
namespace Gl
section
variable {p : Nat} [NeZero p]
def ph (n : Nat) : Fin p := Fin.ofNat p n
theorem ph_val (n : Nat) : (ph (p := p) n).val = n % p := rfl
theorem ph_add (a b : Nat) : ph (p := p) (a + b) = ph a + ph b := Fin.ext (by rw [Fin.val_add, ph_val, ph_val, ph_val, ← Nat.add_mod])
theorem ph_mul (a b : Nat) : ph (p := p) (a * b) = ph a * ph b := Fin.ext (by rw [Fin.val_mul, ph_val, ph_val, ph_val, ← Nat.mul_mod])
theorem ph_mod (a : Nat) : ph (p := p) (a % p) = ph a := Fin.ext (by rw [ph_val, ph_val, Nat.mod_mod])
theorem ph_self : ph (p := p) p = 0 := Fin.ext (by rw [ph_val, Nat.mod_self]; rfl)
theorem ph_sub {a b : Nat} (h : b ≤ a) : ph (p := p) (a - b) = ph a - ph b := by
 have := ph_add (p := p) (a - b) b
 rw [Nat.sub_add_cancel h] at this
 grind
theorem ph0 : ph (p := p) 0 = 0 := rfl
theorem ph1 : ph (p := p) 1 = 1 := rfl
theorem ph_zero {a : Nat} : ph (p := p) a = 0 ↔ a % p = 0 := ⟨fun h => by have := congrArg Fin.val h; rw [ph_val] at this; rw [this]; exact Nat.zero_mod p, fun h => Fin.ext (by rw [ph_val, h]; exact (Nat.zero_mod p).symm)⟩
theorem ph_inj {a b : Nat} (ha : a < p) (hb : b < p) (h : ph (p := p) a = ph b) : a = b := by
 have := congrArg Fin.val h
 rwa [ph_val, ph_val, Nat.mod_eq_of_lt ha, Nat.mod_eq_of_lt hb] at this
theorem ph_of_val (x : Fin p) : ph x.val = x := Fin.ofNat_val_eq_self x
def ivp (x : Fin p) : Fin p := ph (x.val ^ (p - 2))
abbrev T3 := Nat × Nat × Nat
def cm (M q : Nat) (a c : T3) : T3 := ((a.1 * c.1 + (a.2.1 * c.2.2 + a.2.2 * c.2.1) * (M - q)) % M, (a.1 * c.2.1 + a.2.1 * c.1 + 3 * (a.2.1 * c.2.2 + a.2.2 * c.2.1) + a.2.2 * c.2.2 * (M - q)) % M, (a.1 * c.2.2 + a.2.1 * c.2.1 + a.2.2 * c.1 + 3 * (a.2.2 * c.2.2)) % M)
def cpw (M q : Nat) : Nat → Nat → T3
 | 0, _ => (1, 0, 0)
 | k + 1, e => if e % 2 = 1 then cm M q (cm M q (cpw M q k (e / 2)) (cpw M q k (e / 2))) (0, 1, 0) else cm M q (cpw M q k (e / 2)) (cpw M q k (e / 2))
def less (M : Nat) (r : T3) : T3 := (r.1, r.2.1 + (M - 1), r.2.2)
def rootChk (M q k : Nat) (U : T3) : Bool := Nat.ble q M && Nat.ble (M + 1) (2 ^ k) && (cm M q U (less M (cpw M q k M)) == (1, 0, 0))
def ev (x : Fin p) (a : T3) : Fin p := ph a.1 + ph a.2.1 * x + ph a.2.2 * (x * x)
theorem ev_cm {q : Nat} (hq : q ≤ p) {x : Fin p} (hx : x * x * x - 3 * x + ph q = 0) (a c : T3) : ev x (cm p q a c) = ev x a * ev x c := by
 unfold ev cm
 simp only [ph_mod, ph_add, ph_mul, ph_sub hq, ph_self]
 rw [show (ph (p := p) 3) = 3 from rfl]
 generalize (ph a.1 : Fin p) = a0, (ph a.2.1 : Fin p) = a1, (ph a.2.2 : Fin p) = a2, (ph c.1 : Fin p) = c0, (ph c.2.1 : Fin p) = c1, (ph c.2.2 : Fin p) = c2, (ph q : Fin p) = b at *
 exact via hx (k := 0 - (a1 * c2 + a2 * c1) - a2 * c2 * x) (by clear hx; grind)
def pf (x : Fin p) : Nat → Fin p
 | 0 => 1
 | n + 1 => pf x n * x
theorem pf_add (x : Fin p) (m : Nat) : ∀ n, pf x (m + n) = pf x m * pf x n
 | 0 => (Fin.mul_one _).symm
 | n + 1 => by show pf x (m + n) * x = pf x m * (pf x n * x); rw [pf_add x m n]; grind
theorem pf_val (x : Fin p) : ∀ n, (pf x n).val = x.val ^ n % p
 | 0 => rfl
 | n + 1 => by show (pf x n * x).val = _; rw [Fin.val_mul, pf_val x n, Nat.pow_succ, Nat.mod_mul_mod]
theorem ev_cpw {q : Nat} (hq : q ≤ p) {x : Fin p} (hx : x * x * x - 3 * x + ph q = 0) : ∀ k e, e < 2 ^ k → ev x (cpw p q k e) = pf x e
  | 0, e, h => by
    have : e = 0 := by omega
    subst this
    show ph 1 + ph 0 * x + ph 0 * (x * x) = 1
    rw [ph0, ph1]
    grind
  | k + 1, e, h => by
    have hd : e / 2 < 2 ^ k := by rw [Nat.pow_succ] at h; omega
    have h1 := Nat.div_add_mod e 2
    simp only [cpw]
    have e2 : ev x (cpw p q k (e / 2)) * ev x (cpw p q k (e / 2)) = pf x (e / 2 + e / 2) := by rw [ev_cpw hq hx k _ hd, pf_add]
    split
    · rename_i ho
      rw [ev_cm hq hx, ev_cm hq hx, e2, show e = (e / 2 + e / 2) + 1 by omega]
      show _ = pf x (e / 2 + e / 2) * x
      rw [show (e / 2 + e / 2 + 1) / 2 = e / 2 by omega]
      have : ev x (0, 1, 0) = x := by
        show ph 0 + ph 1 * x + ph 0 * (x * x) = x
        rw [ph0, ph1]
        grind
      rw [this]
    · rw [ev_cm hq hx, e2]
      congr 1
      omega
theorem no_root (hp : Pm.Prime p) {q k : Nat} {U : T3} (h : rootChk p q k U = true) (x : Fin p) : x * x * x - 3 * x + ph q ≠ 0 := by
 intro hx
 unfold rootChk at h
 rw [Bool.and_eq_true, Bool.and_eq_true] at h
 obtain ⟨⟨h1, h2⟩, h3⟩ := h
 have hq := Nat.le_of_ble_eq_true h1
 have hk : p < 2 ^ k := Nat.le_of_ble_eq_true h2
 have e := ev_cm hq hx U (less p (cpw p q k p))
 rw [eq_of_beq h3] at e
 have el : ev x (less p (cpw p q k p)) = ev x (cpw p q k p) - x := by
  unfold ev less
  simp only [ph_add, ph_sub (show 1 ≤ p from NeZero.lt), ph_self, ph1]
  grind
 have ef : pf x p = x := Fin.ext (by rw [pf_val, Pm.fermat0 hp, Nat.mod_eq_of_lt x.isLt])
 rw [el, ev_cpw hq hx k p hk, ef] at e
 have e1 : ev x (1, 0, 0) = 1 := by
  show ph 1 + ph 0 * x + ph 0 * (x * x) = 1
  rw [ph0, ph1]
  grind
 rw [e1] at e
 have h10 : (1 : Fin p) = 0 := by grind
 have := congrArg Fin.val h10
 have h2p := hp.two
 rw [show ((1 : Fin p)).val = 1 % p from rfl, show ((0 : Fin p)).val = 0 % p from rfl, Nat.zero_mod, Nat.mod_eq_of_lt (by omega)] at this
 omega
theorem cv_of (hp : Pm.Prime p) (h3 : 2 < p) {q k : Nat} {U : T3} (h : rootChk p q k U = true) : Cv ivp (ph (p := p) q) := by
 have nz : ∀ {x : Fin p}, x ≠ 0 → ¬ p ∣ x.val := fun {x} hx hd => hx (Fin.ext (by have := Nat.eq_zero_of_dvd_of_lt hd x.isLt; rw [this]; exact (Nat.zero_mod p).symm))
 refine ⟨fun x y e => ?_, fun x hx => ?_, fun e => ?_, fun e => ?_, no_root hp h⟩
 · have := congrArg Fin.val e
   rw [Fin.val_mul, show ((0 : Fin p)).val = 0 % p from rfl, Nat.zero_mod] at this
   refine Decidable.byContradiction fun hn => ?_
   have hn := not_or.1 hn
   exact (hp.dvd_mul (Nat.dvd_of_mod_eq_zero this)).elim (nz hn.1) (nz hn.2)
 · refine Fin.ext ?_
   rw [Fin.val_mul]
   show x.val * (x.val ^ (p - 2) % p) % p = 1 % p
   rw [Pm.inv_mul hp (nz hx), Nat.mod_eq_of_lt (by omega)]
 · have := congrArg Fin.val e
   rw [show ((1 : Fin p)).val = 1 % p from rfl, show ((0 : Fin p)).val = 0 % p from rfl, Nat.zero_mod, Nat.mod_eq_of_lt (by omega)] at this
   omega
 · have := congrArg Fin.val e
   rw [show ((2 : Fin p)).val = 2 % p from rfl, show ((0 : Fin p)).val = 0 % p from rfl, Nat.zero_mod, Nat.mod_eq_of_lt h3] at this
   omega
end
theorem root256 : rootChk 115792089210356248762697446949407573530086143415290314195533631308867097853951 41058363725152142129326129780047268409114441015993725554835256314039467401291 256 (76626890310466861426869089647039036757962535851890885406097439786770458211455, 74462945259064871768191128030512052509059297803194871526163573358218695456204, 34768139465301476436978405170953382516735956999154666452188405812258086013549) = true := by kernel_rfl
theorem root384 : rootChk 39402006196394479212279040100143613805079739270465446667948293404245721771496870329047266088258938001861606973112319 27580193559959705877849011840389048093056905856361568521428707301988689241309860865136260764883745107765439761230575 384 (23037766613497683937702734290281044719364893268180251583910224888989381657771069200037813904257325918671976092329602, 8235438212423615602427778915669574859600037698862346933589434399495169446996583974901273360826717582835190849638831, 12157362177932134139146813183752135342286725243554133716818896354380897714709611791313184492360272402950851405460538) = true := by kernel_rfl
end Gl
end Go.Proofs.Ytldhmjfjbalakaa

namespace Go.Proofs.Ytldhmjfjbalakaa
namespace Gl
section
variable {p : Nat} [NeZero p] {iv : Fin p → Fin p} {b : Fin p}
def Rp (X Y Z : Fin p) (P : Pt p) : Prop := (Z = 0 ∧ P = none) ∨ (Z ≠ 0 ∧ ∃ x y, P = some (x, y) ∧ X = x * (Z * Z) ∧ Y = y * (Z * Z * Z))
theorem Cv.nz (h : Cv iv b) {x y : Fin p} (hx : x ≠ 0) (hy : y ≠ 0) : x * y ≠ 0 := fun e => (h.dom _ _ e).elim hx hy
theorem Rp.some_ {X Y Z x y : Fin p} (hz : Z ≠ 0) (h1 : X = x * (Z * Z)) (h2 : Y = y * (Z * Z * Z)) : Rp X Y Z (some (x, y)) := Or.inr ⟨hz, x, y, rfl, h1, h2⟩
theorem ad_self (x y : Fin p) : ad iv (some (x, y)) (some (x, y)) = some (thr x y x ((3 * (x * x) - 3) * iv (2 * y))) := by
 show (if x = x then (if y = y then _ else _) else _) = _
 rw [if_pos rfl, if_pos rfl]
theorem ad_opp {x y z : Fin p} (hy : y ≠ z) : ad iv (some (x, y)) (some (x, z)) = none := by
 show (if x = x then (if y = z then _ else _) else _) = _
 rw [if_pos rfl, if_neg hy]
theorem ad_chord {x1 y1 x2 y2 : Fin p} (hx : x1 ≠ x2) : ad iv (some (x1, y1)) (some (x2, y2)) = some (thr x1 y1 x2 ((y2 - y1) * iv (x2 - x1))) := by
 show (if x1 = x2 then _ else _) = _
 rw [if_neg hx]
theorem dbl_ring {x y l Z A : Fin p} (hl : 2 * y * l = 3 * (x * x) - 3) (hA : A = 3 * ((x * (Z * Z) - Z * Z) * (x * (Z * Z) + Z * Z))) :
 A * A - 8 * (x * (Z * Z) * ((y * (Z * Z * Z)) * (y * (Z * Z * Z)))) = (thr x y x l).1 * ((2 * (y * (Z * Z * Z)) * Z) * (2 * (y * (Z * Z * Z)) * Z)) ∧
 A * (4 * (x * (Z * Z) * ((y * (Z * Z * Z)) * (y * (Z * Z * Z)))) - (thr x y x l).1 * ((2 * (y * (Z * Z * Z)) * Z) * (2 * (y * (Z * Z * Z)) * Z))) - 8 * (((y * (Z * Z * Z)) * (y * (Z * Z * Z))) * ((y * (Z * Z * Z)) * (y * (Z * Z * Z)))) = (thr x y x l).2 * ((2 * (y * (Z * Z * Z)) * Z) * (2 * (y * (Z * Z * Z)) * Z) * (2 * (y * (Z * Z * Z)) * Z)) := by
 have e : A = (2 * y * l) * (Z * Z * (Z * Z)) := by rw [hl, hA]; clear hl hA; grind
 clear hl hA
 subst e
 unfold thr
 exact ⟨by grind, by grind⟩
theorem Cv.dbl (h : Cv iv b) {X Y Z X' Y' Z' A : Fin p} {P : Pt p} (hr : Rp X Y Z P) (hP : On b P) (hA : A = 3 * ((X - Z * Z) * (X + Z * Z)))
 (hX : X' = A * A - 8 * (X * (Y * Y))) (hY : Y' = A * (4 * (X * (Y * Y)) - X') - 8 * (Y * Y * (Y * Y))) (hZ : Z' = 2 * Y * Z) : Rp X' Y' Z' (ad iv P P) := by
 rcases hr with ⟨rfl, rfl⟩ | ⟨hz, x, y, rfl, rfl, rfl⟩
 · exact Or.inl ⟨by rw [hZ]; exact Fin.mul_zero _, rfl⟩
 · rw [ad_self]
   have hr := (h.tang hP).r
   have hy := h.y0 hP
   generalize (3 * (x * x) - 3) * iv (2 * y) = l at *
   obtain ⟨e1, e2⟩ := dbl_ring (x := x) (y := y) (l := l) (Z := Z) (A := A) (by grind) hA
   rw [← hX] at e1
   rw [← e1, ← hY] at e2
   rw [← hZ] at e1 e2
   exact Rp.some_ (by rw [hZ]; exact h.nz (h.nz h.two (h.nz hy (h.nz (h.nz hz hz) hz))) hz) e1 e2
theorem add_ring {x1 y1 x2 l W H R : Fin p} (hH : H = (x2 - x1) * (W * W)) (hR : R = l * (x2 - x1) * (W * W * W)) :
 R * R - H * H * H - (x1 * (W * W) * (H * H) + x1 * (W * W) * (H * H)) = (thr x1 y1 x2 l).1 * (H * W * (H * W)) ∧
 R * (x1 * (W * W) * (H * H) - (thr x1 y1 x2 l).1 * (H * W * (H * W))) - y1 * (W * W * W) * (H * H * H) = (thr x1 y1 x2 l).2 * (H * W * (H * W) * (H * W)) := by
 subst hH hR
 unfold thr
 exact ⟨by grind, by grind⟩
theorem Cv.add (h : Cv iv b) {X1 Y1 Z1 X2 Y2 Z2 H R U S X' Y' Z' : Fin p} {x1 y1 x2 y2 : Fin p} (hz1 : Z1 ≠ 0) (hz2 : Z2 ≠ 0)
 (hX1 : X1 = x1 * (Z1 * Z1)) (hY1 : Y1 = y1 * (Z1 * Z1 * Z1)) (hX2 : X2 = x2 * (Z2 * Z2)) (hY2 : Y2 = y2 * (Z2 * Z2 * Z2)) (hP : Oc b x1 y1) (hQ : Oc b x2 y2)
 (hU : U = X1 * (Z2 * Z2)) (hS : S = Y1 * (Z2 * Z2 * Z2)) (hH : H = X2 * (Z1 * Z1) - U) (hR : R = Y2 * (Z1 * Z1 * Z1) - S) :
 (H = 0 ↔ x1 = x2) ∧ (R = 0 ↔ y1 = y2) ∧ (H ≠ 0 → X' = R * R - H * H * H - (U * (H * H) + U * (H * H)) → Y' = R * (U * (H * H) - X') - S * (H * H * H) → Z' = H * (Z1 * Z2) → Rp X' Y' Z' (ad iv (some (x1, y1)) (some (x2, y2)))) := by
 have hw : Z1 * Z2 ≠ 0 := h.nz hz1 hz2
 have eU : U = x1 * (Z1 * Z2 * (Z1 * Z2)) := by rw [hU, hX1]; clear hU hS hH hR hX1 hX2 hY1 hY2 hP hQ; grind
 have eS : S = y1 * (Z1 * Z2 * (Z1 * Z2) * (Z1 * Z2)) := by rw [hS, hY1]; clear hU hS hH hR hX1 hX2 hY1 hY2 hP hQ eU; grind
 have eH : H = (x2 - x1) * (Z1 * Z2 * (Z1 * Z2)) := by rw [hH, eU, hX2]; clear hU hS hH hR hX1 hX2 hY1 hY2 hP hQ eU eS; grind
 have eR : R = (y2 - y1) * (Z1 * Z2 * (Z1 * Z2) * (Z1 * Z2)) := by rw [hR, eS, hY2]; clear hU hS hH hR hX1 hX2 hY1 hY2 hP hQ eU eS eH; grind
 clear hU hS hH hR hX1 hX2 hY1 hY2 hz1 hz2
 generalize Z1 * Z2 = W at *
 have hH0 : H = 0 ↔ x1 = x2 := by
  constructor
  · intro e
    rw [eH] at e
    have := (h.dom _ _ e).resolve_right (h.nz hw hw)
    grind
  · rintro rfl
    rw [eH]
    grind
 refine ⟨hH0, ?_, fun hH hX hY hZ => ?_⟩
 · constructor
   · intro e
     rw [eR] at e
     have := (h.dom _ _ e).resolve_right (h.nz (h.nz hw hw) hw)
     grind
   · rintro rfl
     rw [eR]
     grind
 · have hx : x1 ≠ x2 := fun e => hH (hH0.2 e)
   rw [ad_chord hx]
   have hd := (h.chord hP hQ hx).hd
   generalize (y2 - y1) * iv (x2 - x1) = l at *
   have eR' : R = l * (x2 - x1) * (W * W * W) := by rw [eR, hd]; grind
   obtain ⟨e1, e2⟩ := add_ring (x1 := x1) (y1 := y1) (x2 := x2) (l := l) (W := W) eH eR'
   rw [← eU] at e1 e2
   rw [← eS] at e2
   rw [← hX] at e1
   rw [← e1, ← hY] at e2
   rw [← hZ] at e1 e2
   exact Rp.some_ (by rw [hZ]; exact h.nz hH hw) e1 e2
theorem Rp.back {X Y Z x y v : Fin p} (h : Rp X Y Z (some (x, y))) (hv : Z * v = 1) : X * (v * v) = x ∧ Y * (v * v * v) = y := by
 rcases h with ⟨-, h⟩ | ⟨hz, x', y', e, rfl, rfl⟩
 · exact absurd h (by simp)
 · obtain ⟨rfl, rfl⟩ : x = x' ∧ y = y' := by simpa using e
   have e1 : x * (Z * Z) * (v * v) = x * ((Z * v) * (Z * v)) := by clear hv e; grind
   have e2 : y * (Z * Z * Z) * (v * v * v) = y * ((Z * v) * (Z * v) * (Z * v)) := by clear hv e; grind
   rw [e1, e2, hv]
   exact ⟨by grind, by grind⟩
theorem Rp.none_iff {X Y Z : Fin p} {P : Pt p} (h : Rp X Y Z P) : Z = 0 ↔ P = none := by
 rcases h with ⟨h1, h2⟩ | ⟨h1, x, y, rfl, -⟩
 · exact ⟨fun _ => h2, fun _ => h1⟩
 · exact ⟨fun e => absurd e h1, fun e => by simp at e⟩
theorem Rp.up (h1 : (1 : Fin p) ≠ 0) (x y : Fin p) : Rp x y 1 (some (x, y)) := Rp.some_ h1 (by grind) (by grind)
end
end Gl
end Go.Proofs.Ytldhmjfjbalakaa

namespace Go.Proofs.Ytldhmjfjbalakaa
open Go.RowKit
def z85 : Array Value := Array.replicate 288 (.int .u64 0)
theorem info85s : (Try.prog.info? 85).map (·.size) = some 288 := by kernel_rfl
theorem z85_size : z85.size = 288 := by kernel_rfl
def JRow (C : Crv) (X : World) (b i : Nat) (p : Nat × Nat × Nat) : Prop := ∃ x y z, X.rangeAt b (18 * i) (nts (x ++ y ++ z)) ∧ FJ C.M C.n x y z p.1 p.2.1 p.2.2
structure TabAt (C : Crv) (X : World) (b : Nat) (t : Nat → Nat × Nat × Nat) (n : Nat) : Prop where
 blk : ∃ cs : Array Value, X.heap[b]? = some (.cells cs 85 (0, 0)) ∧ cs.size = 288
 row : ∀ i, i < n → JRow C X b i (t i)
section
variable {C : Crv} {X Y : World} {b n : Nat} {t : Nat → Nat × Nat × Nat}
theorem TabAt.lt (h : TabAt C X b t n) : b < X.heap.size := by
 obtain ⟨cs, hb, _⟩ := h.blk
 exact blk_lt hb
theorem TabAt.same (h : TabAt C X b t n) (hb : Y.heap[b]? = X.heap[b]?) : TabAt C Y b t n := by
 obtain ⟨cs, h1, h2⟩ := h.blk
 refine ⟨⟨cs, hb.trans h1, h2⟩, fun i hi => ?_⟩
 obtain ⟨x, y, z, hr, hf⟩ := h.row i hi
 exact ⟨x, y, z, fun j v hv => (World.cell?_of_block hb).trans (hr j v hv), hf⟩
theorem TabAt.ext (h : TabAt C X b t n) (hE : Ext X Y) : TabAt C Y b t n := h.same (Below.block hE b h.lt)
theorem TabAt.just {g : Nat} (h : TabAt C X b t n) (hj : Just g X Y) (hg : b ≠ g) : TabAt C Y b t n := h.same (hj.block b h.lt hg)
theorem len18 {x y z : List Nat} {M m : Nat} {p : Nat × Nat × Nat} (h : FJ M m x y z p.1 p.2.1 p.2.2) : (nts (x ++ y ++ z)).length = 18 := by
 rw [nts_length, List.length_append, List.length_append, h.x.elt.six, h.y.elt.six, h.z.elt.six]
theorem wp_loadT {op : Oper} {a : Act} {K : Act → World → Prop} {Q : Exit → Act → World → Prop} (x : Operand) (ho : op.op = .load 83 x) {i : Nat} (h : TabAt C X b t n) (hi : i < n) {o : Nat} (hoi : 18 * i = o) (hx : a.eval x = .pointer (some ⟨b, o, none⟩)) (hK : ∀ v, JAt C v (t i) → K (a.put op.dst v) X) : op.wp Try.prog a X K Q := by
 obtain ⟨lx, ly, lz, hr, hf⟩ := h.row i hi
 subst hoi
 exact wp_load_mid 83 x ho b (18 * i) hx _ _ hr Try.underlying83 rfl (by rw [len18 hf]; exact infoJ) (hK _ ⟨lx, ly, lz, rfl, hf⟩)
theorem set_blk {T : TypeId} (b : Nat) : ∀ (vs : List Value) (o : Nat) (X : World) (cs : Array Value), X.heap[b]? = some (.cells cs T (0, 0)) → ∃ ds : Array Value, (X.setCells b o vs).heap[b]? = some (.cells ds T (0, 0)) ∧ ds.size = cs.size
  | [], _, X, cs, h => ⟨cs, h, rfl⟩
  | v :: vs, o, X, cs, h => by
    obtain ⟨ds, h1, h2⟩ := set_blk b vs (o + 1) (X.setCell ⟨b, o, none⟩ v) _ (blk_set h o v)
    exact ⟨ds, h1, by rw [h2]; simp⟩
theorem setCells_just (b : Nat) : ∀ (vs : List Value) (o : Nat) (X : World), Just b X (X.setCells b o vs) ∧ (X.setCells b o vs).heap.size = X.heap.size
  | [], _, X => ⟨Just.refl b X, rfl⟩
  | v :: vs, o, X => by
    obtain ⟨h1, h2⟩ := setCells_just b vs (o + 1) (X.setCell ⟨b, o, none⟩ v)
    exact ⟨((Just.refl b X).set o v).trans h1, h2.trans (by simp [World.setCell])⟩
theorem wp_storeT {op : Oper} {a : Act} {K : Act → World → Prop} {Q : Exit → Act → World → Prop} (x y : Operand) (ho : op.op = .store 83 x y) (hd : op.dst = none) (h : TabAt C X b t n) (hn : n < 16) {v : Value} (hv : JAt C v (t n)) {o : Nat} (hoi : 18 * n = o) (hx : a.eval x = .pointer (some ⟨b, o, none⟩)) (hy : a.eval y = v)
 (hK : ∀ Y, TabAt C Y b t (n + 1) → Just b X Y → Y.heap.size = X.heap.size → K a Y) : op.wp Try.prog a X K Q := by
 obtain ⟨lx, ly, lz, rfl, hf⟩ := hv
 obtain ⟨cs, hb, hs⟩ := h.blk
 subst hoi
 have hl := len18 hf
 have ht : X.there b (18 * n) (nts (lx ++ ly ++ lz)).toArray.size := fun j hj => by
  rw [List.size_toArray, hl] at hj
  refine ⟨?_, blk_free hb _⟩
  rw [blk_cell hb]
  simp [hs]
  omega
 refine wp_store_mid 83 x y ho b (18 * n) _ hx hy ht (by rw [List.size_toArray, hl]; exact infoJ) (all_one _) ?_
 rw [hd]
 obtain ⟨h1, h2⟩ := setCells_just b (nts (lx ++ ly ++ lz)) (18 * n) X
 refine hK _ ⟨?_, fun i hi => ?_⟩ h1 h2
 · obtain ⟨ds, h3, h4⟩ := set_blk b (nts (lx ++ ly ++ lz)) (18 * n) X cs hb
   exact ⟨ds, h3, h4.trans hs⟩
 · rcases Nat.lt_or_ge i n with hlt | hge
   · obtain ⟨mx, my, mz, hr, hg⟩ := h.row i hlt
     exact ⟨mx, my, mz, World.rangeAt_setCells_apart hr _ _ _ (.inr (.inl (by rw [len18 hg]; omega))), hg⟩
   · obtain rfl : i = n := by omega
     exact ⟨lx, ly, lz, World.rangeAt_setCells_same _ _ _ _ (by rwa [List.size_toArray] at ht), hf⟩
end
theorem six3 {l : List Nat} (h : l.length = 18) : ∃ a0 a1 a2 a3 a4 a5 a6 a7 a8 a9 b0 b1 b2 b3 b4 b5 b6 b7, l = [a0, a1, a2, a3, a4, a5, a6, a7, a8, a9, b0, b1, b2, b3, b4, b5, b6, b7] := by
 match l, h with
 | [a0, a1, a2, a3, a4, a5, a6, a7, a8, a9, b0, b1, b2, b3, b4, b5, b6, b7], _ => exact ⟨_, _, _, _, _, _, _, _, _, _, _, _, _, _, _, _, _, _, rfl⟩
theorem built85 {x y : List Nat} (hx : x.length = 18) (hy : y.length = 18) : Try.prog.built 85 [(0, .agg (nts x).toArray), (1, .agg (nts y).toArray)] = some (nts (x ++ y ++ List.replicate 252 0)).toArray := by
 obtain ⟨a0, a1, a2, a3, a4, a5, a6, a7, a8, a9, b0, b1, b2, b3, b4, b5, b6, b7, rfl⟩ := six3 hx
 obtain ⟨c0, c1, c2, c3, c4, c5, c6, c7, c8, c9, d0, d1, d2, d3, d4, d5, d6, d7, rfl⟩ := six3 hy
 kernel_rfl
theorem wp_build85 {C : Crv} {op : Oper} {a : Act} {X : World} {K : Act → World → Prop} {Q : Exit → Act → World → Prop} (p q : Operand) (ho : op.op = .build 85 #[(0, p), (1, q)]) {v u : Value} {x y : Nat × Nat × Nat} (hp : a.eval p = v) (hq : a.eval q = u) (hv : JAt C v x) (hu : JAt C u y)
 (hK : ∀ cs : Array Value, cs.size = 288 → cs.all (·.oneCell') = true → (∀ W b, W.heap[b]? = some (.cells cs 85 (0, 0)) → ∀ t : Nat → Nat × Nat × Nat, t 0 = x → t 1 = y → TabAt C W b t 2) → K (a.put op.dst (.agg cs)) X) : op.wp Try.prog a X K Q := by
 obtain ⟨x1, x2, x3, rfl, hf⟩ := hv
 obtain ⟨y1, y2, y3, rfl, hg⟩ := hu
 have hlx : (x1 ++ x2 ++ x3).length = 18 := by have := len18 hf; rwa [nts_length] at this
 have hly : (y1 ++ y2 ++ y3).length = 18 := by have := len18 hg; rwa [nts_length] at this
 have hb : (#[(0, p), (1, q)].map fun (i, x) => (i, a.eval x)).toList = [(0, .agg (nts (x1 ++ x2 ++ x3)).toArray), (1, .agg (nts (y1 ++ y2 ++ y3)).toArray)] := by simp [hp, hq, JV]
 have hs : (x1 ++ x2 ++ x3 ++ (y1 ++ y2 ++ y3) ++ List.replicate 252 0).length = 288 := by rw [List.length_append, List.length_append, hlx, hly, List.length_replicate]
 refine wp_build 85 #[(0, p), (1, q)] ho (by rw [hb, built85 hlx hly]; rfl) ?_
 rw [hb, built85 hlx hly, Option.getD_some]
 refine hK _ (by rw [List.size_toArray, nts_length, hs]) (all_one _) fun W b h t h0 h1 => ⟨⟨_, h, by rw [List.size_toArray, nts_length, hs]⟩, fun i hi => ?_⟩
 have key : ∀ pre l post : List Nat, x1 ++ x2 ++ x3 ++ (y1 ++ y2 ++ y3) ++ List.replicate 252 0 = pre ++ l ++ post → W.rangeAt b pre.length (nts l) := fun pre l post e j v hv => by
  rw [blk_cell h, e, List.getElem?_toArray, nts_append, nts_append, List.append_assoc, List.getElem?_append_right (by rw [nts_length]; omega), nts_length, Nat.add_sub_cancel_left, List.getElem?_append_left, hv]
  exact (List.getElem?_eq_some_iff.1 hv).1
 rcases (show i = 0 ∨ i = 1 by omega) with rfl | rfl
 · rw [h0]
   exact ⟨x1, x2, x3, by have := key [] (x1 ++ x2 ++ x3) _ (by rw [List.nil_append, List.append_assoc]); simpa using this, hf⟩
 · rw [h1]
   exact ⟨y1, y2, y3, by have := key (x1 ++ x2 ++ x3) (y1 ++ y2 ++ y3) _ rfl; rwa [hlx] at this, hg⟩
def addC (C : Crv) (bi : Bool) (x y : Nat) (bj : Bool) (u v : Nat) : Option (Option (Nat × Nat)) :=
 if onQ C bi x y = true then (if onQ C bj u v = true then some (downT C.M (addT C.M (upP bi x y) (upP bj u v))) else none) else none
theorem ptv_store {X : World} {base b : Nat} {v : Value} {o : Option (Nat × Nat)} (h : PtV X base v o) : ∃ x0 x1 x2, v = .agg #[x0, x1, x2] ∧ (#[x0, x1, x2] : Array Value).all (·.oneCell') = true ∧ ∀ Y, Just b X Y → (∃ cs, X.heap[b]? = some (.cells cs 27 (0, 0))) → PtV Y base v o := by
 cases o with
 | none => cases h; exact ⟨_, _, _, rfl, pt_one _ _ _ _ _ _ _, fun _ _ _ => rfl⟩
 | some p =>
  obtain ⟨A, c, A', c', rfl, h1, h2⟩ := h
  exact ⟨_, _, _, rfl, pt_one _ _ _ _ _ _ _, fun Y hj ⟨cs, hb⟩ => ⟨A, c, A', c', rfl, h1.just hj hb (by decide), h2.just hj hb (by decide)⟩⟩
theorem apt_agg {w : World} {v : Value} {i : Bool} {x y : Nat} (h : APt w v i x y) : ∃ x1 x2, v = .agg #[.bool i, x1, x2] := by
 obtain ⟨A, A', c, c', a, b, rfl, _⟩ := h
 exact ⟨_, _, rfl⟩
theorem three_p (w : World) (o1 o2 o3 : Obj) : (((w.alloc o1).alloc o2).alloc o3).heap[w.heap.size]? = some o1 ∧ (((w.alloc o1).alloc o2).alloc o3).heap[w.heap.size + 1]? = some o2 ∧ (((w.alloc o1).alloc o2).alloc o3).heap[w.heap.size + 2]? = some o3 ∧ (((w.alloc o1).alloc o2).alloc o3).heap.size = w.heap.size + 3 := three_at w o1 o2 o3
theorem add_c {c : Int} {C : Crv} (hC : IsC c C) {p r : Value} {bi bj : Bool} {x y u v : Nat} (w : World) (hp : APt w p bi x y) (hr : APt w r bj u v) :
 Calls Try.prog 21 #[.int .i64 c, p, r] w fun e w' => ∃ o, e = .returned (.tuple #[o, .bool (addC C bi x y bj u v).isSome]) ∧ PtV w' w.heap.size o (addC C bi x y bj u v).join ∧ Ext w w' := by
 obtain ⟨p1, p2, rfl⟩ := apt_agg hp
 obtain ⟨r1, r2, rfl⟩ := apt_agg hr
 obtain ⟨W0, hW0⟩ : ∃ W0, W0 = ((w.alloc (.cells #[.bool bi, p1, p2] 27)).alloc (.cells #[.bool bj, r1, r2] 27)).alloc (.cells #[.bool false, .slice none 0 0, .slice none 0 0] 27) := ⟨_, rfl⟩
 obtain ⟨q, hq⟩ : ∃ q, w.heap.size = q := ⟨_, rfl⟩
 have hE0 : Ext w W0 := by rw [hW0]; exact ((Ext.alloc _ _).trans (Ext.alloc _ _)).trans (Ext.alloc _ _)
 obtain ⟨h1, h2, h3, hz0⟩ := three_p w (.cells #[.bool bi, p1, p2] 27) (.cells #[.bool bj, r1, r2] 27) (.cells #[.bool false, .slice none 0 0, .slice none 0 0] 27)
 rw [← hW0, hq] at h1 h2 h3 hz0
 have hp0 := Lib.hid (hp.ext hE0)
 have hr0 := Lib.hid (hr.ext hE0)
 have HE0 := Lib.hid hE0
 have Hz0 := Lib.hid hz0
 have HC := Lib.hid hC
 rw [hq]
 obtain ⟨res, hres⟩ : ∃ o, addC C bi x y bj u v = o := ⟨_, rfl⟩
 rw [hres]
 have Hres := Lib.hid hres
 clear hp hr hE0 hz0 hC hres
 go_enter Try.func21, Try.ntmps21
 go_upto_region 1 with fail
 rw [← hW0]
 have Hq := Lib.hid hq
 clear hW0 hq
 obtain ⟨o1, ho1⟩ : ∃ o, onQ C bi x y = o := ⟨_, rfl⟩
 obtain ⟨o2, ho2⟩ : ∃ o, onQ C bj u v = o := ⟨_, rfl⟩
 have Ho1 := Lib.hid ho1
 have Ho2 := Lib.hid ho2
 clear ho1 ho2
 go_upto_region 2 with (go_at_call 42; refine (of_c HC.out _).mono ?_; rintro e wa ⟨k, rfl, hk, hE1⟩)
 have HE1 := Lib.hid hE1
 replace h1 := hE1.at_ h1
 replace h2 := hE1.at_ h2
 replace h3 := hE1.at_ h3
 clear hE1
 cases o1
 case false =>
  obtain rfl : res = none := by rw [← Hres.out, addC, if_neg (by rw [Ho1.out]; decide)]
  refine Par.region_txt 10 [0, 0, 3, 7, 15, 31, 31, 127, 255, 511] [] (fun j f X => match j with
   | 0 => f 0 = .pointer (some ⟨k, 0, none⟩)
   | 1 => f 1 = .agg #[.bool bi, p1, p2]
   | 2 => f 2 = .bool false
   | 3 => f 3 = .bool true
   | 4 => f 4 = .bool true
   | 5 => f 5 = undef
   | 6 => f 6 = undef
   | 7 => f 7 = undef
   | 8 => f 8 = undef
   | 9 => f 9 = .bool true
   | _ => True) (by kernel_rfl) [(11, 0), (12, 1), (13, 2), (14, 3), (15, 4), (16, 5), (17, 6), (18, 7), (19, 8), (20, 9)] (by kernel_rfl) ?_
  refine Par.v0 1 9 ?_
  refine lV0 2 8 h1 infoP ?_
  refine Par.c0 3 7 (fun f => #[f 0, f 1]) (F' := 43) (fun f X hX hR => ?_) ?_
  · have e0 : f 0 = _ := hR.out 0 rfl
    have e1 : f 1 = _ := hR.out 1 rfl
    simp only [e0, e1]
    refine (on_j (hk.ext hX) HC.out.fine (hp0.out.ext (HE1.out.trans hX))).mono ?_
    rw [Ho1.out]
    rintro e w2 ⟨rfl, hB⟩
    exact ⟨_, rfl, hB, fun _ _ => rfl⟩
  refine Par.v1 4 6 2 ?_
  refine Par.v1 5 5 3 ?_
  refine Par.sk 6 4 4 ?_
  refine Par.sk 7 3 4 ?_
  refine Par.sk 8 2 4 ?_
  refine Par.sk 9 1 4 ?_
  refine Par.v2 10 0 4 8 ?_
  refine Par.AllOps.fin ⟨fun f X hX hR hal hap => ?_⟩
  have e9 : f 9 = _ := hR 9 (by decide)
  simp only [yA, yB, yD, yE, e9]
  clear hR hal hap e9
  refine Par.Chain.done ?_
  have hb1 := hX.at_ h3
  go_wp2_with (go_at_call 45; refine (none_any _).mono ?_; rintro e wb ⟨rfl, hE2⟩; have hrb2 := hE2.at_ hb1; obtain ⟨z0, z1, z2, f0, f1, f2⟩ := pt_facts hrb2)
  exact end_pt rfl rfl rfl rfl (pt_set hrb2 _ _ _) ⟨_, by rfl, by rfl, pt_ext (((HE0.out.trans HE1.out).trans hX).trans hE2) (by have := Hq.out; omega) _ _ _⟩
 case true =>
  cases o2
  case false =>
   obtain rfl : res = none := by rw [← Hres.out, addC, if_pos Ho1.out, if_neg (by rw [Ho2.out]; decide)]
   refine Par.region_txt 10 [0, 0, 3, 7, 15, 31, 31, 127, 255, 511] [] (fun j f X => match j with
    | 0 => f 0 = .pointer (some ⟨k, 0, none⟩)
    | 1 => f 1 = .agg #[.bool bi, p1, p2]
    | 2 => f 2 = .bool true
    | 3 => f 3 = .bool false
    | 4 => f 4 = .bool false
    | 5 => f 5 = .pointer (some ⟨k, 0, none⟩)
    | 6 => f 6 = .agg #[.bool bj, r1, r2]
    | 7 => f 7 = .bool false
    | 8 => f 8 = .bool true
    | 9 => f 9 = .bool true
    | _ => True) (by kernel_rfl) [(11, 0), (12, 1), (13, 2), (14, 3), (15, 4), (16, 5), (17, 6), (18, 7), (19, 8), (20, 9)] (by kernel_rfl) ?_
   refine Par.v0 1 9 ?_
   refine lV0 2 8 h1 infoP ?_
   refine Par.c0 3 7 (fun f => #[f 0, f 1]) (F' := 43) (fun f X hX hR => ?_) ?_
   · have e0 : f 0 = _ := hR.out 0 rfl
     have e1 : f 1 = _ := hR.out 1 rfl
     simp only [e0, e1]
     refine (on_j (hk.ext hX) HC.out.fine (hp0.out.ext (HE1.out.trans hX))).mono ?_
     rw [Ho1.out]
     rintro e w2 ⟨rfl, hB⟩
     exact ⟨_, rfl, hB, fun _ _ => rfl⟩
   refine Par.v1 4 6 2 ?_
   refine Par.v1 5 5 3 ?_
   refine Par.v1 6 4 4 ?_
   refine lV1 7 3 4 h2 infoP ?_
   refine Par.c1 8 2 4 (fun f => #[f 5, f 6]) (F' := 43) (fun f X hX hR => ?_) ?_
   · have e5 : f 5 = _ := hR.out 5 rfl
     have e6 : f 6 = _ := hR.out 6 rfl
     simp only [e5, e6]
     refine (on_j (hk.ext hX) HC.out.fine (hr0.out.ext (HE1.out.trans hX))).mono ?_
     rw [Ho2.out]
     rintro e w2 ⟨rfl, hB⟩
     exact ⟨_, rfl, hB, fun _ _ => rfl⟩
   refine Par.v2 9 1 4 7 ?_
   refine Par.v2 10 0 4 8 ?_
   refine Par.AllOps.fin ⟨fun f X hX hR hal hap => ?_⟩
   have e9 : f 9 = _ := hR 9 (by decide)
   simp only [yA, yB, yD, yE, e9]
   clear hR hal hap e9
   refine Par.Chain.done ?_
   have hb1 := hX.at_ h3
   go_wp2_with (go_at_call 45; refine (none_any _).mono ?_; rintro e wb ⟨rfl, hE2⟩; have hrb2 := hE2.at_ hb1; obtain ⟨z0, z1, z2, f0, f1, f2⟩ := pt_facts hrb2)
   exact end_pt rfl rfl rfl rfl (pt_set hrb2 _ _ _) ⟨_, by rfl, by rfl, pt_ext (((HE0.out.trans HE1.out).trans hX).trans hE2) (by have := Hq.out; omega) _ _ _⟩
  case true =>
   obtain rfl : res = some (downT C.M (addT C.M (upP bi x y) (upP bj u v))) := by rw [← Hres.out, addC, if_pos Ho1.out, if_pos Ho2.out]
   refine Par.region_txt 10 [0, 0, 3, 7, 15, 31, 31, 127, 255, 511] [] (fun j f X => match j with
    | 0 => f 0 = .pointer (some ⟨k, 0, none⟩)
    | 1 => f 1 = .agg #[.bool bi, p1, p2]
    | 2 => f 2 = .bool true
    | 3 => f 3 = .bool false
    | 4 => f 4 = .bool false
    | 5 => f 5 = .pointer (some ⟨k, 0, none⟩)
    | 6 => f 6 = .agg #[.bool bj, r1, r2]
    | 7 => f 7 = .bool true
    | 8 => f 8 = .bool false
    | 9 => f 9 = .bool false
    | _ => True) (by kernel_rfl) [(11, 0), (12, 1), (13, 2), (14, 3), (15, 4), (16, 5), (17, 6), (18, 7), (19, 8), (20, 9)] (by kernel_rfl) ?_
   refine Par.v0 1 9 ?_
   refine lV0 2 8 h1 infoP ?_
   refine Par.c0 3 7 (fun f => #[f 0, f 1]) (F' := 43) (fun f X hX hR => ?_) ?_
   · have e0 : f 0 = _ := hR.out 0 rfl
     have e1 : f 1 = _ := hR.out 1 rfl
     simp only [e0, e1]
     refine (on_j (hk.ext hX) HC.out.fine (hp0.out.ext (HE1.out.trans hX))).mono ?_
     rw [Ho1.out]
     rintro e w2 ⟨rfl, hB⟩
     exact ⟨_, rfl, hB, fun _ _ => rfl⟩
   refine Par.v1 4 6 2 ?_
   refine Par.v1 5 5 3 ?_
   refine Par.v1 6 4 4 ?_
   refine lV1 7 3 4 h2 infoP ?_
   refine Par.c1 8 2 4 (fun f => #[f 5, f 6]) (F' := 43) (fun f X hX hR => ?_) ?_
   · have e5 : f 5 = _ := hR.out 5 rfl
     have e6 : f 6 = _ := hR.out 6 rfl
     simp only [e5, e6]
     refine (on_j (hk.ext hX) HC.out.fine (hr0.out.ext (HE1.out.trans hX))).mono ?_
     rw [Ho2.out]
     rintro e w2 ⟨rfl, hB⟩
     exact ⟨_, rfl, hB, fun _ _ => rfl⟩
   refine Par.v2 9 1 4 7 ?_
   refine Par.v2 10 0 4 8 ?_
   refine Par.AllOps.fin ⟨fun f X hX hR hal hap => ?_⟩
   have e9 : f 9 = _ := hR 9 (by decide)
   simp only [yA, yB, yD, yE, e9]
   clear hR hal hap e9
   refine Par.Chain.done ?_
   have HX := Lib.hid hX
   rename World => X2
   replace h1 := HX.out.at_ h1
   replace h2 := HX.out.at_ h2
   replace h3 := HX.out.at_ h3
   have HEX := Lib.hid ((HE0.out.trans HE1.out).trans HX.out)
   clear hX
   go_upto_region 4 with fail
   refine Par.region_ext (by kernel_rfl) 10 [0, 0, 0, 0, 12, 0, 0, 124, 254, 511, 1023, 2047] [] (fun j f X => match j with
    | 0 => f 0 = .pointer (some ⟨k, 0, none⟩)
    | 1 => f 1 = .pointer (some ⟨k, 0, none⟩)
    | 2 => f 2 = .pointer (some ⟨k, 0, none⟩)
    | 3 => f 3 = .agg #[.bool bi, p1, p2]
    | 4 => ∃ o, f 4 = o ∧ JAt C o (upP bi x y)
    | 5 => f 5 = .pointer (some ⟨k, 0, none⟩)
    | 6 => f 6 = .agg #[.bool bj, r1, r2]
    | 7 => ∃ o, f 7 = o ∧ JAt C o (upP bj u v)
    | 8 => ∃ o, f 8 = o ∧ JAt C o (addT C.M (upP bi x y) (upP bj u v))
    | 9 => ∃ o, f 9 = o ∧ PtV X q o (downT C.M (addT C.M (upP bi x y) (upP bj u v)))
    | _ => True) (by kernel_rfl) [(22, 0), (23, 1), (24, 2), (25, 3), (26, 4), (27, 5), (28, 6), (29, 7), (30, 8), (31, 9)] (by kernel_rfl) ?_
   refine Par.v0 1 9 ?_
   refine Par.v0 2 8 ?_
   refine Par.v0 3 7 ?_
   refine lV0 4 6 h1 infoP ?_
   refine Par.c0 5 5 (fun f => #[f 2, f 3]) (F' := 46) (fun f X hX hR => ?_) ?_
   · have e2 : f 2 = _ := hR.out 2 rfl
     have e3 : f 3 = _ := hR.out 3 rfl
     simp only [e2, e3]
     refine (up_j (hk.ext (HX.out.trans hX)) (hp0.out.ext ((HE1.out.trans HX.out).trans hX)) Ho1.out).mono ?_
     rintro e w2 ⟨o, rfl, hj, hB⟩
     exact ⟨_, rfl, hB, fun _ _ => ⟨_, rfl, hj⟩⟩
   refine Par.v0 6 4 ?_
   refine lV0 7 3 h2 infoP ?_
   refine Par.c0 8 2 (fun f => #[f 5, f 6]) (F' := 46) (fun f X hX hR => ?_) ?_
   · have e5 : f 5 = _ := hR.out 5 rfl
     have e6 : f 6 = _ := hR.out 6 rfl
     simp only [e5, e6]
     refine (up_j (hk.ext (HX.out.trans hX)) (hr0.out.ext ((HE1.out.trans HX.out).trans hX)) Ho2.out).mono ?_
     rintro e w2 ⟨o, rfl, hj, hB⟩
     exact ⟨_, rfl, hB, fun _ _ => ⟨_, rfl, hj⟩⟩
   refine Par.c0 9 1 (fun f => #[f 1, f 4, f 7]) (F' := 47) (fun f X hX hR => ?_) ?_
   · have e1 : f 1 = _ := hR.out 1 rfl
     obtain ⟨v4, (e4 : f 4 = _), j4⟩ := hR.out 4 rfl
     obtain ⟨v7, (e7 : f 7 = _), j7⟩ := hR.out 7 rfl
     simp only [e1, e4, e7]
     refine (add_j (hk.ext (HX.out.trans hX)) j4 j7).mono ?_
     rintro e w2 ⟨o, rfl, hj, hB⟩
     exact ⟨_, rfl, hB, fun _ _ => ⟨_, rfl, hj⟩⟩
   refine Par.c0 10 0 (fun f => #[f 0, f 8]) (F' := 50) (fun f X hX hR => ?_) ?_
   · have e0 : f 0 = _ := hR.out 0 rfl
     obtain ⟨v8, (e8 : f 8 = _), j8⟩ := hR.out 8 rfl
     simp only [e0, e8]
     refine (down_j (hk.ext (HX.out.trans hX)) HC.out.plen j8).mono ?_
     rintro e w2 ⟨o, rfl, hj, hB⟩
     exact ⟨_, rfl, hB, fun Y hY => ⟨_, rfl, (hj.mono (by have := HEX.out.bsize; have := hX.bsize; have := Hq.out; omega)).ext hY⟩⟩
   refine Par.AllOps.fin ⟨fun f X hX hR hal hap => ?_⟩
   obtain ⟨v4, (e4 : f 4 = _), j4⟩ := hR 4 (by decide)
   obtain ⟨v7, (e7 : f 7 = _), j7⟩ := hR 7 (by decide)
   obtain ⟨v8, (e8 : f 8 = _), j8⟩ := hR 8 (by decide)
   obtain ⟨v9, (e9 : f 9 = _), j9⟩ := hR 9 (by decide)
   simp only [yA, yB, yD, yE, e4, e7, e8, e9]
   clear hR hal hap e4 e7 e8 e9
   obtain ⟨x0, x1, x2, ev, hone, hst⟩ := ptv_store (b := q + 1 + 1) j9
   subst ev
   refine Par.Chain.next (fun K hK => ⟨Par.want (by kernel_rfl) (wp_storeV (cs' := #[x0, x1, x2]) (t := 27) 27 (.tmp 6) (.tmp 31) rfl rfl rfl rfl (hX.at_ h3) infoP rfl hone (fun Y hY1 hY2 hY3 => hK.out _ _ ?_))⟩)
   refine Par.Chain.next (fun K hK => ⟨Par.want (by kernel_rfl) ?_⟩)
   go_simp
   refine hK.out _ _ ?_
   refine Par.Chain.done ?_
   go_wp2
   exact end_pt rfl rfl rfl rfl hY1 ⟨_, rfl, hst Y hY2 ⟨_, hX.at_ h3⟩, hY2.ext (HEX.out.trans hX) (by have := Hq.out; omega)⟩
end Go.Proofs.Ytldhmjfjbalakaa
