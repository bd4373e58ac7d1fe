/- drbg: New. The generator over the tape 'x', and the two numbers that are drawn of it: by the kernel. append onto a row of bytes that is full. ecdsa.Sign of one hash by one key at P-256, off the tape 'x': the signature. curve: On, and Multiples' making. ecdsa.Verify, of a point that is on the curve and a signature of the right length. ecdsa.Generate, for a curve. EcdsaStrange and its like: begun, by the numbers that the kernel reckoned. ecdsa.Verify refuses: no curve, the point that is nowhere, points that are not on the curve; what the law's zeros and ones come to. The reference's On of no curve. The reference's points: To. The reference's From, of lists however long: that it returns. The reference's points: From. EcdsaStrange: the law's walk. The table of hashes.k as the row lists it. -/
import Derived.Test.YtaemogcomplhiaaGreatDoorQ9c87c237927d
import Derived.Lib.SlBytesConst
import Derived.Test.YtaemogcomplhiaaGreatDoorRows
import Derived.ProofKit
import Derived.LaidMore
import Derived.OpenShut
import Derived.MakeChecks
namespace Go.Proofs.YtaemogcomplhiaaGreatDoor
open Go.RowKit
open Sha

theorem made32 (w : World) : RB (w.alloc (.cells (madeCells #[.int .u8 0] 32) 5)) (fun k => k < (w.alloc (.cells (madeCells #[.int .u8 0] 32) 5)).heap.size) (some ⟨w.heap.size, 0, none⟩) 32 (List.replicate 32 0) := by
 have := (Blk8.made w 32).rb (P := fun k => k < (w.alloc (.cells (madeCells #[.int .u8 0] 32) 5)).heap.size) (by rw [World.size_alloc]; omega) (by simp) (by simp)
 rwa [List.length_replicate] at this
def news (d : List Nat) : List Nat × List Nat := upd2 (List.replicate 32 0) (List.replicate 32 1) d
set_option maxRecDepth 100000 in
set_option maxHeartbeats 8000000 in
theorem new_any {P : Nat → Prop} {A : Option Addr} {c : Nat} {d : List Nat} (w : World) (hk : KW w) (hp : RB w P A c d) (hP : ∀ k, P k → k < w.heap.size) (hl : d.length ≤ 200000) :
 Calls Tryz.prog 11 #[.slice A d.length c] w fun e w' => ∃ b, e = .returned (.pointer (some ⟨b, 0, none⟩)) ∧ w.heap.size ≤ b ∧ DR w' b (news d).1 (news d).2 0 ∧ Ext w w' := by
 have HK := Lib.hid hk
 have HP := Lib.hid hp
 have HPP := Lib.hid hP
 clear hk hp hP
 go_enter Tryz.func11, Tryz.ntmps11
 go_upto_region 1 with fail
 refine Par.region_ext (by kernel_rfl) 6 [0, 0, 2, 7, 15, 31] [] (fun j f X => match j with
  | 0 => ∃ g, f 0 = .slice (some ⟨g, 0, none⟩) 32 32 ∧ RB X (fun k => k < X.heap.size) (some ⟨g, 0, none⟩) 32 (List.replicate 32 0)
  | 1 => ∃ g, f 1 = .slice (some ⟨g, 0, none⟩) 1 1 ∧ X.heap[g]? = some (.cells #[.int .u8 1] 5 (0, 0))
  | 2 => ∃ A, f 2 = .slice A 32 32 ∧ RB X (fun k => k < X.heap.size) A 32 (List.replicate 32 1)
  | 3 => ∃ g A, f 3 = .agg #[.slice (some ⟨g, 0, none⟩) 32 32, .slice A 32 32, .int .i64 0] ∧ RB X (fun k => k < X.heap.size) (some ⟨g, 0, none⟩) 32 (List.replicate 32 0) ∧ RB X (fun k => k < X.heap.size) A 32 (List.replicate 32 1)
  | 4 => ∃ b, f 4 = .pointer (some ⟨b, 0, none⟩) ∧ w.heap.size ≤ b ∧ DR X b (List.replicate 32 0) (List.replicate 32 1) 0
  | 5 => ∃ b, f 5 = .pointer (some ⟨b, 0, none⟩) ∧ w.heap.size ≤ b ∧ DR X b (List.replicate 32 0) (List.replicate 32 1) 0
  | _ => True) (by kernel_rfl) [(4, 0), (5, 1), (6, 2), (7, 3), (8, 4), (3, 5)] (by kernel_rfl) ?_
 refine Par.S 1 5 [(5, 1), (6, 2)] (fun f X hX hR K hK => ?_) ?_
 · have hmk := run_make_row' (P := Tryz.prog) 22 5 (.int .u8 0) 1 Tryz.underlying22 info8 rfl .i64 .i64 32 (by omega) (by omega)
   simp only [Int.cast_ofNat_Int] at hmk
   simp only [yA, yB, yC, yD, yE]
   refine ⟨?_⟩
   go_simp
   exact hK.out _ _ _ (by simp only [yA, yB, yC, yD, yE]) (Ext.alloc _ _) trivial (fun Y hY => ⟨_, rfl, (made32 X).upE hY⟩)
 refine Par.S 2 4 [(4, 0)] (fun f X hX hR K hK => ?_) ?_
 · simp only [yA, yB, yC, yD, yE]
   refine ⟨?_⟩
   go_simp
   exact hK.out _ _ _ (by simp only [yA, yB, yC, yD, yE]) (Ext.alloc _ _) trivial (fun Y hY => ⟨_, rfl, hY.at_ (heap_alloc_new _ _)⟩)
 refine Par.c0 3 3 (fun f => #[f 1, Value.int IntKind.i64 32]) (F' := 32) (fun f X hX hR => ?_) ?_
 · obtain ⟨g1, (e1 : f 1 = _), r1⟩ := hR.out 1 rfl
   simp only [e1]
   refine (repeat_one X r1).mono ?_
   rintro e w2 ⟨A2, rfl, hr, hE⟩
   exact ⟨_, rfl, hE, fun Y hY => ⟨A2, rfl, hr.upE hY⟩⟩
 refine Par.S 4 2 [(4, 0), (5, 1), (6, 2)] (fun f X hX hR K hK => ?_) ?_
 · obtain ⟨g0, (e0 : f 0 = _), r0⟩ := hR.out 0 rfl
   obtain ⟨A2, (e2 : f 2 = _), r2⟩ := hR.out 2 rfl
   simp only [yA, yB, yC, yD, yE, e0, e2]
   refine ⟨?_⟩
   go_simp
   exact hK.out _ _ _ (by simp only [yA, yB, yC, yD, yE, e0, e2]) (Ext.refl _) trivial (fun Y hY => ⟨_, _, rfl, r0.upE hY, r2.upE hY⟩)
 refine Par.S 5 1 [(4, 0), (5, 1), (6, 2), (7, 3)] (fun f X hX hR K hK => ?_) ?_
 · obtain ⟨g3, A3, (e3 : f 3 = _), r3, s3⟩ := hR.out 3 rfl
   simp only [yA, yB, yC, yD, yE, e3]
   refine ⟨?_⟩
   go_simp
   exact hK.out _ _ _ (by simp only [yA, yB, yC, yD, yE, e3]) (Ext.alloc _ _) trivial (fun Y hY => ⟨_, rfl, hX.bsize, DR.ext ⟨_, _, _, _, heap_alloc_new _ _, r3.upE (Ext.alloc _ _), s3.upE (Ext.alloc _ _), by simp, by simp⟩ hY⟩)
 refine Par.S 6 0 [(4, 0), (5, 1), (6, 2), (7, 3), (8, 4)] (fun f X hX hR K hK => ?_) ?_
 · obtain ⟨b4, (e4 : f 4 = _), l4, d4⟩ := hR.out 4 rfl
   simp only [yA, yB, yC, yD, yE, e4]
   refine ⟨?_⟩
   go_simp
   exact hK.out _ _ _ (by simp only [yA, yB, yC, yD, yE, e4]) (Ext.refl _) trivial (fun Y hY => ⟨_, rfl, l4, d4.ext hY⟩)
 refine Par.AllOps.fin ⟨fun f X hX hR hal hap => ?_⟩
 obtain ⟨g0, (e0 : f 0 = _), r0⟩ := hR 0 (by decide)
 obtain ⟨g1, (e1 : f 1 = _), r1⟩ := hR 1 (by decide)
 obtain ⟨A2, (e2 : f 2 = _), r2⟩ := hR 2 (by decide)
 obtain ⟨g3, A3, (e3 : f 3 = _), r3, s3⟩ := hR 3 (by decide)
 obtain ⟨b4, (e4 : f 4 = _), l4, d4⟩ := hR 4 (by decide)
 obtain ⟨b, (e5 : f 5 = _), lb, db⟩ := hR 5 (by decide)
 simp only [yA, yB, yD, yE, e0, e1, e2, e3, e4, e5]
 clear hR hal hap e0 e1 e2 e3 e4 e5
 refine Par.Chain.done ?_
 have H := Lib.hid (update_any X (HK.out.ext hX) db (HP.out.below hX HPP.out) (fun k hk => Nat.lt_of_lt_of_le (HPP.out k hk) hX.bsize) hl)
 clear r0 r1 r2 r3 s3 l4 d4 db HP HPP
 have HX := Lib.hid hX
 clear hX
 go_wp2_with fail
 refine H.out.mono ?_
 rintro e w1 ⟨rfl, hd, hf⟩
 have HD := Lib.hid hd
 have HF := Lib.hid (hf.ext' HX.out lb HX.out.bsize)
 clear hd hf H
 go_wp2_with fail
 go_ret
 exact ⟨b, rfl, lb, HD.out, HF.out⟩
end Go.Proofs.YtaemogcomplhiaaGreatDoor

namespace Go.Proofs.YtaemogcomplhiaaGreatDoor.Ec
open Sha

abbrev eK0 : List Nat := [197, 67, 134, 248, 26, 225, 157, 181, 5, 204, 41, 121, 63, 130, 47, 88, 48, 213, 92, 237, 172, 156, 63, 242, 37, 142, 219, 161, 100, 17, 251, 67]
abbrev eV0 : List Nat := [120, 98, 110, 89, 75, 219, 36, 10, 205, 107, 217, 53, 227, 217, 139, 59, 33, 103, 110, 107, 102, 6, 223, 4, 174, 28, 250, 29, 229, 238, 104, 38]
abbrev eK1 : List Nat := [174, 53, 24, 115, 238, 69, 148, 211, 17, 219, 182, 29, 219, 207, 92, 16, 114, 185, 16, 49, 119, 152, 188, 45, 149, 169, 241, 252, 142, 70, 119, 22]
abbrev eV1 : List Nat := [2, 144, 96, 145, 146, 113, 15, 101, 177, 176, 211, 118, 82, 52, 71, 214, 65, 82, 235, 204, 255, 170, 108, 52, 202, 141, 86, 99, 153, 15, 72, 228]
theorem news_x : news [120] = (eK0, eV0) := by decide +kernel
theorem pick_1 : pickN c256 eK0 eV0 = eKey := by decide +kernel
theorem st_1 : pickS c256 eK0 eV0 = (eK1, eV1) := by decide +kernel
theorem pick_2 : pickN c256 eK1 eV1 = eKk := by decide +kernel
end Go.Proofs.YtaemogcomplhiaaGreatDoor.Ec

namespace Go.Proofs.YtaemogcomplhiaaGreatDoor.Ec
open Go.RowKit Go.Shelf

theorem app_full {w : World} {n m c : Nat} {P Q : Nat → Prop} {A B : Option Addr} {us bs : List Nat} (ha : RB w P A n us) (hn : us.length = n) (h0 : 0 < n) (hb : RB w Q B c bs) (hm : bs.length = m) (h1 : 0 < m) (hl : n + m ≤ 1000000) :
 ∃ A' c' w', (∀ ty, (Builtin.append_ #[22, 22] ty #[.slice A n n, .slice B m c]).run Tryz.prog w = .ok (.slice A' (n + m) c') w') ∧ Ext w w' ∧ RB w' (fun g => g < w'.heap.size) A' c' (us ++ bs) := by
 obtain ⟨i0, hi, hz0, hz1, hz2⟩ := info_parts info8
 subst hn hm
 obtain ⟨ad, rfl, _, hc⟩ := ha.1.2.2.2 h0
 obtain ⟨bd, rfl, _, hd⟩ := hb.1.2.2.2 h1
 have hs : (bys us).length = us.length := by simp [bys]
 have ht : (bys bs).length = bs.length := by simp [bys]
 have hf : Builtin.nextslicecap (us.length + bs.length) us.length * i0.bytes ≤ 281474976710656 := growslice_fits (by omega) (by rw [hz2]; omega)
 have hX : ∀ (o : Obj), Ext w (w.drew.alloc o) := fun o => (below_drewN (Below.refl _ w) 1).alloc (Nat.le_refl _) o
 have hge := grownCap_ge w (us.length + bs.length) us.length 5
 have hcm : grownCap w (us.length + bs.length) us.length 5 ≤ maxLen := grownCap_le_maxLen w (us.length + bs.length) us.length 5 (by unfold maxLen; omega)
 refine ⟨_, _, _, fun ty => run_append_grow (P := Tryz.prog) w 22 ty 5 i0 (.int .u8 0) Tryz.underlying22 hi hz0 ad us.length us.length (bys us) (by rw [hs, hz1, Nat.mul_one]) hc bd bs.length c (bys bs) (by rw [ht, hz1, Nat.mul_one]) hd (by omega) (by omega) hf, hX _, ?_⟩
 refine ⟨⟨by rw [List.length_append]; omega, hcm, by simp [bys], fun _ => ⟨_, rfl, ?_, fun j v hj => ?_⟩⟩, fun b h => ?_, by rw [List.length_append]; omega⟩
 · simp
 · have hk := blk_cell (heap_alloc_new w.drew (.cells ((bys us).toArray ++ (bys bs).toArray ++ Builtin.zeroCells (Value.int .u8 0).cells (grownCap w (us.length + bs.length) us.length 5 - (us.length + bs.length))) 5)) j
   have e : (⟨w.heap.size, 0, none⟩ : Addr).add j = ⟨w.drew.heap.size, j, none⟩ := by simp [Addr.add]; exact fun h => h.symm
   have hb2 : bys (us ++ bs) = bys us ++ bys bs := by simp [bys]
   rw [hb2] at hj
   rw [e, hk, ← hj]
   have hlt : j < (bys us ++ bys bs).length := by
    rcases Nat.lt_or_ge j (bys us ++ bys bs).length with h | h
    · exact h
    · rw [List.getElem?_eq_none h] at hj; cases hj
   have h2 : (bys us).toArray ++ (bys bs).toArray = (bys us ++ bys bs).toArray := by simp
   rw [h2, Array.getElem?_append_left (by simpa using hlt)]
   simp
 · rcases List.mem_append.1 h with h | h
   · exact ha.2.1 b h
   · exact hb.2.1 b h
theorem appF {w : World} {ops : Array Oper} {rest : List Oper} {o : Oper} {a : Act} {Q : Exit → Act → World → Prop} (hgd : o.guard = none) (s x : Operand) (ho : o.op = .call { callee := .builtin .append, args := #[s, x], argTypes := #[22, 22] })
 {n m c : Nat} {P R : Nat → Prop} {A B : Option Addr} {us bs : List Nat} (hs : a.eval s = .slice A n n) (hx : a.eval x = .slice B m c) (ha : RB w P A n us) (hn : us.length = n) (h0 : 0 < n) (hb : RB w R B c bs) (hm : bs.length = m) (h1 : 0 < m) (hl : n + m ≤ 1000000)
 (h : ∀ A' c' w', Ext w w' → RB w' (fun g => g < w'.heap.size) A' c' (us ++ bs) → wpList Tryz.prog ops Q rest (a.put o.dst (.slice A' (n + m) c')) w') : wpList Tryz.prog ops Q (o :: rest) a w := by
 refine wpList_plain hgd fun _ hK => ?_
 obtain ⟨A', c', w', hrun, hE, hr⟩ := app_full ha hn h0 hb hm h1 hl
 unfold Oper.wp execOp
 simp only [ho, resolve, invoke, builtin, Sem.run_bind, Sem.run_pure, Result.andThen_ok, List.map_toArray, List.map_cons, List.map_nil, hs, hx, hrun]
 exact hK _ _ (h A' c' w' hE hr)
end Go.Proofs.YtaemogcomplhiaaGreatDoor.Ec

namespace Go.Proofs.YtaemogcomplhiaaGreatDoor.Ec
open Go.RowKit Go.Shelf
open Sha

attribute [local go_sem] Oper.semAt_some

abbrev eZT : Nat := 37770117932026156049172039120758503168212124412985157458423084762338470715901
theorem e_zt : 1751217000 + eT = eZT := by decide +kernel
theorem e_s2 : eZT * eI % ordC c256 = eS := by decide +kernel
theorem nb_all : nbits eR' ≤ 8 * 32 ∧ nbits eS ≤ 8 * 32 ∧ nbits eT ≤ 4000 ∧ nbits eI ≤ 4000 ∧ nbits eZT ≤ 4000 ∧ nbits eKk ≤ 4000 ∧ nbits 1751217000 ≤ 4000 := by decide +kernel
theorem isc1 : IsC 1 c256 := .inl ⟨rfl, rfl⟩
theorem nb_key : nbits eKey ≤ 256 := by decide +kernel
theorem may_key : mayE c256 eKey = true := by decide +kernel
set_option maxRecDepth 100000 in
set_option maxHeartbeats 8000000 in
theorem sign_x {P : Nat → Prop} {b base : Nat} {A : Option Addr} {ad : Addr} {ca cb : Nat} {num : Int} (w : World) (hk : KW w) (hd : DR w b eK1 eV1 num) (ha : OB w base A ca (digs 18446744073709551616 eKey)) (hb : b < base) (hh : RB w P (some ad) cb [104, 97, 115, 104]) (hP : ∀ q, P q → q < w.heap.size) (hn : 0 ≤ num) (hn2 : num < 1000000000) :
 Calls Tryz.prog 27 #[.int .i64 1, .slice A (digs 18446744073709551616 eKey).length ca, .slice (some ad) 4 cb, .pointer (some ⟨b, 0, none⟩)] w fun e w' => ∃ A c, e = .returned (.tuple #[.slice A 64 c, .int .i64 0]) ∧ RB w' (fun q => q < w'.heap.size) A c (bytesOf eR' 32 ++ bytesOf eS 32) ∧ Fr b w.heap.size w w' := by
 obtain ⟨lk, hlk⟩ : ∃ l, (digs 18446744073709551616 eKey).length = l := ⟨_, rfl⟩
 have hm := emay_any (.inl isc1) _ A ca _ w ha.rn (fun _ h => h.2)
 rw [val_digs (by omega), may_key, hlk] at hm
 rw [hlk]
 have HM := Lib.hid hm
 have HK := Lib.hid hk
 have HD := Lib.hid hd
 have HA := Lib.hid ha
 have Hbb := Lib.hid hb
 have HH := Lib.hid hh
 have HP := Lib.hid hP
 have Hn := Lib.hid (And.intro hn hn2)
 have Hlk := Lib.hid hlk
 clear hm hk hd ha hb hh hP hn hn2 hlk
 go_enter Tryz.func27, Tryz.ntmps27
 go_wp2
 go_step3
 go_wp2_with fail
 refine HM.out.mono ?_
 rintro e w1 ⟨rfl, E1⟩
 have HZ := Lib.hid (number_short isc1 (n := 4) w1 (HH.out.below E1 HP.out) (fun q hq => Nat.lt_of_lt_of_le (HP.out q hq) E1.bsize) rfl (by decide) (by decide))
 have HE1 := Lib.hid E1
 clear E1 HM
 go_wp2_with fail
 refine HZ.out.mono ?_
 rintro e w2 ⟨A2, c2, rfl, r2, E2⟩
 have R2 := Lib.hid r2
 have HE2 := Lib.hid (Ext.trans HE1.out E2)
 clear r2 E2 HZ
 have hz0 : numOf [104, 97, 115, 104] = 1751217000 := by decide +kernel
 rw [hz0] at R2 ⊢
 go_wp2
 try go_step3
 try go_wp2
 try go_step3
 go_loopw [11] (fun iv wr => iv = undef ∧ wr = w2) (fun _ _ => 0)
 case atStart => exact ⟨rfl, rfl⟩
 case round =>
  obtain ⟨rfl, rfl⟩ := hrel
  have h3 := pick_any isc1 (C := c256) wr (HK.out.ext HE2.out) (HD.out.ext HE2.out) Hn.out.1 Hn.out.2
  rw [pick_2] at h3
  have H3 := Lib.hid h3
  clear h3
  go_wp2_with fail
  refine H3.out.mono ?_
  rintro e w3 ⟨A3, c3, rfl, o3, d3, f3⟩
  have hA3 : RU w3 A ca (digs 18446744073709551616 eKey) := ((HA.out.below HE2.out (Nat.le_refl _)).rn.keep fun p hp => World.cell?_of_block (f3.block _ (Nat.lt_of_lt_of_le hp.2 (Nat.le_refl _)) (by have := hp.1; have := Hbb.out; omega))).mono fun q hq => Nat.lt_of_lt_of_le hq.2 f3.size
  have hZ3 : RU w3 A2 c2 (digs 18446744073709551616 1751217000) := (R2.out.rn.keep fun p hp => World.cell?_of_block (f3.block _ hp.2 (by have := hp.1; have := HD.out.lt; have := HE1.out.bsize; omega))).mono fun q hq => Nat.lt_of_lt_of_le hq.2 f3.size
  have HA3 := Lib.hid hA3
  have HZ3 := Lib.hid hZ3
  have HK3 := Lib.hid o3.ru
  have HF3 := Lib.hid ((Fr.below (b := b) HE2.out (Nat.le_refl _)).trans (f3.mono HE2.out.bsize))
  clear hA3 hZ3 o3 d3 f3 H3
  go_wp2_with fail
  refine (base_c isc1 w3).mono ?_
  rintro e w4 ⟨Ax, cx, Ay, cy, rfl, hx, hy, E4⟩
  have h5 := mul_c isc1 w4 (show APt w4 (.agg #[.bool false, .slice Ax c256.xl.length cx, .slice Ay c256.yl.length cy]) false (val 18446744073709551616 c256.xl) (val 18446744073709551616 c256.yl) from ⟨Ax, Ay, cx, cy, _, _, rfl, hx, hy, rfl, rfl⟩) (RN.up HK3.out E4) (val_digs (by omega) _)
  rw [mul_kk] at h5
  have H5 := Lib.hid h5
  have HE4 := Lib.hid E4
  clear hx hy h5 E4
  go_wp2_with fail
  refine H5.out.mono ?_
  rintro e w5 ⟨o, rfl, hv5, E5⟩
  have hv5 : PtV w5 w4.heap.size o (some eR) := hv5
  obtain ⟨Bx, dx, By, dy, rfl, ox, oy⟩ := hv5
  obtain ⟨lx, hlx⟩ : ∃ l, (digs 18446744073709551616 eR.1).length = l := ⟨_, rfl⟩
  obtain ⟨ly, hly⟩ : ∃ l, (digs 18446744073709551616 eR.2).length = l := ⟨_, rfl⟩
  rw [hlx, hly]
  have hq6 := heap_alloc_new w5 (.cells #[.bool false, .slice Bx lx dx, .slice By ly dy] 33)
  have hA6 := Ext.alloc w5 (.cells #[.bool false, .slice Bx lx dx, .slice By ly dy] 33)
  obtain ⟨g, hg⟩ : ∃ g, w5.heap.size = g := ⟨_, rfl⟩
  rw [hg] at hq6
  have HX6 := Lib.hid (RN.up ox.ru hA6)
  have HE6 := Lib.hid (Ext.trans HE4.out (Ext.trans E5 hA6))
  have Hg := Lib.hid hg
  have Hlx := Lib.hid hlx
  have HQ6 := Lib.hid hq6
  clear ox oy hlx hly hg hq6 hA6 E5 HE4 H5
  go_upto_region 6 with fail
  rw [Hg.out]
  generalize w5.alloc (.cells #[.bool false, .slice Bx lx dx, .slice By ly dy] 33) = w6 at *
  obtain ⟨y0, y1, y2, f0, f1, f2⟩ := pt_facts HQ6.out
  have h7 := first_any isc1 (B := By) (cb := dy) (ly := ly) false w6 HX6.out (by decide +kernel) e_r Hlx.out
  have H7 := Lib.hid h7
  clear h7
  go_wp2_with fail
  refine H7.out.mono ?_
  rintro e w7 ⟨A7, c7, rfl, r7, E7⟩
  have h8 := bits_any _ A7 c7 _ w7 r7
  rw [val_digs (by omega)] at h8
  have H8 := Lib.hid h8
  have R7 := Lib.hid r7
  have HE7 := Lib.hid (Ext.trans HE6.out E7)
  have k0 : ((nbits eR' : Int) == 0) = false := by decide +kernel
  clear y0 y1 y2 f0 f1 f2 h8 r7 E7 H7 HX6 HQ6 HE6
  go_wp2_with fail
  refine H8.out.mono ?_
  rintro e w8 ⟨rfl, rfl⟩
  have h9 := times_l isc1 w7 R7.out (RN.up HA3.out HE7.out) (Nat.le_trans nb_all.1 (by decide)) (Nat.le_trans nb_key (by decide)) e_t rfl Hlk.out
  have H9 := Lib.hid h9
  clear h9 H8
  go_wp2_with fail
  refine H9.out.mono ?_
  rintro e w9 ⟨A9, c9, rfl, r9, E9⟩
  have h10 := add_l w9 (RN.up HZ3.out (HE7.out.trans E9)) r9 nb_all.2.2.2.2.2.2 nb_all.2.2.1 e_zt rfl rfl
  have H10 := Lib.hid h10
  have HE9 := Lib.hid (Ext.trans HE7.out E9)
  have R9 := Lib.hid (RN.up R7.out E9)
  clear h10 H9 r9 E9 HE7 R7
  go_wp2_with fail
  refine H10.out.mono ?_
  rintro e w10 ⟨A10, c10, rfl, r10, E10⟩
  have h11 := einv_l isc1 w10 (RN.up HK3.out (HE9.out.trans E10)) nb_all.2.2.2.2.2.1 inv_kk rfl
  have H11 := Lib.hid h11
  have HE10 := Lib.hid (Ext.trans HE9.out E10)
  have R10 := Lib.hid (And.intro r10 (RN.up R9.out E10))
  clear h11 H10 r10 E10 HE9 R9
  go_wp2_with fail
  refine H11.out.mono ?_
  rintro e w11 ⟨A11, c11, rfl, r11, E11⟩
  have h12 := times_l isc1 w11 (RN.up R10.out.1 E11) r11 nb_all.2.2.2.2.1 nb_all.2.2.2.1 e_s2 rfl rfl
  have H12 := Lib.hid h12
  have HE11 := Lib.hid (Ext.trans HE10.out E11)
  have R11 := Lib.hid (RN.up R10.out.2 E11)
  clear h12 H11 r11 E11 HE10 R10
  go_wp2_with fail
  refine H12.out.mono ?_
  rintro e w12 ⟨A12, c12, rfl, r12, E12⟩
  have H13 := Lib.hid (bits_l w12 r12 rfl)
  have HE12 := Lib.hid (Ext.trans HE11.out E12)
  have R12 := Lib.hid (And.intro r12 (RN.up R11.out E12))
  have k1 : ((nbits eS : Int) == 0) = false := by decide +kernel
  clear H12 r12 E12 HE11 R11
  go_wp2_with fail
  refine H13.out.mono ?_
  rintro e w13 ⟨rfl, rfl⟩
  clear H13
  have h14 := size_c isc1 w12
  obtain ⟨sz, hsz⟩ : ∃ s, c256.size = s := ⟨_, rfl⟩
  rw [hsz] at h14
  obtain rfl : 32 = sz := hsz
  have H14 := Lib.hid h14
  clear h14
  go_wp2_with fail
  refine H14.out.mono ?_
  rintro e w14 ⟨rfl, E14⟩
  have H15 := Lib.hid (bytes_l (n := 32) w14 (RN.up R12.out.2 E14) (by decide) nb_all.1 rfl)
  have HE14 := Lib.hid (Ext.trans HE12.out E14)
  have R14 := Lib.hid (RN.up R12.out.1 E14)
  clear E14 HE12 R12 H14
  go_wp2_with fail
  refine H15.out.mono ?_
  rintro e w15 ⟨A15, rfl, r15, E15⟩
  have H16 := Lib.hid (size_c isc1 w15)
  have HE15 := Lib.hid (Ext.trans HE14.out E15)
  have R15 := Lib.hid (And.intro r15 (RN.up R14.out E15))
  clear r15 E15 HE14 R14 H15
  go_wp2_with fail
  refine H16.out.mono ?_
  rintro e w16 ⟨rfl, E16⟩
  have H17 := Lib.hid (bytes_l (n := 32) w16 (RN.up R15.out.2 E16) (by decide) nb_all.2.1 rfl)
  have HE16 := Lib.hid (Ext.trans HE15.out E16)
  have R16 := Lib.hid (RB.upE R15.out.1 E16)
  clear E16 HE15 R15 H16
  go_wp2_with fail
  refine H17.out.mono ?_
  rintro e w17 ⟨A17, rfl, r17, E17⟩
  have HE17 := Lib.hid (Ext.trans HE16.out E17)
  have R17 := Lib.hid (And.intro (RB.upE R16.out E17) r17)
  clear r17 E17 HE16 R16 H17
  go_wp2_with (at_builtin; refine appF rfl (.tmp 76) (.tmp 77) rfl rfl rfl R17.out.1 (bytesOf_length _ _) (by decide) R17.out.2 (bytesOf_length _ _) (by decide) (by decide) ?_)
  intro A18 c18 w18 E18 r18
  have HE18 := Lib.hid (Ext.trans HE17.out E18)
  have R18 := Lib.hid r18
  clear E18 r18 HE17 R17
  go_wp2
  first
   | rw [Exit.noGoto_ret]
   | skip
  go_ret2
  exact ⟨A18, c18, rfl, R18.out, HF3.out.trans (Fr.below (b := b) HE18.out HF3.out.size)⟩
end Go.Proofs.YtaemogcomplhiaaGreatDoor.Ec

namespace Go.Proofs.YtaemogcomplhiaaGreatDoor
open Go.RowKit

set_option maxRecDepth 100000 in
set_option maxHeartbeats 4000000 in
theorem onx_c {c : Int} {C : Crv} (hC : IsC c C) {p : Value} {bi : Bool} {x y : Nat} (w : World) (hp : APt w p bi x y) :
 Calls Tryz.prog 52 #[.int .i64 c, p] w fun e w' => e = .returned (.bool (onQ C bi x y)) ∧ Ext w w' := by
 obtain ⟨p1, p2, rfl⟩ := apt_agg hp
 obtain ⟨W0, hW0⟩ : ∃ W0, W0 = w.alloc (.cells #[.bool bi, p1, p2] 33) := ⟨_, rfl⟩
 obtain ⟨q, hq⟩ : ∃ q, w.heap.size = q := ⟨_, rfl⟩
 have hE0 : Ext w W0 := by rw [hW0]; exact Ext.alloc _ _
 have h1 := heap_alloc_new w (.cells #[.bool bi, p1, p2] 33)
 rw [← hW0, hq] at h1
 have hp0 := Lib.hid (hp.ext hE0)
 have HE0 := Lib.hid hE0
 have HC := Lib.hid hC
 obtain ⟨res, hres⟩ : ∃ o, onQ C bi x y = o := ⟨_, rfl⟩
 rw [hres]
 have Hres := Lib.hid hres
 clear hp hE0 hC hres
 go_enter Tryz.func52, Tryz.ntmps52
 go_upto_region 1 with fail
 rw [← hW0]
 clear hW0 hq
 refine Par.region_ext (by kernel_rfl) 5 [0, 1, 0, 7, 15] [] (fun j f X => match j with
  | 0 => f 0 = .int .i64 c
  | 1 => ∃ k, f 1 = .pointer (some ⟨k, 0, none⟩) ∧ OfC C X k
  | 2 => f 2 = .agg #[.bool bi, p1, p2]
  | 3 => f 3 = .bool res
  | 4 => f 4 = .bool res
  | _ => True) (by kernel_rfl) [(5, 0), (6, 1), (7, 2), (8, 3), (4, 4)] (by kernel_rfl) ?_
 refine Par.v0 1 4 ?_
 refine Par.c0 2 3 (fun f => #[f 0]) (F' := 64) (fun f X hX hR => ?_) ?_
 · have e0 : f 0 = .int .i64 c := hR.out 0 rfl
   simp only [e0]
   refine (of_c HC.out X).mono ?_
   rintro e w2 ⟨k, rfl, hk, hB⟩
   exact ⟨_, rfl, hB, fun Y hY => ⟨k, rfl, hk.ext hY⟩⟩
 refine lV0 3 2 h1 infoP ?_
 refine Par.c0 4 1 (fun f => #[f 1, f 2]) (F' := 72) (fun f X hX hR => ?_) ?_
 · obtain ⟨k1, e1, hk1⟩ : ∃ k, f 1 = .pointer (some ⟨k, 0, none⟩) ∧ OfC C X k := hR.out 1 rfl
   have e2 : f 2 = .agg #[.bool bi, p1, p2] := hR.out 2 rfl
   simp only [e1, e2]
   refine (on_j hk1 HC.out.fine (hp0.out.ext hX)).mono ?_
   rw [Hres.out]
   rintro e w2 ⟨rfl, hB⟩
   exact ⟨_, rfl, hB, fun _ _ => rfl⟩
 refine Par.v1 5 0 3 ?_
 refine Par.AllOps.fin ⟨fun f X hX hR hal hap => ?_⟩
 obtain ⟨k1, e1, hk1⟩ : ∃ k, f 1 = .pointer (some ⟨k, 0, none⟩) ∧ OfC C X k := hR 1 (by decide)
 have e4 : f 4 = .bool res := hR 4 (by decide)
 simp only [Par.putL, Act.put, List.setIfInBounds_toArray, List.set_cons_succ, List.set_cons_zero, e1, e4]
 clear hR hal hap e1 e4
 refine Par.Chain.done ?_
 go_wp2
 go_ret
 exact ⟨rfl, HE0.out.trans hX⟩
end Go.Proofs.YtaemogcomplhiaaGreatDoor

namespace Go.Proofs.YtaemogcomplhiaaGreatDoor.Ec
open Go.RowKit Go.Shelf

attribute [local go_sem] Oper.semAt_some

def VY (C : Crv) (z r s x y : Nat) : Prop := ∃ (v u1 u2 : Nat) (a b d : Nat × Nat), invAns s (ordC C) = (digs 18446744073709551616 v, true) ∧ nbits v ≤ 4000 ∧ nbits z ≤ 4000 ∧ nbits d.1 ≤ 4000 ∧ z * v % ordC C = u1 ∧ r * v % ordC C = u2 ∧
 mulC C false (val 18446744073709551616 C.xl) (val 18446744073709551616 C.yl) u1 = some (some a) ∧ mulC C false x y u2 = some (some b) ∧ addC C false a.1 a.2 false b.1 b.2 = some (some d) ∧ d.1 % ordC C = r
theorem may_l {c : Int} {C : Crv} (hC : IsC c C) {A : Option Addr} {ca x lx : Nat} {m : Bool} (w : World) (ha : RU w A ca (digs 18446744073709551616 x)) (hlx : (digs 18446744073709551616 x).length = lx) (hm : mayE C x = m) :
 Calls Tryz.prog 34 #[.int .i64 c, .slice A lx ca] w fun e w' => e = .returned (.bool m) ∧ Ext w w' := by
 subst hlx hm
 have h := emay_any (.inl hC) _ A ca _ w ha (fun _ h => h)
 rw [val_digs (by omega)] at h
 exact h
theorem may_nb {c : Int} {C : Crv} (hC : IsC c C) {x : Nat} (h : mayE C x = true) : nbits x ≤ 4000 := by
 have h1 : x < ordC C := by
  unfold mayE at h
  rw [Bool.and_eq_true] at h
  exact of_decide_eq_true h.2
 have h2 := (ord_c hC).2.2.2.2.1
 by_cases h0 : x = 0
 · subst h0; rw [nbits_zero]; omega
 · have b1 := (nbits_bounds h0).1
   have b2 := (nbits_bounds (x := ordC C) (by omega)).2.1
   have h3 : 2 ^ (nbits x - 1) < 2 ^ nbits (ordC C) := Nat.lt_of_le_of_lt b1 (Nat.lt_trans h1 b2)
   have := (Nat.pow_lt_pow_iff_right (by omega : 1 < 2)).1 h3
   omega
set_option maxRecDepth 100000 in
set_option maxHeartbeats 8000000 in
theorem verify_any {c : Int} {C : Crv} (hC : IsC c C) {p : Value} {x y z r s cap ch n nh : Nat} {P Q : Nat → Prop} {ad ah : Addr} {bs gs : List Nat} {V : Bool} (w : World) (hp : APt w p false x y) (ho : onQ C false x y = true)
 (hb : RB w P (some ad) cap bs) (hP : ∀ q, P q → q < w.heap.size) (hn : bs.length = n) (hl : n = 2 * C.size) (hh : RB w Q (some ah) ch gs) (hQ : ∀ q, Q q → q < w.heap.size) (hm : gs.length = nh) (hm0 : 0 < nh) (hm1 : nh ≤ C.size)
 (hz : numOf gs = z) (hr : numOf (bs.take C.size) = r) (hs : numOf (bs.drop C.size) = s) (hV : ((mayE C r && mayE C s) = false ∧ V = false) ∨ (mayE C r = true ∧ mayE C s = true ∧ VY C z r s x y ∧ V = true)) :
 Calls Tryz.prog 24 #[.int .i64 c, p, .slice (some ah) nh ch, .slice (some ad) n cap] w fun e w' => e = .returned (.bool V) ∧ Ext w w' := by
 obtain ⟨p1, p2, rfl⟩ := apt_agg hp
 obtain ⟨t, ht⟩ : ∃ t, C.size = t := ⟨_, rfl⟩
 have hF := hC.fine
 have t1 : 32 ≤ t := by rw [← ht]; exact hF.pos
 have t2 : t ≤ 48 := by rw [← ht]; exact hF.small
 obtain ⟨W0, hW0⟩ : ∃ W0, W0 = w.alloc (.cells #[.bool false, p1, p2] 33) := ⟨_, rfl⟩
 obtain ⟨q, hq⟩ : ∃ q, w.heap.size = q := ⟨_, rfl⟩
 have hq0 := heap_alloc_new w (.cells #[.bool false, p1, p2] 33)
 have hE0 : Ext w W0 := by rw [hW0]; exact Ext.alloc _ _
 rw [← hW0, hq] at hq0
 have HSz := Lib.hid (size_c hC W0)
 rw [ht] at HSz hl hr hs hm1
 obtain ⟨l1, l2, l3⟩ := hb.cap
 rw [hn] at l1 l3
 have ht0 : ((t : Int) == 0) = false := by simp; omega
 have hn2 : ((n : Int) != 2 * (t : Int)) = false := by simp; omega
 have w1 : IntKind.i64.wrap (2 * (t : Int)) = 2 * t := IntWalk.i64_in _ (by omega)
 have HC := Lib.hid hC
 have HPt := Lib.hid (hp.ext hE0)
 have HO := Lib.hid ho
 have HB := Lib.hid (hb.below hE0 hP)
 have HP := Lib.hid (fun q hq => Nat.lt_of_lt_of_le (hP q hq) hE0.bsize)
 have HH := Lib.hid (hh.below hE0 hQ)
 have HQ := Lib.hid (fun q hq => Nat.lt_of_lt_of_le (hQ q hq) hE0.bsize)
 have Hn := Lib.hid hn
 have Hl := Lib.hid hl
 have Hm := Lib.hid (And.intro hm (And.intro hm0 (And.intro hm1 ht)))
 have Hz := Lib.hid hz
 have Hr := Lib.hid hr
 have Hs := Lib.hid hs
 have HV := Lib.hid hV
 have HE0 := Lib.hid hE0
 have Hq := Lib.hid hq
 clear hC hp ho hb hP hh hQ hn hl hm hm0 hm1 hz hr hs hV hE0 hq hF ht
 go_enter Tryz.func24, Tryz.ntmps24
 go_upto_region 1 with fail
 rw [← hW0, Hq.out]
 clear hW0
 go_upto_region 2 with (go_at_call 29; refine HSz.out.mono ?_; rintro e wa ⟨rfl, Ea⟩)
 have hqa := Ea.at_ hq0
 obtain ⟨z0, z1, z2, f0, f1, f2⟩ := pt_facts hqa
 have hon := onx_c HC.out wa (HPt.out.ext Ea)
 rw [HO.out] at hon
 have Hon := Lib.hid hon
 have HEa := Lib.hid Ea
 clear hq0 Ea hon HSz
 go_upto_region 4 with (go_at_call 52; refine Hon.out.mono ?_; rintro e wb ⟨rfl, Eb⟩)
 have HEb := Lib.hid (HEa.out.trans Eb)
 have hqb := Eb.at_ hqa
 obtain ⟨B1, hB1⟩ : ∃ B1, bs.take t = B1 := ⟨_, rfl⟩
 obtain ⟨B2, hB2⟩ : ∃ B2, bs.drop t = B2 := ⟨_, rfl⟩
 have hlen1 : B1.length = t := by rw [← hB1, List.length_take, Hn.out, Hl.out]; omega
 have hlen2 : B2.length = t := by rw [← hB2, List.length_drop, Hn.out, Hl.out]; omega
 have hr1 := Lib.hid (fun X (hX : Ext wb X) => show RB X P (some ad) cap B1 by
  have := (HB.out.below (HEb.out.trans hX) HP.out).takeS t
  rw [hB1] at this
  exact this)
 have hr2 := Lib.hid (fun X (hX : Ext wb X) => show RB X P (some (ad.add t)) (cap - t) B2 by
  have := (HB.out.below (HEb.out.trans hX) HP.out).mid (k := t) (m := bs.length) (c' := cap - t) (A' := some (ad.add t)) (by rw [Hn.out, Hl.out]; omega) (Nat.le_refl _) (by rw [Hn.out]; omega) (by unfold maxLen; omega) (fun _ => rfl)
  rw [List.take_of_length_le (by rw [List.length_drop]; omega), hB2] at this
  exact this)
 have HPX := Lib.hid (fun X (hX : Ext wb X) (q : Nat) (hq : P q) => Nat.lt_of_lt_of_le (HP.out q hq) (HEb.out.trans hX).bsize)
 have L1 := Lib.hid hlen1
 have L2 := Lib.hid hlen2
 have N1 := Lib.hid (show numOf B1 = r from by rw [← hB1]; exact Hr.out)
 have N2 := Lib.hid (show numOf B2 = s from by rw [← hB2]; exact Hs.out)
 have c1i : (t : Int) ≤ cap := by have := Hl.out; omega
 have c4i : (t : Int) ≤ n := by have := Hl.out; omega
 have c5i : (0 : Int) ≤ (t : Int) := by omega
 have c7 : ¬ cap = t := by have := Hl.out; omega
 have c1 : t ≤ cap := by have := Hl.out; omega
 have c3 : n - t = t := by have := Hl.out; omega
 have c4 : t ≤ n := by have := Hl.out; omega
 clear hlen1 hlen2 hB1 hB2 hqa z0 z1 z2 f0 f1 f2 Hon HEa Eb
 refine Par.region_ext (by kernel_rfl) 10 [0, 0, 3, 7, 0, 0, 48, 127, 255, 511] [] (fun j f X => match j with
  | 0 => f 0 = .slice (some ad) n cap
  | 1 => f 1 = .int .i64 (t : Int)
  | 2 => f 2 = .slice (some ad) t cap
  | 3 => ∃ A k, f 3 = .slice A (digs 18446744073709551616 r).length k ∧ RU X A k (digs 18446744073709551616 r)
  | 4 => f 4 = .slice (some ad) n cap
  | 5 => f 5 = .int .i64 (t : Int)
  | 6 => f 6 = .slice (some (ad.add t)) t (cap - t)
  | 7 => ∃ A k, f 7 = .slice A (digs 18446744073709551616 s).length k ∧ RU X A k (digs 18446744073709551616 s)
  | 8 => ∃ A k, f 8 = .slice A (digs 18446744073709551616 r).length k ∧ RU X A k (digs 18446744073709551616 r)
  | 9 => ∃ A k, f 9 = .slice A (digs 18446744073709551616 s).length k ∧ RU X A k (digs 18446744073709551616 s)
  | _ => True) (by kernel_rfl) [(40, 0), (41, 1), (42, 2), (43, 3), (44, 4), (45, 5), (46, 6), (47, 7), (10, 8), (11, 9)] (by kernel_rfl) ?_
 refine Par.v0 1 9 ?_
 refine Par.v0 2 8 ?_
 refine Par.S 3 7 [(40, 0), (41, 1), (44, 4), (45, 5), (46, 6)] (fun f X hX hR K hK => ?_) ?_
 · have e0 : f 0 = _ := hR.out 0 rfl
   have e1 : f 1 = _ := hR.out 1 rfl
   simp only [yA, yB, yC, yD, yE, e0, e1]
   refine ⟨?_⟩
   go_simp
   exact Par.k hK (s := by simp only [yA, yB, yC, yD, yE, e0, e1])
 refine Par.c0 4 6 (fun f => #[f 2]) (F' := 53) (fun f X hX hR => ?_) ?_
 · have e2 : f 2 = _ := hR.out 2 rfl
   simp only [e2]
   have hf := fromBytes_any P _ _ B1 X (hr1.out X hX) (HPX.out X hX) (by rw [L1.out]; omega)
   rw [L1.out, N1.out] at hf
   refine hf.mono ?_
   rintro e w2 ⟨A1, k1, rfl, hO, hB⟩
   exact ⟨(.slice A1 (digs 18446744073709551616 r).length k1), rfl, hB, fun Y hY => ⟨A1, k1, rfl, RN.up hO.ru hY⟩⟩
 refine Par.v0 5 5 ?_
 refine Par.v0 6 4 ?_
 refine Par.S 7 3 [(40, 0), (41, 1), (42, 2), (43, 3), (44, 4), (45, 5)] (fun f X hX hR K hK => ?_) ?_
 · have e4 : f 4 = _ := hR.out 4 rfl
   have e5 : f 5 = _ := hR.out 5 rfl
   simp only [yA, yB, yC, yD, yE, e4, e5]
   refine ⟨?_⟩
   go_simp
   exact Par.k hK (s := by simp only [yA, yB, yC, yD, yE, e4, e5])
 refine Par.c0 8 2 (fun f => #[f 6]) (F' := 53) (fun f X hX hR => ?_) ?_
 · have e6 : f 6 = _ := hR.out 6 rfl
   simp only [e6]
   have hf := fromBytes_any P _ _ B2 X (hr2.out X hX) (HPX.out X hX) (by rw [L2.out]; omega)
   rw [L2.out, N2.out] at hf
   refine hf.mono ?_
   rintro e w2 ⟨A1, k1, rfl, hO, hB⟩
   exact ⟨(.slice A1 (digs 18446744073709551616 s).length k1), rfl, hB, fun Y hY => ⟨A1, k1, rfl, RN.up hO.ru hY⟩⟩
 refine Par.S 9 1 [(40, 0), (41, 1), (42, 2), (43, 3), (44, 4), (45, 5), (46, 6), (47, 7)] (fun f X hX hR K hK => ?_) ?_
 · obtain ⟨A3, k3, (e3 : f 3 = _), r3⟩ := hR.out 3 rfl
   simp only [yA, yB, yC, yD, yE, e3]
   refine ⟨?_⟩
   go_simp
   exact hK.out _ _ _ (by simp only [yA, yB, yC, yD, yE, e3]) (Ext.refl _) trivial (fun Y hY => ⟨A3, k3, rfl, RN.up r3 hY⟩)
 refine Par.S 10 0 [(40, 0), (41, 1), (42, 2), (43, 3), (44, 4), (45, 5), (46, 6), (47, 7), (10, 8)] (fun f X hX hR K hK => ?_) ?_
 · obtain ⟨A7, k7, (e7 : f 7 = _), r7⟩ := hR.out 7 rfl
   simp only [yA, yB, yC, yD, yE, e7]
   refine ⟨?_⟩
   go_simp
   exact hK.out _ _ _ (by simp only [yA, yB, yC, yD, yE, e7]) (Ext.refl _) trivial (fun Y hY => ⟨A7, k7, rfl, RN.up r7 hY⟩)
 refine Par.AllOps.fin ⟨fun f X hX hR hal hap => ?_⟩
 obtain ⟨A3, k3, (e3 : f 3 = _), r3⟩ := hR 3 (by decide)
 obtain ⟨A7, k7, (e7 : f 7 = _), r7⟩ := hR 7 (by decide)
 obtain ⟨A8, k8, (e8 : f 8 = _), r8⟩ := hR 8 (by decide)
 obtain ⟨A9, k9, (e9 : f 9 = _), r9⟩ := hR 9 (by decide)
 simp only [yA, yB, yD, yE, e3, e7, e8, e9]
 clear hR hal hap e3 e7 e8 e9
 refine Par.Chain.done ?_
 have hqx := hX.at_ hqb
 have HEX := Lib.hid (HEb.out.trans hX)
 have R8 := Lib.hid r8
 have R9 := Lib.hid r9
 clear hqb hX r3 r7 r8 r9 c1i c4i c5i c7 c1 c3 c4 HEb hr1 hr2 L1 L2 N1 N2 HPX w1 ht0 hn2 l1 l2 l3
 obtain ⟨m1, hm1⟩ : ∃ m, mayE C r = m := ⟨_, rfl⟩
 obtain ⟨m2, hm2⟩ : ∃ m, mayE C s = m := ⟨_, rfl⟩
 have H5 := Lib.hid (may_l HC.out X R8.out rfl hm1)
 have H6 := Lib.hid (fun Y (hY : Ext X Y) => may_l HC.out Y (RN.up R9.out hY) rfl hm2)
 have hv := HV.out
 rw [hm1, hm2] at hv
 have Hm1 := Lib.hid hm1
 have Hm2 := Lib.hid hm2
 clear hm1 hm2 HV
 cases m1
 · obtain rfl : V = false := by
    rcases hv with h | h
    · exact h.2
    · exact absurd h.1 (by decide)
   clear hv
   go_wp2_with fail
   refine H5.out.mono ?_
   rintro e wc ⟨rfl, Ec⟩
   have HEc := Lib.hid (HE0.out.trans (HEX.out.trans Ec))
   clear Ec
   go_wp2
   go_ret
   exact ⟨rfl, HEc.out⟩
 cases m2
 · obtain rfl : V = false := by
    rcases hv with h | h
    · exact h.2
    · exact absurd h.2.1 (by decide)
   clear hv
   go_wp2_with fail
   refine H5.out.mono ?_
   rintro e wc ⟨rfl, Ec⟩
   go_wp2_with fail
   refine (H6.out _ Ec).mono ?_
   rintro e wd ⟨rfl, Ed⟩
   have HEd := Lib.hid (HE0.out.trans (HEX.out.trans (Ec.trans Ed)))
   clear Ec Ed
   go_wp2
   go_ret
   exact ⟨rfl, HEd.out⟩
 obtain ⟨rfl, hy⟩ : V = true ∧ VY C z r s x y := by
  rcases hv with h | h
  · exact absurd h.1 (by decide)
  · exact ⟨h.2.2.2, h.2.2.1⟩
 obtain ⟨v, u1, u2, a, b, d, yi, nv, nz, nd, y1, y2, g1, g2, g3, yd⟩ := hy
 have HY := Lib.hid (And.intro yi (And.intro y1 (And.intro y2 (And.intro g1 (And.intro g2 (And.intro g3 yd))))))
 have HN := Lib.hid (And.intro nv (And.intro nz nd))
 clear hv yi nv nz nd y1 y2 g1 g2 g3 yd
 go_wp2_with fail
 refine H5.out.mono ?_
 rintro e wc ⟨rfl, Ec⟩
 go_wp2_with fail
 refine (H6.out _ Ec).mono ?_
 rintro e wd ⟨rfl, Ed⟩
 have H7 := Lib.hid (einv_l HC.out wd (RN.up R9.out (Ec.trans Ed)) (may_nb HC.out Hm2.out) HY.out.1 rfl)
 have HEd := Lib.hid (Ec.trans Ed)
 clear Ec Ed H5 H6
 go_wp2_with fail
 refine H7.out.mono ?_
 rintro e we ⟨A12, k12, rfl, r12, Ee⟩
 have hEe := HEX.out.trans (HEd.out.trans Ee)
 have h8 := number_short HC.out we (HH.out.below hEe HQ.out) (fun q hq => Nat.lt_of_lt_of_le (HQ.out q hq) hEe.bsize) Hm.out.1 (by rw [Hm.out.2.2.2]; exact Hm.out.2.2.1) Hm.out.2.1
 rw [Hz.out] at h8
 have H8 := Lib.hid h8
 have HEe := Lib.hid (HEd.out.trans Ee)
 have R12 := Lib.hid r12
 clear h8 hEe Ee r12 H7 HEd
 go_wp2_with fail
 refine H8.out.mono ?_
 rintro e w1 ⟨A1, k1, rfl, o1, E1⟩
 have H1 := Lib.hid (times_l HC.out w1 o1.ru (RN.up R12.out E1) HN.out.2.1 HN.out.1 HY.out.2.1 rfl rfl)
 have HE1 := Lib.hid (HEe.out.trans E1)
 have R1 := Lib.hid (RN.up R12.out E1)
 clear o1 E1 H8 HEe R12
 go_wp2_with fail
 refine H1.out.mono ?_
 rintro e w2 ⟨A2, k2, rfl, r2, E2⟩
 have HE2 := Lib.hid (HE1.out.trans E2)
 have R2 := Lib.hid (And.intro r2 (RN.up R1.out E2))
 clear r2 E2 HE1 R1 H1
 go_wp2_with fail
 refine (base_c HC.out w2).mono ?_
 rintro e w3 ⟨Ax, cx, Ay, cy, rfl, hx, hy, E3⟩
 have h3 := mul_c HC.out w3 (show APt w3 (.agg #[.bool false, .slice Ax C.xl.length cx, .slice Ay C.yl.length cy]) false (val 18446744073709551616 C.xl) (val 18446744073709551616 C.yl) from ⟨Ax, Ay, cx, cy, _, _, rfl, hx, hy, rfl, rfl⟩) (RN.up R2.out.1 E3) (val_digs (by omega) _)
 rw [HY.out.2.2.2.1] at h3
 have H3 := Lib.hid h3
 have HE3 := Lib.hid (HE2.out.trans E3)
 have R3 := Lib.hid (RN.up R2.out.2 E3)
 clear hx hy h3 E3 HE2 R2
 go_wp2_with fail
 refine H3.out.mono ?_
 rintro e w4 ⟨o, rfl, hv4, E4⟩
 have hv4 : PtV w4 w3.heap.size o (some a) := hv4
 obtain ⟨Bx, dx, By, dy, rfl, ox, oy⟩ := hv4
 have hq5 := heap_alloc_new w4 (.cells #[.bool false, .slice Bx (digs 18446744073709551616 a.1).length dx, .slice By (digs 18446744073709551616 a.2).length dy] 33)
 have hA5 := Ext.alloc w4 (.cells #[.bool false, .slice Bx (digs 18446744073709551616 a.1).length dx, .slice By (digs 18446744073709551616 a.2).length dy] 33)
 obtain ⟨ga, hga⟩ : ∃ g, w4.heap.size = g := ⟨_, rfl⟩
 rw [hga] at hq5
 have Ra := Lib.hid (And.intro (RN.up ox.ru hA5) (RN.up oy.ru hA5))
 have HE5 := Lib.hid (HEX.out.trans (HE3.out.trans (E4.trans hA5)))
 have R5 := Lib.hid (RN.up R3.out (E4.trans hA5))
 have R8 := Lib.hid (RN.up R8.out (HE3.out.trans (E4.trans hA5)))
 have hqp := (HE3.out.trans (E4.trans hA5)).at_ hqx
 have Hg := Lib.hid hga
 clear ox oy hga hA5 E4 HE3 H3 R3 hqx HEX R9
 go_upto_region 9 with fail
 rw [Hg.out]
 generalize w4.alloc (.cells #[.bool false, .slice Bx (digs 18446744073709551616 a.1).length dx, .slice By (digs 18446744073709551616 a.2).length dy] 33) = w5 at *
 have HP5 := Lib.hid (HPt.out.ext HE5.out)
 have HL := Lib.hid (And.intro (may_nb HC.out Hm1.out) HN.out.1)
 refine Par.region_sto (by kernel_rfl) 11 9 (.bool true) [0, 0, 0, 0, 14, 0, 63, 127, 255, 255, 0, 1535, 4095] [10] (fun j f X => match j with
  | 0 => f 0 = .int .i64 c
  | 1 => f 1 = .int .i64 c
  | 2 => f 2 = .slice A8 (digs 18446744073709551616 r).length k8
  | 3 => f 3 = .slice A12 (digs 18446744073709551616 v).length k12
  | 4 => ∃ A k, f 4 = .slice A (digs 18446744073709551616 u2).length k ∧ RU X A k (digs 18446744073709551616 u2)
  | 5 => f 5 = .agg #[.bool false, p1, p2]
  | 6 => ∃ A k B m, f 6 = .tuple #[.agg #[.bool false, .slice A (digs 18446744073709551616 b.1).length k, .slice B (digs 18446744073709551616 b.2).length m], .bool true] ∧ RU X A k (digs 18446744073709551616 b.1) ∧ RU X B m (digs 18446744073709551616 b.2)
  | 7 => ∃ A k B m, f 7 = .tuple #[.agg #[.bool false, .slice A (digs 18446744073709551616 b.1).length k, .slice B (digs 18446744073709551616 b.2).length m], .bool true] ∧ RU X A k (digs 18446744073709551616 b.1) ∧ RU X B m (digs 18446744073709551616 b.2)
  | 8 => ∃ A k B m, f 8 = .agg #[.bool false, .slice A (digs 18446744073709551616 b.1).length k, .slice B (digs 18446744073709551616 b.2).length m] ∧ RU X A k (digs 18446744073709551616 b.1) ∧ RU X B m (digs 18446744073709551616 b.2)
  | 9 => f 9 = .bool true
  | 10 => ∃ b, f 10 = .pointer (some ⟨b, 0, none⟩) ∧ w5.heap.size ≤ b ∧ X.heap[b]? = some (.cells #[.bool false, .slice none 0 0, .slice none 0 0] 33 (0, 0))
  | _ => True) (fun f Y => ∃ (g : Nat) (A : Option Addr) (k : Nat) (B : Option Addr) (m : Nat), f 10 = .pointer (some ⟨g, 0, none⟩) ∧ Ext w5 Y ∧ Y.heap[g]? = some (.cells #[.bool false, .slice A (digs 18446744073709551616 b.1).length k, .slice B (digs 18446744073709551616 b.2).length m] 33 (0, 0)) ∧ RU Y A k (digs 18446744073709551616 b.1) ∧ RU Y B m (digs 18446744073709551616 b.2)) (by kernel_rfl) (by kernel_rfl) (fun _ _ => Iff.rfl) [(75, 0), (76, 1), (77, 2), (78, 3), (79, 4), (80, 5), (81, 6), (74, 7), (82, 8), (83, 9), (15, 10)] (by kernel_rfl) (by kernel_rfl) ?_
 refine Par.AllOps.cons 1 10 rfl rfl (Par.StepX.step rfl (Par.StepO.intro [(76, 1), (77, 2), (78, 3), (79, 4), (80, 5), (15, 10)] (by kernel_rfl) (fun f X hX hR K hK => ?_))) ?_
 · simp only [yA, yB, yC, yD, yE]
   refine ⟨?_⟩
   go_simp
   exact Par.k hK (s := by simp only [yA, yB, yC, yD, yE])
 refine Par.AllOps.cons 2 9 rfl rfl (Par.StepX.step rfl (Par.StepO.intro [(75, 0), (77, 2), (78, 3), (80, 5), (15, 10)] (by kernel_rfl) (fun f X hX hR K hK => ?_))) ?_
 · simp only [yA, yB, yC, yD, yE]
   refine ⟨?_⟩
   go_simp
   exact Par.k hK (s := by simp only [yA, yB, yC, yD, yE])
 refine Par.AllOps.cons 3 8 rfl rfl (Par.StepX.step rfl (Par.StepO.intro [(75, 0), (76, 1), (78, 3), (80, 5), (15, 10)] (by kernel_rfl) (fun f X hX hR K hK => ?_))) ?_
 · simp only [yA, yB, yC, yD, yE]
   refine ⟨?_⟩
   go_simp
   exact Par.k hK (s := by simp only [yA, yB, yC, yD, yE])
 refine Par.AllOps.cons 4 7 rfl rfl (Par.StepX.step rfl (Par.StepO.intro [(75, 0), (76, 1), (77, 2), (80, 5), (15, 10)] (by kernel_rfl) (fun f X hX hR K hK => ?_))) ?_
 · simp only [yA, yB, yC, yD, yE]
   refine ⟨?_⟩
   go_simp
   exact Par.k hK (s := by simp only [yA, yB, yC, yD, yE])
 refine Par.AllOps.cons 5 6 rfl rfl (Par.StepX.step rfl (Par.StepO.intro [(75, 0), (76, 1), (77, 2), (78, 3), (80, 5), (15, 10)] (by kernel_rfl) (fun f X hX hR K hK => ?_))) ?_
 · have e1 : f 1 = _ := hR.out 1 rfl
   have e2 : f 2 = _ := hR.out 2 rfl
   have e3 : f 3 = _ := hR.out 3 rfl
   simp only [yA, yB, yC, yD, yE, e1, e2, e3]
   refine ⟨?_⟩
   go_simp
   refine (times_l HC.out X (RN.up R8.out hX) (RN.up R5.out hX) HL.out.1 HL.out.2 HY.out.2.2.1 rfl rfl).mono ?_
   rintro e w2 ⟨A, c, rfl, h, hB⟩
   exact hK.out _ (.slice A (digs 18446744073709551616 u2).length c) _ (by simp only [yA, yB, yC, yD, yE, e1, e2, e3]) hB trivial (fun Y hY => ⟨A, c, rfl, RN.up h hY⟩)
 refine Par.AllOps.cons 6 5 rfl rfl (Par.StepX.step rfl (Par.StepO.intro [(75, 0), (76, 1), (77, 2), (78, 3), (79, 4), (15, 10)] (by kernel_rfl) (fun f X hX hR K hK => ?_))) ?_
 · simp only [yA, yB, yC, yD, yE]
   refine ⟨Par.want (by kernel_rfl) (wp_loadV (v := .agg #[.bool false, p1, p2]) (t := 33) 33 (.tmp 5) rfl rfl (hX.at_ hqp) Tryz.underlying33 rfl infoP rfl ?_)⟩
   exact Par.k hK (s := by simp only [yA, yB, yC, yD, yE])
 refine Par.AllOps.cons 7 4 rfl rfl (Par.StepX.step rfl (Par.StepO.intro [(75, 0), (76, 1), (77, 2), (78, 3), (79, 4), (80, 5), (15, 10)] (by kernel_rfl) (fun f X hX hR K hK => ?_))) ?_
 · have e0 : f 0 = _ := hR.out 0 rfl
   obtain ⟨A4, c4, (e4 : f 4 = _), h4⟩ := hR.out 4 rfl
   have e5 : f 5 = _ := hR.out 5 rfl
   simp only [yA, yB, yC, yD, yE, e0, e4, e5]
   refine ⟨?_⟩
   go_simp
   have hm := mul_c HC.out X (HP5.out.ext hX) h4 (val_digs (by omega) _)
   rw [HY.out.2.2.2.2.1, show (some (some b)).isSome = true from rfl, show (some (some b)).join = some b from rfl] at hm
   refine hm.mono ?_
   rintro e w2 ⟨o, rfl, ⟨A, k, B, m, rfl, o1, o2⟩, hB⟩
   exact hK.out _ (.tuple #[.agg #[.bool false, .slice A (digs 18446744073709551616 b.1).length k, .slice B (digs 18446744073709551616 b.2).length m], .bool true]) _ (by simp only [yA, yB, yC, yD, yE, e0, e4, e5]) hB trivial (fun Y hY => ⟨A, k, B, m, rfl, RN.up o1.ru hY, RN.up o2.ru hY⟩)
 refine Par.AllOps.cons 8 3 rfl rfl (Par.StepX.step rfl (Par.StepO.intro [(75, 0), (76, 1), (77, 2), (78, 3), (79, 4), (80, 5), (81, 6), (15, 10)] (by kernel_rfl) (fun f X hX hR K hK => ?_))) ?_
 · obtain ⟨A6, c6, B6, d6, (e6 : f 6 = _), h6, i6⟩ := hR.out 6 rfl
   simp only [yA, yB, yC, yD, yE, e6]
   refine ⟨?_⟩
   go_simp
   exact hK.out _ _ _ (by simp only [yA, yB, yC, yD, yE, e6]) (Ext.refl _) trivial (fun Y hY => ⟨A6, c6, B6, d6, rfl, RN.up h6 hY, RN.up i6 hY⟩)
 refine Par.AllOps.cons 9 2 rfl rfl (Par.StepX.step rfl (Par.StepO.intro [(75, 0), (76, 1), (77, 2), (78, 3), (79, 4), (80, 5), (81, 6), (74, 7), (83, 9), (15, 10)] (by kernel_rfl) (fun f X hX hR K hK => ?_))) ?_
 · obtain ⟨A7, c7, B7, d7, (e7 : f 7 = _), h7, i7⟩ := hR.out 7 rfl
   simp only [yA, yB, yC, yD, yE, e7]
   refine ⟨?_⟩
   go_simp
   exact hK.out _ _ _ (by simp only [yA, yB, yC, yD, yE, e7]) (Ext.refl _) trivial (fun Y hY => ⟨A7, c7, B7, d7, rfl, RN.up h7 hY, RN.up i7 hY⟩)
 refine Par.AllOps.cons 10 1 rfl rfl (Par.StepX.pure (Par.PuO.intro [(75, 0), (76, 1), (77, 2), (78, 3), (79, 4), (80, 5), (81, 6), (74, 7), (82, 8), (15, 10)] (by kernel_rfl) (fun f X X1 hX hR K hK => ?_))) ?_
 · obtain ⟨A7, c7, B7, d7, (e7 : f 7 = _), h7, i7⟩ := hR.out 7 rfl
   simp only [yA, yB, yC, yD, yE, e7]
   refine ⟨?_⟩
   go_simp
   exact Par.pu_end hK (by simp only [yA, yB, yC, yD, yE, e7])
 refine Par.AllOps.cons 11 0 rfl rfl (Par.StepX.step rfl (Par.StepO.intro [(75, 0), (76, 1), (77, 2), (78, 3), (79, 4), (80, 5), (81, 6), (74, 7), (82, 8), (83, 9)] (by kernel_rfl) (fun f X hX hR K hK => ?_))) ?_
 · simp only [yA, yB, yC, yD, yE]
   refine ⟨?_⟩
   go_simp
   exact hK.out _ _ _ (by simp only [yA, yB, yC, yD, yE]) (Ext.alloc _ _) ⟨rfl, by simp⟩ (fun Y hY => ⟨_, rfl, hX.bsize, hY.at_ (heap_alloc_new _ _)⟩)
 refine Par.AllOps.fin (Par.FinS.intro (fun f X hX hR hal K hK => ?_) (fun f Ym hfu hS => ?_))
 · obtain ⟨A8, c8, B8, d8, (e8 : f 8 = _), h8, i8⟩ := hR.out 8 rfl
   obtain ⟨bm10, (e10 : f 10 = _), lm10, hm10⟩ := hR.out 10 rfl
   simp only [yA, yB, yD, yE, e8, e10]
   refine ⟨Par.want (by kernel_rfl) (wp_storeV (cs' := #[.bool false, .slice A8 (digs 18446744073709551616 b.1).length c8, .slice B8 (digs 18446744073709551616 b.2).length d8]) (t := 33) 33 (.tmp 15) (.tmp 82) rfl rfl rfl rfl hm10 infoP rfl (pt_one _ _ _ _ _ _ _) (fun Y h1 h2 h3 => ?_))⟩
   refine Par.sto_end hK (by simp only [yA, yB, yD, yE, e8, e10]) ⟨_, A8, c8, B8, d8, e10, h2.ext hX lm10, h1, h8.offJ h2 hm10 (by kernel_rfl), i8.offJ h2 hm10 (by kernel_rfl)⟩
 obtain ⟨gb, Ab, kb, Bb, mb, e10, hEm, hqm, ham, hbm⟩ : ∃ (g : Nat) (A : Option Addr) (k : Nat) (B : Option Addr) (m : Nat), f 10 = .pointer (some ⟨g, 0, none⟩) ∧ Ext w5 Ym ∧ Ym.heap[g]? = some (.cells #[.bool false, .slice A (digs 18446744073709551616 b.1).length k, .slice B (digs 18446744073709551616 b.2).length m] 33 (0, 0)) ∧ RU Ym A k (digs 18446744073709551616 b.1) ∧ RU Ym B m (digs 18446744073709551616 b.2) := hS
 simp only [yA, yB, yD, yE, hfu, e10]
 clear hfu e10
 refine Par.Chain.next (fun K hK => ⟨Par.want (by kernel_rfl) ?_⟩)
 go_simp
 refine hK.out _ _ ?_
 refine Par.Chain.done ?_
 have hqa := hEm.at_ hq5
 have h10 := add_c HC.out Ym (show APt Ym (.agg #[.bool false, .slice Bx (digs 18446744073709551616 a.1).length dx, .slice By (digs 18446744073709551616 a.2).length dy]) false a.1 a.2 from ⟨Bx, By, dx, dy, _, _, rfl, RN.up Ra.out.1 hEm, RN.up Ra.out.2 hEm, val_digs (by omega) _, val_digs (by omega) _⟩) (show APt Ym (.agg #[.bool false, .slice Ab (digs 18446744073709551616 b.1).length kb, .slice Bb (digs 18446744073709551616 b.2).length mb]) false b.1 b.2 from ⟨Ab, Bb, kb, mb, _, _, rfl, ham, hbm, val_digs (by omega) _, val_digs (by omega) _⟩)
 rw [HY.out.2.2.2.2.2.1] at h10
 have H10 := Lib.hid h10
 have HE6 := Lib.hid (HE5.out.trans hEm)
 have R6 := Lib.hid (RN.up R8.out hEm)
 obtain ⟨y0, y1, y2, q0, q1, q2⟩ := pt_facts hqa
 obtain ⟨z0, z1, z2, f0, f1, f2⟩ := pt_facts hqm
 clear hqa hqm hq5 hqp h10 ham hbm hEm HE5 R8 R5 Ra HP5 HL
 go_wp2_with fail
 refine H10.out.mono ?_
 rintro e w7 ⟨o, rfl, hv7, E7⟩
 have hv7 : PtV w7 Ym.heap.size o (some d) := hv7
 obtain ⟨Dx, ex, Dy, ey, rfl, ox, oy⟩ := hv7
 obtain ⟨lx, hlx⟩ : ∃ l, (digs 18446744073709551616 d.1).length = l := ⟨_, rfl⟩
 obtain ⟨ly, hly⟩ : ∃ l, (digs 18446744073709551616 d.2).length = l := ⟨_, rfl⟩
 rw [hlx, hly]
 have hq8 := heap_alloc_new w7 (.cells #[.bool false, .slice Dx lx ex, .slice Dy ly ey] 33)
 have hA8 := Ext.alloc w7 (.cells #[.bool false, .slice Dx lx ex, .slice Dy ly ey] 33)
 obtain ⟨gd, hgd⟩ : ∃ g, w7.heap.size = g := ⟨_, rfl⟩
 rw [hgd] at hq8
 have RD := Lib.hid (RN.up ox.ru hA8)
 have HE8 := Lib.hid (HE6.out.trans (E7.trans hA8))
 have R8 := Lib.hid (RN.up R6.out (E7.trans hA8))
 have Hgd := Lib.hid hgd
 have Hlx := Lib.hid hlx
 clear ox oy hlx hly hgd hA8 E7 HE6 H10 R6 y0 y1 y2 q0 q1 q2 z0 z1 z2 f0 f1 f2
 go_upto_region 11 with fail
 rw [Hgd.out]
 generalize w7.alloc (.cells #[.bool false, .slice Dx lx ex, .slice Dy ly ey] 33) = w8 at *
 have H11 := Lib.hid (first_any HC.out (B := Dy) (cb := ey) (ly := ly) false w8 RD.out HN.out.2.2 HY.out.2.2.2.2.2.2 Hlx.out)
 obtain ⟨z0, z1, z2, f0, f1, f2⟩ := pt_facts hq8
 clear hq8 RD
 go_wp2_with fail
 refine H11.out.mono ?_
 rintro e w9 ⟨A9, k9, rfl, r9, E9⟩
 have h12 := cmp_any _ _ A9 A8 k9 k8 _ _ w9 r9 (RN.up R8.out E9)
 rw [val_digs (by omega), cmpV_eq] at h12
 have H12 := Lib.hid h12
 have HE9 := Lib.hid (HE8.out.trans E9)
 clear r9 h12 E9 HE8 H11 R8
 go_wp2_with fail
 refine H12.out.mono ?_
 rintro e w10 ⟨rfl, nn, rfl⟩
 go_wp2
 go_ret
 exact ⟨rfl, HE0.out.trans (HE9.out.trans (Ext.drewN _ _))⟩
end Go.Proofs.YtaemogcomplhiaaGreatDoor.Ec

namespace Go.Proofs.YtaemogcomplhiaaGreatDoor.Ec
open Go.RowKit Go.Shelf
open Sha

attribute [local go_sem] Oper.semAt_some

theorem rb_offP {w X : World} {g : Nat} {b : Bool} {A1 A2 : Option Addr} {n1 c1 n2 c2 : Nat} {T : TypeId} {P : Nat → Prop} {A : Option Addr} {c : Nat} {d : List Nat} (h : RB w P A c d) (hP : ∀ k, P k → k < w.heap.size) (hg : w.heap[g]? = some (.cells #[.bool b, .slice A1 n1 c1, .slice A2 n2 c2] T (0, 0))) (hj : Just g w X) : RB X P A c d :=
 h.by_ fun q u hq hc => (World.cell?_of_block (hj.block _ (hP _ hq) (fun e => by
  unfold World.cell? at hc
  rw [e, hg] at hc
  simp only at hc
  split at hc
  · cases hc
  · have hm := List.mem_of_getElem? (l := [Value.bool b, .slice A1 n1 c1, .slice A2 n2 c2]) (i := q.off) (by simpa using hc)
    simp at hm))).trans hc
theorem dr_offP {w X : World} {g : Nat} {b : Bool} {A1 A2 : Option Addr} {n1 c1 n2 c2 : Nat} {T : TypeId} {e : Nat} {k v : List Nat} {n : Int} (h : DR w e k v n) (hg : w.heap[g]? = some (.cells #[.bool b, .slice A1 n1 c1, .slice A2 n2 c2] T (0, 0))) (hj : Just g w X) (hn : e ≠ g) : DR X e k v n := by
 obtain ⟨Ak, ck, Av, cv, h1, h2, h3, h4, h5⟩ := h
 exact ⟨Ak, ck, Av, cv, (hj.block e (blk_lt h1) hn).trans h1, (rb_offP h2 (fun _ h => h) hg hj).mono (fun _ h => Nat.lt_of_lt_of_le h hj.size), (rb_offP h3 (fun _ h => h) hg hj).mono (fun _ h => Nat.lt_of_lt_of_le h hj.size), h4, h5⟩
theorem end_upv {fn : Func} {R : Ending → World → Prop} {a : Act} {W : World} {u p t : Tmp} {g : Nat} {ty : TypeId} {fr : Nat × Nat} {x0 x1 x2 v v' : Value} (hr : fn.results = #[.tmp u, .cell p 33, .tmp t]) (hp : a.tmps.getD p undef = .pointer (some ⟨g, 0, none⟩)) (hu : a.tmps.getD u undef = v) (ht : a.tmps.getD t undef = v') (hd : a.defers = [])
 (hg : W.heap[g]? = some (.cells #[x0, x1, x2] ty fr)) (hR : R (.returned (.tuple #[v, .agg #[x0, x1, x2], v'])) W) : bodyPost Tryz.prog fn R .ret a W := by
 refine bodyPost_ret (v := .tuple #[v, .agg #[x0, x1, x2], v']) ?_ hd hR
 have hp' : a.tmps[p]?.getD undef = .pointer (some ⟨g, 0, none⟩) := by simpa using hp
 have hu' : a.tmps[u]?.getD undef = v := by simpa using hu
 have ht' : a.tmps[t]?.getD undef = v' := by simpa using ht
 simp [results, hr, hp', hu', ht', asAddr, run_loadVar_row W g ty 33 #[x0, x1, x2] fr _ hg Tryz.underlying33 rfl infoP, Result.andThen]
set_option maxRecDepth 100000 in
set_option maxHeartbeats 8000000 in
theorem gen_any {c : Int} {C : Crv} (hC : IsC c C) {b x : Nat} {k v : List Nat} {num : Int} {d : Nat × Nat} (w : World) (hk : KW w) (hd : DR w b k v num) (hn : 0 ≤ num) (hn2 : num < 1000000000) (hx : pickN C k v = x) (hm : mulC C false (val 18446744073709551616 C.xl) (val 18446744073709551616 C.yl) x = some (some d)) :
 Calls Tryz.prog 10 #[.int .i64 c, .pointer (some ⟨b, 0, none⟩)] w fun e w' => ∃ A1 c1 A2 c2 A3 c3, e = .returned (.tuple #[.slice A1 (digs 18446744073709551616 x).length c1, .agg #[.bool false, .slice A2 (digs 18446744073709551616 d.1).length c2, .slice A3 (digs 18446744073709551616 d.2).length c3], .int .i64 0]) ∧
  OB w' w.heap.size A1 c1 (digs 18446744073709551616 x) ∧ OB w' w.heap.size A2 c2 (digs 18446744073709551616 d.1) ∧ OB w' w.heap.size A3 c3 (digs 18446744073709551616 d.2) ∧ DR w' b (pickS C k v).1 (pickS C k v).2 (num + 1) ∧ Fr b w.heap.size w w' := by
 obtain ⟨t, ht⟩ : ∃ t, C.size = t := ⟨_, rfl⟩
 have hF := hC.fine
 have t1 : 32 ≤ t := by rw [← ht]; exact hF.pos
 have ht0 : ((t : Int) == 0) = false := by simp; omega
 obtain ⟨W0, hW0⟩ : ∃ W0, W0 = w.alloc (.cells #[.bool false, .slice none 0 0, .slice none 0 0] 33) := ⟨_, rfl⟩
 have hr := heap_alloc_new w (.cells #[.bool false, .slice none 0 0, .slice none 0 0] 33)
 have hE0 := Ext.alloc w (.cells #[.bool false, .slice none 0 0, .slice none 0 0] 33)
 rw [← hW0] at hr hE0
 obtain ⟨q, hq⟩ : ∃ q, w.heap.size = q := ⟨_, rfl⟩
 rw [hq] at hr
 have HSz := Lib.hid (size_c hC W0)
 rw [ht] at HSz
 have hmay := pickN_may hC k v
 rw [hx] at hmay
 have hpub : pubE C x = some (some d) := by unfold pubE; rw [hmay]; exact hm
 have HC := Lib.hid hC
 have HK := Lib.hid (hk.ext hE0)
 have HD := Lib.hid (hd.ext hE0)
 have HB := Lib.hid hd.lt
 have Hn := Lib.hid (And.intro hn hn2)
 have Hx := Lib.hid hx
 have HPb := Lib.hid hpub
 have HE0 := Lib.hid hE0
 have Hq := Lib.hid hq
 clear hC hk hd hn hn2 hx hm hmay hpub hE0 hq hF ht
 go_enter Tryz.func10, Tryz.ntmps10
 go_upto_region 1 with fail
 rw [← hW0, Hq.out]
 clear hW0
 go_upto_region 3 with (go_at_call 29; refine HSz.out.mono ?_; rintro e wa ⟨rfl, Ea⟩)
 have h3 := pick_any HC.out wa (HK.out.ext Ea) (HD.out.ext Ea) Hn.out.1 Hn.out.2
 rw [Hx.out] at h3
 have H3 := Lib.hid h3
 have HEa := Lib.hid (HE0.out.trans Ea)
 have hra := Ea.at_ hr
 clear h3 hr HSz Ea
 go_upto_region 4 with (go_at_call 31; refine H3.out.mono ?_; rintro e w3 ⟨A3, c3, rfl, o3, d3, f3⟩)
 have hr3 : w3.heap[q]? = some (.cells #[.bool false, .slice none 0 0, .slice none 0 0] 33 (0, 0)) := by
  rw [f3.block q (blk_lt hra) (by have := HB.out; have := Hq.out; omega)]
  exact hra
 have h4 := public_any (.inl HC.out) _ A3 c3 (digs 18446744073709551616 x) w3 o3.ru (fun _ h => h)
 rw [val_digs (by omega), HPb.out] at h4
 have H4 := Lib.hid h4
 have O3 := Lib.hid o3
 have D3 := Lib.hid d3
 have F3 := Lib.hid ((Fr.below (b := b) HEa.out (Nat.le_refl _)).trans (f3.mono HEa.out.bsize))
 clear h4 o3 d3 f3 hra H3
 go_wp2_with fail
 refine H4.out.mono ?_
 rintro e w4 ⟨o, rfl, hv4, E4⟩
 have hv4 : PtV w4 w3.heap.size o (some d) := hv4
 obtain ⟨Bx, dx, By, dy, rfl, ox, oy⟩ := hv4
 have hq5 := heap_alloc_new w4 (.cells #[.bool false, .slice Bx (digs 18446744073709551616 d.1).length dx, .slice By (digs 18446744073709551616 d.2).length dy] 33)
 have hA5 := Ext.alloc w4 (.cells #[.bool false, .slice Bx (digs 18446744073709551616 d.1).length dx, .slice By (digs 18446744073709551616 d.2).length dy] 33)
 obtain ⟨ga, hga⟩ : ∃ g, w4.heap.size = g := ⟨_, rfl⟩
 rw [hga] at hq5
 have Ra := Lib.hid (And.intro ((ox.below hA5 (Nat.le_refl _)).mono F3.out.size) ((oy.below hA5 (Nat.le_refl _)).mono F3.out.size))
 have HE5 := Lib.hid (E4.trans hA5)
 have Hg := Lib.hid hga
 have hr5 := (E4.trans hA5).at_ hr3
 clear ox oy hga hA5 E4 H4 hr3
 go_upto_region 5 with fail
 rw [Hg.out]
 generalize w4.alloc (.cells #[.bool false, .slice Bx (digs 18446744073709551616 d.1).length dx, .slice By (digs 18446744073709551616 d.2).length dy] 33) = w5 at *
 obtain ⟨y0, y1, y2, q0, q1, q2⟩ := pt_facts hq5
 obtain ⟨z0, z1, z2, f0, f1, f2⟩ := pt_facts hr5
 have Hr5 := Lib.hid hr5
 clear hr5 hq5
 go_region
 go_wp2
 generalize hY : ((w5.setCell ⟨q, 0, none⟩ (.bool false)).setCell ⟨q, 1, none⟩ (.slice Bx (digs 18446744073709551616 d.1).length dx)).setCell ⟨q, 2, none⟩ (.slice By (digs 18446744073709551616 d.2).length dy) = Y
 have hqY := pt_set Hr5.out (.bool false) (.slice Bx (digs 18446744073709551616 d.1).length dx) (.slice By (digs 18446744073709551616 d.2).length dy)
 have hj := pt_just w5 q (.bool false) (.slice Bx (digs 18446744073709551616 d.1).length dx) (.slice By (digs 18446744073709551616 d.2).length dy)
 rw [hY] at hqY hj
 try rw [Exit.noGoto_ret]
 have he : b ≠ q := by have := HB.out; have := Hq.out; omega
 have hqw : w.heap.size ≤ q := by rw [Hq.out]; exact Nat.le_refl _
 have hda := dr_offP (DR.ext D3.out HE5.out) Hr5.out hj he
 have hka := HE5.out
 have HF := Lib.hid (F3.out.trans ((Fr.below (b := b) HE5.out F3.out.size).trans (Fr.justTo (b := b) hj hqw (Nat.le_trans F3.out.size HE5.out.bsize))))
 have o5 := (O3.out.below HE5.out (Nat.le_refl _)).just hj Hr5.out (by decide)
 have r1 := Ra.out.1.just hj Hr5.out (by decide)
 have r2 := Ra.out.2.just hj Hr5.out (by decide)
 first
  | exact end_upv rfl rfl rfl rfl rfl hqY ⟨A3, c3, Bx, dx, By, dy, rfl, o5.mono HEa.out.bsize, r1, r2, hda, HF.out⟩
  | exact end_upv rfl rfl rfl rfl rfl (show Y.drew.heap[q]? = _ from hqY) ⟨A3, c3, Bx, dx, By, dy, rfl, (o5.below (below_drewN (Below.refl _ Y) 1) (Nat.le_refl _)).mono HEa.out.bsize, r1.below (below_drewN (Below.refl _ Y) 1) (Nat.le_refl _), r2.below (below_drewN (Below.refl _ Y) 1) (Nat.le_refl _), hda.ext (below_drewN (Below.refl _ Y) 1), HF.out.trans (Fr.below (below_drewN (Below.refl _ Y) 1) HF.out.size)⟩
end Go.Proofs.YtaemogcomplhiaaGreatDoor.Ec

namespace Go.Proofs.YtaemogcomplhiaaGreatDoor.Ec
open Go.RowKit Go.Shelf
open Sha

attribute [local go_sem] Oper.semAt_some

theorem litm (w : World) (bs : List Nat) (hb : ∀ x ∈ bs, x < 256) (hl : bs.length ≤ 1000000) {cs : Array Value} (hc : (bys bs).toArray = cs) (f : Nat × Nat) :
 RB (w.alloc (.cells cs 5 f)) (fun g => g = w.heap.size) (some ⟨w.heap.size, 0, none⟩) bs.length bs := by
 subst hc
 refine ⟨⟨Nat.le_refl _, by unfold maxLen; omega, by simp [bys], fun _ => ⟨_, rfl, rfl, fun j u hu => ?_⟩⟩, hb, by omega⟩
 rw [add_blk, World.cell?, heap_alloc_new]
 simpa using hu
theorem cvm (w : World) (cs : Array Value) (n c : Nat) : (convert 22 22 (.slice (some ⟨w.heap.size, 0, none⟩) n c)).run Tryz.prog (w.alloc (.cells cs 5)) = .ok (.slice (some ⟨w.heap.size, 0, none⟩) n c) (w.alloc (.cells cs 5 (cs.size, cs.size + 1))) :=
 Lib.run_convert_bytes_const (P := Tryz.prog) w 22 5 cs n c Tryz.underlying22 Tryz.underlying5
theorem lit_new (w : World) (bs : List Nat) (hb : ∀ x ∈ bs, x < 256) (hl : bs.length ≤ 1000000) {cs : Array Value} (hc : (bys bs).toArray = cs) :
 ∃ W, w.alloc (.cells cs 5 (cs.size, cs.size + 1)) = W ∧ Ext w W ∧ RB W (fun g => g < W.heap.size) (some ⟨w.heap.size, 0, none⟩) bs.length bs ∧ w.heap.size < W.heap.size :=
 ⟨_, rfl, Ext.alloc _ _, (litm w bs hb hl hc _).mono fun q hq => by rw [World.size_alloc]; omega, by rw [World.size_alloc]; omega⟩
theorem on_q : onQ c256 false eQ.1 eQ.2 = true := by decide +kernel
theorem n_r : numOf ((bytesOf eR' 32 ++ bytesOf eS 32).take c256.size) = eR' := by decide +kernel
theorem n_s : numOf ((bytesOf eR' 32 ++ bytesOf eS 32).drop c256.size) = eS := by decide +kernel
theorem may_r : mayE c256 eR' = true := by decide +kernel
theorem may_s : mayE c256 eS = true := by decide +kernel
theorem nb_w : nbits eW ≤ 4000 ∧ nbits (numOf [104, 97, 115, 104]) ≤ 4000 ∧ nbits eR.1 ≤ 4000 := by decide +kernel
theorem len_sig : (bytesOf eR' 32 ++ bytesOf eS 32).length = 64 := by rw [List.length_append, bytesOf_length, bytesOf_length]
theorem ob_fr {W X : World} {base b c : Nat} {A : Option Addr} {l : List Nat} (h : OB W base A c l) (hf : Fr b W.heap.size W X) (hb : b < base) : RU X A c l :=
 (h.rn.keep fun p hp => World.cell?_of_block (hf.block _ hp.2 (by have := hp.1; omega))).mono fun q hq => Nat.lt_of_lt_of_le hq.2 hf.size
theorem vy_x : VY c256 (numOf [104, 97, 115, 104]) eR' eS eQ.1 eQ.2 := ⟨eW, eU1, eU2, eA, eB, eR, inv_s, nb_w.1, nb_w.2.1, nb_w.2.2, e_u1, e_u2, mul_u1, mul_u2, add_ab, e_r⟩
set_option maxRecDepth 100000 in
set_option maxHeartbeats 8000000 in
theorem begun10_any (w : World) (hk : KW w) : Calls Tryz.prog 6 #[] w fun e w' => e = .returned (.bool true) ∧ Ext w w' := by
 obtain ⟨W1, hW1, E1, rb1, hs1⟩ := lit_new w [120] (by decide) (by decide) (cs := #[.int .u8 120]) rfl
 have hcv := cvm w #[.int .u8 120] 1 1
 simp only [List.size_toArray, List.length_cons, List.length_nil, Nat.reduceAdd] at hcv hW1
 rw [hW1] at hcv
 have HN := Lib.hid (new_any W1 (hk.ext E1) rb1 (fun _ h => h) (by decide))
 rw [news_x] at HN
 have HK := Lib.hid hk
 have HE1 := Lib.hid E1
 clear rb1 hs1 E1 hk
 go_enter Tryz.func6, Tryz.ntmps6
 go_wp2_with fail
 refine HN.out.mono ?_
 rintro e w2 ⟨b, rfl, hb, hd, hE2⟩
 have hEw := HE1.out.trans hE2
 have HE2 := Lib.hid hEw
 have HB := Lib.hid (Nat.le_trans HE1.out.bsize hb)
 have hbl := hd.lt
 have h3 := gen_any isc1 w2 (HK.out.ext hEw) hd (by omega) (by omega) pick_1 mul_key
 rw [st_1] at h3
 have H3 := Lib.hid h3
 clear hcv hW1 hb hd h3 hE2 hEw HN HE1
 go_wp2_with fail
 refine H3.out.mono ?_
 rintro e w3 ⟨A1, c1, A2, c2, A3, c3, rfl, o1, o2, o3, d3, f3⟩
 obtain ⟨lx, hlx⟩ : ∃ l, (digs 18446744073709551616 eQ.1).length = l := ⟨_, rfl⟩
 obtain ⟨ly, hly⟩ : ∃ l, (digs 18446744073709551616 eQ.2).length = l := ⟨_, rfl⟩
 rw [hlx, hly]
 have hq4 := heap_alloc_new w3 (.cells #[.bool false, .slice A2 lx c2, .slice A3 ly c3] 33)
 have hA4 := Ext.alloc w3 (.cells #[.bool false, .slice A2 lx c2, .slice A3 ly c3] 33)
 obtain ⟨gp, hgp⟩ : ∃ g, w3.heap.size = g := ⟨_, rfl⟩
 rw [hgp] at hq4
 have Hg := Lib.hid hgp
 have HF3 := Lib.hid f3
 have HE4 := Lib.hid hA4
 have HR := Lib.hid (And.intro (o1.below hA4 (Nat.le_refl _)) (And.intro (o2.below hA4 (Nat.le_refl _)) (o3.below hA4 (Nat.le_refl _))))
 have HD := Lib.hid (d3.ext hA4)
 have HL := Lib.hid (And.intro hlx hly)
 have Hbl := Lib.hid hbl
 have HE3 := Lib.hid (f3.ext' HE2.out HB.out HE2.out.bsize)
 clear hlx hly hgp o1 o2 o3 d3 f3 hA4 H3 hbl
 go_upto_region 3 with fail
 rw [Hg.out]
 generalize w3.alloc (.cells #[.bool false, .slice A2 lx c2, .slice A3 ly c3] 33) = w4 at *
 obtain ⟨W5, hW5, E5, rb5, hs5⟩ := lit_new w4 [104, 97, 115, 104] (by decide) (by decide) (cs := #[.int .u8 104, .int .u8 97, .int .u8 115, .int .u8 104]) rfl
 have hcv := cvm w4 #[.int .u8 104, .int .u8 97, .int .u8 115, .int .u8 104] 4 4
 simp only [List.size_toArray, List.length_cons, List.length_nil, Nat.reduceAdd] at hcv hW5
 rw [hW5] at hcv
 have h6 := sign_x (b := b) (base := w2.heap.size) (num := 0 + 1) W5 (HK.out.ext (HE3.out.trans (HE4.out.trans E5))) (HD.out.ext E5) (HR.out.1.below E5 (Nat.le_refl _)) Hbl.out rb5 (fun _ h => h) (by omega) (by omega)
 have H6 := Lib.hid h6
 have Hq5 := Lib.hid (E5.at_ hq4)
 have HR5 := Lib.hid (And.intro (HR.out.2.1.below E5 (Nat.le_refl _)) (HR.out.2.2.below E5 (Nat.le_refl _)))
 have HE5 := Lib.hid (HE3.out.trans (HE4.out.trans E5))
 have Hgs := Lib.hid (show w2.heap.size ≤ gp from by rw [← Hg.out]; exact HF3.out.size)
 have HD5 := Lib.hid (show b < W5.heap.size from Nat.lt_of_lt_of_le HD.out.lt E5.bsize)
 clear E5 rb5 hs5 h6 hq4 HR HE4 HE3 HD HF3
 go_wp2_with fail
 refine H6.out.mono ?_
 rintro e w6 ⟨A6, c6, rfl, r6, f6⟩
 obtain ⟨ad, rfl, _⟩ := r6.at_ (i := 0) (by rw [len_sig]; decide)
 have hq6 := f6.at_ (blk_lt Hq5.out) (by have := Hgs.out; have := Hbl.out; omega) Hq5.out
 have rx := ob_fr HR5.out.1 f6 Hbl.out
 have ry := ob_fr HR5.out.2 f6 Hbl.out
 have hE6 := f6.ext' HE5.out HB.out HE5.out.bsize
 obtain ⟨W7, hW7, E7, rb7, hs7⟩ := lit_new w6 [104, 97, 115, 104] (by decide) (by decide) (cs := #[.int .u8 104, .int .u8 97, .int .u8 115, .int .u8 104]) rfl
 have hcv := cvm w6 #[.int .u8 104, .int .u8 97, .int .u8 115, .int .u8 104] 4 4
 simp only [List.size_toArray, List.length_cons, List.length_nil, Nat.reduceAdd] at hcv hW7
 rw [hW7] at hcv
 have h7 := verify_any (V := true) isc1 W7 (show APt W7 (.agg #[.bool false, .slice A2 lx c2, .slice A3 ly c3]) false eQ.1 eQ.2 from by
  rw [← HL.out.1, ← HL.out.2]
  exact ⟨A2, A3, c2, c3, _, _, rfl, RN.up rx E7, RN.up ry E7, val_digs (by omega) _, val_digs (by omega) _⟩) on_q (r6.below E7 (fun _ h => h)) (fun q hq => Nat.lt_of_lt_of_le hq E7.bsize) len_sig rfl rb7 (fun _ h => h) rfl (by decide) (by decide) rfl n_r n_s (.inr ⟨may_r, may_s, vy_x, rfl⟩)
 have H7 := Lib.hid h7
 have HE7 := Lib.hid (hE6.trans E7)
 obtain ⟨y0, y1, y2, q0, q1, q2⟩ := pt_facts hq6
 clear r6 f6 rx ry hE6 E7 rb7 hs7 h7 H6 hq6
 go_wp2_with fail
 refine H7.out.mono ?_
 rintro e w8 ⟨rfl, E8⟩
 have HE8 := Lib.hid (HE7.out.trans E8)
 go_wp2
 go_ret
 exact ⟨rfl, HE8.out⟩
end Go.Proofs.YtaemogcomplhiaaGreatDoor.Ec

namespace Go.Proofs.YtaemogcomplhiaaGreatDoor.Ec
open Go.RowKit Go.Shelf

attribute [local go_sem] Oper.semAt_some

set_option maxRecDepth 100000 in
set_option maxHeartbeats 4000000 in
theorem verify_off {c : Int} {C : Crv} (hC : IsU c C) {p vh vs : Value} {bi : Bool} {x y : Nat} (w : World) (hp : APt w p bi x y) (ho : (bi || !(c == 1 || c == 2) || !onQ C false x y) = true) :
 Calls Tryz.prog 24 #[.int .i64 c, p, vh, vs] w fun e w' => e = .returned (.bool false) ∧ Ext w w' := by
 obtain ⟨p1, p2, rfl⟩ := apt_agg hp
 obtain ⟨W0, hW0⟩ : ∃ W0, W0 = w.alloc (.cells #[.bool bi, p1, p2] 33) := ⟨_, rfl⟩
 obtain ⟨q, hq⟩ : ∃ q, w.heap.size = q := ⟨_, rfl⟩
 have hq0 := heap_alloc_new w (.cells #[.bool bi, p1, p2] 33)
 have hE0 : Ext w W0 := by rw [hW0]; exact Ext.alloc _ _
 rw [← hW0, hq] at hq0
 have HSz := Lib.hid (size_u hC W0)
 have Hq := Lib.hid hq
 have HE0 := Lib.hid hE0
 have HPt := Lib.hid (hp.ext hE0)
 have Ho := Lib.hid ho
 clear hq hE0 hp ho
 rcases hC with hC | ⟨g1, g2, rfl⟩
 · obtain ⟨t, ht⟩ : ∃ t, C.size = t := ⟨_, rfl⟩
   have hF := hC.fine
   have t1 : 32 ≤ t := by rw [← ht]; exact hF.pos
   have ht0 : ((t : Int) == 0) = false := by simp; omega
   rw [ht] at HSz
   have HC := Lib.hid hC
   have hc12 : (c == 1 || c == 2) = true := by
    rcases hC with ⟨rfl, _⟩ | ⟨rfl, _⟩ <;> rfl
   have ho := Ho.out
   rw [hc12] at ho
   clear hC hF ht hc12 Ho
   cases bi
   · rw [show (false || !true || !onQ C false x y) = !onQ C false x y from rfl, Bool.not_eq_true'] at ho
     have Ho := Lib.hid ho
     clear ho
     go_enter Tryz.func24, Tryz.ntmps24
     go_upto_region 1 with fail
     rw [← hW0, Hq.out]
     clear hW0
     go_upto_region 2 with (go_at_call 29; refine HSz.out.mono ?_; rintro e wa ⟨rfl, Ea⟩)
     have hqa := Ea.at_ hq0
     obtain ⟨z0, z1, z2, f0, f1, f2⟩ := pt_facts hqa
     have hon := onx_c HC.out wa (HPt.out.ext Ea)
     rw [Ho.out] at hon
     have Hon := Lib.hid hon
     have HEa := Lib.hid (HE0.out.trans Ea)
     clear hq0 Ea hon HSz
     go_wp2_with fail
     refine Hon.out.mono ?_
     rintro e wb ⟨rfl, Eb⟩
     have HEb := Lib.hid (HEa.out.trans Eb)
     clear Eb
     go_wp2
     go_ret
     exact ⟨rfl, HEb.out⟩
   · clear ho
     go_enter Tryz.func24, Tryz.ntmps24
     go_upto_region 1 with fail
     rw [← hW0, Hq.out]
     clear hW0
     go_upto_region 2 with (go_at_call 29; refine HSz.out.mono ?_; rintro e wa ⟨rfl, Ea⟩)
     have hqa := Ea.at_ hq0
     obtain ⟨z0, z1, z2, f0, f1, f2⟩ := pt_facts hqa
     have HEa := Lib.hid (HE0.out.trans Ea)
     clear hq0 Ea HSz
     go_wp2
     go_ret
     exact ⟨rfl, HEa.out⟩
 · rw [show ((c0.size : Nat) : Int) = 0 from rfl] at HSz
   clear Ho
   go_enter Tryz.func24, Tryz.ntmps24
   go_upto_region 1 with fail
   rw [← hW0, Hq.out]
   clear hW0
   go_upto_region 2 with (go_at_call 29; refine HSz.out.mono ?_; rintro e wa ⟨rfl, Ea⟩)
   have HEa := Lib.hid (HE0.out.trans Ea)
   clear hq0 Ea HSz
   go_wp2
   go_ret
   exact ⟨rfl, HEa.out⟩
theorem may_zeros {c : Int} {C : Crv} (h : IsC c C) {v : Nat} (hv : v = 0 ∨ v = 255) : mayE C (numOf ((List.replicate (2 * C.size) v).take C.size)) = false := by
 rcases h with ⟨_, rfl⟩ | ⟨_, rfl⟩ <;> rcases hv with rfl | rfl <;> decide +kernel
theorem on_base {c : Int} {C : Crv} (h : IsC c C) : onQ C false (val 18446744073709551616 C.xl) (val 18446744073709551616 C.yl) = true := by
 rcases h with ⟨_, rfl⟩ | ⟨_, rfl⟩ <;> decide +kernel
theorem verify_same {c : Int} {C : Crv} (hC : IsU c C) {p : Value} {v cap ch n : Nat} (hn : n = 2 * C.size) {A : Option Addr} {ah : Addr} (hv : v = 0 ∨ v = 255) (w : World) (hp : APt w p false (val 18446744073709551616 C.xl) (val 18446744073709551616 C.yl)) (hb : RB w (fun q => q < w.heap.size) A cap (List.replicate n v)) (hh : RB w (fun q => q < w.heap.size) (some ah) ch [104]) :
 Calls Tryz.prog 24 #[.int .i64 c, p, .slice (some ah) 1 ch, .slice A n cap] w fun e w' => e = .returned (.bool false) ∧ Ext w w' := by
 subst hn
 rcases hC with h | ⟨g1, g2, rfl⟩
 · have hs := h.fine.pos
   obtain ⟨ad, rfl, _⟩ := hb.at_ (i := 0) (by rw [List.length_replicate]; omega)
   exact verify_any h w hp (on_base h) hb (fun _ h => h) (List.length_replicate ..) rfl hh (fun _ h => h) rfl (by omega) (by omega) rfl rfl rfl (.inl ⟨by rw [may_zeros h hv]; rfl, rfl⟩)
 · exact verify_off (.inr ⟨g1, g2, rfl⟩) w hp (by simp [g1, g2])
end Go.Proofs.YtaemogcomplhiaaGreatDoor.Ec

namespace Go.Proofs.YtaemogcomplhiaaGreatDoor.Ec
open Go.RowKit Go.Shelf

attribute [local go_sem] Oper.semAt_some

theorem sixF {W : World} {g : Nat} {ty : TypeId} {x0 x1 x2 x3 x4 x5 : Value} (h : W.heap[g]? = some (.cells #[x0, x1, x2, x3, x4, x5] ty (0, 0))) :
 W.cell? ⟨g, 0, none⟩ = some x0 ∧ W.cell? ⟨g, 1, none⟩ = some x1 ∧ W.cell? ⟨g, 2, none⟩ = some x2 ∧ W.cell? ⟨g, 3, none⟩ = some x3 ∧ W.cell? ⟨g, 4, none⟩ = some x4 ∧ W.cell? ⟨g, 5, none⟩ = some x5 :=
 ⟨blk_cell h 0, blk_cell h 1, blk_cell h 2, blk_cell h 3, blk_cell h 4, blk_cell h 5⟩
set_option maxRecDepth 100000 in
set_option maxHeartbeats 8000000 in
theorem refOn_no {v : Value} {p : Value} (w : World) (hc : RC w c0 v) {bi : Bool} {p1 p2 : Value} (hp : p = .agg #[.bool bi, p1, p2]) :
 Calls Tryz.prog 22 #[v, p] w fun e w' => e = .returned (.bool false) ∧ Ext w w' := by
 subst hp
 obtain ⟨Ap, An', Ab, Ax, Ay, cp, cn, cb', cx, cy, rfl, _⟩ := hc
 have h0 : ((c0.size : Nat) : Int) = 0 := rfl
 rw [h0]
 generalize (digs 4294967296 c0.M).length = l0 at *
 generalize (digs 4294967296 (val 18446744073709551616 c0.nl)).length = l1 at *
 generalize (digs 4294967296 c0.bb).length = l2 at *
 generalize (digs 4294967296 (val 18446744073709551616 c0.xl)).length = l3 at *
 generalize (digs 4294967296 (val 18446744073709551616 c0.yl)).length = l4 at *
 have hq0 := heap_alloc_new w (.cells #[.slice Ap l0 cp, .slice An' l1 cn, .slice Ab l2 cb', .slice Ax l3 cx, .slice Ay l4 cy, .int .i64 0] 30)
 have hE : Ext w ((w.alloc (.cells #[.slice Ap l0 cp, .slice An' l1 cn, .slice Ab l2 cb', .slice Ax l3 cx, .slice Ay l4 cy, .int .i64 0] 30)).alloc (.cells #[.bool bi, p1, p2] 45)) := Ext.trans (Ext.alloc _ _) (Ext.alloc _ _)
 have hq1 := (Ext.alloc _ (.cells #[.bool bi, p1, p2] 45)).at_ hq0
 obtain ⟨y0, y1, y2, y3, y4, y5⟩ := sixF hq1
 clear hq0 hq1
 go_enter Tryz.func22, Tryz.ntmps22
 go_wp2
 go_ret
 exact ⟨rfl, hE⟩
end Go.Proofs.YtaemogcomplhiaaGreatDoor.Ec

namespace Go.Proofs.YtaemogcomplhiaaGreatDoor
open Go.RowKit

def Apart (A B : Option Addr) (m n : Nat) : Prop := ∀ a b, A = some a → B = some b → 0 < m → 0 < n → a.block < b.block
theorem OB.apart {X Y : World} {base : Nat} {A B : Option Addr} {c d : Nat} {l m : List Nat} (h : OB X base A c l) (k : OB Y X.heap.size B d m) : Apart A B l.length m.length := by
 intro a b e1 e2 h1 h2
 obtain ⟨g, cur, e, _, hg, _⟩ := h.2.2.2 h1
 obtain ⟨g', cur', e', hg', _, _⟩ := k.2.2.2 h2
 rw [e1] at e; rw [e2] at e'
 injection e with e; injection e' with e'
 subst e e'
 exact Nat.lt_of_lt_of_le (blk_lt hg) hg'
theorem OB.ext {X Y : World} {base : Nat} {A : Option Addr} {c : Nat} {l : List Nat} (h : OB X base A c l) (hE : Ext X Y) : OB Y base A c l := h.below hE (Nat.le_refl _)
set_option maxRecDepth 100000 in
set_option maxHeartbeats 4000000 in
theorem rto_n {p : Value} {bi : Bool} {x y : Nat} (w : World) (hp : RPv w p bi x y) : Calls Tryz.prog 23 #[p] w fun e w' => ∃ A B c d, e = .returned (.agg #[.bool bi, .slice A (digs 18446744073709551616 x).length c, .slice B (digs 18446744073709551616 y).length d]) ∧
 OB w' w.heap.size A c (digs 18446744073709551616 x) ∧ OB w' w.heap.size B d (digs 18446744073709551616 y) ∧ Apart A B (digs 18446744073709551616 x).length (digs 18446744073709551616 y).length ∧ Ext w w' := by
 obtain ⟨A1, A2, c1, c2, rfl, hx, hy⟩ := hp
 obtain ⟨W0, hW0⟩ : ∃ W0, W0 = (w.alloc (.cells #[.bool bi, .slice A1 (digs 4294967296 x).length c1, .slice A2 (digs 4294967296 y).length c2] 45)).alloc (.cells #[.bool false, .slice none 0 0, .slice none 0 0] 33) := ⟨_, rfl⟩
 obtain ⟨q, hq⟩ : ∃ q, w.heap.size = q := ⟨_, rfl⟩
 have hE0 : Ext w W0 := by rw [hW0]; exact (Ext.alloc _ _).trans (Ext.alloc _ _)
 obtain ⟨h1, h2, hz0⟩ := two_at2 w (.cells #[.bool bi, .slice A1 (digs 4294967296 x).length c1, .slice A2 (digs 4294967296 y).length c2] 45) (.cells #[.bool false, .slice none 0 0, .slice none 0 0] 33)
 rw [← hW0, hq] at h1 h2 hz0
 have p0 := blk_cell h1 0
 have p1 := blk_cell h1 1
 have p2 := blk_cell h1 2
 simp only [List.getElem?_toArray, List.getElem?_cons_zero, List.getElem?_cons_succ] at p0 p1 p2
 have Hx := Lib.hid (RN.up hx hE0)
 have Hy := Lib.hid (RN.up hy hE0)
 have HE0 := Lib.hid hE0
 clear hx hy hE0 hz0 h1
 go_enter Tryz.func23, Tryz.ntmps23
 go_upto_region 1 with fail
 rw [← hW0]
 have Hq := Lib.hid hq
 clear hW0 hq
 refine Par.region_ext (by kernel_rfl) 9 [0, 1, 0, 4, 12, 0, 32, 124, 255, 511] [] (fun j f X => match j with
  | 0 => f 0 = .pointer (some ⟨q, 0, none⟩)
  | 1 => f 1 = .bool bi
  | 2 => f 2 = .pointer (some ⟨q, 1, none⟩)
  | 3 => f 3 = .slice A1 (digs 4294967296 x).length c1
  | 4 => ∃ A c, f 4 = .slice A (digs 18446744073709551616 x).length c ∧ OB X W0.heap.size A c (digs 18446744073709551616 x)
  | 5 => f 5 = .pointer (some ⟨q, 2, none⟩)
  | 6 => f 6 = .slice A2 (digs 4294967296 y).length c2
  | 7 => ∃ A c, f 7 = .slice A (digs 18446744073709551616 y).length c ∧ OB X W0.heap.size A c (digs 18446744073709551616 y) ∧ ∀ B d, f 4 = .slice B (digs 18446744073709551616 x).length d → Apart B A (digs 18446744073709551616 x).length (digs 18446744073709551616 y).length
  | 8 => ∃ A B c d, f 8 = .agg #[.bool bi, .slice A (digs 18446744073709551616 x).length c, .slice B (digs 18446744073709551616 y).length d] ∧ OB X W0.heap.size A c (digs 18446744073709551616 x) ∧ OB X W0.heap.size B d (digs 18446744073709551616 y) ∧ Apart A B (digs 18446744073709551616 x).length (digs 18446744073709551616 y).length
  | _ => True) (by kernel_rfl) [(3, 0), (4, 1), (5, 2), (6, 3), (7, 4), (8, 5), (9, 6), (10, 7), (11, 8)] (by kernel_rfl) ?_
 refine Par.v0 1 8 ?_
 refine Par.ld1 2 7 0 p0 ?_
 refine Par.v0 3 6 ?_
 refine Par.ld1 4 5 2 p1 ?_
 refine Par.c0 5 4 (fun f => #[f 3]) (F' := 47) (fun f X hX hR => ?_) ?_
 · have e3 : f 3 = _ := hR.out 3 rfl
   simp only [e3]
   refine (to_any _ A1 c1 x X (RN.up Hx.out hX) (fun _ h => h)).mono ?_
   rintro e w2 ⟨A, c, rfl, h, hB⟩
   exact ⟨(.slice A (digs 18446744073709551616 x).length c), rfl, hB, fun Y hY => ⟨A, c, rfl, (h.mono hX.bsize).ext hY⟩⟩
 refine Par.v0 6 3 ?_
 refine Par.ld1 7 2 5 p2 ?_
 refine Par.S 8 1 [(3, 0), (4, 1), (5, 2), (6, 3), (7, 4), (8, 5), (9, 6)] (fun f X hX hR K hK => ?_) ?_
 · have e6 : f 6 = _ := hR.out 6 rfl
   obtain ⟨A4, c4, (e4 : f 4 = _), h4⟩ := hR.out 4 rfl
   have E4 := Lib.hid e4
   clear e4
   simp only [yA, yB, yC, yD, yE, e6]
   refine ⟨?_⟩
   go_simp
   refine (to_any _ A2 c2 y X (RN.up Hy.out hX) (fun _ h => h)).mono ?_
   rintro e w2 ⟨A, c, rfl, h, hB⟩
   refine hK.out _ (.slice A (digs 18446744073709551616 y).length c) _ (by simp only [yA, yB, yC, yD, yE, e6]) hB trivial (fun Y hY => ⟨A, c, rfl, (h.mono hX.bsize).ext hY, fun B d e => ?_⟩)
   obtain ⟨rfl, _⟩ : A4 = B ∧ c4 = d := by have e' : f 4 = .slice B (digs 18446744073709551616 x).length d := e; rw [E4.out] at e'; injection e' with a1 a2 a3; exact ⟨a1, a3⟩
   exact h4.apart h
 refine Par.S 9 0 [(3, 0), (4, 1), (5, 2), (6, 3), (7, 4), (8, 5), (9, 6), (10, 7)] (fun f X hX hR K hK => ?_) ?_
 · have e1 : f 1 = _ := hR.out 1 rfl
   obtain ⟨A4, c4, (e4 : f 4 = _), h4⟩ := hR.out 4 rfl
   obtain ⟨A7, c7, e7, h7, k7⟩ : ∃ A c, f 7 = .slice A (digs 18446744073709551616 y).length c ∧ OB X W0.heap.size A c (digs 18446744073709551616 y) ∧ ∀ B d, f 4 = .slice B (digs 18446744073709551616 x).length d → Apart B A (digs 18446744073709551616 x).length (digs 18446744073709551616 y).length := hR.out 7 rfl
   simp only [yA, yB, yC, yD, yE, e1, e4, e7]
   refine ⟨?_⟩
   go_simp
   exact hK.out _ (.agg #[.bool bi, .slice A4 (digs 18446744073709551616 x).length c4, .slice A7 (digs 18446744073709551616 y).length c7]) _ (by simp only [yA, yB, yC, yD, yE, e1, e4, e7]) (Ext.refl _) trivial (fun Y hY => ⟨A4, A7, c4, c7, rfl, h4.ext hY, h7.ext hY, k7 A4 c4 e4⟩)
 refine Par.AllOps.fin ⟨fun f X hX hR hal hap => ?_⟩
 obtain ⟨A4, c4, (e4 : f 4 = _), h4⟩ := hR 4 (by decide)
 obtain ⟨A7, c7, e7, h7, k7⟩ : ∃ A c, f 7 = .slice A (digs 18446744073709551616 y).length c ∧ OB X W0.heap.size A c (digs 18446744073709551616 y) ∧ ∀ B d, f 4 = .slice B (digs 18446744073709551616 x).length d → Apart B A (digs 18446744073709551616 x).length (digs 18446744073709551616 y).length := hR 7 (by decide)
 obtain ⟨A8, B8, c8, d8, (e8 : f 8 = _), h8, k8, K8⟩ := hR 8 (by decide)
 simp only [yA, yB, yD, yE, e4, e7, e8]
 clear hR hal hap e4 e7 e8
 refine Par.Chain.next (fun K hK => ⟨Par.want (by kernel_rfl) (wp_storeV (cs' := #[.bool bi, .slice A8 (digs 18446744073709551616 x).length c8, .slice B8 (digs 18446744073709551616 y).length d8]) (t := 33) 33 (.tmp 2) (.tmp 11) rfl rfl rfl rfl (hX.at_ h2) infoP rfl (pt_one _ _ _ _ _ _ _) (fun Y hY1 hY2 hY3 => hK.out _ _ ?_))⟩)
 refine Par.Chain.done ?_
 go_wp2
 exact end_p rfl rfl rfl hY1 ⟨_, _, _, _, rfl, (h8.just hY2 (hX.at_ h2) (by decide)).mono HE0.out.bsize, (k8.just hY2 (hX.at_ h2) (by decide)).mono HE0.out.bsize, K8, hY2.ext (HE0.out.trans hX) (by have := Hq.out; omega)⟩
end Go.Proofs.YtaemogcomplhiaaGreatDoor

namespace Go.Proofs.YtaemogcomplhiaaGreatDoor
open Go.RowKit

theorem RS.of_blk {w : World} {g : Nat} {l : List Nat} {c : Nat} (h : Blk w g l) (hc : l.length ≤ c) (hc' : c ≤ maxLen) : RS w (fun _ => True) 1 (some ⟨g, 0, none⟩) l.length c (nts l) :=
 ⟨hc, hc', by simp [nts], fun hn => ⟨_, rfl, trivial, fun j u hu => by
  have hj : j < l.length := by have := (List.getElem?_eq_some_iff.1 hu).1; simpa [nts] using this
  have := h.cell (i := j) hj
  rw [nts_get hj] at hu
  injection hu with hu
  subst hu
  rw [add_blk]
  exact this⟩⟩
end Go.Proofs.YtaemogcomplhiaaGreatDoor

namespace Go.Proofs.YtaemogcomplhiaaGreatDoor
open Go.RowKit

set_option maxRecDepth 100000 in
set_option maxHeartbeats 4000000 in
theorem rfrom_n {p : Value} {bi : Bool} {a b : List Nat} (w : World) (hp : APn w p bi a b) (hla : a.length < 100000) (hlb : b.length < 100000) : Calls Tryz.prog 21 #[p] w fun e w' => ∃ o, e = .returned o ∧
 RPv w' o bi (if bi then 0 else val 18446744073709551616 a) (if bi then 0 else val 18446744073709551616 b) ∧ Ext w w' := by
 obtain ⟨A, A', ca, cb, rfl, hx, hy⟩ := hp
 obtain ⟨W0, hW0⟩ : ∃ W0, W0 = (w.alloc (.cells #[.bool bi, .slice A a.length ca, .slice A' b.length cb] 33)).alloc (.cells #[.bool false, .slice none 0 0, .slice none 0 0] 45) := ⟨_, rfl⟩
 obtain ⟨q, hq⟩ : ∃ q, w.heap.size = q := ⟨_, rfl⟩
 have hE0 : Ext w W0 := by rw [hW0]; exact (Ext.alloc _ _).trans (Ext.alloc _ _)
 obtain ⟨h1, h2, hz0⟩ := two_at2 w (.cells #[.bool bi, .slice A a.length ca, .slice A' b.length cb] 33) (.cells #[.bool false, .slice none 0 0, .slice none 0 0] 45)
 rw [← hW0, hq] at h1 h2 hz0
 have p0 := blk_cell h1 0
 have p1 := blk_cell h1 1
 have p2 := blk_cell h1 2
 simp only [List.getElem?_toArray, List.getElem?_cons_zero, List.getElem?_cons_succ] at p0 p1 p2
 have Hx := Lib.hid (RN.up hx hE0)
 have Hy := Lib.hid (RN.up hy hE0)
 have HE0 := Lib.hid hE0
 clear hx hy hE0 hz0 h1
 cases bi
 case true =>
  go_enter Tryz.func21, Tryz.ntmps21
  go_upto_region 1 with fail
  rw [← hW0]
  have Hq := Lib.hid hq
  clear hW0 hq
  go_upto_region 2 with fail
  refine Par.region_txt 1 [0, 1] [] (fun j f X => match j with
   | 0 => f 0 = .agg #[.bool true, .slice none 0 0, .slice none 0 0]
   | _ => True) (by kernel_rfl) [(5, 0)] (by kernel_rfl) ?_
  refine Par.v0 1 0 ?_
  refine Par.AllOps.fin ⟨fun f X hX hR hal hap => ?_⟩
  have e0 : f 0 = _ := hR 0 (by decide)
  simp only [yA, yB, yD, yE, e0]
  clear hR hal hap e0
  refine Par.Chain.next (fun K hK => ⟨Par.want (by kernel_rfl) (wp_storeV (cs' := #[.bool true, .slice none 0 0, .slice none 0 0]) (t := 45) 45 (.tmp 2) (.tmp 5) rfl rfl rfl rfl (hX.at_ h2) infoRP rfl (pt_one _ _ _ _ _ _ _) (fun Y hY1 hY2 hY3 => hK.out _ _ ?_))⟩)
  refine Par.Chain.done ?_
  go_wp2
  exact end_rpt rfl rfl rfl hY1 ⟨_, rfl, RPv.inf_ _, hY2.ext (HE0.out.trans hX) (by have := Hq.out; omega)⟩
 case false =>
  go_enter Tryz.func21, Tryz.ntmps21
  go_upto_region 1 with fail
  rw [← hW0]
  have Hq := Lib.hid hq
  clear hW0 hq
  go_upto_region 3 with fail
  refine Par.region_ext (by kernel_rfl) 7 [0, 1, 3, 0, 8, 31, 63, 127] [] (fun j f X => match j with
   | 0 => f 0 = .pointer (some ⟨q, 1, none⟩)
   | 1 => f 1 = .slice A a.length ca
   | 2 => ∃ B c, f 2 = .slice B (digs 4294967296 (val 18446744073709551616 a)).length c ∧ RU X B c (digs 4294967296 (val 18446744073709551616 a))
   | 3 => f 3 = .pointer (some ⟨q, 2, none⟩)
   | 4 => f 4 = .slice A' b.length cb
   | 5 => ∃ B c, f 5 = .slice B (digs 4294967296 (val 18446744073709551616 b)).length c ∧ RU X B c (digs 4294967296 (val 18446744073709551616 b))
   | 6 => f 6 = .agg #[.bool false, f 2, f 5]
   | _ => True) (by kernel_rfl) [(6, 0), (7, 1), (8, 2), (9, 3), (10, 4), (11, 5), (12, 6)] (by kernel_rfl) ?_
  refine Par.v0 1 6 ?_
  refine Par.ld1 2 5 0 p1 ?_
  refine Par.c0 3 4 (fun f => #[f 1]) (F' := 13) (fun f X hX hR => ?_) ?_
  · have e1 : f 1 = _ := hR.out 1 rfl
    simp only [e1]
    refine (from_any _ A ca a X (RN.up Hx.out hX) (fun _ h => h) hla).mono ?_
    rintro e w2 ⟨B, c, rfl, h, hB⟩
    exact ⟨(.slice B (digs 4294967296 (val 18446744073709551616 a)).length c), rfl, hB, fun Y hY => ⟨B, c, rfl, RN.up h.ru hY⟩⟩
  refine Par.v0 4 3 ?_
  refine Par.ld1 5 2 3 p2 ?_
  refine Par.c0 6 1 (fun f => #[f 4]) (F' := 13) (fun f X hX hR => ?_) ?_
  · have e4 : f 4 = _ := hR.out 4 rfl
    simp only [e4]
    refine (from_any _ A' cb b X (RN.up Hy.out hX) (fun _ h => h) hlb).mono ?_
    rintro e w2 ⟨B, c, rfl, h, hB⟩
    exact ⟨(.slice B (digs 4294967296 (val 18446744073709551616 b)).length c), rfl, hB, fun Y hY => ⟨B, c, rfl, RN.up h.ru hY⟩⟩
  refine Par.S 7 0 [(6, 0), (7, 1), (8, 2), (9, 3), (10, 4), (11, 5)] (fun f X hX hR K hK => ?_) ?_
  · obtain ⟨B2, c2, (e2 : f 2 = _), h_2⟩ := hR.out 2 rfl
    obtain ⟨B5, c5, (e5 : f 5 = _), h_5⟩ := hR.out 5 rfl
    simp only [yA, yB, yC, yD, yE, e2, e5]
    refine ⟨?_⟩
    go_simp
    exact hK.out _ (.agg #[.bool false, f 2, f 5]) _ (by simp only [yA, yB, yC, yD, yE, e2, e5]) (Ext.refl _) trivial (fun _ _ => rfl)
  refine Par.AllOps.fin ⟨fun f X hX hR hal hap => ?_⟩
  obtain ⟨B2, c2, (e2 : f 2 = _), h_2⟩ := hR 2 (by decide)
  obtain ⟨B5, c5, (e5 : f 5 = _), h_5⟩ := hR 5 (by decide)
  have e6 : f 6 = .agg #[.bool false, f 2, f 5] := hR 6 (by decide)
  simp only [yA, yB, yD, yE, e2, e5, e6]
  clear hR hal hap e2 e5 e6
  refine Par.Chain.next (fun K hK => ⟨Par.want (by kernel_rfl) (wp_storeV (cs' := #[.bool false, .slice B2 (digs 4294967296 (val 18446744073709551616 a)).length c2, .slice B5 (digs 4294967296 (val 18446744073709551616 b)).length c5]) (t := 45) 45 (.tmp 2) (.tmp 12) rfl rfl rfl rfl (hX.at_ h2) infoRP rfl (pt_one _ _ _ _ _ _ _) (fun Y hY1 hY2 hY3 => hK.out _ _ ?_))⟩)
  refine Par.Chain.done ?_
  go_wp2
  exact end_rpt rfl rfl rfl hY1 ⟨_, rfl, ⟨_, _, _, _, rfl, h_2.offJ hY2 (hX.at_ h2) (by kernel_rfl), h_5.offJ hY2 (hX.at_ h2) (by kernel_rfl)⟩, hY2.ext (HE0.out.trans hX) (by have := Hq.out; omega)⟩
end Go.Proofs.YtaemogcomplhiaaGreatDoor

namespace Go.Proofs.YtaemogcomplhiaaGreatDoor.Ec
open Go.RowKit Go.Shelf
open Sha

attribute [local go_sem] Oper.semAt_some

theorem key_any (P : Nat → Prop) (A : Option Addr) (c : Nat) (l : List Nat) (w : World) (h : RL w P A c l) :
 Calls Tryz.prog 8 #[.slice A l.length c] w fun e w' => ∃ A1 c1, e = .returned (.slice A1 (l.take 6).length c1) ∧ RU w' A1 c1 (l.take 6) ∧ Ext w w' := by
 have HC := Lib.hid (cut_any P A c l 6 w h (by omega))
 obtain ⟨n, hn⟩ : ∃ n, l.length = n := ⟨_, rfl⟩
 obtain ⟨t, ht⟩ : ∃ t, l.take 6 = t := ⟨_, rfl⟩
 rw [ht] at HC ⊢
 obtain ⟨z, hz⟩ : ∃ z, t.length = z := ⟨_, rfl⟩
 rw [hn, hz] at HC
 rw [hn, hz]
 clear h hn ht hz
 go_enter Tryz.func8, Tryz.ntmps8
 go_wp2_with fail
 refine HC.out.mono ?_
 rintro e w2 ⟨A1, c1, rfl, o, E⟩
 have HO := Lib.hid o
 have HE := Lib.hid E
 clear o E HC
 go_wp2
 go_ret
 exact ⟨A1, c1, rfl, HO.out.ru, HE.out⟩
theorem rc_sh {W : World} {C : Crv} {v : Value} {t : Nat} (h : RC W C v) (ht : C.size = t) : ∃ A1 l1 c1 A2 l2 c2 A3 l3 c3 A4 l4 c4 A5 l5 c5, v = .agg #[.slice A1 l1 c1, .slice A2 l2 c2, .slice A3 l3 c3, .slice A4 l4 c4, .slice A5 l5 c5, .int .i64 (t : Int)] := by
 subst ht
 obtain ⟨Ap, An', Ab, Ax, Ay, cp, cn, cb', cx, cy, rfl, _⟩ := h
 exact ⟨_, _, _, _, _, _, _, _, _, _, _, _, _, _, _, rfl⟩
theorem ron_u {c : Int} {C : Crv} (hC : IsU c C) {v : Value} {A A' : Option Addr} {k k' lx ly x y : Nat} {m : Bool} (w : World) (hc : RC w C v) (hx : RU w A k (digs 4294967296 x)) (hy : RU w A' k' (digs 4294967296 y)) (hlx : (digs 4294967296 x).length = lx) (hly : (digs 4294967296 y).length = ly) (hm : ((c == 1 || c == 2) && onQ C false x y) = m) :
 Calls Tryz.prog 22 #[v, .agg #[.bool false, .slice A lx k, .slice A' ly k']] w fun e w' => e = .returned (.bool m) ∧ Ext w w' := by
 subst hlx hly hm
 rcases hC with h | ⟨g1, g2, rfl⟩
 · have e : (c == 1 || c == 2) = true := by rcases h with ⟨rfl, _⟩ | ⟨rfl, _⟩ <;> rfl
   rw [e, Bool.true_and]
   exact refOn_any h.fine A A' k k' x y false w hc hx hy
 · rw [show (c == 1 || c == 2) = false by simp [g1, g2], Bool.false_and]
   exact refOn_no w hc rfl
theorem set_ones {n k : Nat} (h : k < n) : (List.replicate k 255 ++ List.replicate (n - k) 0).set k 255 = List.replicate (k + 1) 255 ++ List.replicate (n - (k + 1)) 0 := by
 rw [List.set_append_right _ _ (by simp), List.length_replicate, Nat.sub_self, show n - k = (n - (k + 1)) + 1 by omega, List.replicate_succ, List.set_cons_zero, List.replicate_succ', List.append_assoc]
 rfl
set_option maxRecDepth 100000 in
set_option maxHeartbeats 8000000 in
theorem strange_law {c : Int} {P : Nat → Prop} {A B : Option Addr} {ca cb : Nat} {l r : List Nat} (vs : Value) (w : World) (hk : KW w) (hx : RL w P A ca l) (hy : RL w P B cb r) (hP : ∀ q, P q → q < w.heap.size) :
 Calls Tryz.prog 4 #[.int .i64 c, vs, .slice A l.length ca, .slice B r.length cb] w fun e w' => e = .returned (.bool true) ∧ Ext w w' := by
 obtain ⟨C, hU⟩ := isU c
 obtain ⟨kx, hkx⟩ : ∃ k, l.take 6 = k := ⟨_, rfl⟩
 obtain ⟨ky, hky⟩ : ∃ k, r.take 6 = k := ⟨_, rfl⟩
 have hlx : kx.length < 100000 := by rw [← hkx, List.length_take]; omega
 have hly : ky.length < 100000 := by rw [← hky, List.length_take]; omega
 obtain ⟨x, hvx⟩ : ∃ x, val 18446744073709551616 kx = x := ⟨_, rfl⟩
 obtain ⟨y, hvy⟩ : ∃ y, val 18446744073709551616 ky = y := ⟨_, rfl⟩
 obtain ⟨m, hm⟩ : ∃ m, ((c == 1 || c == 2) && onQ C false x y) = m := ⟨_, rfl⟩
 have HBg := Lib.hid (begun10_any w hk)
 have H2 := Lib.hid (fun X (hX : Ext w X) => key_any P A ca l X (hx.below hX hP))
 have H3 := Lib.hid (fun X (hX : Ext w X) => key_any P B cb r X (hy.below hX hP))
 rw [hkx] at H2
 rw [hky] at H3
 obtain ⟨ll, hll⟩ : ∃ n, l.length = n := ⟨_, rfl⟩
 obtain ⟨lr, hlr⟩ : ∃ n, r.length = n := ⟨_, rfl⟩
 rw [hll] at H2 ⊢
 rw [hlr] at H3 ⊢
 have HU := Lib.hid hU
 have HL := Lib.hid (And.intro hlx hly)
 have HV := Lib.hid (And.intro hvx hvy)
 have HM := Lib.hid hm
 clear hk hx hy hP hU hkx hky hlx hly hvx hvy hm hll hlr
 go_enter Tryz.func4, Tryz.ntmps4
 go_upto_region 2 with (go_at_call 6; refine HBg.out.mono ?_; rintro e w1 ⟨rfl, E1⟩)
 have HE1 := Lib.hid E1
 clear E1 HBg
 go_wp2_with fail
 refine (H2.out w1 HE1.out).mono ?_
 rintro e w2 ⟨A2, c2, rfl, r2, E2⟩
 have HE2 := Lib.hid (HE1.out.trans E2)
 go_wp2_with fail
 refine (H3.out w2 HE2.out).mono ?_
 rintro e w3 ⟨A3, c3, rfl, r3, E3⟩
 obtain ⟨n2, hn2⟩ : ∃ n, kx.length = n := ⟨_, rfl⟩
 obtain ⟨n3, hn3⟩ : ∃ n, ky.length = n := ⟨_, rfl⟩
 rw [hn2, hn3]
 have HN := Lib.hid (And.intro hn2 hn3)
 have hq4 := heap_alloc_new w3 (.cells #[.bool false, .slice A2 n2 c2, .slice A3 n3 c3] 33)
 have hA4 := Ext.alloc w3 (.cells #[.bool false, .slice A2 n2 c2, .slice A3 n3 c3] 33)
 obtain ⟨g4, hg4⟩ : ∃ g, w3.heap.size = g := ⟨_, rfl⟩
 rw [hg4] at hq4
 have Hg4 := Lib.hid hg4
 have HE4 := Lib.hid (HE2.out.trans (E3.trans hA4))
 have hr2 := RN.up r2 (E3.trans hA4)
 have hr3 := RN.up r3 hA4
 clear H2 H3 HE1 HE2 r2 r3 E2 E3 hA4 hg4 hn2 hn3
 go_upto_region 4 with fail
 rw [Hg4.out]
 generalize w3.alloc (.cells #[.bool false, .slice A2 n2 c2, .slice A3 n3 c3] 33) = w4 at *
 have HS := Lib.hid (fun X (hX : Ext w4 X) => And.intro (Ext.at_ hX hq4) (And.intro (RN.up hr2 hX) (RN.up hr3 hX)))
 have HOf := Lib.hid (refOf_u HU.out w4)
 clear hq4 hr2 hr3 Hg4
 obtain ⟨t, ht⟩ : ∃ t, C.size = t := ⟨_, rfl⟩
 have Ht := Lib.hid ht
 clear ht
 go_upto_region 5 with (go_at_call 9; refine HOf.out.mono ?_; rintro e w5 ⟨v, rfl, hrc, E5⟩; obtain ⟨B1, l1, k1, B2, l2, k2, B3, l3, k3, B4, l4, k4, B5, l5, k5, rfl⟩ := rc_sh hrc Ht.out)
 have hq6 := heap_alloc_new w5 (.cells #[.slice B1 l1 k1, .slice B2 l2 k2, .slice B3 l3 k3, .slice B4 l4 k4, .slice B5 l5 k5, .int .i64 (t : Int)] 30)
 have hA6 := Ext.alloc w5 (.cells #[.slice B1 l1 k1, .slice B2 l2 k2, .slice B3 l3 k3, .slice B4 l4 k4, .slice B5 l5 k5, .int .i64 (t : Int)] 30)
 obtain ⟨g6, hg6⟩ : ∃ g, w5.heap.size = g := ⟨_, rfl⟩
 rw [hg6] at hq6 ⊢
 replace HE4 := Lib.hid (HE4.out.trans (E5.trans hA6))
 have hrc6 := hrc.ext hA6
 replace HS := Lib.hid (fun X (hX : Ext (w5.alloc (.cells #[.slice B1 l1 k1, .slice B2 l2 k2, .slice B3 l3 k3, .slice B4 l4 k4, .slice B5 l5 k5, .int .i64 (t : Int)] 30)) X) => And.intro (Ext.at_ hX hq6) (And.intro (hrc6.ext hX) (HS.out X (E5.trans (hA6.trans hX)))))
 generalize w5.alloc (.cells #[.slice B1 l1 k1, .slice B2 l2 k2, .slice B3 l3 k3, .slice B4 l4 k4, .slice B5 l5 k5, .int .i64 (t : Int)] 30) = w6 at *
 have hap : APn w6 (.agg #[.bool false, .slice A2 n2 c2, .slice A3 n3 c3]) false kx ky := by
  obtain ⟨-, -, -, h2, h3⟩ := HS.out w6 (Ext.refl _)
  rw [← HN.out.1, ← HN.out.2]
  exact ⟨A2, A3, c2, c3, rfl, h2, h3⟩
 have h7 := rfrom_n w6 hap HL.out.1 HL.out.2
 simp only [HV.out.1, HV.out.2, Bool.false_eq_true, if_false] at h7
 have H7 := Lib.hid h7
 obtain ⟨-, -, hq4, -, -⟩ := HS.out w6 (Ext.refl _)
 obtain ⟨z0, z1, z2, f0, f1, f2⟩ := pt_facts hq4
 clear hq6 hA6 hg6 hrc6 hrc E5 hap h7 hq4 HOf
 go_upto_region 6 with (go_at_call 21; refine H7.out.mono ?_; rintro e w7 ⟨o, rfl, ⟨Bx, By, dx, dy, rfl, rx, ry⟩, E7⟩)
 obtain ⟨lx, hlx⟩ : ∃ l, (digs 4294967296 x).length = l := ⟨_, rfl⟩
 obtain ⟨ly, hly⟩ : ∃ l, (digs 4294967296 y).length = l := ⟨_, rfl⟩
 rw [hlx, hly]
 have Hlx := Lib.hid (And.intro hlx hly)
 have hq8 := heap_alloc_new w7 (.cells #[.bool false, .slice Bx lx dx, .slice By ly dy] 45)
 have hA8 := Ext.alloc w7 (.cells #[.bool false, .slice Bx lx dx, .slice By ly dy] 45)
 obtain ⟨g8, hg8⟩ : ∃ g, w7.heap.size = g := ⟨_, rfl⟩
 rw [hg8] at hq8 ⊢
 replace HE4 := Lib.hid (HE4.out.trans (E7.trans hA8))
 have hrx := RN.up rx hA8
 have hry := RN.up ry hA8
 replace HS := Lib.hid (fun X (hX : Ext (w7.alloc (.cells #[.bool false, .slice Bx lx dx, .slice By ly dy] 45)) X) => (HS.out X (E7.trans (hA8.trans hX))))
 generalize w7.alloc (.cells #[.bool false, .slice Bx lx dx, .slice By ly dy] 45) = w8 at *
 clear hA8 hg8 E7 H7 rx ry hlx hly z0 z1 z2 f0 f1 f2
 obtain ⟨hq6, hrc, -⟩ := HS.out w8 (Ext.refl _)
 have H9 := Lib.hid (ron_u HU.out w8 hrc hrx hry Hlx.out.1 Hlx.out.2 HM.out)
 obtain ⟨z0, z1, z2, z3, z4, z5⟩ := sixF hq6
 obtain ⟨y0, y1, y2, f0, f1, f2⟩ := pt_facts hq8
 clear hq6 hrc hrx hry hq8 Hlx
 go_wp2_with fail
 refine H9.out.mono ?_
 rintro e w9 ⟨rfl, E9⟩
 replace HE4 := Lib.hid (HE4.out.trans E9)
 replace HS := Lib.hid (fun X (hX : Ext w9 X) => (HS.out X (E9.trans hX)))
 clear H9 E9 z0 z1 z2 z3 z4 z5 y0 y1 y2 f0 f1 f2
 cases m
 rotate_left
 · go_wp2
   go_ret
   exact ⟨rfl, HE4.out⟩
 have hoff : (false || !(c == 1 || c == 2) || !onQ C false x y) = true := by
  have h := HM.out
  cases h1 : (c == 1 || c == 2)
  · rfl
  · rw [h1, Bool.true_and] at h
    rw [h]
    rfl
 have HO := Lib.hid hoff
 clear hoff HM
 obtain ⟨hq6, hrc, -⟩ := HS.out w9 (Ext.refl _)
 obtain ⟨z0, z1, z2, z3, z4, z5⟩ := sixF hq6
 have H10 := Lib.hid (rbase_n w9 hrc)
 clear hq6 hrc
 go_wp2_with fail
 refine H10.out.mono ?_
 rintro e w10 ⟨o, rfl, hv, E10⟩
 have H11 := Lib.hid (rto_n w10 hv)
 obtain ⟨Cx, Cy, ex, ey, rfl, -, -⟩ := hv
 replace HE4 := Lib.hid (HE4.out.trans E10)
 replace HS := Lib.hid (fun X (hX : Ext w10 X) => (HS.out X (E10.trans hX)))
 clear H10 E10 z0 z1 z2 z3 z4 z5
 go_wp2_with fail
 refine H11.out.mono ?_
 rintro e w11 ⟨Px, Py, jx, jy, rfl, ox, oy, -, E11⟩
 obtain ⟨mx, hmx⟩ : ∃ l, (digs 18446744073709551616 (val 18446744073709551616 C.xl)).length = l := ⟨_, rfl⟩
 obtain ⟨my, hmy⟩ : ∃ l, (digs 18446744073709551616 (val 18446744073709551616 C.yl)).length = l := ⟨_, rfl⟩
 have hap : APt w11 (.agg #[.bool false, .slice Px (digs 18446744073709551616 (val 18446744073709551616 C.xl)).length jx, .slice Py (digs 18446744073709551616 (val 18446744073709551616 C.yl)).length jy]) false (val 18446744073709551616 C.xl) (val 18446744073709551616 C.yl) := ⟨Px, Py, jx, jy, _, _, rfl, ox.ru, oy.ru, val_digs (by omega) _, val_digs (by omega) _⟩
 rw [hmx, hmy] at hap
 rw [hmx, hmy]
 have hq12 := heap_alloc_new w11 (.cells #[.bool false, .slice Px mx jx, .slice Py my jy] 33)
 have hA12 := Ext.alloc w11 (.cells #[.bool false, .slice Px mx jx, .slice Py my jy] 33)
 obtain ⟨g12, hg12⟩ : ∃ g, w11.heap.size = g := ⟨_, rfl⟩
 rw [hg12] at hq12
 have Hg12 := Lib.hid hg12
 replace HE4 := Lib.hid (HE4.out.trans (E11.trans hA12))
 have hap2 := hap.ext hA12
 replace HS := Lib.hid (fun X (hX : Ext (w11.alloc (.cells #[.bool false, .slice Px mx jx, .slice Py my jy] 33)) X) => And.intro (Ext.at_ hX hq12) (And.intro (hap2.ext hX) (HS.out X (E11.trans (hA12.trans hX)))))
 clear hap hap2 ox oy hmx hmy hq12 hA12 hg12 E11 H11
 go_upto_region 9 with fail
 rw [Hg12.out]
 generalize w11.alloc (.cells #[.bool false, .slice Px mx jx, .slice Py my jy] 33) = w12 at *
 clear Hg12
 obtain ⟨n, hn⟩ : ∃ n, n = 2 * t := ⟨_, rfl⟩
 have ht48 : t ≤ 48 := by
  rw [← Ht.out]
  rcases HU.out with h | ⟨_, _, rfl⟩
  · exact h.fine.small
  · decide
 have wn : IntKind.i64.wrap (2 * (t : Int)) = (n : Int) := by rw [IntWalk.i64_in _ (by omega)]; omega
 have hmk := run_make_row' (P := Tryz.prog) 22 5 (.int .u8 0) 1 Tryz.underlying22 info8 rfl .i64 .i64 n (by omega) (by omega)
 obtain ⟨-, -, hq6, -⟩ := HS.out w12 (Ext.refl _)
 obtain ⟨z0, z1, z2, z3, z4, z5⟩ := sixF hq6
 have Hn := Lib.hid hn
 clear hq6 hn
 go_upto_region 10 with fail
 have hbz := Blk8.made w12 n
 have hEz := Ext.alloc w12 (.cells (madeCells #[.int .u8 0] n) 5)
 obtain ⟨gz, hgz⟩ : ∃ g, w12.heap.size = g := ⟨_, rfl⟩
 rw [hgz] at hbz ⊢
 replace HE4 := Lib.hid (HE4.out.trans hEz)
 have hrz := hbz.rb (P := fun q => q < (w12.alloc (.cells (madeCells #[.int .u8 0] n) 5)).heap.size) (blk_lt hbz) (fun b hb => by rw [List.mem_replicate] at hb; omega) (by rw [List.length_replicate]; have := Hn.out; omega)
 rw [List.length_replicate] at hrz
 replace HS := Lib.hid (fun X (hX : Ext (w12.alloc (.cells (madeCells #[.int .u8 0] n) 5)) X) => And.intro (hrz.upE hX) (HS.out X (hEz.trans hX)))
 generalize w12.alloc (.cells (madeCells #[.int .u8 0] n) 5) = w13 at *
 clear hbz hEz hrz hgz z0 z1 z2 z3 z4 z5
 obtain ⟨-, -, -, hq6, -⟩ := HS.out w13 (Ext.refl _)
 obtain ⟨z0, z1, z2, z3, z4, z5⟩ := sixF hq6
 clear hq6
 go_upto_region 11 with fail
 have hbz := Blk8.made w13 n
 have hEz := Ext.alloc w13 (.cells (madeCells #[.int .u8 0] n) 5)
 obtain ⟨go, hgo⟩ : ∃ g, w13.heap.size = g := ⟨_, rfl⟩
 rw [hgo] at hbz ⊢
 have Hgo := Lib.hid hgo
 have HBz := Lib.hid hbz
 have HEz := Lib.hid hEz
 generalize w13.alloc (.cells (madeCells #[.int .u8 0] n) 5) = w14 at *
 clear hbz hEz hgo z0 z1 z2 z3 z4 z5 hmk wn
 have Hn48 := Lib.hid ht48
 clear ht48
 go_wp2
 go_loopw [16] (fun iv wr => ∃ k : Nat, iv = .int .i64 (k : Int) ∧ k ≤ n ∧ Hid (Blk8 wr go (List.replicate k 255 ++ List.replicate (n - k) 0)) ∧ Hid (Ext w13 wr)) (fun iv _ => n - (intOf iv).toNat)
 case atStart => exact ⟨0, rfl, by omega, Lib.hid (by rw [Nat.sub_zero]; exact HBz.out), HEz⟩
 case round =>
  obtain ⟨k, rfl, hk, HB, HE⟩ := hrel
  clear HBz HEz
  have hn96 : n ≤ 96 := by have := Hn.out; have := Hn48.out; omega
  by_cases hlt : k < n
  · have hl : k < (List.replicate k 255 ++ List.replicate (n - k) 0).length := by simp; omega
    have q3 := HB.out.cell hl
    have q4 := HB.out.free k
    have hb' := HB.out.set k 255
    rw [set_ones hlt] at hb'
    have HB' := Lib.hid hb'
    have HE' := Lib.hid (HE.out.setCell (p := ⟨go, k, none⟩) (by rw [← Hgo.out]; exact Nat.le_refl _) (.int .u8 255))
    have hki : (k : Int) < (n : Int) := by omega
    clear hb' HB HE hl
    go_wp2
    go_roundw
    case rel => exact ⟨k + 1, by go_num, by omega, HB', HE'⟩
    case measure => simp [intOf]; omega
  · obtain rfl : k = n := by omega
    have hr := HB.out.rb (P := fun q => q < wr.heap.size) (blk_lt HB.out) (fun b hb => by
     rw [List.mem_append, List.mem_replicate, List.mem_replicate] at hb
     omega) (by simp; have := Hn.out; have := Hn48.out; omega)
    rw [Nat.sub_self, List.replicate_zero, List.append_nil, List.length_replicate] at hr
    have HR := Lib.hid hr
    replace HE4 := Lib.hid (HE4.out.trans HE.out)
    replace HS := Lib.hid (fun X (hX : Ext wr X) => HS.out X (HE.out.trans hX))
    have hki : ¬ (k : Int) < (k : Int) := by omega
    clear hr HB HE
    obtain ⟨-, -, -, -, -, hq4, ra, rb⟩ := HS.out wr (Ext.refl _)
    obtain ⟨z0, z1, z2, f0, f1, f2⟩ := pt_facts hq4
    obtain ⟨Wa, hWa, Ea, rba, hsa⟩ := lit_new wr [104] (by decide) (by decide) (cs := #[.int .u8 104]) rfl
    have hcv := cvm wr #[.int .u8 104] 1 1
    simp only [List.size_toArray, List.length_cons, List.length_nil, Nat.reduceAdd] at hcv hWa
    rw [hWa] at hcv
    have HV1 := Lib.hid (fun (vh : Value) => verify_off (vh := vh) (vs := vs) HU.out Wa (show APt Wa (.agg #[.bool false, .slice A2 n2 c2, .slice A3 n3 c3]) false x y from by
     rw [← HN.out.1, ← HN.out.2]
     exact ⟨A2, A3, c2, c3, _, _, rfl, RN.up ra Ea, RN.up rb Ea, HV.out.1, HV.out.2⟩) HO.out)
    replace HE4 := Lib.hid (HE4.out.trans Ea)
    replace HS := Lib.hid (fun X (hX : Ext Wa X) => And.intro (HR.out.upE (Ea.trans hX)) (HS.out X (Ea.trans hX)))
    clear hq4 ra rb Ea rba hsa HR
    go_wp2_with fail
    refine (HV1.out _).mono ?_
    rintro e wa ⟨rfl, Ea⟩
    replace HE4 := Lib.hid (HE4.out.trans Ea)
    replace HS := Lib.hid (fun X (hX : Ext wa X) => HS.out X (Ea.trans hX))
    clear HV1 Ea z0 z1 z2 f0 f1 f2 hcv hWa
    obtain ⟨-, rz, hq12, hap, -⟩ := HS.out wa (Ext.refl _)
    obtain ⟨z0, z1, z2, f0, f1, f2⟩ := pt_facts hq12
    obtain ⟨Wb, hWb, Eb, rbb, hsb⟩ := lit_new wa [104] (by decide) (by decide) (cs := #[.int .u8 104]) rfl
    have hcv := cvm wa #[.int .u8 104] 1 1
    simp only [List.size_toArray, List.length_cons, List.length_nil, Nat.reduceAdd] at hcv hWb
    rw [hWb] at hcv
    have hkc : k = 2 * C.size := by rw [Ht.out]; exact Hn.out
    have HV2 := Lib.hid (verify_same (v := 0) HU.out hkc (.inl rfl) Wb (hap.ext Eb) (rz.upE Eb) rbb)
    clear hkc
    replace HE4 := Lib.hid (HE4.out.trans Eb)
    replace HS := Lib.hid (fun X (hX : Ext Wb X) => HS.out X (Eb.trans hX))
    clear hq12 hap rz Eb rbb hsb
    go_wp2_with fail
    refine HV2.out.mono ?_
    rintro e wb ⟨rfl, Eb⟩
    replace HE4 := Lib.hid (HE4.out.trans Eb)
    replace HS := Lib.hid (fun X (hX : Ext wb X) => HS.out X (Eb.trans hX))
    clear HV2 Eb z0 z1 z2 f0 f1 f2 hcv hWb
    obtain ⟨ro, -, hq12, hap, -⟩ := HS.out wb (Ext.refl _)
    obtain ⟨z0, z1, z2, f0, f1, f2⟩ := pt_facts hq12
    obtain ⟨Wc, hWc, Ec, rbc, hsc⟩ := lit_new wb [104] (by decide) (by decide) (cs := #[.int .u8 104]) rfl
    have hcv := cvm wb #[.int .u8 104] 1 1
    simp only [List.size_toArray, List.length_cons, List.length_nil, Nat.reduceAdd] at hcv hWc
    rw [hWc] at hcv
    have hkc : k = 2 * C.size := by rw [Ht.out]; exact Hn.out
    have HV3 := Lib.hid (verify_same (v := 255) HU.out hkc (.inr rfl) Wc (hap.ext Ec) (ro.upE Ec) rbc)
    clear hkc
    replace HE4 := Lib.hid (HE4.out.trans Ec)
    clear hq12 hap ro Ec rbc hsc HS
    go_wp2_with fail
    refine HV3.out.mono ?_
    rintro e wc ⟨rfl, Ec⟩
    replace HE4 := Lib.hid (HE4.out.trans Ec)
    clear HV3 Ec z0 z1 z2 f0 f1 f2 hcv hWc
    obtain ⟨Wd, hWd, Ed, rbd, hsd⟩ := lit_new wc [104] (by decide) (by decide) (cs := #[.int .u8 104]) rfl
    have hcv := cvm wc #[.int .u8 104] 1 1
    simp only [List.size_toArray, List.length_cons, List.length_nil, Nat.reduceAdd] at hcv hWd
    rw [hWd] at hcv
    have HV4 := Lib.hid (fun (vh : Value) => verify_off (vh := vh) (vs := vs) HU.out Wd (APt.inf_ Wd) rfl)
    replace HE4 := Lib.hid (HE4.out.trans Ed)
    unfold infV at HV4
    clear Ed rbd hsd
    go_wp2_with fail
    refine (HV4.out _).mono ?_
    rintro e wd ⟨rfl, Ed⟩
    replace HE4 := Lib.hid (HE4.out.trans Ed)
    clear HV4 Ed hcv hWd
    go_wp2
    go_ret
    exact ⟨rfl, HE4.out⟩
end Go.Proofs.YtaemogcomplhiaaGreatDoor.Ec

namespace Go.Proofs.YtaemogcomplhiaaGreatDoor
open Go.ChangeShapes Go.WideShapes Go.ChangeAt Go.RowKit
open Sha

theorem gK : Tryz.prog.globalNamed "bailey/hashes.k" = some 3 := by kernel_rfl
theorem tK : (Tryz.prog.globals[3]?).map (·.type) = some 211 := by kernel_rfl
def kOk (n : Nat) (i : Nat) : Bool := decide (n < 18446744073709551616 ∧ n / 4294967296 = (wd kk i).toNat)
theorem k_all : (List.range 64).all (fun i => match (Rows.laid_bailey_hashes_k (H := Unit)) with | .agg l => (match l[i]? with | some (.lit (.int .u64 n)) => decide (0 ≤ n) && kOk n.toNat i | _ => false) | _ => false) = true := by decide +kernel
theorem of_laid {W : World} (h : laidMetH Tryz.prog [("bailey/hashes.k", Rows.laid_bailey_hashes_k)] W) : KW W := by
 rw [MakeChecks.laidMetH_plain _ _ _ (by kernel_rfl)] at h
 obtain ⟨ps, ⟨g0, t0, cs0, f0, p0, q0, hg0, ht0, hv0, hd0, _⟩, _, _⟩ := h
 obtain rfl := Option.some.inj (gK.symm.trans hg0)
 obtain rfl := Option.some.inj (tK.symm.trans ht0)
 obtain ⟨xs, m, rfl, hx, hlen, hn, hel⟩ := DataW.trod_array Tryz.underlying211 hd0
 have c1 : Tryz.prog.cellsOf 65 = 1 := by kernel_rfl
 intro i hi
 have hi80 : i < xs.length := by omega
 have h0 := hel i (by omega)
 rw [List.getElem?_eq_getElem hi80] at h0
 obtain ⟨k, e1, e2, _⟩ := DataW.trod_int Tryz.underlying65 h0
 rw [c1, Nat.mul_one] at e1
 have hall := List.all_eq_true.1 k_all i (List.mem_range.2 hi)
 have hx1 := congrArg (fun z : DataW Unit × List MemPlace => z.1) hx
 simp only at hx1
 rw [hx1] at hall
 simp only [List.getElem?_map, List.getElem?_eq_getElem hi80, Option.map_some, e2, Bool.and_eq_true, kOk, decide_eq_true_eq] at hall
 obtain ⟨k0, k1, k2⟩ := hall
 have hc : cs0[i]? = some (.int .u64 k) := by
  have : (cs0.toList.drop i)[0]? = some (Value.int .u64 k) := by
   have h2 := congrArg (fun l : List Value => l[0]?) e1
   simpa using h2
  simpa using this
 refine ⟨k.toNat, ?_, k1, k2⟩
 rw [World.var?_cell hg0 hv0 i, hc, Int.toNat_of_nonneg k0]
theorem door_met (os : Os) (args : Array Value) : laidMetH Tryz.prog [("bailey/hashes.k", Rows.laid_bailey_hashes_k)] ((World.doorLaid Tryz.prog 14 os).forCall (fun _ _ => 0) ⟨#[], args, []⟩).memory :=
 laidMetH_of_parts3 (fuel := 8) (laidMet_of_run' 8 (by kernel_rfl) (by kernel_rfl)) (by kernel_rfl) (by kernel_rfl)
end Go.Proofs.YtaemogcomplhiaaGreatDoor
