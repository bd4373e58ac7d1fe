/- hashes.Copy and Sum of a state that takes SHA-1. hashes.Of of one part: SHA-256, SHA-1. hashes: HMAC with SHA-256, by a key of at most 64 bytes. hashes: the code of parts; HMAC. hashes: HMAC-SHA-256. drbg: the code of parts. drbg: the state; update. drbg: update. drbg: Bytes. Plain arithmetic of shifts of numbers: nothing of the program. What limb.Shl and Shr compute. What bytes.Repeat calls at thirty-two ones. drbg: New. opers.New of a digest. -/
import Derived.Test.YtpbmaapdppdagaaGreatDoorQ85e76f0d0be0
import Derived.Deep.RegionWith
import Derived.RegionTactic
import Derived.ChangeAlike
import Derived.Lib.MakeNoZero
import Derived.Laws.Externs
namespace Go.Proofs.YtpbmaapdppdagaaGreatDoor
open Go.RowKit
open Sha
attribute [local go_sem] Oper.semAt_some

set_option maxRecDepth 100000 in
set_option maxHeartbeats 4000000 in
theorem hcopy1 {b F : Nat} {m : List Nat} (w : World) (hs : HS1 w b m F) :
 Calls Tryz.prog 151 #[.pointer (some ⟨b, 0, none⟩)] w fun e w' => ∃ b', e = .returned (.pointer (some ⟨b', 0, none⟩)) ∧ w.heap.size ≤ b' ∧ HS1 w' b' m (b' + 1) ∧ Ext w w' := by
 obtain ⟨A, c, ⟨s, hB⟩, hO, hN, hm⟩ := hs
 have zb := hB.lt
 have hcs := hB.1
 have hsz : (h1cells s (.slice A (rem m).length c) m.length).length = 11 := by simp [h1cells, hB.2]
 have hi : (Tryz.prog.info? 196).map (·.size) = some (h1cells s (.slice A (rem m).length c) m.length).toArray.size := by rw [List.size_toArray, hsz]; kernel_rfl
 have h1c : (h1cells s (.slice A (rem m).length c) m.length).toArray.all (·.oneCell') = true := by simp [h1cells, Value.oneCell']
 have HBo := Lib.hid hB
 have HO := Lib.hid hO
 have HN := Lib.hid hN
 have HM := Lib.hid hm
 have Hsz := Lib.hid hsz
 obtain ⟨cs, hce⟩ : ∃ cs, (h1cells s (.slice A (rem m).length c) m.length).toArray = cs := ⟨_, rfl⟩
 rw [hce] at hcs hi h1c
 have Hce := Lib.hid hce
 have hcz : cs.size = 11 := by rw [← hce, List.size_toArray, hsz]
 clear hB hO hN hm hsz hce
 go_enter Tryz.func151, Tryz.ntmps151
 go_upto_region 3 with fail
 refine Par.region_txt 4 [0, 1, 3, 0, 15] [3] (fun j f X => match j with
  | 0 => f 0 = .pointer (some ⟨b, 0, none⟩)
  | 1 => f 1 = .pointer (some ⟨b, 0, none⟩)
  | 2 => f 2 = .agg cs
  | 3 => ∃ b, f 3 = .pointer (some ⟨b, 0, none⟩) ∧ w.heap.size ≤ b ∧ X.heap[b]? = some (.cells #[.int .i64 0, .int .u64 0, .int .u64 0, .int .u64 0, .int .u64 0, .int .u64 0, .int .u64 0, .int .u64 0, .int .u64 0, .slice none 0 0, .int .u64 0] 196 (0, 0))
  | _ => True) (by kernel_rfl) [(6, 0), (7, 1), (8, 2), (3, 3)] (by kernel_rfl) ?_
 refine Par.v0 1 3 ?_
 refine Par.v1 2 2 0 ?_
 refine lV1 3 1 1 hcs hi ?_
 refine Par.al 4 0 ?_
 refine Par.AllOps.fin ⟨fun f X hX hR hal hap => ?_⟩
 have e2 : f 2 = _ := hR 2 (by decide)
 obtain ⟨b3, (e3 : f 3 = _), l3, h3⟩ := hR 3 (by decide)
 simp only [yA, yB, yD, yE, e2, e3]
 clear hR hal hap e2 e3
 refine Par.Chain.next (fun K hK => ⟨Par.want (by kernel_rfl) (wp_storeV (cs' := cs) (t := 196) 196 (.tmp 3) (.tmp 8) rfl rfl rfl rfl h3 hi (by rw [hcz]; rfl) h1c (fun Y hY1 hY2 hY3 => hK.out _ _ ?_))⟩)
 refine Par.Chain.done ?_
 have hEY := hY2.ext hX l3
 have hB3 : HX Y b3 s (.slice A (rem m).length c) m.length := ⟨by rw [hY1, ← Hce.out], HBo.out.2⟩
 have hBY := HBo.out.ext hEY
 have hOY : OW Y F A c (rem m) := HO.out.same fun k _ cs hb => hEY.at_ hb
 have cw := hBY.wait
 have z3 := hB3.lt
 have hcl := Lib.hid (cloneO (In F Y.heap.size) A c (rem m) Y (hOY.rb (by rw [rem_length]; omega)) (fun k hk => hk.2) HN.out (by rw [rem_length]; omega))
 have HE := Lib.hid hEY
 have HB3 := Lib.hid hB3
 clear hX hY1 hY2 hY3 hEY hB3 hBY hOY h3
 go_upto_region 4 with fail
 go_wp2_with fail
 refine hcl.out.mono ?_
 rintro e w4 ⟨A4, c4, rfl, ho4, hn4, hE4⟩
 have hB4 := HB3.out.ext hE4
 have c4' := hB4.wait
 have f4 := hB4.free 9
 have hj := (Just.refl b3 w4).set 9 (.slice A4 (rem m).length c4)
 have HB5 := Lib.hid (hB4.setWait (.slice A4 (rem m).length c4))
 have HO5 := Lib.hid (show OW (w4.setCell ⟨b3, 9, none⟩ (.slice A4 (rem m).length c4)) (b3 + 1) A4 c4 (rem m) from (ho4.mono (by omega)).same fun k hk cs hb => hj.at_ (by omega) hb)
 have HE5 := Lib.hid (hj.ext (HE.out.trans hE4) l3)
 have HN4 := Lib.hid hn4
 clear hj hB4 ho4 hn4 hE4
 go_wp2_with fail
 go_ret
 exact ⟨b3, rfl, l3, ⟨A4, c4, ⟨_, HB5.out⟩, HO5.out, HN4.out, HM.out⟩, HE5.out⟩
set_option maxRecDepth 100000 in
set_option maxHeartbeats 8000000 in
theorem sum1_any {b F : Nat} {m : List Nat} (w : World) (hs : HS1 w b m F) (hk : KW w) (hm : m.length ≤ 400000) (_hmb : ∀ x ∈ m, x < 256) :
 Calls Tryz.prog 95 #[.pointer (some ⟨b, 0, none⟩)] w fun e w' => ∃ A c l, e = .returned (.slice A 20 c) ∧ RB w' (fun b => b < w'.heap.size) A c l ∧ l.length = 20 ∧ Ext w w' := by
 obtain ⟨r, hr⟩ : ∃ r, m.length % 64 = r := ⟨_, rfl⟩
 have hr64 : r < 64 := by omega
 have hcopy := Lib.hid (fun X (hX : Ext w X) => hcopy1 X (hs.ext hX))
 obtain ⟨A0, c0, hB0, _, _, _⟩ := hs
 have zk := hk.lt
 have ck := hB0.kind
 have cn := hB0.num
 have HK := Lib.hid hk
 have HR := Lib.hid hr
 have Hm := Lib.hid hm
 clear hB0 hk hr hm
 go_enter Tryz.func95, Tryz.ntmps95
 go_upto_region 3 with fail
 refine Par.region_ext (by kernel_rfl) 9 [0, 1, 0, 4, 12, 28, 63, 127, 255] [] (fun j f X => match j with
  | 0 => f 0 = .pointer (some ⟨b, 0, none⟩)
  | 1 => ∃ b', f 1 = .pointer (some ⟨b', 0, none⟩) ∧ w.heap.size ≤ b' ∧ HS1 X b' m (b' + 1)
  | 2 => f 2 = .pointer (some ⟨b, 0, none⟩)
  | 3 => f 3 = .pointer (some ⟨b, 0, none⟩)
  | 4 => f 4 = .pointer (some ⟨b, 0, none⟩)
  | 5 => f 5 = .int .i64 1
  | 6 => f 6 = .int .i64 64
  | 7 => ∃ b', f 7 = .pointer (some ⟨b', 0, none⟩) ∧ w.heap.size ≤ b' ∧ HS1 X b' m (b' + 1)
  | 8 => f 8 = .int .i64 64
  | _ => True) (by kernel_rfl) [(13, 0), (14, 1), (15, 2), (16, 3), (17, 4), (18, 5), (19, 6), (3, 7), (4, 8)] (by kernel_rfl) ?_
 refine Par.v0 1 8 ?_
 refine Par.c0 2 7 (fun f => #[f 0]) (F' := 151) (fun f X hX hR => ?_) ?_
 · have e0 : f 0 = _ := hR.out 0 rfl
   simp only [e0]
   refine (hcopy.out X hX).mono ?_
   rintro e w2 ⟨b', rfl, hl, hs, hB⟩
   exact ⟨_, rfl, hB, fun Y hY => ⟨b', rfl, Nat.le_trans hX.bsize hl, hs.ext hY⟩⟩
 refine Par.v0 3 6 ?_
 refine Par.v1 4 5 2 ?_
 refine Par.v1 5 4 3 ?_
 refine Par.ld1 6 3 4 ck ?_
 refine Par.c0 7 2 (fun f => #[f 5]) (F' := 149) (fun f X hX hR => ?_) ?_
 · have e5 : f 5 = _ := hR.out 5 rfl
   simp only [e5]
   refine (block1 _).mono ?_
   rintro e w2 ⟨rfl, rfl⟩
   exact ⟨_, rfl, (Ext.refl _), fun _ _ => rfl⟩
 refine Par.S 8 1 [(13, 0), (14, 1), (15, 2), (16, 3), (17, 4), (18, 5), (19, 6)] (fun f X hX hR K hK => ?_) ?_
 · obtain ⟨b1, (e1 : f 1 = _), l1, h1⟩ := hR.out 1 rfl
   simp only [yA, yB, yC, yD, yE, e1]
   refine ⟨?_⟩
   go_simp
   exact hK.out _ _ _ (by simp only [yA, yB, yC, yD, yE, e1]) (Ext.refl _) trivial (fun Y hY => ⟨b1, rfl, l1, h1.ext hY⟩)
 refine Par.v1 9 0 6 ?_
 refine Par.AllOps.fin ⟨fun f X hX hR hal hap => ?_⟩
 obtain ⟨b1, (e1 : f 1 = _), l1, h1⟩ := hR 1 (by decide)
 obtain ⟨b7, (e7 : f 7 = _), l7, h7⟩ := hR 7 (by decide)
 have e8 : f 8 = _ := hR 8 (by decide)
 simp only [yA, yB, yD, yE, e1, e7, e8]
 clear hR hal hap e1 e7 e8
 refine Par.Chain.done ?_
 obtain ⟨A, c, hB, hO, hN, hm5⟩ := id h7
 have HS7 := Lib.hid h7
 have HE := Lib.hid hX
 have hrl := (rem_length m).trans HR.out
 have cw := hB.wait
 rw [hrl] at cw
 have zb7 := hB.lt
 clear hB hO hN hm5 h7 h1 l1 hX hrl hcopy
 rename World => wa
 obtain ⟨t, ht⟩ : ∃ t, (r + 9) % 64 = t := ⟨_, rfl⟩
 obtain ⟨v, hv⟩ : ∃ v, 65 - t = v := ⟨_, rfl⟩
 obtain ⟨r1, h1⟩ : ∃ x, r + 1 = x := ⟨_, rfl⟩
 obtain ⟨r9, h9⟩ : ∃ x, r + 9 = x := ⟨_, rfl⟩
 obtain ⟨u, hu⟩ : ∃ x, 64 - t = x := ⟨_, rfl⟩
 have e1 : IntKind.i64.wrap ((r : Int) + 1) = (r1 : Int) := by rw [IntWalk.i64_in _ (by omega)]; omega
 have e2 : IntKind.i64.wrap ((r1 : Int) + 8) = (r9 : Int) := by rw [IntWalk.i64_in _ (by omega)]; omega
 have e3 : (r9 : Int).tmod 64 = (t : Int) := by rw [Int.tmod_eq_emod_of_nonneg (by omega)]; omega
 have e4 : IntKind.i64.wrap (64 - (t : Int)) = (u : Int) := by rw [IntWalk.i64_in _ (by omega)]; omega
 have e5 : IntKind.i64.wrap ((u : Int) + 1) = (v : Int) := by rw [IntWalk.i64_in _ (by omega)]; omega
 have v0 : (0 : Int) ≤ (v : Int) := by omega
 have v1 : (v : Int) ≤ 65 := by omega
 have hmk := run_make_row' (P := Tryz.prog) 23 5 (.int .u8 0) 1 Tryz.underlying23 info8 rfl .i64 .i64 v (by omega) (by omega)
 have hmd := Blk8.made wa v
 have hEm := Ext.alloc wa (.cells (madeCells #[.int .u8 0] v) 5)
 obtain ⟨g, hg⟩ : ∃ g, wa.heap.size = g := ⟨_, rfl⟩
 have Hg := Lib.hid hg
 have HT := Lib.hid ht
 have Hv := Lib.hid hv
 have Hu := Lib.hid hu
 have H1 := Lib.hid h1
 have H9 := Lib.hid h9
 clear ht hv h1 h9 hu
 go_upto_region 6 with fail
 have HEm := Lib.hid hEm
 clear hmk hEm
 rw [hg] at hmd
 generalize wa.alloc (.cells (madeCells #[.int .u8 0] v) 5) = wb at *
 have cw := HEm.out.cell cw
 obtain ⟨z, hz⟩ : ∃ z, (119 - r) % 64 + 1 = z := ⟨_, rfl⟩
 have Hz := Lib.hid hz
 clear hz hg
 go_upto_if 46 with fail
 go_cut [6] from 47 (fun s6 wx => s6 = .slice (some ⟨g, 0, none⟩) z v ∧ wb = wx)
 case first =>
  have hT := HT.out
  have hv := Hv.out
  have hz := Hz.out
  by_cases ht0 : t = 0
  · have z1 : z = 1 := by omega
    have v65 : v = 65 := by omega
    subst z1 v65 ht0
    clear hT hv hz
    go_wp2_with fail
    go_meet
    case rel => exact ⟨rfl, rfl⟩
  · have z1 : z = v := by omega
    subst z1
    have t0 : ¬ (t : Int) = 0 := by omega
    clear hT hv hz
    go_wp2_with fail
    go_meet
    case rel => exact ⟨rfl, rfl⟩
 case rest =>
  obtain ⟨rfl, rfl⟩ := hcut
  clear e1 e2 e3 e4 e5 cw
  have hzv : z ≤ v := by have := HT.out; have := Hv.out; have := Hz.out; omega
  have hz0 : (0 : Int) < (z : Int) := by have := Hz.out; omega
  have cg := hmd.cell (i := 0) (by simp; omega)
  have fg := hmd.free 0
  have hset := blk_set hmd 0 (.int .u8 128)
  have hjg := (Just.refl g wb).set 0 (.int .u8 128)
  obtain ⟨zc, hzc⟩ : ∃ x, (119 - m.length % 64) % 64 = x := ⟨_, rfl⟩
  obtain ⟨hop, hpl⟩ := ow_pad (z := z) (zc := zc) hset (by rw [← hzc, HR.out]; exact Hz.out.symm) hzv (by omega)
  have HJg := Lib.hid hjg
  have HOP := Lib.hid hop
  have Hpl := Lib.hid hpl
  have Hzc := Lib.hid hzc
  clear hset hjg hop hpl hzc hmd
  go_upto_region 9 with fail
  clear cg fg
  generalize wb.setCell ⟨g, 0, none⟩ (.int .u8 128) = wq at *
  have hmk8 := run_make_row' (P := Tryz.prog) 23 5 (.int .u8 0) 1 Tryz.underlying23 info8 rfl .i64 .i64 8 (by omega) (by omega)
  have hb8 := Blk8.made wq 8
  have HE8 := Lib.hid (Ext.alloc wq (.cells (madeCells #[.int .u8 0] 8) 5))
  simp only [Int.cast_ofNat_Int] at hmk8
  go_upto_region 10 with fail
  clear hmk8
  generalize wq.alloc (.cells (madeCells #[.int .u8 0] 8) 5) = we at *
  obtain ⟨g8, hg8⟩ : ∃ g, wq.heap.size = g := ⟨_, rfl⟩
  have Hg8 := Lib.hid hg8
  rw [hg8] at hb8 ⊢
  have hEd : Ext w wq := HJg.out.ext (HE.out.trans HEm.out) (by have := Hg.out; have := HE.out.bsize; omega)
  have HEe := Lib.hid (hEd.trans HE8.out)
  have cn' := HEe.out.cell cn
  obtain ⟨nn, hnn⟩ : ∃ x, m.length * 8 = x := ⟨_, rfl⟩
  have e8 : (m.length : Int) * 8 % 18446744073709551616 = (nn : Int) := by have := Hm.out; omega
  have Hnn := Lib.hid hnn
  clear hnn hEd
  refine Par.region_ext (by kernel_rfl) 9 [0, 0, 2, 7, 0, 16, 48, 112, 240, 511] [] (fun j f X => match j with
   | 0 => f 0 = .slice (some ⟨g8, 0, none⟩) 8 8
   | 1 => f 1 = .int .i64 8
   | 2 => f 2 = .int .i64 0
   | 3 => f 3 = .slice (some ⟨g8, 0, none⟩) 8 8
   | 4 => f 4 = .pointer (some ⟨b, 0, none⟩)
   | 5 => f 5 = .pointer (some ⟨b, 0, none⟩)
   | 6 => f 6 = .pointer (some ⟨b, 10, none⟩)
   | 7 => f 7 = .int .u64 (m.length : Int)
   | 8 => f 8 = .int .u64 (nn : Int)
   | _ => True) (by kernel_rfl) [(53, 0), (54, 1), (55, 2), (56, 3), (57, 4), (58, 5), (59, 6), (60, 7), (61, 8)] (by kernel_rfl) ?_
  refine Par.v0 1 8 ?_
  refine Par.v0 2 7 ?_
  refine Par.v1 3 6 1 ?_
  refine Par.S 4 5 [(53, 0), (54, 1), (55, 2), (57, 4), (58, 5), (59, 6), (60, 7), (61, 8)] (fun f X hX hR K hK => ?_) ?_
  · have e0 : f 0 = _ := hR.out 0 rfl
    have e2 : f 2 = _ := hR.out 2 rfl
    simp only [yA, yB, yC, yD, yE, e0, e2]
    refine ⟨?_⟩
    go_simp
    exact Par.k hK (s := by simp only [yA, yB, yC, yD, yE, e0, e2])
  refine Par.v0 5 4 ?_
  refine Par.v1 6 3 4 ?_
  refine Par.v1 7 2 5 ?_
  refine Par.ld1 8 1 6 cn' ?_
  refine Par.v1 9 0 7 (hR := fun _ _ h => h.trans (congrArg (Value.int .u64) (show IntKind.u64.wrap ((m.length : Int) * 2 ^ 3) = (nn : Int) by rw [IntKind.wrap_u64]; exact e8))) ?_
  refine Par.AllOps.fin ⟨fun f X hX hR hal hap => ?_⟩
  have e3 : f 3 = _ := hR 3 (by decide)
  have e8 : f 8 = _ := hR 8 (by decide)
  simp only [yA, yB, yD, yE, e3, e8]
  clear hR hal hap e3 e8
  replace hb8 := hX.at_ hb8
  refine Par.Chain.next (fun K hK => ⟨Par.want (by kernel_rfl) ?_⟩)
  go_simp
  refine (put64_o nn g8 X hb8).mono ?_
  rintro e wf ⟨rfl, hb9, hj9⟩
  refine hK.out _ _ ?_
  refine Par.Chain.done ?_
  have HB9 := Lib.hid hb9
  have HJ9 := Lib.hid hj9
  have HX9 := Lib.hid hX
  clear hb8 hb9 hj9 hX e8 cn'
  go_upto_region 13 with fail
  have hgd : g < wq.heap.size := by have := HOP.out.own rfl; obtain ⟨_, cs, hc⟩ := this; exact blk_lt hc
  have hEwd : Ext wa wq := HJg.out.ext HEm.out (by have := Hg.out; omega)
  have hEdf : Ext wq wf := HJ9.out.ext (HE8.out.trans HX9.out) (by have := Hg8.out; omega)
  have HEA := Lib.hid (hEwd.trans hEdf)
  have hopf : OW wf g (some ⟨g, 0, none⟩) v (128 :: List.replicate zc 0) := HOP.out.same fun k _ cs hb => hEdf.at_ hb
  have hrf : RB wf (fun k => k = g8) (some ⟨g8, 0, none⟩) 8 (byt8 nn) := HB9.out.rb rfl (byt8_lt nn) (by simp [byt8])
  have hgs : g ≤ wf.heap.size := by have := hEdf.bsize; omega
  have hlen : (128 :: List.replicate zc 0).length + (byt8 nn).length ≤ 100000000 := by rw [Hpl.out]; simp [byt8]; omega
  have htl : (128 :: List.replicate zc 0) ++ byt8 nn = tail m.length := by rw [tail_byt8, Hzc.out, Hnn.out]
  have HTL := Lib.hid htl
  have HSf := Lib.hid (HS7.out.ext HEA.out)
  clear hgd hEwd hEdf htl
  go_wp2_with (at_builtin; refine app8 rfl (.tmp 76) (.tmp 77) rfl g (by rw [Hpl.out]; rfl) hopf rfl hrf hlen hgs ?_; intro A5 c5 wg ho5 hb5)
  rw [HTL.out] at ho5
  have hEfg : Ext wa wg := Below.trans HEA.out (hb5.mono (by have := Hg.out; omega))
  rw [show zc + (byt8 nn).length + 1 = (tail m.length).length by rw [← HTL.out]; simp]
  have htl : (tail m.length).length ≤ 80 := by rw [tail_length]; omega
  have hwr := Lib.hid (write1 (p := tail m.length) wg (HS7.out.ext hEfg) (HK.out.ext (HE.out.trans hEfg)) (ho5.rb (by omega)) (fun k hk => hk.2) (Nat.lt_succ_self b7) (by omega) (by have := hEfg.bsize; omega) (by rw [List.length_append]; have := Hm.out; omega))
  have HEg := Lib.hid (HE.out.trans hEfg)
  have zbg : b7 < wg.heap.size := by have := hEfg.bsize; omega
  clear hEfg ho5 hb5 hopf hrf hgs hlen htl HSf
  refine hwr.out.mono ?_
  rintro e wh ⟨rfl, hsh, hfh⟩
  have HEh := Lib.hid (hfh.ext' HEg.out l7 (by omega))
  obtain ⟨A6, c6, ⟨s8, hB6⟩, _, _, _⟩ := hsh
  have HL8 := Lib.hid hB6.2
  have hmid := Lib.hid (show ∀ X, Ext wh X → (Instr.loadAt 193 (.pointer (some ⟨b7, 1, none⟩))).run Tryz.prog X = .ok (.agg (s8.map fun x => Value.int .u64 (x.toNat : Int)).toArray) X from fun X hX =>
   run_loadAt_mid X b7 1 193 (s8.map fun x => Value.int .u64 (x.toNat : Int)) _ (fun j u hu => by
    have hj : j < 8 := by have h0 := (List.getElem?_eq_some_iff.1 hu).1; rw [List.length_map, hB6.2] at h0; exact h0
    rw [(hB6.ext hX).cell hj]
    have h8 : j < s8.length := by rw [hB6.2]; exact hj
    rw [← hu]
    simp [wd, h8]) Tryz.underlying193 rfl (by rw [List.length_map, hB6.2]; kernel_rfl))
  have ck' := HEh.out.cell ck
  clear hwr hfh hB6
  go_upto_region 15 with fail
  obtain ⟨arr, harr⟩ : ∃ a, (s8.map fun x => Value.int .u64 (x.toNat : Int)).toArray = a := ⟨_, rfl⟩
  rw [harr] at hmid
  have hai := Lib.hid (show ∀ k, k < 8 → arr[k]? = some (.int .u64 ((wd s8 k).toNat : Int)) from fun k hk => by
   have h8 : k < s8.length := by rw [HL8.out]; exact hk
   rw [← harr, List.getElem?_toArray]
   simp [wd, h8])
  clear harr
  refine Par.region_txt 5 [0, 1, 3, 7, 0] [] (fun j f X => match j with
   | 0 => f 0 = .pointer (some ⟨b7, 0, none⟩)
   | 1 => f 1 = .pointer (some ⟨b7, 0, none⟩)
   | 2 => f 2 = .pointer (some ⟨b7, 1, none⟩)
   | 3 => f 3 = .agg arr
   | 4 => f 4 = Value.int IntKind.i64 0
   | _ => True) (by kernel_rfl) [(80, 0), (81, 1), (82, 2), (83, 3), (84, 4)] (by kernel_rfl) ?_
  refine Par.v0 1 4 ?_
  refine Par.v1 2 3 0 ?_
  refine Par.v1 3 2 1 ?_
  refine Par.S 4 1 [(80, 0), (81, 1), (82, 2), (84, 4)] (fun f X hX hR K hK => ?_) ?_
  · have e2 : f 2 = _ := hR.out 2 rfl
    simp only [yA, yB, yC, yD, yE, e2]
    refine ⟨Par.want (by kernel_rfl) (wp_loadR 193 (.tmp 82) rfl rfl (hmid.out X hX) ?_)⟩
    exact Par.k hK (s := by simp only [yA, yB, yC, yD, yE, e2])
  refine Par.v0 5 0 ?_
  refine Par.AllOps.fin ⟨fun f X hX hR hal hap => ?_⟩
  have e3 : f 3 = _ := hR 3 (by decide)
  have e4 : f 4 = _ := hR 4 (by decide)
  simp only [yA, yB, yD, yE, e3, e4]
  clear hR hal hap e3 e4
  refine Par.Chain.done ?_
  have HEx := Lib.hid (HEh.out.trans hX)
  clear hX ck' hmid
  rename World => wl
  obtain ⟨D, hD⟩ : ∃ D, wl.heap.size = D := ⟨_, rfl⟩
  have HD := Lib.hid hD
  have how : OW wl D none 0 (flat s8 0) := ⟨⟨by simp [flat, bys], .inl ⟨rfl, rfl⟩⟩, by simp [flat]⟩
  clear hD
  go_wp2_with fail
  go_loopw [8, 84] (fun sv iv wr => ∃ (k : Nat) (A : Option Addr) (c : Nat), iv = .int .i64 (k : Int) ∧ k ≤ 8 ∧ sv = .slice A (flat s8 k).length c ∧ Hid (OW wr D A c (flat s8 k)) ∧ Hid (Below D wl wr)) (fun _ iv _ => (8 - intOf iv).toNat)
  case atStart => exact ⟨0, none, 0, rfl, by omega, rfl, Lib.hid how, Lib.hid (Below.refl _ _)⟩
  case round =>
   clear how
   obtain ⟨k, Ao, co, rfl, hk8, rfl, HO, HBl⟩ := hrel
   by_cases hlt : k < 8
   · have k8 : (k : Int) < 8 := by omega
     have hidx : ∀ W : World, (Instr.index 193 (.agg arr) (.int .i64 (k : Int))).run Tryz.prog W = .ok (.int .u64 ((Sha.wd s8 k).toNat : Int)) W := fun W => run_index_arr Tryz.underlying193 (fun _ => by kernel_rfl) (fun _ => by kernel_rfl) hlt (hai.out k hlt)
     have hfl := flat_succ (l := s8) (k := k) (by rw [HL8.out]; exact hlt)
     have hll := flat_len (l := s8) (k := k) (by rw [HL8.out]; omega)
     obtain ⟨x, hx⟩ : ∃ x, Sha.wd s8 k = x := ⟨_, rfl⟩
     rw [hx] at hidx hfl
     have ha := append32_o x wr HO.out (by have := HBl.out.size; have := HD.out; omega) (by omega)
     rw [← hfl] at ha
     have Ha := Lib.hid ha
     have hxm := w32_mod x
     clear hfl hx ha hll
     go_wp2_with fail
     refine Ha.out.mono ?_
     rintro e wn ⟨A2, c2, rfl, ho2, hb2⟩
     have HO2 := Lib.hid ho2
     have HB2 := Lib.hid (HBl.out.trans hb2)
     clear ho2 hb2 Ha hidx hxm
     go_wp2_with fail
     go_roundw
     case rel => exact ⟨k + 1, A2, c2, by go_num, by omega, rfl, HO2, HB2⟩
     case measure => simp [intOf]; omega
   · obtain rfl : k = 8 := by omega
     rw [show ((8 : Nat) : Int) = 8 from rfl]
     have hl8 : (flat s8 8).length = 32 := flat_len (l := s8) (k := 8) (by rw [HL8.out]; exact Nat.le_refl _)
     rw [hl8]
     have HEz := Lib.hid (Below.trans HEx.out (HBl.out.mono (by have := HD.out; have := HEx.out.bsize; omega)))
     have ckz := Ext.cell HEz.out ck
     have hc32 : (32 : Int) ≤ (co : Int) := by have h1 := (HO.out.rb (by rw [hl8]; omega)).cap.1; rw [hl8] at h1; omega
     have hrb := HO.out.rb (by rw [hl8]; omega)
     have hm20 := hrb.mid' (k := 0) (m := 20) (c' := co) (by omega) (by rw [hl8]; omega) (by omega) (by have := hrb.cap.2.1; unfold maxLen; omega) (A' := Ao) (fun _ => by cases Ao <;> simp [Addr.add])
     rw [List.drop_zero, Nat.sub_zero] at hm20
     have HM := Lib.hid (hm20.mono fun b hb => hb.2)
     have Hl8 := Lib.hid hl8
     clear hl8 HO HBl hlt hk8 hrb hm20
     go_wp2_with fail
     refine (size1 _).mono ?_
     rintro e wn ⟨rfl, rfl⟩
     go_wp2_with fail
     go_ret
     exact ⟨Ao, co, _, rfl, HM.out, by rw [List.length_take, Hl8.out]; rfl, HEz.out⟩
end Go.Proofs.YtpbmaapdppdagaaGreatDoor

namespace Go.Proofs.YtpbmaapdppdagaaGreatDoor
open Go.RowKit
open Sha

attribute [local go_sem] Oper.semAt_some

theorem HS.new0 {w : World} {b F : Nat} (h : HB w b s256.list (.slice none 0 0) 0) : HS w b [] F := ⟨none, 0, h, ⟨⟨by simp [bys, rem], .inl ⟨rfl, rfl⟩⟩, by simp [rem]⟩, fun _ => ⟨rfl, rfl⟩, by simp⟩
theorem HS1.new {w : World} {b F : Nat} (h : HY w b (.slice none 0 0) 0) : HS1 w b [] F := ⟨none, 0, h, ⟨⟨by simp [bys, rem], .inl ⟨rfl, rfl⟩⟩, by simp [rem]⟩, fun _ => ⟨rfl, rfl⟩, by simp⟩
set_option maxRecDepth 100000 in
set_option maxHeartbeats 4000000 in
theorem of3_any {P : Nat → Prop} {A : Option Addr} {c g : Nat} {d : List Nat} (w : World) (hk : KW w) (hg : w.heap[g]? = some (.cells #[.slice A d.length c] 23 (0, 0))) (hp : RB w P A c d) (hP : ∀ b, P b → b < w.heap.size) (hl : d.length ≤ 100000) (hd : ∀ x ∈ d, x < 256) :
 Calls Tryz.prog 52 #[.int .i64 3, .slice (some ⟨g, 0, none⟩) 1 1] w fun e w' => ∃ A c, e = .returned (.slice A 32 c) ∧ OW w' w.heap.size A c (sha d) ∧ Ext w w' := by
 have HG := Lib.hid hg
 have HK := Lib.hid hk
 have HP := Lib.hid hp
 have HPP := Lib.hid hP
 have Hl := Lib.hid hl
 have Hd := Lib.hid hd
 clear hk hg hp hP hl hd
 go_enter Tryz.func52, Tryz.ntmps52
 go_wp2_with fail
 refine (new3 w).mono ?_
 rintro e w1 ⟨b, rfl, hb, hbl, hE⟩
 have hb0 := hb.lt
 have HE := Lib.hid hE
 have HB := Lib.hid (HS.new0 (F := w1.heap.size) hb)
 have Hbl := Lib.hid hbl
 have Hb0 := Lib.hid hb0
 clear hb hbl hE hb0
 go_wp2_with fail
 go_loopw [12] (fun iv wr => ∃ z : Int, iv = .int .i64 z ∧ (z = 0 ∧ wr = w1 ∨ z = 1 ∧ Hid (HS wr b d w1.heap.size) ∧ Hid (Ext w wr))) (fun iv _ => (1 - intOf iv).toNat)
 case atStart => exact ⟨0, rfl, .inl ⟨rfl, rfl⟩⟩
 case round =>
  obtain ⟨z, rfl, ⟨rfl, rfl⟩ | ⟨rfl, HS2, HE2⟩⟩ := hrel
  · have c0 := blk_cell (HE.out.at_ HG.out) 0
    simp only [List.getElem?_toArray, List.getElem?_cons_zero] at c0
    have hw := Lib.hid (write_any (b := b) (F := wr.heap.size) (m := []) (p := d) wr HB.out (HK.out.ext HE.out) (HP.out.below HE.out HPP.out) (fun k hk => Nat.lt_of_lt_of_le (HPP.out k hk) HE.out.bsize) Hb0.out (HK.out.ext HE.out).lt (Nat.le_refl _) (by have := Hl.out; simp; omega))
    go_wp2_with fail
    refine hw.out.mono ?_
    rintro e w2 ⟨rfl, hs2, hf2⟩
    have HS2 := Lib.hid (show HS w2 b d wr.heap.size from hs2)
    have HE2 := Lib.hid (hf2.ext' HE.out Hbl.out HE.out.bsize)
    clear c0 hs2 hf2 hw
    go_wp2_with fail
    go_roundw
    case rel => exact ⟨1, rfl, .inr ⟨rfl, HS2, HE2⟩⟩
    case measure => simp [intOf]
  · have hsm := Lib.hid (sum_any wr HS2.out (HK.out.ext HE2.out) (by have := Hl.out; omega) Hd.out)
    go_wp2_with fail
    refine hsm.out.mono ?_
    rintro e w2 ⟨A2, c2, rfl, ho, hE3⟩
    have HE3 := Lib.hid (HE2.out.trans hE3)
    have HO := Lib.hid (ho.mono (base' := w.heap.size) HE2.out.bsize)
    clear ho
    clear hE3 hsm
    go_wp2_with fail
    go_ret
    exact ⟨A2, c2, rfl, HO.out, HE3.out⟩
set_option maxRecDepth 100000 in
set_option maxHeartbeats 4000000 in
theorem of1_any {P : Nat → Prop} {A : Option Addr} {c g : Nat} {d : List Nat} (w : World) (hk : KW w) (hg : w.heap[g]? = some (.cells #[.slice A d.length c] 23 (0, 0))) (hp : RB w P A c d) (hP : ∀ b, P b → b < w.heap.size) (hl : d.length ≤ 100000) (hd : ∀ x ∈ d, x < 256) :
 Calls Tryz.prog 52 #[.int .i64 1, .slice (some ⟨g, 0, none⟩) 1 1] w fun e w' => ∃ A c l, e = .returned (.slice A 20 c) ∧ RB w' (fun b => b < w'.heap.size) A c l ∧ l.length = 20 ∧ Ext w w' := by
 have HG := Lib.hid hg
 have HK := Lib.hid hk
 have HP := Lib.hid hp
 have HPP := Lib.hid hP
 have Hl := Lib.hid hl
 have Hd := Lib.hid hd
 clear hk hg hp hP hl hd
 go_enter Tryz.func52, Tryz.ntmps52
 go_wp2_with fail
 refine (new1 w).mono ?_
 rintro e w1 ⟨b, rfl, hb, hbl, hE⟩
 have hb0 := hb.lt
 have HE := Lib.hid hE
 have HB := Lib.hid (HS1.new (F := w1.heap.size) hb)
 have Hbl := Lib.hid hbl
 have Hb0 := Lib.hid hb0
 clear hb hbl hE hb0
 go_wp2_with fail
 go_loopw [12] (fun iv wr => ∃ z : Int, iv = .int .i64 z ∧ (z = 0 ∧ wr = w1 ∨ z = 1 ∧ Hid (HS1 wr b d w1.heap.size) ∧ Hid (Ext w wr))) (fun iv _ => (1 - intOf iv).toNat)
 case atStart => exact ⟨0, rfl, .inl ⟨rfl, rfl⟩⟩
 case round =>
  obtain ⟨z, rfl, ⟨rfl, rfl⟩ | ⟨rfl, HS2, HE2⟩⟩ := hrel
  · have c0 := blk_cell (HE.out.at_ HG.out) 0
    simp only [List.getElem?_toArray, List.getElem?_cons_zero] at c0
    have hw := Lib.hid (write1 (b := b) (F := wr.heap.size) (m := []) (p := d) wr HB.out (HK.out.ext HE.out) (HP.out.below HE.out HPP.out) (fun k hk => Nat.lt_of_lt_of_le (HPP.out k hk) HE.out.bsize) Hb0.out (HK.out.ext HE.out).lt (Nat.le_refl _) (by have := Hl.out; simp; omega))
    go_wp2_with fail
    refine hw.out.mono ?_
    rintro e w2 ⟨rfl, hs2, hf2⟩
    have HS2 := Lib.hid (show HS1 w2 b d wr.heap.size from hs2)
    have HE2 := Lib.hid (hf2.ext' HE.out Hbl.out HE.out.bsize)
    clear c0 hs2 hf2 hw
    go_wp2_with fail
    go_roundw
    case rel => exact ⟨1, rfl, .inr ⟨rfl, HS2, HE2⟩⟩
    case measure => simp [intOf]
  · have hsm := Lib.hid (sum1_any wr HS2.out (HK.out.ext HE2.out) (by have := Hl.out; omega) Hd.out)
    go_wp2_with fail
    refine hsm.out.mono ?_
    rintro e w2 ⟨A2, c2, l2, rfl, ho, hl2, hE3⟩
    have HE3 := Lib.hid (HE2.out.trans hE3)
    have HO := Lib.hid ho
    have HL2 := Lib.hid hl2
    clear ho hl2
    clear hE3 hsm
    go_wp2_with fail
    go_ret
    exact ⟨A2, c2, _, rfl, HO.out, HL2.out, HE3.out⟩
end Go.Proofs.YtpbmaapdppdagaaGreatDoor

namespace Go.Proofs.YtpbmaapdppdagaaGreatDoor
open Go.RowKit
open Sha

theorem HS.new {w : World} {b F : Nat} (h : HB w b s256.list (.slice none 0 0) 0) : HS w b [] F :=
 ⟨none, 0, h, ⟨⟨by simp [rem, bys], .inl ⟨rfl, rfl⟩⟩, by simp [rem]⟩, fun _ => ⟨rfl, rfl⟩, by simp⟩
theorem HS.nilfr {w X : World} {b b' F G : Nat} {m : List Nat} (h : HS w b m F) (hr : m.length % 64 = 0) (hf : Fr b' G w X) (hb : b < G) (hn : b ≠ b') : HS X b m F := by
 obtain ⟨A, c, h1, h2, h3, h4⟩ := h
 have hr' : rem m = [] := List.eq_nil_of_length_eq_zero (by rw [rem_length]; exact hr)
 obtain ⟨rfl, rfl⟩ := h3 hr'
 exact ⟨none, 0, ⟨hf.at_ hb hn h1.1, h1.2⟩, ⟨⟨by rw [hr']; simp [bys], .inl ⟨by rw [hr']; rfl, by rw [hr']; rfl⟩⟩, by rw [hr']; simp⟩, h3, h4⟩
theorem HS.justk {w X : World} {b g F : Nat} {m : List Nat} {cs : Array Value} {t : TypeId} (h : HS w b m F) (hj : Just g w X) (hn : b ≠ g) (hg : w.heap[g]? = some (.cells cs t (0, 0))) (ht : t ≠ 5) : HS X b m F := by
 obtain ⟨A, c, h1, h2, h3, h4⟩ := h
 refine ⟨A, c, h1.just hj hn, h2.same fun k _ cs' hk => hj.at_ (fun e => ?_) hk, h3, h4⟩
 rw [e, hg] at hk
 injection Option.some.inj hk with _ e2
 exact ht e2
def turned (kz : List Nat) (c k : Nat) : List Nat := (kz.take k).map (· ^^^ c) ++ kz.drop k
theorem turned_len (kz : List Nat) (c k : Nat) : (turned kz c k).length = kz.length := by simp [turned]; omega
theorem turned_get {kz : List Nat} {c k : Nat} (h : k < kz.length) : dg (turned kz c k) k = dg kz k := by
 simp only [dg, List.getD_eq_getElem?_getD, turned]
 rw [List.getElem?_append_right (by simp; omega), List.length_map, List.length_take, List.getElem?_drop, show k + (k - min k kz.length) = k by omega]
theorem turned_step {kz : List Nat} {c k : Nat} (h : k < kz.length) : (turned kz c k).set k (dg kz k ^^^ c) = turned kz c (k + 1) := by
 have e1 : kz.drop k = dg kz k :: kz.drop (k + 1) := by
  rw [List.drop_eq_getElem_cons h]; simp [dg, h]
 have e2 : kz.take (k + 1) = kz.take k ++ [dg kz k] := by
  rw [List.take_add_one]; simp [dg, h]
 have hl : ((kz.take k).map (· ^^^ c)).length = k := by simp; omega
 rw [turned, turned, e1, e2, List.set_append_right _ _ (by omega), hl, Nat.sub_self]
 simp
theorem turned_all {key : List Nat} {n c : Nat} (hl : key.length ≤ n) (hn : n = 64) : turned (key ++ List.replicate (n - key.length) 0) c n = mask key c := by
 subst hn
 have hl' : (key ++ List.replicate (64 - key.length) 0).length = 64 := by simp; omega
 rw [turned, List.drop_eq_nil_of_le (by omega), List.append_nil, List.take_of_length_le (by omega), mask]
 apply List.ext_getElem
 · simp; omega
 · intro i h1 h2
   have hi : i < 64 := by simpa using h2
   simp only [List.getElem_map, List.getElem_range]
   congr 1
   rw [List.getElem_append]
   split
   · rename_i h; simp [h]
   · rename_i h; simp [List.getElem?_eq_none (Nat.le_of_not_lt h)]
theorem mask_len (k : List Nat) (c : Nat) : (mask k c).length = 64 := by simp [mask]
theorem xor_lt {x c : Nat} (h : x < 256) (hc : c < 256) : x ^^^ c < 256 := Nat.xor_lt_two_pow (n := 8) h hc
theorem mask_lt {k : List Nat} {c : Nat} (h : ∀ b ∈ k, b < 256) (hc : c < 256) : ∀ x ∈ mask k c, x < 256 := by
 intro x hx
 obtain ⟨i, _, rfl⟩ := List.mem_map.1 hx
 refine xor_lt ?_ hc
 rcases Nat.lt_or_ge i k.length with h1 | h1
 · have : k.getD i 0 = k[i] := by simp [h1]
   rw [this]; exact h _ (List.getElem_mem h1)
 · rw [List.getD_eq_getElem?_getD, List.getElem?_eq_none h1]; simp
theorem copy8 {w : World} {g n c : Nat} {P : Nat → Prop} {ad : Addr} {key : List Nat} (hb : Blk8 w g (List.replicate n 0)) (hp : RB w P (some ad) c key) (hl : key.length ≤ n) :
 ∃ W', (Builtin.copy_ #[23, 23] 3 #[.slice (some ⟨g, 0, none⟩) n n, .slice (some ad) key.length c]).run Tryz.prog w = .ok (.int .i64 (key.length : Int)) W' ∧ Blk8 W' g (key ++ List.replicate (n - key.length) 0) ∧ Just g w W' := by
 have hbl : (bys key).length = key.length := by simp [bys]
 have hr := run_copy_row (P := Tryz.prog) w 23 23 3 5 g 0 n n ad key.length c (bys (List.replicate n 0)).toArray 5 (bys key) Tryz.underlying23 (by kernel_rfl) hb (by rw [hbl]; exact (Nat.min_eq_left hl).symm) (fun j v hv => hp.1.cell_ hv) (by rw [hbl]; simp [bys]; omega) (by intro v hv; obtain ⟨b, _, rfl⟩ := List.mem_map.1 hv; rfl)
 have hrow : (bys (List.replicate n 0)).toArray.toList.take 0 ++ bys key ++ (bys (List.replicate n 0)).toArray.toList.drop (0 + (bys key).length) = bys (key ++ List.replicate (n - key.length) 0) := by
  rw [hbl]; simp [bys]
 rw [hrow, hbl] at hr
 exact ⟨_, hr, Go.setRow_heap w g _ _ 5 _ hb, ⟨rfl, rfl, rfl, by simp [World.setRow], fun k _ hk => Go.setRow_other w g k _ hk⟩⟩
set_option maxRecDepth 100000 in
set_option maxHeartbeats 8000000 in
theorem newKeyed_any {P : Nat → Prop} {A : Option Addr} {c : Nat} {key : List Nat} (w : World) (hk : KW w) (hp : RB w P A c key) (hP : ∀ k, P k → k < w.heap.size) (hl0 : 0 < key.length) (hl : key.length ≤ 64) :
 Calls Tryz.prog 122 #[.int .i64 3, .slice A key.length c] w fun e w' => ∃ b1 b2, e = .returned (.agg #[.pointer (some ⟨b1, 0, none⟩), .pointer (some ⟨b2, 0, none⟩)]) ∧ b1 ≠ b2 ∧ w.heap.size ≤ b1 ∧ w.heap.size ≤ b2 ∧ HS w' b1 (mask key 54) w'.heap.size ∧ HS w' b2 (mask key 92) w'.heap.size ∧ Ext w w' := by
 obtain ⟨ad, rfl⟩ : ∃ ad, A = some ad := by obtain ⟨ad, e, _⟩ := hp.dg (i := 0) hl0; exact ⟨ad, e⟩
 have l64 : ¬ (64 : Int) < (key.length : Int) := by omega
 have HP := Lib.hid hp
 have HPP := Lib.hid hP
 have HK := Lib.hid hk
 clear hp hP hk
 have hmk := run_make_row' (P := Tryz.prog) 23 5 (.int .u8 0) 1 Tryz.underlying23 info8 rfl .i64 .i64 64 (by omega) (by omega)
 simp only [Int.cast_ofNat_Int] at hmk
 go_enter Tryz.func122, Tryz.ntmps122
 go_upto_region 3 with (go_at_call 149; refine (block3 _).mono ?_; rintro e w1 ⟨rfl, rfl⟩)
 obtain ⟨W0, hW0⟩ : ∃ W0, w.alloc (.cells #[.pointer none, .pointer none] 162) = W0 := ⟨_, rfl⟩
 have hE0 : Ext w W0 := by rw [← hW0]; exact Ext.alloc _ _
 have hr0 : W0.heap[w.heap.size]? = some (.cells #[.pointer none, .pointer none] 162 (0, 0)) := by rw [← hW0]; exact heap_alloc_new _ _
 rw [hW0]
 have HE0 := Lib.hid hE0
 have HR0 := Lib.hid hr0
 clear hW0 hE0 hr0
 go_cut [5, 6] from 18 (fun s5 s6 wx => ∃ g5 g6 : Nat, s5 = .slice (some ⟨g5, 0, none⟩) 64 64 ∧ s6 = .slice (some ⟨g6, 0, none⟩) 64 64 ∧ g5 ≠ g6 ∧ W0.heap.size ≤ g5 ∧ W0.heap.size ≤ g6 ∧ Blk8 wx g5 (List.replicate 64 0) ∧ Blk8 wx g6 (List.replicate 64 0) ∧ Ext W0 wx)
 case first =>
  have m1 := (Ext.alloc (W0.alloc (.cells (madeCells #[.int .u8 0] 64) 5)) (.cells (madeCells #[.int .u8 0] 64) 5)).at_ (Blk8.made W0 64)
  have m2 := Blk8.made (W0.alloc (.cells (madeCells #[.int .u8 0] 64) 5)) 64
  rw [World.size_alloc] at m2
  have mE : Ext W0 ((W0.alloc (.cells (madeCells #[.int .u8 0] 64) 5)).alloc (.cells (madeCells #[.int .u8 0] 64) 5)) := (Ext.alloc _ _).trans (Ext.alloc _ _)
  go_region_with (first | (go_at_call 149; refine (block3 _).mono ?_; rintro e w1 ⟨rfl, rfl⟩))
  all_goals
   go_wp2_with fail
   go_meet
   case rel => first
    | exact ⟨_, _, rfl, rfl, by omega, by omega, by omega, m1, m2, by first | exact mE | exact mE.trans (Ext.drew _) | exact mE.trans (Ext.drewN _ _)⟩
    | exact ⟨_, _, rfl, rfl, by omega, by omega, by omega, m2, m1, by first | exact mE | exact mE.trans (Ext.drew _) | exact mE.trans (Ext.drewN _ _)⟩
 case rest =>
  obtain ⟨g5, g6, rfl, rfl, hne, l5, l6, h5, h6, hE1⟩ := hcut
  have hEw : Ext w wc := HE0.out.trans hE1
  have hpc := HP.out.below hEw HPP.out
  obtain ⟨W5, hr5, hk5, hj5⟩ := copy8 h5 hpc hl
  have hw0 := HE0.out.bsize
  have hE5 : Ext w W5 := hj5.ext hEw (by omega)
  have h6' := hj5.at_ hne.symm h6
  obtain ⟨W6, hr6, hk6, hj6⟩ := copy8 h6' (HP.out.below hE5 HPP.out) hl
  have hE6 : Ext w W6 := hj6.ext hE5 (by omega)
  have hk5' : Blk8 W6 g5 _ := hj6.at_ hne hk5
  obtain ⟨kz, hkz⟩ : ∃ l, key ++ List.replicate (64 - key.length) 0 = l := ⟨_, rfl⟩
  have hzl : kz.length = 64 := by rw [← hkz]; simp; omega
  have hzb : ∀ x ∈ kz, x < 256 := by
   rw [← hkz]
   intro x hx
   rcases List.mem_append.1 hx with h | h
   · exact HP.out.2.1 x h
   · rw [(List.mem_replicate.1 h).2]; omega
  have hm54 := turned_all (c := 54) hl rfl
  have hm92 := turned_all (c := 92) hl rfl
  rw [hkz] at hk5' hk6 hm54 hm92
  have HE6 := Lib.hid hE6
  have HZL := Lib.hid hzl
  have HZB := Lib.hid hzb
  have H54 := Lib.hid hm54
  have H92 := Lib.hid hm92
  have HK5 := Lib.hid (show Blk8 W6 g5 (turned kz 54 0) by simpa [turned] using hk5')
  have HK6 := Lib.hid (show Blk8 W6 g6 (turned kz 92 0) by simpa [turned] using hk6)
  have Hr0 := Lib.hid (show W6.heap[w.heap.size]? = some (.cells #[.pointer none, .pointer none] 162 (0, 0)) from hj6.at_ (by have := blk_lt HR0.out; omega) (hj5.at_ (by have := blk_lt HR0.out; omega) (hE1.at_ HR0.out)))
  clear hkz hzl hzb hm54 hm92 hk5 hk5' hk6 hj5 hj6 hE5 hE6 h5 h6 h6' hpc hE1 hEw HE0 HR0 hmk
  go_wp2_with fail
  clear hr5 hr6
  have l5w : w.heap.size ≤ g5 := by omega
  have l6w : w.heap.size ≤ g6 := by omega
  go_loopw [32] (fun iv wr => ∃ (k : Nat), iv = .int .i64 (k : Int) ∧ k ≤ 64 ∧ Hid (Blk8 wr g5 (turned kz 54 k)) ∧ Hid (Blk8 wr g6 (turned kz 92 k)) ∧ Hid (wr.heap[w.heap.size]? = some (.cells #[.pointer none, .pointer none] 162 (0, 0))) ∧ Hid (Ext w wr)) (fun iv _ => (64 - intOf iv).toNat)
  case atStart => exact ⟨0, rfl, by omega, HK5, HK6, Hr0, HE6⟩
  case round =>
   clear HK5 HK6 Hr0 HE6
   obtain ⟨k, rfl, hk64, H5, H6, H0, HE⟩ := hrel
   by_cases hlt : k < 64
   · have k64 : (k : Int) < 64 := by omega
     have hzl := HZL.out
     have q5 := H5.out.cell (i := k) (by rw [turned_len]; omega)
     have f5 := H5.out.free k
     have q6 := H6.out.cell (i := k) (by rw [turned_len]; omega)
     rw [turned_get (by omega)] at q5 q6
     have s5 := H5.out.set k (dg kz k ^^^ 54)
     have s6 := H6.out.set k (dg kz k ^^^ 92)
     rw [turned_step (by omega)] at s5 s6
     have hx256 : dg kz k < 256 := getD_lt (by omega) HZB.out k
     obtain ⟨x, hx⟩ : ∃ x, dg kz k = x := ⟨_, rfl⟩
     rw [hx] at q5 q6 s5 s6 hx256
     have e54 := u8_xor_nat x 54 hx256 (by omega)
     have e92 := u8_xor_nat x 92 hx256 (by omega)
     obtain ⟨y5, hy5⟩ : ∃ y, x ^^^ 54 = y := ⟨_, rfl⟩
     obtain ⟨y6, hy6⟩ : ∃ y, x ^^^ 92 = y := ⟨_, rfl⟩
     rw [hy5] at e54 s5
     rw [hy6] at e92 s6
     simp only [Int.cast_ofNat_Int] at e54 e92
     have j5 := (Just.refl g5 wr).set k (.int .u8 (y5 : Int))
     have q6' := (j5.cell (p := ⟨g6, k, none⟩) (blk_lt H6.out) hne.symm).trans q6
     have H6a : Blk8 (wr.setCell ⟨g5, k, none⟩ (.int .u8 (y5 : Int))) g6 (turned kz 92 k) := j5.at_ hne.symm H6.out
     have f6 := H6a.free k
     have s6a := H6a.set k (x ^^^ 92)
     rw [← hx, turned_step (by omega), hx, hy6] at s6a
     have j6 := (Just.refl g6 (wr.setCell ⟨g5, k, none⟩ (.int .u8 (y5 : Int)))).set k (.int .u8 (y6 : Int))
     have H5b := Lib.hid (show Blk8 _ g5 (turned kz 54 (k + 1)) from j6.at_ hne s5)
     have H6b := Lib.hid s6a
     have H0b := Lib.hid (j6.at_ (o := .cells #[.pointer none, .pointer none] 162 (0, 0)) (c := w.heap.size) (fun e => by have h1 := H6.out; have h0 := H0.out; rw [e] at h0; unfold Blk8 at h1; rw [h0] at h1; injection Option.some.inj h1 with _ e2; exact absurd e2 (by decide)) (j5.at_ (fun e => by have h1 := H5.out; have h0 := H0.out; rw [e] at h0; unfold Blk8 at h1; rw [h0] at h1; injection Option.some.inj h1 with _ e2; exact absurd e2 (by decide)) H0.out))
     have HEb := Lib.hid (j6.ext (j5.ext HE.out l5w) l6w)
     clear hx hy5 hy6 s5 s6 s6a j5 j6 H6a H5 H6 H0 HE hzl q6
     go_wp2_with fail
     go_roundw
     case rel => exact ⟨k + 1, by go_num, by omega, H5b, H6b, H0b, HEb⟩
     case measure => simp [intOf]; omega
   · obtain rfl : k = 64 := by omega
     rw [show ((64 : Nat) : Int) = 64 from rfl]
     have h5 := H5.out
     have h6 := H6.out
     rw [H54.out] at h5
     rw [H92.out] at h6
     have H5m := Lib.hid h5
     have H6m := Lib.hid h6
     clear h5 h6 H5 H6 hlt hk64
     have hnew := Lib.hid new3
     go_wp2_with fail
     refine (hnew.out _).mono ?_
     rintro e w1 ⟨b1, rfl, hb1, lb1, hE1⟩
     go_wp2_with fail
     refine (hnew.out _).mono ?_
     rintro e w2 ⟨b2, rfl, hb2, lb2, hE2⟩
     have Hb1 := Lib.hid (hb1.ext hE2)
     have Hb2 := Lib.hid hb2
     have hb12 : b1 < b2 := Nat.lt_of_lt_of_le hb1.lt lb2
     have HEE := Lib.hid (hE1.trans hE2)
     clear hb1 hb2 hE1 hE2
     go_upto_region 13 with fail
     have hx8 := heap_alloc_new w2 (.cells #[.pointer (some ⟨b1, 0, none⟩), .pointer (some ⟨b2, 0, none⟩)] 162)
     have hA8 := Ext.alloc w2 (.cells #[.pointer (some ⟨b1, 0, none⟩), .pointer (some ⟨b2, 0, none⟩)] 162)
     obtain ⟨W3, hW3⟩ : ∃ W3, w2.alloc (.cells #[.pointer (some ⟨b1, 0, none⟩), .pointer (some ⟨b2, 0, none⟩)] 162) = W3 := ⟨_, rfl⟩
     have hz3 : W3.heap.size = w2.heap.size + 1 := by rw [← hW3, World.size_alloc]
     have zb2 := Hb2.out.lt
     rw [hW3] at hx8 hA8 ⊢
     obtain ⟨b8, hb8⟩ : ∃ b, w2.heap.size = b := ⟨_, rfl⟩
     rw [hb8] at hx8 zb2 hz3 ⊢
     have hE3 := (HE.out.trans HEE.out).trans hA8
     have HE3 := Lib.hid hE3
     have hR3 := (HEE.out.trans hA8).at_ H0.out
     have h53 := (HEE.out.trans hA8).at_ H5m.out
     have h63 := (HEE.out.trans hA8).at_ H6m.out
     have hB1 := Hb1.out.ext hA8
     have hB2 := Hb2.out.ext hA8
     have zw := hE3.bsize
     have zr := blk_lt H0.out
     have zk := HK.out.lt
     have lb1' : w.heap.size ≤ b1 := Nat.le_trans HE.out.bsize lb1
     have kb54 := mask_lt (c := 54) HP.out.2.1 (by omega)
     have kb92 := mask_lt (c := 92) HP.out.2.1 (by omega)
     have n5b1 : g5 ≠ b1 := fun e => by have h1 := hB1.1; rw [← e, h53] at h1; injection Option.some.inj h1 with _ e2; exact absurd e2 (by decide)
     have n6b1 : g6 ≠ b1 := fun e => by have h1 := hB1.1; rw [← e, h63] at h1; injection Option.some.inj h1 with _ e2; exact absurd e2 (by decide)
     have wr1 := write_any (p := mask key 54) (F := W3.heap.size) W3 (HS.new hB1) (HK.out.ext hE3) (Blk8.rb (P := fun k => k = g5) h53 rfl kb54 (by rw [mask_len]; omega)) (fun k hk => by rw [hk]; exact blk_lt h53) hB1.lt (by omega) (Nat.le_refl _) (by simp [mask])
     rw [mask_len, List.nil_append] at wr1
     have Wr1 := Lib.hid wr1
     have c8 := blk_cell hx8 0
     simp only [List.getElem?_toArray, List.getElem?_cons_zero] at c8
     have KB92 := Lib.hid kb92
     have HB2 := Lib.hid hB2
     have HB1 := Lib.hid hB1
     clear wr1 hW3 hb8 hA8 hE3 kb54 kb92 hB1 hB2 hnew
     go_wp2_with fail
     refine Wr1.out.mono ?_
     rintro e W4 ⟨rfl, hs1, hf1⟩
     have z4 := hf1.size
     have zb1 := HB1.out.lt
     have hB2' : HB W4 b2 s256.list (.slice none 0 0) 0 := ⟨hf1.at_ HB2.out.lt (by omega) HB2.out.1, HB2.out.2⟩
     have h64 := hf1.at_ (blk_lt h63) n6b1 h63
     have hx8' := hf1.at_ (by omega) (by omega) hx8
     have hR4 := hf1.at_ (by omega) (by omega) hR3
     have hE4 : Ext w W4 := hf1.ext' HE3.out lb1' (by omega)
     have wr2 := write_any (p := mask key 92) (F := W4.heap.size) W4 (HS.new hB2') (HK.out.ext hE4) (Blk8.rb (P := fun k => k = g6) h64 rfl KB92.out (by rw [mask_len]; omega)) (fun k hk => by rw [hk]; exact blk_lt h64) hB2'.lt (by omega) (Nat.le_refl _) (by simp [mask])
     rw [mask_len, List.nil_append] at wr2
     have Wr2 := Lib.hid wr2
     have HS1 := Lib.hid hs1
     have HE4 := Lib.hid hE4
     have HB2' := Lib.hid hB2'
     have c8 := blk_cell hx8' 1
     simp only [List.getElem?_toArray, List.getElem?_cons_zero, List.getElem?_cons_succ] at c8
     have n6b2 : w.heap.size ≠ b2 := by have := HE.out.bsize; omega
     clear wr2 hs1 hf1 hB2' hE4 h53 h63 h64 hx8 hR3
     go_wp2_with fail
     refine Wr2.out.mono ?_
     rintro e W5 ⟨rfl, hs2, hf2⟩
     have z5 := hf2.size
     have hx9 := hf2.at_ (by omega) (by omega) hx8'
     have hR5 := hf2.at_ (by omega) n6b2 hR4
     have hs1' := HS1.out.fr hf2 HB2'.out (by omega)
     have HE5 := Lib.hid (hf2.ext' HE4.out (by have := HE.out.bsize; omega) (by omega))
     have HS1' := Lib.hid hs1'
     have HS2 := Lib.hid hs2
     clear hs1' hs2 hf2 hx8' hR4 c8
     go_upto_region 15 with fail
     refine Par.region_txt 1 [0, 1] [] (fun j f X => match j with
      | 0 => f 0 = .agg #[.pointer (some ⟨b1, 0, none⟩), .pointer (some ⟨b2, 0, none⟩)]
      | _ => True) (by kernel_rfl) [(61, 0)] (by kernel_rfl) ?_
     refine lV0 1 0 hx9 (by kernel_rfl) ?_
     refine Par.AllOps.fin ⟨fun f X hX hR hal hap => ?_⟩
     have e0 : f 0 = .agg #[.pointer (some ⟨b1, 0, none⟩), .pointer (some ⟨b2, 0, none⟩)] := hR 0 (by decide)
     simp only [Par.putL, Act.put, List.setIfInBounds_toArray, List.set_cons_succ, List.set_cons_zero, e0]
     clear hR hal hap e0
     refine Par.Chain.next (fun K hK => ⟨Par.want (by kernel_rfl) (wp_storeV (cs' := #[.pointer (some ⟨b1, 0, none⟩), .pointer (some ⟨b2, 0, none⟩)]) (t := 162) 162 (.tmp 4) (.tmp 61) rfl rfl rfl rfl (hX.at_ hR5) (by kernel_rfl) rfl (by simp [Value.oneCell']) (fun Y hY1 hY2 hY3 => hK.out _ _ ?_))⟩)
     refine Par.Chain.done ?_
     have hfin1 : HS Y b1 (mask key 54) Y.heap.size := ((HS1'.out.ext hX).justk hY2 (by omega) (hX.at_ hR5) (by decide)).nil_up (by rw [mask_len])
     have hfin2 : HS Y b2 (mask key 92) Y.heap.size := ((HS2.out.ext hX).justk hY2 n6b2.symm (hX.at_ hR5) (by decide)).nil_up (by rw [mask_len])
     have hEY : Ext w Y := hY2.ext (HE5.out.trans hX) (Nat.le_refl _)
     go_wp2
     exact end_v rfl rfl rfl hY1 Tryz.underlying162 rfl (by kernel_rfl) ⟨b1, b2, rfl, by omega, lb1', by have := HE.out.bsize; omega, hfin1, hfin2, hEY⟩
end Go.Proofs.YtpbmaapdppdagaaGreatDoor

namespace Go.Proofs.YtpbmaapdppdagaaGreatDoor
open Go.RowKit
open Sha

def RP (w : World) (P : Nat → Prop) (A : Option Addr) (c : Nat) (ps : List (List Nat)) : Prop :=
 ∃ cs : List Value, RS w P 1 A ps.length c cs ∧ ∀ i, i < ps.length → ∃ Ai ci, cs[i]? = some (.slice Ai (ps.getD i []).length ci) ∧ RB w P Ai ci (ps.getD i [])
theorem RP.ext {w X : World} {P : Nat → Prop} {A : Option Addr} {c : Nat} {ps : List (List Nat)} (h : RP w P A c ps) (hE : Ext w X) (hP : ∀ k, P k → k < w.heap.size) : RP X P A c ps := by
 obtain ⟨cs, h1, h2⟩ := h
 exact ⟨cs, h1.below hE hP, fun i hi => let ⟨Ai, ci, e, h3⟩ := h2 i hi; ⟨Ai, ci, e, h3.below hE hP⟩⟩
theorem RP.at_ {w : World} {P : Nat → Prop} {A : Option Addr} {c : Nat} {ps : List (List Nat)} (h : RP w P A c ps) {i : Nat} (hi : i < ps.length) : ∃ ad Ai ci, A = some ad ∧ w.cell? (ad.add i) = some (.slice Ai (ps.getD i []).length ci) ∧ RB w P Ai ci (ps.getD i []) := by
 obtain ⟨cs, h1, h2⟩ := h
 obtain ⟨Ai, ci, e, h3⟩ := h2 i hi
 obtain ⟨ad, ea, _, _⟩ := h1.2.2.2 (by omega)
 subst ea
 exact ⟨ad, Ai, ci, rfl, h1.cell_ e, h3⟩
def joinK (ps : List (List Nat)) (k : Nat) : List Nat := (ps.take k).flatten
theorem joinK_succ {ps : List (List Nat)} {k : Nat} (h : k < ps.length) : joinK ps (k + 1) = joinK ps k ++ ps.getD k [] := by
 have e : ps[k]? = some (ps.getD k []) := by simp [h]
 rw [joinK, List.take_add_one, e, List.flatten_append]
 simp [joinK]
theorem joinK_all (ps : List (List Nat)) : joinK ps ps.length = ps.flatten := by simp [joinK]
theorem joinK_le (ps : List (List Nat)) {k : Nat} (_h : k < ps.length) : (joinK ps (k + 1)).length ≤ ps.flatten.length := by
 have e : ps.flatten = joinK ps (k + 1) ++ (ps.drop (k + 1)).flatten := by rw [joinK, ← List.flatten_append, List.take_append_drop]
 rw [e, List.length_append]; omega
set_option maxRecDepth 100000 in
set_option maxHeartbeats 8000000 in
theorem of_parts {b1 b2 F1 F2 : Nat} {m1 m2 : List Nat} {P : Nat → Prop} {A : Option Addr} {c : Nat} {ps : List (List Nat)} (w : World) (h1 : HS w b1 m1 F1) (h2 : HS w b2 m2 F2) (l1 : m1.length = 64) (l2 : m2.length = 64) (lm1 : ∀ x ∈ m1, x < 256) (lm2 : ∀ x ∈ m2, x < 256) (hk : KW w)
 (hp : RP w P A c ps) (hP : ∀ k, P k → k < w.heap.size) (hl : ps.flatten.length ≤ 300000) (hpb : ∀ x ∈ ps.flatten, x < 256) :
 Calls Tryz.prog 123 #[.agg #[.pointer (some ⟨b1, 0, none⟩), .pointer (some ⟨b2, 0, none⟩)], .slice A ps.length c] w fun e w' => ∃ A' c', e = .returned (.slice A' 32 c') ∧ OW w' w.heap.size A' c' (sha (m2 ++ sha (m1 ++ ps.flatten))) ∧ Ext w w' := by
 have hEb := Ext.alloc w (.cells #[.pointer (some ⟨b1, 0, none⟩), .pointer (some ⟨b2, 0, none⟩)] 162)
 have hxb := heap_alloc_new w (.cells #[.pointer (some ⟨b1, 0, none⟩), .pointer (some ⟨b2, 0, none⟩)] 162)
 obtain ⟨W0, hW0⟩ : ∃ W0, w.alloc (.cells #[.pointer (some ⟨b1, 0, none⟩), .pointer (some ⟨b2, 0, none⟩)] 162) = W0 := ⟨_, rfl⟩
 rw [hW0] at hEb hxb
 have H1 := Lib.hid (fun X (hX : Ext W0 X) => hcopy_any X (h1.ext (hEb.trans hX)))
 have H2 := Lib.hid (fun X (hX : Ext W0 X) => hcopy_any X (h2.ext (hEb.trans hX)))
 have HP := Lib.hid (hp.ext hEb hP)
 have HPP := Lib.hid (show ∀ k, P k → k < W0.heap.size from fun k hk' => Nat.lt_of_lt_of_le (hP k hk') hEb.bsize)
 have HK := Lib.hid (hk.ext hEb)
 have HE := Lib.hid hEb
 have HW0 := Lib.hid hW0
 have Hl := Lib.hid hl
 have Hpb := Lib.hid hpb
 have L1 := Lib.hid l1
 have L2 := Lib.hid l2
 have LM1 := Lib.hid lm1
 have LM2 := Lib.hid lm2
 have zps : ps.length ≤ maxLen := by obtain ⟨_, h, _⟩ := hp; exact Nat.le_trans h.1 h.2.1
 have l1' := l1
 have l2' := l2
 have zk := hk.lt
 have zw := hEb.bsize
 obtain ⟨q0, hq0⟩ : ∃ q, w.heap.size = q := ⟨_, rfl⟩
 have Hq := Lib.hid hq0
 rw [hq0] at hxb zk zw
 have c0 := blk_cell hxb 0
 have c1 := blk_cell hxb 1
 simp only [List.getElem?_toArray, List.getElem?_cons_zero, List.getElem?_cons_succ] at c0 c1
 clear h1 h2 hp hP hk hEb hW0 hl hpb l1 l2 lm1 lm2 hxb
 go_enter Tryz.func123, Tryz.ntmps123
 go_upto_region 1 with fail
 rw [HW0.out]
 clear HW0 hq0
 refine Par.region_ext (by kernel_rfl) 8 [0, 1, 3, 0, 8, 31, 63, 127] [] (fun j f X => match j with
  | 0 => f 0 = .pointer (some ⟨q0, 0, none⟩)
  | 1 => f 1 = .pointer (some ⟨b1, 0, none⟩)
  | 2 => ∃ b', f 2 = .pointer (some ⟨b', 0, none⟩) ∧ W0.heap.size ≤ b' ∧ b' < X.heap.size ∧ HS X b' m1 (b' + 1)
  | 3 => f 3 = .pointer (some ⟨q0, 1, none⟩)
  | 4 => f 4 = .pointer (some ⟨b2, 0, none⟩)
  | 5 => ∃ b' b'', f 5 = .pointer (some ⟨b', 0, none⟩) ∧ f 2 = .pointer (some ⟨b'', 0, none⟩) ∧ b'' < b' ∧ b' < X.heap.size ∧ W0.heap.size ≤ b' ∧ HS X b' m2 (b' + 1)
  | 6 => ∃ b', f 6 = .pointer (some ⟨b', 0, none⟩) ∧ f 2 = .pointer (some ⟨b', 0, none⟩) ∧ W0.heap.size ≤ b' ∧ b' < X.heap.size ∧ HS X b' m1 (b' + 1)
  | 7 => ∃ b' b'', f 7 = .pointer (some ⟨b', 0, none⟩) ∧ f 2 = .pointer (some ⟨b'', 0, none⟩) ∧ b'' < b' ∧ b' < X.heap.size ∧ W0.heap.size ≤ b' ∧ HS X b' m2 (b' + 1)
  | _ => True) (by kernel_rfl) [(9, 0), (10, 1), (11, 2), (12, 3), (13, 4), (14, 5), (5, 6), (6, 7)] (by kernel_rfl) ?_
 refine Par.v0 1 7 ?_
 refine Par.ld1 2 6 0 c0 ?_
 refine Par.c0 3 5 (fun f => #[f 1]) (F' := 151) (fun f X hX hR => ?_) ?_
 · have e1 : f 1 = _ := hR.out 1 rfl
   simp only [e1]
   refine (H1.out X hX).mono ?_
   rintro e w2 ⟨b', rfl, hl, hs, hB⟩
   exact ⟨_, rfl, hB, fun Y hY => ⟨b', rfl, Nat.le_trans hX.bsize hl, Nat.lt_of_lt_of_le hs.lt hY.bsize, hs.ext hY⟩⟩
 refine Par.v0 4 4 ?_
 refine Par.ld1 5 3 3 c1 ?_
 refine Par.c0 6 2 (fun f => #[f 4]) (F' := 151) (fun f X hX hR => ?_) ?_
 · have e4 : f 4 = _ := hR.out 4 rfl
   obtain ⟨b5, e2, l5, z5, h5⟩ := hR.out 2 rfl
   simp only [e4]
   refine (H2.out X hX).mono ?_
   rintro e w2 ⟨b', rfl, hl, hs, hB⟩
   exact ⟨_, rfl, hB, fun Y hY => ⟨b', b5, rfl, e2, Nat.lt_of_lt_of_le z5 hl, Nat.lt_of_lt_of_le hs.lt hY.bsize, Nat.le_trans hX.bsize hl, hs.ext hY⟩⟩
 refine Par.S 7 1 [(9, 0), (10, 1), (11, 2), (12, 3), (13, 4), (14, 5)] (fun f X hX hR K hK => ?_) ?_
 · obtain ⟨b5, (e2 : f 2 = _), l5, z5, h5⟩ := hR.out 2 rfl
   simp only [yA, yB, yC, yD, yE, e2]
   refine ⟨?_⟩
   go_simp
   exact hK.out _ _ _ (by simp only [yA, yB, yC, yD, yE, e2]) (Ext.refl _) trivial (fun Y hY => ⟨b5, rfl, e2, l5, Nat.lt_of_lt_of_le z5 hY.bsize, h5.ext hY⟩)
 refine Par.S 8 0 [(9, 0), (10, 1), (11, 2), (12, 3), (13, 4), (14, 5), (5, 6)] (fun f X hX hR K hK => ?_) ?_
 · obtain ⟨b6, b5', e5, e5', l56, z6, l6, h6⟩ : ∃ b' b'', f 5 = .pointer (some ⟨b', 0, none⟩) ∧ f 2 = .pointer (some ⟨b'', 0, none⟩) ∧ b'' < b' ∧ b' < X.heap.size ∧ W0.heap.size ≤ b' ∧ HS X b' m2 (b' + 1) := hR.out 5 rfl
   simp only [yA, yB, yC, yD, yE, e5]
   refine ⟨?_⟩
   go_simp
   exact hK.out _ _ _ (by simp only [yA, yB, yC, yD, yE, e5, e5']) (Ext.refl _) trivial (fun Y hY => ⟨b6, b5', rfl, e5', l56, Nat.lt_of_lt_of_le z6 hY.bsize, l6, h6.ext hY⟩)
 refine Par.AllOps.fin ⟨fun f X hX hR hal hap => ?_⟩
 obtain ⟨b5, (e2 : f 2 = _), l5, z5, h5⟩ := hR 2 (by decide)
 obtain ⟨b6, b5', e5, e5', l56, z6, l6, h6⟩ : ∃ b' b'', f 5 = .pointer (some ⟨b', 0, none⟩) ∧ f 2 = .pointer (some ⟨b'', 0, none⟩) ∧ b'' < b' ∧ b' < X.heap.size ∧ W0.heap.size ≤ b' ∧ HS X b' m2 (b' + 1) := hR 5 (by decide)
 obtain ⟨b7, e6, e6', l7, z7, h7⟩ : ∃ b', f 6 = .pointer (some ⟨b', 0, none⟩) ∧ f 2 = .pointer (some ⟨b', 0, none⟩) ∧ W0.heap.size ≤ b' ∧ b' < X.heap.size ∧ HS X b' m1 (b' + 1) := hR 6 (by decide)
 obtain ⟨b8, b8', e7, e7', l8, z8, l8', h8⟩ : ∃ b' b'', f 7 = .pointer (some ⟨b', 0, none⟩) ∧ f 2 = .pointer (some ⟨b'', 0, none⟩) ∧ b'' < b' ∧ b' < X.heap.size ∧ W0.heap.size ≤ b' ∧ HS X b' m2 (b' + 1) := hR 7 (by decide)
 simp only [yA, yB, yD, yE, e2, e5, e6, e7]
 clear hR hal hap e2 e5 e6 e7
 refine Par.Chain.done ?_
 simp only [Value.pointer.injEq, Option.some.injEq, Addr.mk.injEq, e5'] at e7' e6' e5'
 obtain rfl := e6'.1
 obtain rfl := e7'.1
 have zg : 1 < X.heap.size := by have := hX.bsize; omega
 have r1 : m1.length % 64 = 0 := by rw [l1']
 have r2 : m2.length % 64 = 0 := by rw [l2']
 have j0 : joinK ps 0 = [] := by simp [joinK]
 have H7 := Lib.hid (show ∃ Fk, HS X b5' (m1 ++ joinK ps 0) Fk ∧ b5' < Fk ∧ b8 < Fk ∧ 1 < Fk ∧ Fk ≤ X.heap.size from ⟨X.heap.size, by rw [j0, List.append_nil]; exact h7.nil_up r1, z7, z8, zg, Nat.le_refl _⟩)
 have H8 := Lib.hid h8
 have HX := Lib.hid hX
 have R1 := Lib.hid r1
 have R2 := Lib.hid r2
 have n58 : b5' ≠ b8 := by omega
 clear h5 h6 h7 h8 e5' e6' e7' H1 H2 c0 c1 r1 r2 j0 hX l5 z5 l56 z6 l6
 go_wp2_with fail
 go_loopw [17] (fun iv wr => ∃ (k : Nat), iv = .int .i64 (k : Int) ∧ k ≤ ps.length ∧ Hid (∃ Fk, HS wr b5' (m1 ++ joinK ps k) Fk ∧ b5' < Fk ∧ b8 < Fk ∧ 1 < Fk ∧ Fk ≤ wr.heap.size) ∧ Hid (HS wr b8 m2 (b8 + 1)) ∧ Hid (Ext W0 wr)) (fun iv _ => ps.length - (intOf iv).toNat)
 case atStart => exact ⟨0, rfl, by omega, H7, H8, HX⟩
 case round =>
  clear H7 H8 HX
  obtain ⟨k, rfl, hkl, H7, H8, HX⟩ := hrel
  have zps' : ps.length ≤ 9223372036854775807 := zps
  by_cases hlt : k < ps.length
  · have kl : (k : Int) < (ps.length : Int) := by omega
    obtain ⟨Fk, h7, f1, f2, f3, f4⟩ := H7.out
    obtain ⟨ad, Ai, ci, rfl, ca, hrb⟩ := (HP.out.ext HX.out HPP.out).at_ hlt
    have hjs := joinK_succ hlt
    have hjl := joinK_le ps hlt
    have hll : (m1 ++ joinK ps k ++ ps.getD k []).length ≤ 500000 := by rw [List.append_assoc, ← hjs, List.length_append]; have := Hl.out; have := L1.out; omega
    have hwr := Lib.hid (write_any wr h7 (HK.out.ext HX.out) hrb (fun x hx => Nat.lt_of_lt_of_le (HPP.out x hx) HX.out.bsize) f1 f3 f4 hll)
    rw [List.append_assoc, ← hjs] at hwr
    have f5 := H7.out
    obtain ⟨p, hp⟩ : ∃ p, ps.getD k [] = p := ⟨_, rfl⟩
    rw [hp] at hwr ca
    clear hjs hjl hll hrb h7 H7 hp
    go_wp2_with fail
    refine hwr.out.mono ?_
    rintro e wn ⟨rfl, hs, hf⟩
    have H7n := Lib.hid (show ∃ F, HS wn b5' (m1 ++ joinK ps (k + 1)) F ∧ b5' < F ∧ b8 < F ∧ 1 < F ∧ F ≤ wn.heap.size from ⟨_, hs, by omega, by omega, by omega, hf.size⟩)
    have H8n := Lib.hid (H8.out.nilfr R2.out hf f2 n58.symm)
    have HXn := Lib.hid (hf.ext' HX.out l7 (by omega))
    clear hs hf f5 H8 HX hwr
    go_wp2_with fail
    go_roundw
    case rel => exact ⟨k + 1, by go_num, by omega, H7n, H8n, HXn⟩
    case measure => simp [intOf]; omega
  · obtain rfl : k = ps.length := by omega
    obtain ⟨Fk, h7, f1, f2, f3, f4⟩ := H7.out
    rw [joinK_all] at h7
    have hl1 := L1.out
    have hl2 := L2.out
    have hll := Hl.out
    obtain ⟨ff, hff⟩ : ∃ f, ps.flatten = f := ⟨_, rfl⟩
    have hfb := Hpb.out
    rw [hff] at h7 hll hfb
    have HFF := Lib.hid hff
    clear hff
    have hsm := Lib.hid (sum_any wr h7 (HK.out.ext HX.out) (by rw [List.length_append]; omega) (fun x hx => (List.mem_append.1 hx).elim (LM1.out x) (hfb x)))
    clear h7 H7 hll hfb Hl Hpb
    go_wp2_with fail
    refine hsm.out.mono ?_
    rintro e wa ⟨As, cs, rfl, hos, hEs⟩
    have hEa := HX.out.trans hEs
    have hls := sha_length (m1 ++ ff)
    have hlb := sha_lt (m1 ++ ff)
    obtain ⟨t, ht⟩ : ∃ t, sha (m1 ++ ff) = t := ⟨_, rfl⟩
    rw [ht] at hos hls hlb
    have H8a := (H8.out.nil_up (G := wa.heap.size) R2.out).ext hEs
    have hwr := Lib.hid (write_any wa H8a (HK.out.ext hEa) (hos.rb (by omega)) (fun x hx => hx.2) H8a.lt (by have := hEs.bsize; omega) (Nat.le_refl _) (by rw [List.length_append]; omega))
    rw [hls] at hwr
    have HT := Lib.hid ht
    have HLB := Lib.hid hlb
    have HLS := Lib.hid hls
    have HEa := Lib.hid hEa
    clear H8a hos hEs hEa hls hlb ht HX H8 hsm
    go_wp2_with fail
    refine hwr.out.mono ?_
    rintro e wb ⟨rfl, hsb, hfb⟩
    have hEb := hfb.ext' HEa.out l8' HEa.out.bsize
    have hsm := Lib.hid (sum_any wb hsb (HK.out.ext hEb) (by rw [List.length_append, HLS.out]; omega) (fun x hx => (List.mem_append.1 hx).elim (LM2.out x) (HLB.out x)))
    have HEb := Lib.hid hEb
    clear hsb hfb hEb hwr HEa
    go_wp2_with fail
    refine hsm.out.mono ?_
    rintro e wc ⟨Ar, cr, rfl, hor, hEr⟩
    have HOr := Lib.hid hor
    have HEr := Lib.hid (HEb.out.trans hEr)
    have HEe := Lib.hid HEb.out.bsize
    clear hor hEr hsm
    go_wp2_with fail
    go_ret
    refine ⟨Ar, cr, rfl, ?_, HE.out.trans HEr.out⟩
    rw [HFF.out, HT.out]
    exact HOr.out.mono (by have := HE.out.bsize; have := HEe.out; omega)
end Go.Proofs.YtpbmaapdppdagaaGreatDoor

namespace Go.Proofs.YtpbmaapdppdagaaGreatDoor
open Go.RowKit
open Sha

set_option maxRecDepth 100000 in
set_option maxHeartbeats 8000000 in
theorem hmac_any {P Q : Nat → Prop} {A B : Option Addr} {c d : Nat} {key : List Nat} {ps : List (List Nat)} (w : World) (hk : KW w) (hp : RB w P A c key) (hP : ∀ k, P k → k < w.heap.size) (hl0 : 0 < key.length) (hl : key.length ≤ 64)
 (hq : RP w Q B d ps) (hQ : ∀ k, Q k → k < w.heap.size) (hlf : ps.flatten.length ≤ 300000) (hpb : ∀ x ∈ ps.flatten, x < 256) :
 Calls Tryz.prog 71 #[.int .i64 3, .slice A key.length c, .slice B ps.length d] w fun e w' => ∃ A' c', e = .returned (.slice A' 32 c') ∧ OW w' w.heap.size A' c' (hmac key ps.flatten) ∧ Ext w w' := by
 have hkb := hp.2.1
 have H1 := Lib.hid (newKeyed_any w hk hp hP hl0 hl)
 have HKB := Lib.hid hkb
 have HK := Lib.hid hk
 have HQ := Lib.hid hq
 have HQQ := Lib.hid hQ
 have HL := Lib.hid hlf
 have HPB := Lib.hid hpb
 have Hle := Lib.hid hl
 clear hk hp hP hl0 hl hq hQ hlf hpb hkb
 go_enter Tryz.func71, Tryz.ntmps71
 go_wp2_with fail
 refine (size3 _).mono ?_
 rintro e wn ⟨rfl, rfl⟩
 go_wp2_with fail
 refine H1.out.mono ?_
 rintro e W1 ⟨b1, b2, rfl, hne, l1, l2, hs1, hs2, hE⟩
 have H2 := Lib.hid (of_parts W1 hs1 hs2 (mask_len _ _) (mask_len _ _) (mask_lt HKB.out (by omega)) (mask_lt HKB.out (by omega)) (HK.out.ext hE) (HQ.out.ext hE HQQ.out) (fun k hk => Nat.lt_of_lt_of_le (HQQ.out k hk) hE.bsize) HL.out HPB.out)
 have HE := Lib.hid hE
 clear hs1 hs2 hE H1
 go_wp2_with fail
 refine H2.out.mono ?_
 rintro e W2 ⟨A', c', rfl, ho, hE2⟩
 have HO := Lib.hid ho
 have HE2 := Lib.hid hE2
 clear ho hE2 H2
 go_wp2_with fail
 go_ret
 exact ⟨A', c', rfl, HO.out.mono HE.out.bsize, HE.out.trans HE2.out⟩
end Go.Proofs.YtpbmaapdppdagaaGreatDoor

namespace Go.Proofs.YtpbmaapdppdagaaGreatDoor
open Go.RowKit
open Sha

set_option maxRecDepth 100000 in
set_option maxHeartbeats 8000000 in
theorem mac_any {b : Nat} {P Q : Nat → Prop} {A B : Option Addr} {c d : Nat} {key : List Nat} {ps : List (List Nat)} (w : World) (hk : KW w) (hb : w.cell? ⟨b, 0, none⟩ = some (.slice A key.length c)) (hp : RB w P A c key) (hP : ∀ k, P k → k < w.heap.size) (hl0 : 0 < key.length) (hl : key.length ≤ 64)
 (hq : RP w Q B d ps) (hQ : ∀ k, Q k → k < w.heap.size) (hlf : ps.flatten.length ≤ 300000) (hpb : ∀ x ∈ ps.flatten, x < 256) :
 Calls Tryz.prog 42 #[.pointer (some ⟨b, 0, none⟩), .slice B ps.length d] w fun e w' => ∃ A' c', e = .returned (.slice A' 32 c') ∧ OW w' w.heap.size A' c' (hmac key ps.flatten) ∧ Ext w w' := by
 have H := Lib.hid (hmac_any w hk hp hP hl0 hl hq hQ hlf hpb)
 clear hk hp hP hl0 hl hq hQ hlf hpb
 go_enter Tryz.func42, Tryz.ntmps42
 go_wp2_with fail
 refine H.out.mono ?_
 rintro e wn ⟨A', c', rfl, ho, hE⟩
 have HO := Lib.hid ho
 have HE := Lib.hid hE
 clear ho hE H
 go_wp2_with fail
 go_ret
 exact ⟨A', c', rfl, HO.out, HE.out⟩
end Go.Proofs.YtpbmaapdppdagaaGreatDoor

namespace Go.Proofs.YtpbmaapdppdagaaGreatDoor
open Go.RowKit
open Sha

def DR (w : World) (b : Nat) (k v : List Nat) (n : Int) : Prop :=
 ∃ Ak ck Av cv, w.heap[b]? = some (.cells #[.slice Ak 32 ck, .slice Av 32 cv, .int .i64 n] 53 (0, 0)) ∧ RB w (fun g => g < w.heap.size) Ak ck k ∧ RB w (fun g => g < w.heap.size) Av cv v ∧ k.length = 32 ∧ v.length = 32
theorem DR.lt {w : World} {b : Nat} {k v : List Nat} {n : Int} (h : DR w b k v n) : b < w.heap.size := let ⟨_, _, _, _, h, _⟩ := h; blk_lt h
theorem DR.ext {w X : World} {b : Nat} {k v : List Nat} {n : Int} (h : DR w b k v n) (hE : Ext w X) : DR X b k v n := by
 obtain ⟨Ak, ck, Av, cv, h1, h2, h3, h4, h5⟩ := h
 exact ⟨Ak, ck, Av, cv, hE.at_ h1, h2.upE hE, h3.upE hE, h4, h5⟩
theorem RB.dr {w X : World} {b : Nat} {k v : List Nat} {n : Int} {P : Nat → Prop} {A : Option Addr} {c : Nat} {d : List Nat} (h : RB w P A c d) (hP : ∀ k, P k → k < w.heap.size) (hd : DR w b k v n) (hf : Fr b w.heap.size w X) : RB X P A c d :=
 h.by_ fun q u hq hc => (World.cell?_of_block (hf.block _ (hP _ hq) (fun e => by
  obtain ⟨Ak, ck, Av, cv, h1, _⟩ := hd
  unfold World.cell? at hc
  rw [e, h1] at hc
  simp only at hc
  split at hc
  · cases hc
  · have hm := List.mem_of_getElem? (l := [Value.slice Ak 32 ck, .slice Av 32 cv, .int .i64 n]) (i := q.off) (by simpa using hc)
    simp at hm))).trans hc
theorem RB.dr' {w X : World} {b : Nat} {k v : List Nat} {n : Int} {A : Option Addr} {c : Nat} {d : List Nat} (h : RB w (fun g => g < w.heap.size) A c d) (hd : DR w b k v n) (hf : Fr b w.heap.size w X) : RB X (fun g => g < X.heap.size) A c d :=
 (h.dr (fun _ h => h) hd hf).mono fun _ hg => Nat.lt_of_lt_of_le hg hf.size
theorem DR.fr {w X : World} {b b' : Nat} {k v k' v' : List Nat} {n n' : Int} (h : DR w b k v n) (hf : Fr b' w.heap.size w X) (hb : DR w b' k' v' n') (hn : b ≠ b') : DR X b k v n := by
 obtain ⟨Ak, ck, Av, cv, h1, h2, h3, h4, h5⟩ := h
 exact ⟨Ak, ck, Av, cv, hf.at_ (blk_lt h1) hn h1, h2.dr' hb hf, h3.dr' hb hf, h4, h5⟩
theorem DR.frS {w : World} {b : Nat} (i : Nat) (u : Value) : Fr b w.heap.size w (w.setCell ⟨b, i, none⟩ u) := Fr.just ((Just.refl b w).set i u) (Nat.le_refl _)
theorem DR.setK {w : World} {b c : Nat} {A : Option Addr} {k k' v : List Nat} {n : Int} (h : DR w b k v n) (ho : RB w (fun g => g < w.heap.size) A c k') (hl : k'.length = 32) : DR (w.setCell ⟨b, 0, none⟩ (.slice A 32 c)) b k' v n := by
 have hd := h
 obtain ⟨Ak, ck, Av, cv, h1, h2, h3, h4, h5⟩ := h
 exact ⟨A, c, Av, cv, blk_set h1 0 _, ho.dr' hd (DR.frS _ _), h3.dr' hd (DR.frS _ _), hl, h5⟩
theorem DR.setV {w : World} {b c : Nat} {A : Option Addr} {k v v' : List Nat} {n : Int} (h : DR w b k v n) (ho : RB w (fun g => g < w.heap.size) A c v') (hl : v'.length = 32) : DR (w.setCell ⟨b, 1, none⟩ (.slice A 32 c)) b k v' n := by
 have hd := h
 obtain ⟨Ak, ck, Av, cv, h1, h2, h3, h4, h5⟩ := h
 exact ⟨Ak, ck, A, c, blk_set h1 1 _, h2.dr' hd (DR.frS _ _), ho.dr' hd (DR.frS _ _), h4, hl⟩
theorem hmac_len (k m : List Nat) : (hmac k m).length = 32 := sha_length _
def half (k v d : List Nat) (c : Nat) : List Nat × List Nat := (hmac k (v ++ [c] ++ d), hmac (hmac k (v ++ [c] ++ d)) v)
def upd2 (k v d : List Nat) : List Nat × List Nat := if d.length = 0 then half k v d 0 else half (half k v d 0).1 (half k v d 0).2 d 1
theorem OW.rb' {w : World} {base : Nat} {A : Option Addr} {c : Nat} {bs : List Nat} (h : OW w base A c bs) (hl : bs.length ≤ 100000000) : RB w (fun k => k < w.heap.size) A c bs := (h.rb hl).mono fun _ hk => hk.2
theorem RS.lit (w : World) (cs : Array Value) (t : TypeId) (hl : cs.size ≤ maxLen) : RS (w.alloc (.cells cs t)) (fun k => k < (w.alloc (.cells cs t)).heap.size) 1 (some ⟨w.heap.size, 0, none⟩) cs.size cs.size cs.toList :=
 RS.fresh cs t 1 cs.size (by simp) hl (by rw [World.size_alloc]; omega)
theorem mac3 {b x : Nat} {k v : List Nat} {n : Int} {P : Nat → Prop} {A : Option Addr} {c : Nat} {d : List Nat} (w : World) (hk : KW w) (hd : DR w b k v n) (hx : x < 256) (hp : RB w P A c d) (hP : ∀ k, P k → k < w.heap.size) (hl : d.length ≤ 200000) {Av : Option Addr} {cv : Nat} (hv : w.cell? ⟨b, 1, none⟩ = some (.slice Av 32 cv)) :
 Calls Tryz.prog 42 #[.pointer (some ⟨b, 0, none⟩), .slice (some ⟨w.heap.size + 1, 0, none⟩) 3 3] ((w.alloc (.cells #[.int .u8 (x : Int)] 5)).alloc (.cells #[.slice Av 32 cv, .slice (some ⟨w.heap.size, 0, none⟩) 1 1, .slice A d.length c] 23))
  fun e w' => ∃ A' c', e = .returned (.slice A' 32 c') ∧ OW w' w.heap.size A' c' (hmac k (v ++ [x] ++ d)) ∧ Ext w w' := by
 obtain ⟨W1, hW1⟩ : ∃ W, w.alloc (.cells #[.int .u8 (x : Int)] 5) = W := ⟨_, rfl⟩
 have hx1 := OW.lit w x hx
 have hE1 : Ext w W1 := by rw [← hW1]; exact Ext.alloc _ _
 have hz1 : w.heap.size + 1 = W1.heap.size := by rw [← hW1, World.size_alloc]
 rw [hW1] at hx1 ⊢
 rw [hz1]
 have hE2 := Ext.alloc W1 (.cells #[.slice Av 32 cv, .slice (some ⟨w.heap.size, 0, none⟩) 1 1, .slice A d.length c] 23)
 have hr := RS.lit W1 #[.slice Av 32 cv, .slice (some ⟨w.heap.size, 0, none⟩) 1 1, .slice A d.length c] 23 (by simp [maxLen])
 obtain ⟨W2, hW2⟩ : ∃ W, W1.alloc (.cells #[.slice Av 32 cv, .slice (some ⟨w.heap.size, 0, none⟩) 1 1, .slice A d.length c] 23) = W := ⟨_, rfl⟩
 rw [hW2] at hE2 hr ⊢
 have hE := hE1.trans hE2
 obtain ⟨Ak, ck, Av', cv', h1, h2, h3, h4, h5⟩ := hd
 have e1 := blk_cell h1 1
 rw [hv] at e1
 simp only [List.getElem?_toArray, List.getElem?_cons_zero, List.getElem?_cons_succ, Option.some.injEq, Value.slice.injEq] at e1
 obtain ⟨rfl, _, rfl⟩ := e1
 have c0 : W2.cell? ⟨b, 0, none⟩ = some (.slice Ak 32 ck) := hE.cell (blk_cell h1 0)
 have o2 := h2.upE hE
 have o3 := h3.upE hE
 have o1 := (hx1.same (w' := W2) fun g _ cs hk => hE2.at_ hk).rb' (by simp)
 have hq : RP W2 (fun k => k < W2.heap.size) (some ⟨W1.heap.size, 0, none⟩) 3 [v, [x], d] := by
  refine ⟨_, hr, fun i hi => ?_⟩
  match i, hi with
  | 0, _ => exact ⟨Av, cv, by simp [h5], o3⟩
  | 1, _ => exact ⟨some ⟨w.heap.size, 0, none⟩, 1, by simp, o1⟩
  | 2, _ => exact ⟨A, c, by simp, (hp.below hE hP).mono fun k hk => Nat.lt_of_lt_of_le (hP k hk) hE.bsize⟩
  | i + 3, hi => exact absurd hi (by simp only [List.length_cons, List.length_nil]; omega)
 rw [← h4] at c0
 have hm := mac_any W2 (hk.ext hE) c0 o2 (fun _ h => h) (by omega) (by omega) hq (fun _ h => h) (by simp [h5]; omega) (by
  intro y hy
  simp only [List.flatten_cons, List.flatten_nil, List.append_nil, List.mem_append, List.mem_singleton] at hy
  rcases hy with hy | hy | hy
  · exact o3.2.1 y hy
  · omega
  · exact hp.2.1 y hy)
 refine hm.mono ?_
 rintro e w' ⟨A', c', rfl, ho, hE'⟩
 refine ⟨A', c', rfl, ?_, hE.trans hE'⟩
 have := ho.mono hE.bsize
 simpa using this
theorem mac1 {b : Nat} {k v : List Nat} {n : Int} (w : World) (hk : KW w) (hd : DR w b k v n) {Av : Option Addr} {cv : Nat} (hv : w.cell? ⟨b, 1, none⟩ = some (.slice Av 32 cv)) :
 Calls Tryz.prog 42 #[.pointer (some ⟨b, 0, none⟩), .slice (some ⟨w.heap.size, 0, none⟩) 1 1] (w.alloc (.cells #[.slice Av 32 cv] 23))
  fun e w' => ∃ A' c', e = .returned (.slice A' 32 c') ∧ OW w' w.heap.size A' c' (hmac k v) ∧ Ext w w' := by
 have hE := Ext.alloc w (.cells #[.slice Av 32 cv] 23)
 have hr := RS.lit w #[.slice Av 32 cv] 23 (by simp [maxLen])
 obtain ⟨W2, hW2⟩ : ∃ W, w.alloc (.cells #[.slice Av 32 cv] 23) = W := ⟨_, rfl⟩
 rw [hW2] at hE hr ⊢
 obtain ⟨Ak, ck, Av', cv', h1, h2, h3, h4, h5⟩ := hd
 have e1 := blk_cell h1 1
 rw [hv] at e1
 simp only [List.getElem?_toArray, List.getElem?_cons_zero, List.getElem?_cons_succ, Option.some.injEq, Value.slice.injEq] at e1
 obtain ⟨rfl, _, rfl⟩ := e1
 have c0 : W2.cell? ⟨b, 0, none⟩ = some (.slice Ak 32 ck) := hE.cell (blk_cell h1 0)
 have o2 := h2.upE hE
 have o3 := h3.upE hE
 have hq : RP W2 (fun k => k < W2.heap.size) (some ⟨w.heap.size, 0, none⟩) 1 [v] := by
  refine ⟨_, hr, fun i hi => ?_⟩
  match i, hi with
  | 0, _ => exact ⟨Av, cv, by simp [h5], o3⟩
  | i + 1, hi => exact absurd hi (by simp only [List.length_cons, List.length_nil]; omega)
 rw [← h4] at c0
 have hm := mac_any W2 (hk.ext hE) c0 o2 (fun _ h => h) (by omega) (by omega) hq (fun _ h => h) (by simp [h5]) (by
  intro y hy
  simp only [List.flatten_cons, List.flatten_nil, List.append_nil] at hy
  exact o3.2.1 y hy)
 refine hm.mono ?_
 rintro e w' ⟨A', c', rfl, ho, hE'⟩
 refine ⟨A', c', rfl, ?_, hE.trans hE'⟩
 have := ho.mono hE.bsize
 simpa using this
end Go.Proofs.YtpbmaapdppdagaaGreatDoor

namespace Go.Proofs.YtpbmaapdppdagaaGreatDoor
open Go.RowKit
open Sha

theorem KW.ne {w : World} {b : Nat} {k v : List Nat} {n : Int} (h : KW w) (hd : DR w b k v n) : 1 ≠ b := by
 intro e
 obtain ⟨z, h1, h2⟩ := h 0 (by omega)
 obtain ⟨Ak, ck, Av, cv, h3, _⟩ := hd
 rw [e] at h1
 rw [blk_cell h3 0] at h1
 simp at h1
theorem KW.dr {w X : World} {b F : Nat} {k v : List Nat} {n : Int} (h : KW w) (hd : DR w b k v n) (hf : Fr b F w X) (hF : w.heap.size ≤ F) : KW X := fun i hi => by
 obtain ⟨z, h1, h2⟩ := h i hi
 exact ⟨z, (World.cell?_of_block (hf.block _ (Nat.lt_of_lt_of_le h.lt hF) (h.ne hd))).trans h1, h2⟩
theorem DR.vcell {w : World} {b : Nat} {k v : List Nat} {n : Int} (h : DR w b k v n) : ∃ Av cv, w.cell? ⟨b, 1, none⟩ = some (.slice Av 32 cv) := by
 obtain ⟨Ak, ck, Av, cv, h1, _⟩ := h
 exact ⟨Av, cv, blk_cell h1 1⟩
theorem DR.free {w : World} {b : Nat} {k v : List Nat} {n : Int} (h : DR w b k v n) (i : Nat) : w.frozen? ⟨b, i, none⟩ = false := by
 obtain ⟨Ak, ck, Av, cv, h1, _⟩ := h
 exact blk_free h1 i
theorem DR.kcell {w : World} {b : Nat} {k v : List Nat} {n : Int} (h : DR w b k v n) : ∃ Av cv, w.cell? ⟨b, 0, none⟩ = some (.slice Av 32 cv) := by
 obtain ⟨Ak, ck, Av, cv, h1, _⟩ := h
 exact ⟨Ak, ck, blk_cell h1 0⟩
theorem turnK {w w1 : World} {b : Nat} {k v k' : List Nat} {n : Int} {A : Option Addr} {c : Nat} (hd : DR w b k v n) (hE : Ext w w1) (ho : OW w1 w.heap.size A c k') (hl : k'.length = 32) :
 DR (w1.setCell ⟨b, 0, none⟩ (.slice A 32 c)) b k' v n ∧ Fr b w.heap.size w (w1.setCell ⟨b, 0, none⟩ (.slice A 32 c)) :=
 ⟨(hd.ext hE).setK (ho.rb' (by omega)) hl, (Fr.below hE (Nat.le_refl _)).trans (Fr.just ((Just.refl b w1).set 0 _) hE.bsize)⟩
theorem turnV {w w1 : World} {b : Nat} {k v v' : List Nat} {n : Int} {A : Option Addr} {c : Nat} (hd : DR w b k v n) (hE : Ext w w1) (ho : OW w1 w.heap.size A c v') (hl : v'.length = 32) :
 DR (w1.setCell ⟨b, 1, none⟩ (.slice A 32 c)) b k v' n ∧ Fr b w.heap.size w (w1.setCell ⟨b, 1, none⟩ (.slice A 32 c)) :=
 ⟨(hd.ext hE).setV (ho.rb' (by omega)) hl, (Fr.below hE (Nat.le_refl _)).trans (Fr.just ((Just.refl b w1).set 1 _) hE.bsize)⟩
theorem DR.v0 {w : World} {b : Nat} {k v : List Nat} {n : Int} {y : Value} (h : DR w b k v n) (hv : w.cell? ⟨b, 1, none⟩ = some y) (u : Value) : (w.setCell ⟨b, 0, none⟩ u).cell? ⟨b, 1, none⟩ = some y := by
 obtain ⟨Ak, ck, Av, cv, h1, _⟩ := h
 have e1 := blk_cell h1 1
 rw [hv] at e1
 rw [blk_cell (blk_set h1 0 u) 1, e1]
 rfl
set_option maxRecDepth 100000 in
set_option maxHeartbeats 8000000 in
theorem update_any {b : Nat} {k v d : List Nat} {n : Int} {P : Nat → Prop} {A : Option Addr} {c : Nat} (w : World) (hk : KW w) (hd : DR w b k v n) (hp : RB w P A c d) (hP : ∀ k, P k → k < w.heap.size) (hl : d.length ≤ 200000) :
 Calls Tryz.prog 22 #[.pointer (some ⟨b, 0, none⟩), .slice A d.length c] w fun e w' => e = .returned (.tuple #[]) ∧ DR w' b (upd2 k v d).1 (upd2 k v d).2 n ∧ Fr b w.heap.size w w' := by
 obtain ⟨Av, cv, vc⟩ := hd.vcell
 have h1 := mac3 (x := 0) w hk hd (by omega) hp hP hl vc
 rw [show ((0 : Nat) : Int) = 0 from rfl] at h1
 have H1 := Lib.hid h1
 obtain ⟨Ak, ck, kc⟩ := hd.kcell
 clear h1
 have HK := Lib.hid hk
 have HD := Lib.hid hd
 have HP := Lib.hid hp
 have HPP := Lib.hid hP
 clear hk hd hp hP
 go_enter Tryz.func22, Tryz.ntmps22
 go_wp2_with fail
 refine H1.out.mono ?_
 rintro e w1 ⟨A1, c1, rfl, ho, hE⟩
 obtain ⟨hd1, hf1⟩ := turnK HD.out hE ho (hmac_len _ _)
 have fr1 := (HD.out.ext hE).free 0
 have vc1 := hE.cell vc
 have kc1 := hE.cell kc
 have HK1 := Lib.hid (HK.out.dr HD.out hf1 (Nat.le_refl _))
 have vcs := (HD.out.ext hE).v0 vc1 (.slice A1 32 c1)
 have HD1 := Lib.hid hd1
 have HF1 := Lib.hid hf1
 clear hd1 hf1 hE ho vc vc1 H1 kc
 go_upto_region 1 with fail
 obtain ⟨X1, hX1⟩ : ∃ X, w1.setCell ⟨b, 0, none⟩ (.slice A1 32 c1) = X := ⟨_, rfl⟩
 rw [hX1] at HK1 HD1 HF1 vcs ⊢
 clear hX1 fr1 kc1
 have H2 := Lib.hid (mac1 _ HK1.out HD1.out vcs)
 go_wp2_with fail
 refine H2.out.mono ?_
 rintro e w2 ⟨A2, c2, rfl, ho, hE⟩
 obtain ⟨hd2, hf2⟩ := turnV HD1.out hE ho (hmac_len _ _)
 have fr2 := (HD1.out.ext hE).free 1
 have vc2 := hE.cell vcs
 have hff := HF1.out.trans (hf2.mono HF1.out.size)
 have HK2 := Lib.hid (HK.out.dr HD.out hff (Nat.le_refl _))
 have HP2 := Lib.hid (HP.out.dr HPP.out HD.out hff)
 have HD2 := Lib.hid hd2
 have HF2 := Lib.hid hff
 clear hd2 hf2 hff hE ho vcs H2 HK1 HD1 HF1 HK HP
 go_upto_region 2 with fail
 obtain ⟨X2, hX2⟩ : ∃ X, w2.setCell ⟨b, 1, none⟩ (.slice A2 32 c2) = X := ⟨_, rfl⟩
 rw [hX2] at HK2 HD2 HF2 HP2 ⊢
 clear hX2 fr2 vc2
 by_cases h0 : d.length = 0
 · have l0 : ¬ (0 : Int) < (d.length : Int) := by omega
   go_wp2_with fail
   have hu : upd2 k v d = half k v d 0 := if_pos h0
   have hfin : DR X2 b (upd2 k v d).1 (upd2 k v d).2 n := by rw [hu]; exact HD2.out
   go_end0
   exact ⟨rfl, hfin, HF2.out⟩
 · have l0 : (0 : Int) < (d.length : Int) := by omega
   have H3 := Lib.hid (HD2.out)
   obtain ⟨Av', cv', vc⟩ := HD2.out.vcell
   obtain ⟨Ak', ck', kc⟩ := HD2.out.kcell
   have hlt2 : ∀ k, P k → k < X2.heap.size := fun k hk => Nat.lt_of_lt_of_le (HPP.out k hk) HF2.out.size
   have h1 := mac3 (x := 1) X2 HK2.out HD2.out (by omega) HP2.out hlt2 hl vc
   rw [show ((1 : Nat) : Int) = 1 from rfl] at h1
   have H1 := Lib.hid h1
   clear h1 hlt2
   go_wp2_with fail
   refine H1.out.mono ?_
   rintro e w3 ⟨A3, c3, rfl, ho, hE⟩
   obtain ⟨hd1, hf1⟩ := turnK HD2.out hE ho (hmac_len _ _)
   have fr1 := (HD2.out.ext hE).free 0
   have vc1 := hE.cell vc
   have kc1 := hE.cell kc
   have HK1 := Lib.hid (HK2.out.dr HD2.out hf1 (Nat.le_refl _))
   have vcs := (HD2.out.ext hE).v0 vc1 (.slice A3 32 c3)
   have HD1 := Lib.hid hd1
   have HF1 := Lib.hid (HF2.out.trans (hf1.mono HF2.out.size))
   clear hd1 hf1 hE ho vc vc1 H1 kc
   go_upto_region 4 with fail
   obtain ⟨X1, hX1⟩ : ∃ X, w3.setCell ⟨b, 0, none⟩ (.slice A3 32 c3) = X := ⟨_, rfl⟩
   rw [hX1] at HK1 HD1 HF1 vcs ⊢
   clear hX1 fr1 kc1
   have H2 := Lib.hid (mac1 _ HK1.out HD1.out vcs)
   go_wp2_with fail
   refine H2.out.mono ?_
   rintro e w4 ⟨A4, c4, rfl, ho, hE⟩
   obtain ⟨hd2, hf2⟩ := turnV HD1.out hE ho (hmac_len _ _)
   have fr2 := (HD1.out.ext hE).free 1
   have vc2 := hE.cell vcs
   have hff := HF1.out.trans (hf2.mono HF1.out.size)
   have hu : upd2 k v d = half (half k v d 0).1 (half k v d 0).2 d 1 := if_neg h0
   have Hfin := Lib.hid (show DR (w4.setCell ⟨b, 1, none⟩ (.slice A4 32 c4)) b (upd2 k v d).1 (upd2 k v d).2 n by rw [hu]; exact hd2)
   have HF2' := Lib.hid hff
   clear hd2 hf2 hff hE ho vcs H2 HK1 HD1 HF1 hu
   go_wp2_with fail
   go_end0
   exact ⟨rfl, Hfin.out, HF2'.out⟩
end Go.Proofs.YtpbmaapdppdagaaGreatDoor

namespace Go.Proofs.YtpbmaapdppdagaaGreatDoor
open Go.RowKit
open Sha

def BL (w : World) (F b : Nat) (k v : List Nat) (n : Int) (A : Option Addr) (c : Nat) (out : List Nat) : Prop :=
 ∃ Ak ck Av cv, w.heap[b]? = some (.cells #[.slice Ak 32 ck, .slice Av 32 cv, .int .i64 n] 53 (0, 0)) ∧ RB w (fun g => g < F) Ak ck k ∧ F ≤ w.heap.size ∧ RB w (fun g => g < w.heap.size) Av cv v ∧ k.length = 32 ∧ v.length = 32 ∧ OW w F A c out
theorem BL.dr {w : World} {F b c : Nat} {k v out : List Nat} {n : Int} {A : Option Addr} (h : BL w F b k v n A c out) : DR w b k v n := by
 obtain ⟨Ak, ck, Av, cv, h1, h2, hF, h3, h4, h5, _⟩ := h
 exact ⟨Ak, ck, Av, cv, h1, h2.mono fun _ hg => Nat.lt_of_lt_of_le hg hF, h3, h4, h5⟩
end Go.Proofs.YtpbmaapdppdagaaGreatDoor

namespace Go.Proofs.YtpbmaapdppdagaaGreatDoor

def ShlAt (l o : List Nat) (w k i : Nat) : Prop := val 18446744073709551616 o = 2 ^ (64 * w + k) * val 18446744073709551616 (l.take i) ∧ (∀ j, i + w < j → dg o j = 0) ∧ dg o (i + w) < 2 ^ k
theorem dg_replicate (n j : Nat) : dg (List.replicate n 0) j = 0 := by
 rw [dg, List.getD_eq_getElem?_getD, List.getElem?_replicate]
 split <;> rfl
theorem ShlAt.zero (l : List Nat) (w k n : Nat) : ShlAt l (List.replicate n 0) w k 0 := by
 refine ⟨by rw [val_replicate]; simp, fun j _ => dg_replicate n j, by rw [dg_replicate]; exact Nat.pow_pos (by omega)⟩
theorem ShlAt.step {l o : List Nat} {w k i hi lo : Nat} (h : ShlAt l o w k i) (ho : i + w + 1 < o.length) (he : lo + 18446744073709551616 * hi = dg l i * 2 ^ k) (hh : hi < 2 ^ k) : ShlAt l ((o.set (i + w) (dg o (i + w) + lo)).set (i + w + 1) hi) w k (i + 1) := by
 obtain ⟨h1, h2, h3⟩ := h
 refine ⟨?_, fun j hj => by rw [getD_set_ne (by omega), getD_set_ne (by omega)]; exact h2 j (by omega), by rw [show i + 1 + w = i + w + 1 by omega, getD_set_eq (by simp; omega)]; exact hh⟩
 have s1 := val_set' 18446744073709551616 (show i + w < o.length by omega) (dg o (i + w) + lo)
 have s2 := val_set' 18446744073709551616 (l := o.set (i + w) (dg o (i + w) + lo)) (n := i + w + 1) (by simp; omega) hi
 rw [getD_set_ne (by omega : i + w ≠ i + w + 1), h2 (i + w + 1) (by omega)] at s2
 rw [val_take_getD, Nat.mul_add, ← h1]
 have e : 2 ^ (64 * w + k) * (18446744073709551616 ^ i * dg l i) = 18446744073709551616 ^ (i + w) * (dg l i * 2 ^ k) := by
  rw [Nat.pow_add, Nat.pow_mul, show (2 : Nat) ^ 64 = 18446744073709551616 by decide, Nat.pow_add]
  generalize 18446744073709551616 ^ w = a
  generalize 18446744073709551616 ^ i = b
  generalize 2 ^ k = c
  generalize dg l i = d
  rw [Nat.mul_comm b d, ← Nat.mul_assoc, Nat.mul_comm _ b, Nat.mul_assoc a, Nat.mul_comm c d, ← Nat.mul_assoc b a]
 rw [e, ← he, Nat.mul_add, ← Nat.mul_assoc, ← Nat.pow_succ]
 rw [Nat.mul_add] at s1
 generalize 18446744073709551616 ^ (i + w + 1) * hi = q1 at *
 generalize 18446744073709551616 ^ (i + w) * lo = q2 at *
 generalize 18446744073709551616 ^ (i + w) * dg o (i + w) = q3 at *
 generalize val 18446744073709551616 (o.set (i + w) (dg o (i + w) + lo)) = q4 at *
 generalize val 18446744073709551616 ((o.set (i + w) (dg o (i + w) + lo)).set (i + w + 1) hi) = q5 at *
 generalize val 18446744073709551616 o = q6 at *
 omega
theorem ShlAt.fin {l o : List Nat} {w k : Nat} (h : ShlAt l o w k l.length) : val 18446744073709551616 o = val 18446744073709551616 l * 2 ^ (64 * w + k) := by
 have := h.1
 rwa [List.take_length, Nat.mul_comm] at this
def ShrAt (l o : List Nat) (w k i : Nat) : Prop := ∀ j, j < i → dg o j = val 18446744073709551616 l / 2 ^ (64 * (j + w) + k) % 18446744073709551616
theorem digit_of_val {B : Nat} {o : List Nat} (x : Nat) (hd : ∀ j, j < o.length → dg o j = x / B ^ j % B) (hx : x < B ^ o.length) : val B o = x := by
  have : ∀ i, i ≤ o.length → val B (o.take i) = x % B ^ i := by
    intro i
    induction i with
    | zero => intro _; simp [Nat.mod_one]
    | succ i ih =>
      intro hi
      rw [val_take_getD, ih (by omega), hd i (by omega), Nat.pow_succ, Nat.mod_mul]
  have h := this o.length (Nat.le_refl _)
  rw [List.take_length, Nat.mod_eq_of_lt hx] at h
  exact h
theorem ShrAt.fin {l o : List Nat} {w k : Nat} (h : ShrAt l o w k o.length) (hl : ∀ x ∈ l, x < 18446744073709551616) (hn : l.length = o.length + w) : val 18446744073709551616 o = val 18446744073709551616 l / 2 ^ (64 * w + k) := by
 apply digit_of_val
 · intro j hj
   rw [h j hj, Nat.div_div_eq_div_mul]
   congr 2
   rw [show (18446744073709551616 : Nat) = 2 ^ 64 by decide, ← Nat.pow_mul, ← Nat.pow_add]
   congr 1
   omega
 · apply Nat.div_lt_of_lt_mul
   have h1 := val_lt hl
   rw [hn, Nat.pow_add] at h1
   rw [Nat.pow_add, Nat.pow_mul, show (2 : Nat) ^ 64 = 18446744073709551616 by decide]
   have h2 : 18446744073709551616 ^ o.length * 18446744073709551616 ^ w * 1 ≤ 18446744073709551616 ^ o.length * 18446744073709551616 ^ w * 2 ^ k := Nat.mul_le_mul_left _ (Nat.pow_pos (by omega))
   have h3 : 18446744073709551616 ^ w * 2 ^ k * 18446744073709551616 ^ o.length = 18446744073709551616 ^ o.length * 18446744073709551616 ^ w * 2 ^ k := by
    rw [Nat.mul_comm, Nat.mul_assoc]
   rw [h3]
   omega
end Go.Proofs.YtpbmaapdppdagaaGreatDoor

namespace Go.Proofs.YtpbmaapdppdagaaGreatDoor
open Go.RowKit

end Go.Proofs.YtpbmaapdppdagaaGreatDoor

namespace Go.Proofs.YtpbmaapdppdagaaGreatDoor
open Go.RowKit
open Sha

theorem run_nozero (w : World) (n : Nat) (hn : n ≤ 281474976710656) : ∃ cs, (callFunc 41 #[.int .i64 (n : Int)]).run Tryz.prog w = .ok (.value (.slice (some ⟨w.heap.size, 0, none⟩) n cs.size)) ((w.drew.drew).alloc (.cells cs 5)) ∧ n ≤ cs.size ∧ cs.size ≤ maxLen := by
 obtain ⟨cs, h1, h2, h3⟩ := Lib.run_makeNoZero (P := Tryz.prog) w #[3] 23 5 Tryz.underlying23 n hn
 refine ⟨cs, ?_, h2, h3 (by unfold maxLen; omega)⟩
 rw [run_callFunc_extern (e := Extern.BytealgMakeNoZero.makeNoZero #[3] #[23]) Tryz.func41 (by kernel_rfl) (by kernel_rfl) (by kernel_rfl) (by kernel_rfl), h1]
 rfl
theorem mul_one_any (w : World) : Calls Tryz.prog 40 #[.int .u64 1, .int .u64 32] w fun e w' => e = .returned (.tuple #[.int .u64 0, .int .u64 32]) ∧ w' = w := by
 have H := Lib.hid (mul64_at 1 32 0 32 (by omega) (by omega) (by omega) (by omega))
 go_enter Tryz.func40, Tryz.ntmps40
 go_wp2_with fail
 refine (H.out w).mono ?_
 rintro e w1 ⟨rfl, rfl⟩
 go_wp2
 go_ret2
 exact ⟨rfl, rfl⟩
theorem ones_copy {w : World} {g p k dl dc sl sc : Nat} {a : Addr} {cur : Array Value} (hb : w.heap[g]? = some (.cells cur 5 (0, 0))) (ho : ∀ j, j < p → cur[j]? = some (.int .u8 1)) (hs : ∀ j, j < k → w.cell? (a.add j) = some (.int .u8 1)) (hk : k = min sl dl) (hle : p + k ≤ cur.size) :
 ∃ W' cur', (Builtin.copy_ #[23, 23] 3 #[.slice (some ⟨g, p, none⟩) dl dc, .slice (some a) sl sc]).run Tryz.prog w = .ok (.int .i64 (k : Int)) W' ∧ W'.heap[g]? = some (.cells cur' 5 (0, 0)) ∧ cur'.size = cur.size ∧ (∀ j, j < p + k → cur'[j]? = some (.int .u8 1)) ∧ Just g w W' := by
 have hcl : (List.replicate k (Value.int .u8 1)).length = k := List.length_replicate
 have hr := run_copy_row (P := Tryz.prog) w 23 23 3 5 g p dl dc a sl sc cur 5 (List.replicate k (.int .u8 1)) Tryz.underlying23 (by kernel_rfl) hb (by rw [hcl]; exact hk) (fun j v hv => by
  obtain ⟨h1, h2⟩ := List.getElem?_eq_some_iff.1 hv
  rw [hcl] at h1
  rw [hs j h1, ← h2, List.getElem_replicate]) (by rw [hcl]; exact hle) (by intro v hv; rw [(List.mem_replicate.1 hv).2]; rfl)
 rw [hcl] at hr
 refine ⟨_, _, hr, Go.setRow_heap w g _ _ 5 _ hb, ?_, ?_, ⟨rfl, rfl, rfl, by simp [World.setRow], fun k _ hk => Go.setRow_other w g k _ hk⟩⟩
 · simp; omega
 · intro j hj
   have hpl : (cur.toList.take p).length = p := by simp; omega
   rw [List.getElem?_toArray, List.append_assoc]
   by_cases h : j < p
   · rw [List.getElem?_append_left (by omega), List.getElem?_take_of_lt h]
     simpa using ho j h
   · rw [List.getElem?_append_right (by omega), hpl, List.getElem?_append_left (by rw [hcl]; omega), List.getElem?_replicate_of_lt (by omega)]
set_option maxRecDepth 100000 in
set_option maxHeartbeats 8000000 in
theorem repeat_one {g : Nat} (w : World) (hg : w.heap[g]? = some (.cells #[.int .u8 1] 5 (0, 0))) :
 Calls Tryz.prog 21 #[.slice (some ⟨g, 0, none⟩) 1 1, .int .i64 32] w fun e w' => ∃ A, e = .returned (.slice A 32 32) ∧ RB w' (fun k => k < w'.heap.size) A 32 (List.replicate 32 1) ∧ Ext w w' := by
 obtain ⟨cs, hrun, hcs, hcm⟩ := run_nozero w 32 (by omega)
 rw [show ((32 : Nat) : Int) = 32 from rfl] at hrun
 obtain ⟨W1, hW1⟩ : ∃ W, (w.drew.drew).alloc (.cells cs 5) = W := ⟨_, rfl⟩
 have hb : W1.heap[w.heap.size]? = some (.cells cs 5 (0, 0)) := by rw [← hW1]; exact heap_alloc_new w.drew.drew _
 have hE : Ext w W1 := by rw [← hW1]; exact ((Ext.drew w).trans (Ext.drew _)).trans (Ext.alloc _ _)
 rw [hW1] at hrun
 have c32 : (32 : Int) ≤ (cs.size : Int) := by omega
 obtain ⟨W2, cs2, hcp, hb2, hz2, hon, hj2⟩ := ones_copy (p := 0) (k := 1) (dl := 32) (dc := 32) (sl := 1) (sc := 1) (a := ⟨g, 0, none⟩) hb (by omega) (by
  intro j hj
  obtain rfl : j = 0 := by omega
  exact blk_cell (hE.at_ hg) 0) rfl (by omega)
 have Hb2 := Lib.hid hb2
 have Hon := Lib.hid hon
 have HE2 := Lib.hid (hj2.ext hE (Nat.le_refl _))
 have hz := Lib.hid (show 32 ≤ cs2.size by omega)
 clear hb hE hW1 hg hb2 hon hj2 hz2 hcm
 go_enter Tryz.func21, Tryz.ntmps21
 go_upto_region 6 with (go_at_call 40; refine (mul_one_any _).mono ?_; rintro e w1 ⟨rfl, rfl⟩)
 go_upto_region 18 with fail
 clear hrun hcp
 go_loopw [10] (fun iv wr => ∃ (p : Nat) (cur : Array Value), iv = .int .i64 (p : Int) ∧ (p = 1 ∨ p = 2 ∨ p = 4 ∨ p = 8 ∨ p = 16 ∨ p = 32) ∧ Hid (wr.heap[w1.heap.size]? = some (.cells cur 5 (0, 0))) ∧ Hid (∀ j, j < p → cur[j]? = some (.int .u8 1)) ∧ Hid (32 ≤ cur.size) ∧ Hid (Ext w1 wr)) (fun iv _ => (32 - intOf iv).toNat)
 case atStart => exact ⟨1, cs2, rfl, .inl rfl, Hb2, Hon, hz, HE2⟩
 case round =>
  clear Hb2 Hon hz HE2
  obtain ⟨p, cur, rfl, hp, HB, HO, HZ, HE⟩ := hrel
  rcases hp with rfl | rfl | rfl | rfl | rfl | rfl
  · obtain ⟨X, cur', hc, hbx, hzx, hox, hjx⟩ := ones_copy (w := wr.drew) (p := 1) (k := 1) (dl := 31) (dc := 31) (sl := 1) (sc := 32) (a := ⟨w1.heap.size, 0, none⟩) (show wr.drew.heap[w1.heap.size]? = some (.cells cur 5 (0, 0)) from HB.out) HO.out (by
     intro j hj
     rw [show Addr.add ⟨w1.heap.size, 0, none⟩ j = ⟨w1.heap.size, j, none⟩ by unfold Addr.add; split <;> simp_all, blk_cell (show wr.drew.heap[w1.heap.size]? = some (.cells cur 5 (0, 0)) from HB.out) j]
     exact HO.out j hj) rfl (by have := HZ.out; omega)
    rw [show ((1 : Nat) : Int) = 1 from rfl] at hc ⊢
    have HBn := Lib.hid hbx
    have HOn := Lib.hid (show ∀ j, j < 2 → cur'[j]? = some (.int .u8 1) from hox)
    have HEn := Lib.hid (hjx.ext (HE.out.trans (Ext.drew _)) (Nat.le_refl _))
    have HZn := Lib.hid (show 32 ≤ cur'.size by have := HZ.out; omega)
    clear hbx hzx hox hjx HB HO HE HZ
    go_upto_region 20 with fail
    rw [show min (1 : Int) 32 = 1 from by decide]
    go_region_with fail
    all_goals
     go_roundw
     case rel =>
      have hR : ∃ (p : Nat) (cur : Array Value), Value.int .i64 2 = .int .i64 (p : Int) ∧ (p = 1 ∨ p = 2 ∨ p = 4 ∨ p = 8 ∨ p = 16 ∨ p = 32) ∧ Hid (X.heap[w1.heap.size]? = some (.cells cur 5 (0, 0))) ∧ Hid (∀ j, j < p → cur[j]? = some (.int .u8 1)) ∧ Hid (32 ≤ cur.size) ∧ Hid (Ext w1 X) := ⟨2, cur', rfl, by omega, HBn, HOn, HZn, HEn⟩
      first | exact ⟨_, _, _, _, _, _, _, _, _, _, _, _, _, _, _, hR, rfl⟩ | exact ⟨_, _, _, _, _, _, _, _, _, _, _, _, _, _, _, _, hR, rfl⟩ | exact ⟨_, _, _, _, _, _, _, _, _, _, _, _, _, _, _, _, _, hR, rfl⟩ | exact ⟨_, _, _, _, _, _, _, _, _, _, _, _, _, _, _, _, _, _, hR, rfl⟩ | exact ⟨_, _, _, _, _, _, _, _, _, _, _, _, _, _, _, _, _, _, _, hR, rfl⟩ | exact ⟨_, _, _, _, _, _, _, _, _, _, _, _, _, _, _, _, _, _, _, _, hR, rfl⟩ | exact ⟨_, _, _, _, _, _, _, _, _, _, _, _, _, _, _, _, _, _, _, _, _, hR, rfl⟩ | exact ⟨_, _, _, _, _, _, _, _, _, _, _, _, _, _, _, _, _, _, _, _, _, _, hR, rfl⟩ | exact ⟨_, _, _, _, _, _, _, _, _, _, _, _, _, _, _, _, _, _, _, _, _, _, _, hR, rfl⟩
     case measure => change (32 - (2 : Int)).toNat < (32 - (1 : Int)).toNat; decide
  · obtain ⟨X, cur', hc, hbx, hzx, hox, hjx⟩ := ones_copy (w := wr.drew) (p := 2) (k := 2) (dl := 30) (dc := 30) (sl := 2) (sc := 32) (a := ⟨w1.heap.size, 0, none⟩) (show wr.drew.heap[w1.heap.size]? = some (.cells cur 5 (0, 0)) from HB.out) HO.out (by
     intro j hj
     rw [show Addr.add ⟨w1.heap.size, 0, none⟩ j = ⟨w1.heap.size, j, none⟩ by unfold Addr.add; split <;> simp_all, blk_cell (show wr.drew.heap[w1.heap.size]? = some (.cells cur 5 (0, 0)) from HB.out) j]
     exact HO.out j hj) rfl (by have := HZ.out; omega)
    rw [show ((2 : Nat) : Int) = 2 from rfl] at hc ⊢
    have HBn := Lib.hid hbx
    have HOn := Lib.hid (show ∀ j, j < 4 → cur'[j]? = some (.int .u8 1) from hox)
    have HEn := Lib.hid (hjx.ext (HE.out.trans (Ext.drew _)) (Nat.le_refl _))
    have HZn := Lib.hid (show 32 ≤ cur'.size by have := HZ.out; omega)
    clear hbx hzx hox hjx HB HO HE HZ
    go_upto_region 20 with fail
    rw [show min (2 : Int) 32 = 2 from by decide]
    go_region_with fail
    all_goals
     go_roundw
     case rel =>
      have hR : ∃ (p : Nat) (cur : Array Value), Value.int .i64 4 = .int .i64 (p : Int) ∧ (p = 1 ∨ p = 2 ∨ p = 4 ∨ p = 8 ∨ p = 16 ∨ p = 32) ∧ Hid (X.heap[w1.heap.size]? = some (.cells cur 5 (0, 0))) ∧ Hid (∀ j, j < p → cur[j]? = some (.int .u8 1)) ∧ Hid (32 ≤ cur.size) ∧ Hid (Ext w1 X) := ⟨4, cur', rfl, by omega, HBn, HOn, HZn, HEn⟩
      first | exact ⟨_, _, _, _, _, _, _, _, _, _, _, _, _, _, _, hR, rfl⟩ | exact ⟨_, _, _, _, _, _, _, _, _, _, _, _, _, _, _, _, hR, rfl⟩ | exact ⟨_, _, _, _, _, _, _, _, _, _, _, _, _, _, _, _, _, hR, rfl⟩ | exact ⟨_, _, _, _, _, _, _, _, _, _, _, _, _, _, _, _, _, _, hR, rfl⟩ | exact ⟨_, _, _, _, _, _, _, _, _, _, _, _, _, _, _, _, _, _, _, hR, rfl⟩ | exact ⟨_, _, _, _, _, _, _, _, _, _, _, _, _, _, _, _, _, _, _, _, hR, rfl⟩ | exact ⟨_, _, _, _, _, _, _, _, _, _, _, _, _, _, _, _, _, _, _, _, _, hR, rfl⟩ | exact ⟨_, _, _, _, _, _, _, _, _, _, _, _, _, _, _, _, _, _, _, _, _, _, hR, rfl⟩ | exact ⟨_, _, _, _, _, _, _, _, _, _, _, _, _, _, _, _, _, _, _, _, _, _, _, hR, rfl⟩
     case measure => change (32 - (4 : Int)).toNat < (32 - (2 : Int)).toNat; decide
  · obtain ⟨X, cur', hc, hbx, hzx, hox, hjx⟩ := ones_copy (w := wr.drew) (p := 4) (k := 4) (dl := 28) (dc := 28) (sl := 4) (sc := 32) (a := ⟨w1.heap.size, 0, none⟩) (show wr.drew.heap[w1.heap.size]? = some (.cells cur 5 (0, 0)) from HB.out) HO.out (by
     intro j hj
     rw [show Addr.add ⟨w1.heap.size, 0, none⟩ j = ⟨w1.heap.size, j, none⟩ by unfold Addr.add; split <;> simp_all, blk_cell (show wr.drew.heap[w1.heap.size]? = some (.cells cur 5 (0, 0)) from HB.out) j]
     exact HO.out j hj) rfl (by have := HZ.out; omega)
    rw [show ((4 : Nat) : Int) = 4 from rfl] at hc ⊢
    have HBn := Lib.hid hbx
    have HOn := Lib.hid (show ∀ j, j < 8 → cur'[j]? = some (.int .u8 1) from hox)
    have HEn := Lib.hid (hjx.ext (HE.out.trans (Ext.drew _)) (Nat.le_refl _))
    have HZn := Lib.hid (show 32 ≤ cur'.size by have := HZ.out; omega)
    clear hbx hzx hox hjx HB HO HE HZ
    go_upto_region 20 with fail
    rw [show min (4 : Int) 32 = 4 from by decide]
    go_region_with fail
    all_goals
     go_roundw
     case rel =>
      have hR : ∃ (p : Nat) (cur : Array Value), Value.int .i64 8 = .int .i64 (p : Int) ∧ (p = 1 ∨ p = 2 ∨ p = 4 ∨ p = 8 ∨ p = 16 ∨ p = 32) ∧ Hid (X.heap[w1.heap.size]? = some (.cells cur 5 (0, 0))) ∧ Hid (∀ j, j < p → cur[j]? = some (.int .u8 1)) ∧ Hid (32 ≤ cur.size) ∧ Hid (Ext w1 X) := ⟨8, cur', rfl, by omega, HBn, HOn, HZn, HEn⟩
      first | exact ⟨_, _, _, _, _, _, _, _, _, _, _, _, _, _, _, hR, rfl⟩ | exact ⟨_, _, _, _, _, _, _, _, _, _, _, _, _, _, _, _, hR, rfl⟩ | exact ⟨_, _, _, _, _, _, _, _, _, _, _, _, _, _, _, _, _, hR, rfl⟩ | exact ⟨_, _, _, _, _, _, _, _, _, _, _, _, _, _, _, _, _, _, hR, rfl⟩ | exact ⟨_, _, _, _, _, _, _, _, _, _, _, _, _, _, _, _, _, _, _, hR, rfl⟩ | exact ⟨_, _, _, _, _, _, _, _, _, _, _, _, _, _, _, _, _, _, _, _, hR, rfl⟩ | exact ⟨_, _, _, _, _, _, _, _, _, _, _, _, _, _, _, _, _, _, _, _, _, hR, rfl⟩ | exact ⟨_, _, _, _, _, _, _, _, _, _, _, _, _, _, _, _, _, _, _, _, _, _, hR, rfl⟩ | exact ⟨_, _, _, _, _, _, _, _, _, _, _, _, _, _, _, _, _, _, _, _, _, _, _, hR, rfl⟩
     case measure => change (32 - (8 : Int)).toNat < (32 - (4 : Int)).toNat; decide
  · obtain ⟨X, cur', hc, hbx, hzx, hox, hjx⟩ := ones_copy (w := wr.drew) (p := 8) (k := 8) (dl := 24) (dc := 24) (sl := 8) (sc := 32) (a := ⟨w1.heap.size, 0, none⟩) (show wr.drew.heap[w1.heap.size]? = some (.cells cur 5 (0, 0)) from HB.out) HO.out (by
     intro j hj
     rw [show Addr.add ⟨w1.heap.size, 0, none⟩ j = ⟨w1.heap.size, j, none⟩ by unfold Addr.add; split <;> simp_all, blk_cell (show wr.drew.heap[w1.heap.size]? = some (.cells cur 5 (0, 0)) from HB.out) j]
     exact HO.out j hj) rfl (by have := HZ.out; omega)
    rw [show ((8 : Nat) : Int) = 8 from rfl] at hc ⊢
    have HBn := Lib.hid hbx
    have HOn := Lib.hid (show ∀ j, j < 16 → cur'[j]? = some (.int .u8 1) from hox)
    have HEn := Lib.hid (hjx.ext (HE.out.trans (Ext.drew _)) (Nat.le_refl _))
    have HZn := Lib.hid (show 32 ≤ cur'.size by have := HZ.out; omega)
    clear hbx hzx hox hjx HB HO HE HZ
    go_upto_region 20 with fail
    rw [show min (8 : Int) 32 = 8 from by decide]
    go_region_with fail
    all_goals
     go_roundw
     case rel =>
      have hR : ∃ (p : Nat) (cur : Array Value), Value.int .i64 16 = .int .i64 (p : Int) ∧ (p = 1 ∨ p = 2 ∨ p = 4 ∨ p = 8 ∨ p = 16 ∨ p = 32) ∧ Hid (X.heap[w1.heap.size]? = some (.cells cur 5 (0, 0))) ∧ Hid (∀ j, j < p → cur[j]? = some (.int .u8 1)) ∧ Hid (32 ≤ cur.size) ∧ Hid (Ext w1 X) := ⟨16, cur', rfl, by omega, HBn, HOn, HZn, HEn⟩
      first | exact ⟨_, _, _, _, _, _, _, _, _, _, _, _, _, _, _, hR, rfl⟩ | exact ⟨_, _, _, _, _, _, _, _, _, _, _, _, _, _, _, _, hR, rfl⟩ | exact ⟨_, _, _, _, _, _, _, _, _, _, _, _, _, _, _, _, _, hR, rfl⟩ | exact ⟨_, _, _, _, _, _, _, _, _, _, _, _, _, _, _, _, _, _, hR, rfl⟩ | exact ⟨_, _, _, _, _, _, _, _, _, _, _, _, _, _, _, _, _, _, _, hR, rfl⟩ | exact ⟨_, _, _, _, _, _, _, _, _, _, _, _, _, _, _, _, _, _, _, _, hR, rfl⟩ | exact ⟨_, _, _, _, _, _, _, _, _, _, _, _, _, _, _, _, _, _, _, _, _, hR, rfl⟩ | exact ⟨_, _, _, _, _, _, _, _, _, _, _, _, _, _, _, _, _, _, _, _, _, _, hR, rfl⟩ | exact ⟨_, _, _, _, _, _, _, _, _, _, _, _, _, _, _, _, _, _, _, _, _, _, _, hR, rfl⟩
     case measure => change (32 - (16 : Int)).toNat < (32 - (8 : Int)).toNat; decide
  · obtain ⟨X, cur', hc, hbx, hzx, hox, hjx⟩ := ones_copy (w := wr.drew) (p := 16) (k := 16) (dl := 16) (dc := 16) (sl := 16) (sc := 32) (a := ⟨w1.heap.size, 0, none⟩) (show wr.drew.heap[w1.heap.size]? = some (.cells cur 5 (0, 0)) from HB.out) HO.out (by
     intro j hj
     rw [show Addr.add ⟨w1.heap.size, 0, none⟩ j = ⟨w1.heap.size, j, none⟩ by unfold Addr.add; split <;> simp_all, blk_cell (show wr.drew.heap[w1.heap.size]? = some (.cells cur 5 (0, 0)) from HB.out) j]
     exact HO.out j hj) rfl (by have := HZ.out; omega)
    rw [show ((16 : Nat) : Int) = 16 from rfl] at hc ⊢
    have HBn := Lib.hid hbx
    have HOn := Lib.hid (show ∀ j, j < 32 → cur'[j]? = some (.int .u8 1) from hox)
    have HEn := Lib.hid (hjx.ext (HE.out.trans (Ext.drew _)) (Nat.le_refl _))
    have HZn := Lib.hid (show 32 ≤ cur'.size by have := HZ.out; omega)
    clear hbx hzx hox hjx HB HO HE HZ
    go_upto_region 20 with fail
    rw [show min (16 : Int) 32 = 16 from by decide]
    go_region_with fail
    all_goals
     go_roundw
     case rel =>
      have hR : ∃ (p : Nat) (cur : Array Value), Value.int .i64 32 = .int .i64 (p : Int) ∧ (p = 1 ∨ p = 2 ∨ p = 4 ∨ p = 8 ∨ p = 16 ∨ p = 32) ∧ Hid (X.heap[w1.heap.size]? = some (.cells cur 5 (0, 0))) ∧ Hid (∀ j, j < p → cur[j]? = some (.int .u8 1)) ∧ Hid (32 ≤ cur.size) ∧ Hid (Ext w1 X) := ⟨32, cur', rfl, by omega, HBn, HOn, HZn, HEn⟩
      first | exact ⟨_, _, _, _, _, _, _, _, _, _, _, _, _, _, _, hR, rfl⟩ | exact ⟨_, _, _, _, _, _, _, _, _, _, _, _, _, _, _, _, hR, rfl⟩ | exact ⟨_, _, _, _, _, _, _, _, _, _, _, _, _, _, _, _, _, hR, rfl⟩ | exact ⟨_, _, _, _, _, _, _, _, _, _, _, _, _, _, _, _, _, _, hR, rfl⟩ | exact ⟨_, _, _, _, _, _, _, _, _, _, _, _, _, _, _, _, _, _, _, hR, rfl⟩ | exact ⟨_, _, _, _, _, _, _, _, _, _, _, _, _, _, _, _, _, _, _, _, hR, rfl⟩ | exact ⟨_, _, _, _, _, _, _, _, _, _, _, _, _, _, _, _, _, _, _, _, _, hR, rfl⟩ | exact ⟨_, _, _, _, _, _, _, _, _, _, _, _, _, _, _, _, _, _, _, _, _, _, hR, rfl⟩ | exact ⟨_, _, _, _, _, _, _, _, _, _, _, _, _, _, _, _, _, _, _, _, _, _, _, hR, rfl⟩
     case measure => change (32 - (32 : Int)).toNat < (32 - (16 : Int)).toNat; decide
  · rw [show ((32 : Nat) : Int) = 32 from rfl]
    have hones : bys (List.replicate 32 1) = List.replicate 32 (Value.int .u8 1) := by simp [bys]
    have hRB : RB wr (fun k => k < wr.heap.size) (some ⟨w1.heap.size, 0, none⟩) 32 (List.replicate 32 1) := by
     refine ⟨⟨by simp, by unfold maxLen; omega, by simp [bys], fun _ => ⟨⟨w1.heap.size, 0, none⟩, rfl, blk_lt HB.out, fun j u hu => ?_⟩⟩, fun x hx => by rw [(List.mem_replicate.1 hx).2]; omega, by simp⟩
     rw [hones] at hu
     obtain ⟨h1, h2⟩ := List.getElem?_eq_some_iff.1 hu
     rw [List.length_replicate] at h1
     rw [List.getElem_replicate] at h2
     rw [show Addr.add ⟨w1.heap.size, 0, none⟩ j = ⟨w1.heap.size, j, none⟩ by unfold Addr.add; split <;> simp_all, blk_cell HB.out j, HO.out j h1, h2]
    have HRB := Lib.hid hRB
    clear hRB hones
    go_wp2_with fail
    go_ret
    exact ⟨_, rfl, HRB.out, HE.out⟩
end Go.Proofs.YtpbmaapdppdagaaGreatDoor

namespace Go.Proofs.YtpbmaapdppdagaaGreatDoor
open Go.RowKit
open Sha

theorem made32 (w : World) : RB (w.alloc (.cells (madeCells #[.int .u8 0] 32) 5)) (fun k => k < (w.alloc (.cells (madeCells #[.int .u8 0] 32) 5)).heap.size) (some ⟨w.heap.size, 0, none⟩) 32 (List.replicate 32 0) := by
 have := (Blk8.made w 32).rb (P := fun k => k < (w.alloc (.cells (madeCells #[.int .u8 0] 32) 5)).heap.size) (by rw [World.size_alloc]; omega) (by simp) (by simp)
 rwa [List.length_replicate] at this
def news (d : List Nat) : List Nat × List Nat := upd2 (List.replicate 32 0) (List.replicate 32 1) d
set_option maxRecDepth 100000 in
set_option maxHeartbeats 8000000 in
theorem new_any {P : Nat → Prop} {A : Option Addr} {c : Nat} {d : List Nat} (w : World) (hk : KW w) (hp : RB w P A c d) (hP : ∀ k, P k → k < w.heap.size) (hl : d.length ≤ 200000) :
 Calls Tryz.prog 8 #[.slice A d.length c] w fun e w' => ∃ b, e = .returned (.pointer (some ⟨b, 0, none⟩)) ∧ w.heap.size ≤ b ∧ DR w' b (news d).1 (news d).2 0 ∧ Ext w w' := by
 have HK := Lib.hid hk
 have HP := Lib.hid hp
 have HPP := Lib.hid hP
 clear hk hp hP
 go_enter Tryz.func8, Tryz.ntmps8
 go_upto_region 1 with fail
 refine Par.region_ext (by kernel_rfl) 6 [0, 0, 2, 7, 15, 31] [] (fun j f X => match j with
  | 0 => ∃ g, f 0 = .slice (some ⟨g, 0, none⟩) 32 32 ∧ RB X (fun k => k < X.heap.size) (some ⟨g, 0, none⟩) 32 (List.replicate 32 0)
  | 1 => ∃ g, f 1 = .slice (some ⟨g, 0, none⟩) 1 1 ∧ X.heap[g]? = some (.cells #[.int .u8 1] 5 (0, 0))
  | 2 => ∃ A, f 2 = .slice A 32 32 ∧ RB X (fun k => k < X.heap.size) A 32 (List.replicate 32 1)
  | 3 => ∃ g A, f 3 = .agg #[.slice (some ⟨g, 0, none⟩) 32 32, .slice A 32 32, .int .i64 0] ∧ RB X (fun k => k < X.heap.size) (some ⟨g, 0, none⟩) 32 (List.replicate 32 0) ∧ RB X (fun k => k < X.heap.size) A 32 (List.replicate 32 1)
  | 4 => ∃ b, f 4 = .pointer (some ⟨b, 0, none⟩) ∧ w.heap.size ≤ b ∧ DR X b (List.replicate 32 0) (List.replicate 32 1) 0
  | 5 => ∃ b, f 5 = .pointer (some ⟨b, 0, none⟩) ∧ w.heap.size ≤ b ∧ DR X b (List.replicate 32 0) (List.replicate 32 1) 0
  | _ => True) (by kernel_rfl) [(4, 0), (5, 1), (6, 2), (7, 3), (8, 4), (3, 5)] (by kernel_rfl) ?_
 refine Par.S 1 5 [(5, 1), (6, 2)] (fun f X hX hR K hK => ?_) ?_
 · have hmk := run_make_row' (P := Tryz.prog) 23 5 (.int .u8 0) 1 Tryz.underlying23 info8 rfl .i64 .i64 32 (by omega) (by omega)
   simp only [Int.cast_ofNat_Int] at hmk
   simp only [yA, yB, yC, yD, yE]
   refine ⟨?_⟩
   go_simp
   exact hK.out _ _ _ (by simp only [yA, yB, yC, yD, yE]) (Ext.alloc _ _) trivial (fun Y hY => ⟨_, rfl, (made32 X).upE hY⟩)
 refine Par.S 2 4 [(4, 0)] (fun f X hX hR K hK => ?_) ?_
 · simp only [yA, yB, yC, yD, yE]
   refine ⟨?_⟩
   go_simp
   exact hK.out _ _ _ (by simp only [yA, yB, yC, yD, yE]) (Ext.alloc _ _) trivial (fun Y hY => ⟨_, rfl, hY.at_ (heap_alloc_new _ _)⟩)
 refine Par.c0 3 3 (fun f => #[f 1, Value.int IntKind.i64 32]) (F' := 21) (fun f X hX hR => ?_) ?_
 · obtain ⟨g1, (e1 : f 1 = _), r1⟩ := hR.out 1 rfl
   simp only [e1]
   refine (repeat_one X r1).mono ?_
   rintro e w2 ⟨A2, rfl, hr, hE⟩
   exact ⟨_, rfl, hE, fun Y hY => ⟨A2, rfl, hr.upE hY⟩⟩
 refine Par.S 4 2 [(4, 0), (5, 1), (6, 2)] (fun f X hX hR K hK => ?_) ?_
 · obtain ⟨g0, (e0 : f 0 = _), r0⟩ := hR.out 0 rfl
   obtain ⟨A2, (e2 : f 2 = _), r2⟩ := hR.out 2 rfl
   simp only [yA, yB, yC, yD, yE, e0, e2]
   refine ⟨?_⟩
   go_simp
   exact hK.out _ _ _ (by simp only [yA, yB, yC, yD, yE, e0, e2]) (Ext.refl _) trivial (fun Y hY => ⟨_, _, rfl, r0.upE hY, r2.upE hY⟩)
 refine Par.S 5 1 [(4, 0), (5, 1), (6, 2), (7, 3)] (fun f X hX hR K hK => ?_) ?_
 · obtain ⟨g3, A3, (e3 : f 3 = _), r3, s3⟩ := hR.out 3 rfl
   simp only [yA, yB, yC, yD, yE, e3]
   refine ⟨?_⟩
   go_simp
   exact hK.out _ _ _ (by simp only [yA, yB, yC, yD, yE, e3]) (Ext.alloc _ _) trivial (fun Y hY => ⟨_, rfl, hX.bsize, DR.ext ⟨_, _, _, _, heap_alloc_new _ _, r3.upE (Ext.alloc _ _), s3.upE (Ext.alloc _ _), by simp, by simp⟩ hY⟩)
 refine Par.S 6 0 [(4, 0), (5, 1), (6, 2), (7, 3), (8, 4)] (fun f X hX hR K hK => ?_) ?_
 · obtain ⟨b4, (e4 : f 4 = _), l4, d4⟩ := hR.out 4 rfl
   simp only [yA, yB, yC, yD, yE, e4]
   refine ⟨?_⟩
   go_simp
   exact hK.out _ _ _ (by simp only [yA, yB, yC, yD, yE, e4]) (Ext.refl _) trivial (fun Y hY => ⟨_, rfl, l4, d4.ext hY⟩)
 refine Par.AllOps.fin ⟨fun f X hX hR hal hap => ?_⟩
 obtain ⟨g0, (e0 : f 0 = _), r0⟩ := hR 0 (by decide)
 obtain ⟨g1, (e1 : f 1 = _), r1⟩ := hR 1 (by decide)
 obtain ⟨A2, (e2 : f 2 = _), r2⟩ := hR 2 (by decide)
 obtain ⟨g3, A3, (e3 : f 3 = _), r3, s3⟩ := hR 3 (by decide)
 obtain ⟨b4, (e4 : f 4 = _), l4, d4⟩ := hR 4 (by decide)
 obtain ⟨b, (e5 : f 5 = _), lb, db⟩ := hR 5 (by decide)
 simp only [yA, yB, yD, yE, e0, e1, e2, e3, e4, e5]
 clear hR hal hap e0 e1 e2 e3 e4 e5
 refine Par.Chain.done ?_
 have H := Lib.hid (update_any X (HK.out.ext hX) db (HP.out.below hX HPP.out) (fun k hk => Nat.lt_of_lt_of_le (HPP.out k hk) hX.bsize) hl)
 clear r0 r1 r2 r3 s3 l4 d4 db HP HPP
 have HX := Lib.hid hX
 clear hX
 go_wp2_with fail
 refine H.out.mono ?_
 rintro e w1 ⟨rfl, hd, hf⟩
 have HD := Lib.hid hd
 have HF := Lib.hid (hf.ext' HX.out lb HX.out.bsize)
 clear hd hf H
 go_wp2_with fail
 go_ret
 exact ⟨b, rfl, lb, HD.out, HF.out⟩
end Go.Proofs.YtpbmaapdppdagaaGreatDoor

namespace Go.Proofs.YtpbmaapdppdagaaGreatDoor
open Go.RowKit
open Sha

attribute [local go_sem] Oper.semAt_some

theorem clone_nil (w : World) : Calls Tryz.prog 17 #[.slice none 0 0] w fun e w' => e = .returned (.slice none 0 0) ∧ Ext w w' := by
 refine (cloneO (fun _ => False) none 0 [] w (RB.nil_ w (fun _ => False)) (fun _ h => h.elim) (fun _ => ⟨rfl, rfl⟩) (by simp)).mono ?_
 rintro e w' ⟨A', c', rfl, _, h, hE⟩
 obtain ⟨rfl, rfl⟩ := h rfl
 exact ⟨rfl, hE⟩
set_option maxRecDepth 100000 in
set_option maxHeartbeats 4000000 in
theorem new_dig {k : Int} (h : Dig2 k) (D : Addr) (w : World) : Calls Tryz.prog 7 #[.int .i64 1, .agg #[.int .i64 k, .slice none 0 0], .slice none 0 0, .pointer (some D)] w fun e w' => ∃ b, e = .returned (.tuple #[.pointer (some ⟨b, 0, none⟩), .int .i64 0]) ∧ OB9 w' b k (some D) none 0 0 false false ∧ w.heap.size ≤ b ∧ Ext w w' := by
 have hq := heap_alloc_new w (.cells #[.int .i64 k, .slice none 0 0] 31)
 have hE := Ext.alloc w (.cells #[.int .i64 k, .slice none 0 0] 31)
 obtain ⟨g, hg⟩ : ∃ g, w.heap.size = g := ⟨_, rfl⟩
 rw [hg] at hq
 obtain ⟨W0, hW0⟩ : ∃ W0, w.alloc (.cells #[.int .i64 k, .slice none 0 0] 31) = W0 := ⟨_, rfl⟩
 rw [hW0] at hq hE
 have hma := Lib.hid (may_dig h W0)
 have HE := Lib.hid hE
 have Hq := Lib.hid hq
 have Hg := Lib.hid hg
 obtain ⟨y0, y1⟩ := twoC hq
 clear hq hE
 go_enter Tryz.func7, Tryz.ntmps7
 go_upto_region 1 with fail
 try rw [hW0, hg]
 clear hW0 hg
 go_wp2_with fail
 refine hma.out.mono ?_
 rintro e w1 ⟨rfl, hE1⟩
 have Hq1 := Lib.hid (hE1.at_ Hq.out)
 have HE1 := Lib.hid (HE.out.trans hE1)
 clear y0 y1 hE1 hma
 go_upto_region 13 with fail
 obtain ⟨y0, y1⟩ := twoC Hq1.out
 rename World => w1
 refine Par.region_ext (by kernel_rfl) 11 [0, 0, 2, 0, 8, 24, 62, 0, 255, 511, 1023] [] (fun j f X => match j with
  | 0 => f 0 = .int .i64 1
  | 1 => f 1 = .pointer (some ⟨g, 0, none⟩)
  | 2 => f 2 = .int .i64 k
  | 3 => f 3 = .pointer (some ⟨g, 1, none⟩)
  | 4 => f 4 = .slice none 0 0
  | 5 => f 5 = .slice none 0 0
  | 6 => f 6 = .agg #[.int .i64 k, .slice none 0 0]
  | 7 => f 7 = .pointer (some D)
  | 8 => f 8 = .agg #[.int .i64 1, .int .i64 k, .slice none 0 0, .slice none 0 0, .pointer (some D), .pointer none, .slice none 0 0, .bool false, .bool false]
  | 9 => ∃ b, f 9 = .pointer (some ⟨b, 0, none⟩) ∧ w1.heap.size ≤ b ∧ OB9 X b k (some D) none 0 0 false false
  | 10 => ∃ b, f 10 = .pointer (some ⟨b, 0, none⟩) ∧ w1.heap.size ≤ b ∧ OB9 X b k (some D) none 0 0 false false
  | _ => True) (by kernel_rfl) [(32, 0), (33, 1), (34, 2), (35, 3), (36, 4), (37, 5), (38, 6), (39, 7), (40, 8), (41, 9), (11, 10)] (by kernel_rfl) ?_
 refine Par.v0 1 10 ?_
 refine Par.v0 2 9 ?_
 refine Par.ld1 3 8 1 y0 ?_
 refine Par.v0 4 7 ?_
 refine Par.ld1 5 6 3 y1 ?_
 refine Par.c0 6 5 (fun f => #[f 4]) (F' := 17) (fun f X hX hR => ?_) ?_
 · have e4 : f 4 = _ := hR.out 4 rfl
   simp only [e4]
   refine (clone_nil X).mono ?_
   rintro e w2 ⟨rfl, hE⟩
   exact ⟨(.slice none 0 0), rfl, hE, fun _ _ => rfl⟩
 refine Par.v2 7 4 2 5 ?_
 refine Par.v0 8 3 ?_
 refine Par.S 9 2 [(32, 0), (33, 1), (34, 2), (35, 3), (36, 4), (37, 5), (38, 6), (39, 7)] (fun f X hX hR K hK => ?_) ?_
 · have e0 : f 0 = _ := hR.out 0 rfl
   have e6 : f 6 = _ := hR.out 6 rfl
   have e7 : f 7 = _ := hR.out 7 rfl
   simp only [yA, yB, yC, yD, yE, e0, e6, e7]
   refine ⟨?_⟩
   go_simp
   exact Par.k hK (s := by simp only [yA, yB, yC, yD, yE, e0, e6, e7])
 refine Par.S 10 1 [(32, 0), (33, 1), (34, 2), (35, 3), (36, 4), (37, 5), (38, 6), (39, 7), (40, 8)] (fun f X hX hR K hK => ?_) ?_
 · have e8 : f 8 = _ := hR.out 8 rfl
   simp only [yA, yB, yC, yD, yE, e8]
   refine ⟨?_⟩
   go_simp
   exact hK.out _ _ _ (by simp only [yA, yB, yC, yD, yE, e8]) (Ext.alloc _ _) trivial (fun Y hY => ⟨_, rfl, hX.bsize, OB9.ext (heap_alloc_new _ _) hY⟩)
 refine Par.S 11 0 [(32, 0), (33, 1), (34, 2), (35, 3), (36, 4), (37, 5), (38, 6), (39, 7), (40, 8), (41, 9)] (fun f X hX hR K hK => ?_) ?_
 · obtain ⟨b9, (e9 : f 9 = _), l9, o9⟩ := hR.out 9 rfl
   simp only [yA, yB, yC, yD, yE, e9]
   refine ⟨?_⟩
   go_simp
   exact hK.out _ _ _ (by simp only [yA, yB, yC, yD, yE, e9]) (Ext.refl _) trivial (fun Y hY => ⟨_, rfl, l9, o9.ext hY⟩)
 refine Par.AllOps.fin ⟨fun f X hX hR hal hap => ?_⟩
 obtain ⟨b9, (e9 : f 9 = _), l9, o9⟩ := hR 9 (by decide)
 obtain ⟨b, (e10 : f 10 = _), lb, ob⟩ := hR 10 (by decide)
 simp only [yA, yB, yD, yE, e9, e10]
 clear hR hal hap e9 e10
 refine Par.Chain.done ?_
 have HX := Lib.hid (HE1.out.trans hX)
 have HO := Lib.hid ob
 have Hl := Lib.hid (Nat.le_trans HE1.out.bsize lb)
 replace y0 := hX.cell y0
 clear ob lb o9 l9 hX
 rename World => w2
 go_wp2_with fail
 go_loopw [44] (fun iv wr => iv = .int .i64 0 ∧ wr = w2) (fun _ _ => 0)
 case atStart => exact ⟨rfl, rfl⟩
 case round =>
  obtain ⟨rfl, rfl⟩ := hrel
  go_wp2_with fail
  refine (mode_dig h wr).mono ?_
  rintro e w3 ⟨rfl, rfl⟩
  clear y0 y1
  go_wp2_with fail
  go_ret2
  exact ⟨b, rfl, HO.out, Hl.out, HX.out⟩
set_option maxRecDepth 100000 in
theorem new_nodrbg (k : Int) (w : World) : Calls Tryz.prog 7 #[.int .i64 1, .agg #[.int .i64 k, .slice none 0 0], .slice none 0 0, .pointer none] w fun e w' => e = .returned (.tuple #[.pointer none, .int .i64 7]) ∧ Ext w w' := by
 go_enter Tryz.func7, Tryz.ntmps7
 go_wp2
 go_ret2
 exact ⟨rfl, Ext.alloc _ _⟩
end Go.Proofs.YtpbmaapdppdagaaGreatDoor
