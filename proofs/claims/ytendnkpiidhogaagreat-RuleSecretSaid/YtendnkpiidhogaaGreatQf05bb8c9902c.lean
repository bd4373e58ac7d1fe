/- der.OID: the node of an identifier. Bytes as a string. The curves' names in bytes; keyfmt.name, keyfmt.params; bytes.Equal. keyfmt.which: the curve that a node names. keyfmt.ReadParams, the program's side alone. zfield: an element; Zero. Montgomery's product on a row of fixed length: plain law. zfield: a field's record; below takes the prime off, if there is too much. zfield: Add. zfield: Sub. zfield's Mul: plain law of one round. -/
import Derived.Test.YtendnkpiidhogaaGreatQ26e76124ead5
import Derived.Laws.BytesArg
import Derived.Lib.Bytes
import Derived.ChangeKeysEq
import Derived.Laws.StructEq
import Derived.StillTailTactics
import Derived.Deep.RegionHeld3
import Derived.RegionTactic
import Derived.Deep.RegionWith
namespace Go.Proofs.YtendnkpiidhogaaGreat.Der
open Go.RowKit Go.Shelf

attribute [local go_sem] Oper.semAt_some

theorem ow_up {w X : World} {base : Nat} {A : Option Addr} {c : Nat} {bs : List Nat} (h : OW w base A c bs) (hY : Below w.heap.size w X) : OW X base A c bs :=
 OW.ext h ⟨hY.os, hY.tape, hY.output, hY.size, fun k hk _ => hY.block k hk⟩
theorem oid_step {l : List Int} {k z : Nat} (hk : k + 2 < l.length) (hz : l.getD (k + 2) 0 = (z : Int)) {bb : List Nat} : bb ++ ((l.drop 2).take k).flatMap (fun z => b128 z.toNat) ++ b128 z = bb ++ ((l.drop 2).take (k + 1)).flatMap (fun z => b128 z.toNat) := by
 have hd : k < (l.drop 2).length := by rw [List.length_drop]; omega
 rw [List.take_succ_eq_append_getElem hd, List.flatMap_append, List.append_assoc]
 congr 2
 have : (l.drop 2)[k] = (z : Int) := by rw [← hz, gD _ _ hk, List.getElem_drop]; congr 1; omega
 rw [this]; simp
set_option maxRecDepth 100000 in
set_option maxHeartbeats 4000000 in
theorem oid_any (P : Nat → Prop) (g c : Nat) (l : List Int) (w : World) (hv : RZ w P (some ⟨g, 0, none⟩) c l) (hP : ∀ b, P b → b < w.heap.size) (hl : 3 ≤ l.length ∧ l.length ≤ 100) (h0 : l.getD 0 0 = 1) (h1 : 0 ≤ l.getD 1 0 ∧ l.getD 1 0 ≤ 39) (ha : ∀ k, 0 ≤ l.getD k 0 ∧ l.getD k 0 < 268435456) :
 Calls Tryz.prog 235 #[.slice (some ⟨g, 0, none⟩) l.length c] w fun e w' => (∃ A1 c1, e = .returned (.tuple #[.agg #[.int .i64 6, .slice A1 (oidOf l).length c1, .slice none 0 0], .bool true]) ∧ RB w' (In w.heap.size w'.heap.size) A1 c1 (oidOf l)) ∧ Below w.heap.size w w' := by
 obtain ⟨hlc, hc⟩ := (show l.length ≤ c ∧ c ≤ 9223372036854775807 from ⟨hv.1, hv.2.1⟩)
 have hB0 := (Below.refl w.heap.size w).alloc (Nat.le_refl _) (.cells #[.int .i64 0, .slice none 0 0, .slice none 0 0] 172)
 have hb0 := heap_alloc_new w (.cells #[.int .i64 0, .slice none 0 0, .slice none 0 0] 172)
 have hz0 : (w.alloc (.cells #[.int .i64 0, .slice none 0 0, .slice none 0 0] 172)).heap.size = w.heap.size + 1 := by simp
 obtain ⟨W0, hW0⟩ : ∃ W0, w.alloc (.cells #[.int .i64 0, .slice none 0 0, .slice none 0 0] 172) = W0 := ⟨_, rfl⟩
 rw [hW0] at hB0 hb0 hz0
 have hv0 := hv.below hB0 hP
 obtain ⟨a, ea, hPg, x0⟩ := hv0.at_ (i := 0) (by omega)
 injection ea with ea
 subst ea
 obtain ⟨a', ea, _, x1⟩ := hv0.at_ (i := 1) (by omega)
 injection ea with ea
 subst ea
 have H0' := Lib.hid h0
 rw [h0] at x0
 obtain ⟨y, hy⟩ : ∃ y, l.getD 1 0 = y := ⟨_, rfl⟩
 rw [hy] at x1 h1
 simp [Addr.add] at x0 x1
 have y0 := x0
 have y1 := x1
 rw [← hW0] at y0 y1
 have HW := Lib.hid hW0
 have HB0 := Lib.hid hB0
 have Hb0 := Lib.hid hb0
 have Hz0 := Lib.hid hz0
 have HA := Lib.hid ha
 have Hy := Lib.hid hy
 have k0 : ¬ (l.length : Int) < 2 := by omega
 have k1 : ¬ (39 : Int) < y := by omega
 clear hB0 hb0 hz0 hW0 h0 ha hy
 go_enter Tryz.func235, Tryz.ntmps235
 go_wp2
 rw [HW.out]
 clear y0 y1
 go_loopw [33] (fun i wr => ∃ k : Nat, k ≤ l.length ∧ i = .int .i64 k ∧ ∃ d, wr = W0.drewN d) (fun i _ => l.length - (intOf i).toNat)
 case atStart => exact ⟨0, by omega, rfl, 0, rfl⟩
 case round =>
  obtain ⟨k, hk, rfl, d, rfl⟩ := hrel
  by_cases hlt : k < l.length
  · obtain ⟨a, ea, _, hx⟩ := (hv0.keep (w' := W0.drewN d) fun _ _ => rfl).at_ hlt
    injection ea with ea
    subst ea
    have h1 := HA.out k
    obtain ⟨z, hz⟩ : ∃ z, l.getD k 0 = z := ⟨_, rfl⟩
    rw [hz] at hx h1
    have hx' : (W0.drewN d).cell? ⟨g, k, none⟩ = some (.int .i64 z) := by
     have e : Addr.add ⟨g, 0, none⟩ k = ⟨g, k, none⟩ := by by_cases h : k = 0 <;> simp [Addr.add, h]
     rw [← e]; exact hx
    clear hx
    have Hz := Lib.hid hz
    clear hz
    have k2 : ¬ z < 0 := by omega
    have k3 : ¬ 268435456 < z := by omega
    go_wp2
    go_roundw
    case rel => exact ⟨k + 1, by omega, by go_num, d, rfl⟩
    case measure => simp [intOf]; omega
  · obtain rfl : k = l.length := by omega
    have X0 : (W0.drewN d).cell? ⟨g, 0, none⟩ = some (.int .i64 1) := x0
    have X1 : (W0.drewN d).cell? ⟨g, 1, none⟩ = some (.int .i64 y) := x1
    obtain ⟨yn, hyn⟩ : ∃ yn : Nat, y = (yn : Int) := ⟨y.toNat, by omega⟩
    subst hyn
    have HD := fun X => digits_any (40 + yn) X (by omega)
    obtain ⟨bb, hbb⟩ : ∃ bb, b128 (40 + yn) = bb := ⟨_, rfl⟩
    simp only [hbb] at HD
    have hbl : bb.length ≤ 10 := hbb ▸ b128_len _
    have Hbb := Lib.hid hbb
    clear hbb
    simp only [Int.natCast_add, Int.cast_ofNat_Int] at HD
    have HDD := Lib.hid HD
    have hwr : IntKind.i64.wrap (40 + (yn : Int)) = 40 + (yn : Int) := by rw [IntKind.wrap_i64]; omega
    clear k0 k1 hk hlt x0 x1 HD
    go_wp2_with fail
    refine Par.region_ext (by kernel_rfl) 10 [0, 1, 3, 7, 0, 16, 48, 127, 255, 511] [] (fun j f X => match j with
     | 0 => f 0 = .slice (some ⟨g, 0, none⟩) l.length c
     | 1 => f 1 = .pointer (some ⟨g, 0, none⟩)
     | 2 => f 2 = .int .i64 1
     | 3 => f 3 = .int .i64 40
     | 4 => f 4 = .slice (some ⟨g, 0, none⟩) l.length c
     | 5 => f 5 = .pointer (some ⟨g, 1, none⟩)
     | 6 => f 6 = .int .i64 (yn : Int)
     | 7 => f 7 = .int .i64 (40 + (yn : Int))
     | 8 => ∃ A8 c8, f 8 = .slice A8 bb.length c8 ∧ OW X W0.heap.size A8 c8 bb
     | 9 => ∃ A8 c8, f 9 = .slice A8 bb.length c8 ∧ OW X W0.heap.size A8 c8 bb
     | _ => True) (by kernel_rfl) [(45, 0), (46, 1), (47, 2), (48, 3), (49, 4), (50, 5), (51, 6), (52, 7), (53, 8), (6, 9)] (by kernel_rfl) ?_
    refine Par.v0 1 9 ?_
    refine Par.S 2 8 [(45, 0), (49, 4), (50, 5), (51, 6)] (fun f X hX hR K hK => ?_) ?_
    · have e0 : f 0 = _ := hR.out 0 rfl
      have q1 : 0 < l.length := by omega
      simp only [yA, yB, yC, yD, yE, e0]
      refine ⟨?_⟩
      go_simp
      exact Par.k hK (s := by simp only [yA, yB, yC, yD, yE, e0])
    refine Par.ld1 3 7 1 X0 ?_
    refine Par.v1 4 6 2 ?_
    refine Par.v0 5 5 ?_
    refine Par.S 6 4 [(45, 0), (46, 1), (47, 2), (48, 3), (49, 4)] (fun f X hX hR K hK => ?_) ?_
    · have e4 : f 4 = _ := hR.out 4 rfl
      have q5 : 1 < l.length := by omega
      have q6 : (1 : Int) < (l.length : Int) := by omega
      simp only [yA, yB, yC, yD, yE, e4]
      refine ⟨?_⟩
      go_simp
      exact Par.k hK (s := by simp only [yA, yB, yC, yD, yE, e4])
    refine Par.ld1 7 3 5 X1 ?_
    refine Par.v2 8 2 3 6 (hR := fun _ _ h => h.trans ((congrArg (Value.int .i64) hwr))) ?_
    refine Par.c0 9 1 (fun f => #[f 7]) (F' := 240) (fun f X hX hR => ?_) ?_
    · have e7 : f 7 = _ := hR.out 7 rfl
      simp only [e7]
      refine (HDD.out X).mono ?_
      rintro e w2 ⟨A8, c8, rfl, hO8, hB⟩
      exact ⟨(.slice A8 bb.length c8), rfl, hB, fun Y hY => ⟨A8, c8, rfl, ow_up (ow_lower hO8 hX.bsize) hY⟩⟩
    refine Par.S 10 0 [(45, 0), (46, 1), (47, 2), (48, 3), (49, 4), (50, 5), (51, 6), (52, 7), (53, 8)] (fun f X hX hR K hK => ?_) ?_
    · obtain ⟨A8, c8, (e8 : f 8 = _), r8⟩ := hR.out 8 rfl
      simp only [yA, yB, yC, yD, yE, e8]
      refine ⟨?_⟩
      go_simp
      exact hK.out _ (.slice A8 bb.length c8) _ (by simp only [yA, yB, yC, yD, yE, e8]) (Ext.refl _) trivial (fun Y hY => ⟨A8, c8, rfl, ow_up r8 hY⟩)
    refine Par.AllOps.fin ⟨fun f X hX hR hal hap => ?_⟩
    obtain ⟨A8, c8, (e8 : f 8 = _), r8⟩ := hR 8 (by decide)
    obtain ⟨A9, c9, (e9 : f 9 = _), r9⟩ := hR 9 (by decide)
    simp only [yA, yB, yD, yE, e8, e9]
    clear hR hal hap e8 e9
    refine Par.Chain.done ?_
    have hXB : Below W0.heap.size W0 X := Below.trans (below_drewN (Below.refl _ W0) d) hX
    have e9' := r9
    have HO9 := Lib.hid r9
    have HXB := Lib.hid hXB
    clear r9 e9' hXB hX X0 X1 HDD hwr
    have m0 : (0 : Int) ≤ 2 := by omega
    have m1 : (2 : Int) ≤ (l.length : Int) := by omega
    have m2 : ¬ (c : Int) = 2 := by omega
    have m3 : ¬ c = 2 := by omega
    have m4 : (2 : Int) ≤ (c : Int) := by omega
    go_wp2
    go_loopw [6, 57] (fun s i wr => ∃ (k : Nat) (A6 : Option Addr) (c6 : Nat) (bs : List Nat), k + 2 ≤ l.length ∧ i = .int .i64 k ∧ s = .slice A6 bs.length c6 ∧ OW wr W0.heap.size A6 c6 bs ∧ bs.length ≤ 10 + 10 * k ∧ bs = bb ++ ((l.drop 2).take k).flatMap (fun z => b128 z.toNat) ∧ Below W0.heap.size W0 wr) (fun _ i _ => l.length - (intOf i).toNat)
    case atStart => exact ⟨0, A9, c9, bb, by omega, rfl, rfl, HO9.out, by omega, by simp, HXB.out⟩
    case round =>
     clear HO9 HXB r8
     obtain ⟨k, A6, c6, bs, hk, rfl, rfl, hO6, hl6, hbs, hB⟩ := hrel
     have HBs := Lib.hid hbs
     clear hbs
     have hs := hB.size
     by_cases hlt : k + 2 < l.length
     · obtain ⟨a, ea, _, hx⟩ := (hv0.below hB (fun b hb => by have := hP b hb; have := Hz0.out; omega)).at_ (i := k + 2) hlt
       injection ea with ea
       subst ea
       have h1 := HA.out (k + 2)
       obtain ⟨z, hz⟩ : ∃ z, l.getD (k + 2) 0 = z := ⟨_, rfl⟩
       rw [hz] at hx h1
       obtain ⟨zn, hzn⟩ : ∃ zn : Nat, z = (zn : Int) := ⟨z.toNat, by omega⟩
       subst hzn
       have hx' : wr.cell? ⟨g, 2 + k, none⟩ = some (.int .i64 (zn : Int)) := by
        have e : Addr.add ⟨g, 0, none⟩ (k + 2) = ⟨g, 2 + k, none⟩ := by simp [Addr.add]; omega
        rw [← e]; exact hx
       have HO6 := Lib.hid hO6
       have k1 : k < l.length - 2 := by omega
       have k1' : (k : Int) < ((l.length - 2 : Nat) : Int) := by omega
       have HD := Lib.hid (digits_any zn wr (by omega))
       have hl7 := b128_len zn
       have HSt := Lib.hid (oid_step (bb := bb) hlt hz)
       obtain ⟨b7, hb7⟩ : ∃ b7, b128 zn = b7 := ⟨_, rfl⟩
       rw [hb7] at HD hl7 HSt
       clear hx hO6 hz hb7
       go_wp2_with fail
       refine HD.out.mono ?_
       rintro e w2 ⟨A7, c7, rfl, hO7, hB7⟩
       have HO7 := Lib.hid (hO7.rb (by omega))
       have HO8 := Lib.hid (ow_up HO6.out hB7)
       have HB7 := Lib.hid (hB.trans (hB7.mono hs))
       have hs7 := HB7.out.size
       clear hO7 hB7 HO6 HD
       go_wp2_with (at_builtin; refine app8 rfl (.tmp 61) (.tmp 63) rfl W0.heap.size (bs := bs) rfl HO8.out rfl HO7.out (by omega) hs7 ?_; intro A2 c2 w3 hw3 hb3)
       have HB8 := Lib.hid (HB7.out.trans hb3)
       have HW3 := Lib.hid hw3
       clear hw3 hb3
       go_roundw
       case rel => exact ⟨k + 1, A2, c2, bs ++ b7, by omega, by go_num, by rw [List.length_append], HW3.out, by rw [List.length_append]; omega, by rw [HBs.out]; exact HSt.out, HB8.out⟩
       case measure => simp [intOf]; omega
     · have hk2 : k = l.length - 2 := by omega
       have k1 : ¬ k < l.length - 2 := by omega
       have k1' : ¬ (k : Int) < ((l.length - 2 : Nat) : Int) := by omega
       have hbo : bs = oidOf l := by
        rw [HBs.out, hk2, List.take_of_length_le (by simp), ← Hbb.out]
        unfold oidOf
        rw [H0'.out, Hy.out]; rfl
       have HBo := Lib.hid hbo
       have HOr := Lib.hid (hO6.rb (by omega))
       have Hs0 := Lib.hid (Hz0.out)
       clear hbo
       have hb1 := (hB.block w.heap.size (by have := Hz0.out; omega)).trans Hb0.out
       have HBB := Lib.hid (HB0.out.trans (hB.mono (by have := Hz0.out; omega)))
       obtain ⟨s, hs0⟩ : ∃ s, w.heap.size = s := ⟨_, rfl⟩
       rw [hs0] at hb1 HBB
       have q0 := blk_cell hb1 0
       have q1 := blk_cell hb1 1
       have q2 := blk_cell hb1 2
       have p0 := blk_free hb1 0
       have p1 := blk_free hb1 1
       have p2 := blk_free hb1 2
       simp only [List.getElem?_toArray, List.getElem?_cons_zero, List.getElem?_cons_succ] at q0 q1 q2
       have r := set3 hb1 (.int .i64 6) (.slice A6 bs.length c6) (.slice none 0 0)
       have r0 := blk_cell r 0
       have r1 := blk_cell r 1
       have r2 := blk_cell r 2
       simp only [List.getElem?_toArray, List.getElem?_cons_zero, List.getElem?_cons_succ] at r0 r1 r2
       have R0 := Lib.hid r0
       have R1 := Lib.hid r1
       have R2 := Lib.hid r2
       clear r r0 r1 r2 hb1 hO6 hB hk2
       go_wp2
       have r0 := R0.out
       have r1 := R1.out
       have r2 := R2.out
       refine bodyPost_ret (v := .tuple #[.agg #[.int .i64 6, .slice A6 bs.length c6, .slice none 0 0], .bool true]) (by simp [results, Tryz.results235, go_sem, r0, r1, r2]) rfl ⟨⟨A6, c6, by rw [← HBo.out], ?_⟩, ?_⟩
       · rw [← HBo.out]
         refine (HOr.out.keep fun p hp => World.cell?_of_block ?_).mono fun q hq => ⟨by have := hq.1; have := Hs0.out; omega, by have := hq.2; simpa [World.setCell] using this⟩
         have hq : p.block ≠ s := by have := hp.1; have := Hs0.out; omega
         exact (Below.heap_setCell _ _ _ _ hq).trans ((Below.heap_setCell _ _ _ _ hq).trans (Below.heap_setCell _ _ _ _ hq))
       · exact ((HBB.out.setCell (p := ⟨s, 0, none⟩) (Nat.le_refl _) _).setCell (p := ⟨s, 1, none⟩) (Nat.le_refl _) _).setCell (p := ⟨s, 2, none⟩) (Nat.le_refl _) _
end Go.Proofs.YtendnkpiidhogaaGreat.Der

namespace Go.Proofs.YtendnkpiidhogaaGreat
open Go.RowKit

def strB (bs : List Nat) : ByteArray := strOfNums (bs.map fun b : Nat => (b : Int))
theorem strB_inj {a b : List Nat} (ha : ∀ x ∈ a, x < 256) (hb : ∀ x ∈ b, x < 256) (h : (strB a).toList = (strB b).toList) : a = b := by
 have e : ∀ l : List Nat, (∀ x ∈ l, x < 256) → (strB l).toList.map UInt8.toNat = l := by
  intro l hl
  rw [strB, Lib.strOfNums_toList, Lib.bytesOf]
  simp only [List.map_map]
  conv => rhs; rw [← List.map_id l]
  apply List.map_congr_left
  intro x hx
  have := hl x hx
  simp
  omega
 rw [← e a ha, ← e b hb, h]

section
variable {w : World} {Q : Nat → Prop} {A : Option Addr} {c : Nat} {bs : List Nat}
theorem RB.str {P : Program} (h : RB w Q A c bs) (src e dst : TypeId) (hs : P.underlying src = some (.slice e)) (he : P.underlying e = some (.int .u8)) (hd : P.underlying dst = some .string) :
 (convert src dst (.slice A bs.length c)).run P w = .ok (.string (strB bs)) w := by
 rcases A with _ | ad
 · have hl : bs.length = 0 := by
    rcases Nat.eq_zero_or_pos bs.length with h0 | h0
    · exact h0
    · obtain ⟨ad, h, _⟩ := h.1.2.2.2 h0
      cases h
   obtain rfl := List.eq_nil_of_length_eq_zero hl
   rw [run_convert_bytes_nil w src e hs he _ _ dst hd]
   rfl
 · have hc : ∀ j v, (bys bs)[j]? = some v → w.cell? (ad.add j) = some v := by
    intro j v hj
    rcases Nat.eq_zero_or_pos bs.length with h0 | h0
    · obtain rfl := List.eq_nil_of_length_eq_zero h0
      simp [bys] at hj
    · obtain ⟨ad', h, _, hc⟩ := h.1.2.2.2 h0
      injection h with h
      subst h
      exact hc j v hj
   have hl : (loadCells ad bs.length).run P w = .ok ((bs.map fun b : Nat => (b : Int)).map (Value.int .u8)).toArray w := by
    have := run_loadCells_list (P := P) w ad (bys bs) hc
    simpa [bys, Function.comp_def] using this
   rw [run_convert_bytes_string w src dst e _ _ c hs he hd, run_bytesToString w _ _ c _ hl, foldl_push_bytes]
   simp [strB, strOfNums, ByteArray.empty, ByteArray.emptyWithCapacity]
   rfl
end

end Go.Proofs.YtendnkpiidhogaaGreat

namespace Go.Proofs.YtendnkpiidhogaaGreat.Der
open Go.RowKit Go.Shelf

attribute [local go_sem] Oper.semAt_some

def oid1 : List Nat := [42, 134, 72, 206, 61, 3, 1, 7]
def oid2 : List Nat := [43, 129, 4, 0, 34]
theorem oid1_eq : oidOf [1, 2, 840, 10045, 3, 1, 7] = oid1 := by decide
theorem oid2_eq : oidOf [1, 3, 132, 0, 34] = oid2 := by decide

theorem bequal_any (P P' : Nat → Prop) (A A' : Option Addr) (c c' : Nat) (bs bs' : List Nat) (w : World) (h : RB w P A c bs) (h' : RB w P' A' c' bs') :
 Calls Tryz.prog 85 #[.slice A bs.length c, .slice A' bs'.length c'] w fun e w' => e = .returned (.bool (decide (bs = bs'))) ∧ w = w' := by
 have s1 := h.str (P := Tryz.prog) 33 5 9 Tryz.underlying33 Tryz.underlying5 Tryz.underlying9
 have s2 := h'.str (P := Tryz.prog) 33 5 9 Tryz.underlying33 Tryz.underlying5 Tryz.underlying9
 by_cases e : bs = bs'
 · subst e
   go_enter Tryz.func85, Tryz.ntmps85
   go_wp2
   go_ret
   exact ⟨by simp, rfl⟩
 · have hne : ((strB bs).toList == (strB bs').toList) = false := by
    rw [beq_eq_false_iff_ne]
    exact fun h1 => e (strB_inj h.2.1 h'.2.1 h1)
   go_enter Tryz.func85, Tryz.ntmps85
   go_wp2
   go_ret
   exact ⟨by simp [e], rfl⟩

set_option maxRecDepth 100000 in
set_option maxHeartbeats 4000000 in
theorem kname_any (P : Nat → Prop) (g c : Nat) (l : List Int) (w : World) (hv : RZ w P (some ⟨g, 0, none⟩) c l) (hP : ∀ b, P b → b < w.heap.size) (hl : 3 ≤ l.length ∧ l.length ≤ 100) (h0 : l.getD 0 0 = 1) (h1 : 0 ≤ l.getD 1 0 ∧ l.getD 1 0 ≤ 39) (ha : ∀ k, 0 ≤ l.getD k 0 ∧ l.getD k 0 < 268435456) :
 Calls Tryz.prog 219 #[.slice (some ⟨g, 0, none⟩) l.length c] w fun e w' => (∃ A1 c1, e = .returned (.agg #[.int .i64 6, .slice A1 (oidOf l).length c1, .slice none 0 0]) ∧ RB w' (In w.heap.size w'.heap.size) A1 c1 (oidOf l)) ∧ Below w.heap.size w w' := by
 have hB := (Below.refl w.heap.size w).alloc (Nat.le_refl _) (.cells #[.int .i64 0, .slice none 0 0, .slice none 0 0] 172)
 have hb := heap_alloc_new w (.cells #[.int .i64 0, .slice none 0 0, .slice none 0 0] 172)
 have hz : (w.alloc (.cells #[.int .i64 0, .slice none 0 0, .slice none 0 0] 172)).heap.size = w.heap.size + 1 := by simp
 have hO := oid_any P g c l _ (hv.below hB hP) (fun b hb => by have := hP b hb; rw [hz]; omega) hl h0 h1 ha
 have HB := Lib.hid hB
 have H0 := Lib.hid hb
 have Hz := Lib.hid hz
 obtain ⟨bb, hbb⟩ : ∃ bb, oidOf l = bb := ⟨_, rfl⟩
 rw [hbb] at hO ⊢
 have HO := Lib.hid hO
 clear hB hb hz hO hv hP hl h0 h1 ha hbb
 go_enter Tryz.func219, Tryz.ntmps219
 go_wp2_with fail
 obtain ⟨s, hs⟩ : ∃ s, w.heap.size = s := ⟨_, rfl⟩
 rw [hs] at HB H0 Hz ⊢
 have Hs := Lib.hid hs
 clear hs
 generalize w.alloc (.cells #[.int .i64 0, .slice none 0 0, .slice none 0 0] 172) = W1 at *
 refine HO.out.mono ?_
 rintro e w2 ⟨⟨A1, c1, rfl, hr1⟩, hB2⟩
 obtain ⟨n, hn⟩ : ∃ n, bb.length = n := ⟨_, rfl⟩
 rw [hn]
 have Hn := Lib.hid hn
 have Hr1 := Lib.hid hr1
 clear hn hr1
 have h2 := (hB2.block s (by have := Hz.out; omega)).trans H0.out
 have hlt : s < w2.heap.size := by have := Hz.out; have := hB2.size; omega
 have HB3 := Lib.hid (HB.out.trans (hB2.mono (by have := Hz.out; omega)))
 have H2 := Lib.hid h2
 have q0 := blk_cell h2 0
 have q1 := blk_cell h2 1
 have q2 := blk_cell h2 2
 have p0 := blk_free h2 0
 have p1 := blk_free h2 1
 have p2 := blk_free h2 2
 simp only [List.getElem?_toArray, List.getElem?_cons_zero, List.getElem?_cons_succ] at q0 q1 q2
 clear h2 hB2 H0
 go_wp2
 have r := set3a H2.out (.int .i64 6) (.slice A1 n c1) (.slice none 0 0) (.cells #[.int .i64 6, .slice A1 n c1, .slice none 0 0] 172)
 have r0 := blk_cell r 0
 have r1 := blk_cell r 1
 have r2 := blk_cell r 2
 simp only [List.getElem?_toArray, List.getElem?_cons_zero, List.getElem?_cons_succ] at r0 r1 r2
 refine bodyPost_ret (v := .agg #[.int .i64 6, .slice A1 n c1, .slice none 0 0]) (by simp [results, Tryz.results219, go_sem, r0, r1, r2]) rfl ⟨⟨A1, c1, by rw [Hn.out], ?_⟩, ?_⟩
 · rw [Hs.out]
   refine (Hr1.out.keep fun p hp => World.cell?_of_block ?_).mono fun q hq => ⟨by have := hq.1; have := Hz.out; omega, by have := hq.2; simp [World.setCell]; omega⟩
   have hq : p.block ≠ s := by have := hp.1; have := Hz.out; omega
   have hq2 : p.block < w2.heap.size := hp.2
   exact (Below.heap_alloc _ _ _ (by simpa [World.setCell] using hq2)).trans ((Below.heap_setCell _ _ _ _ hq).trans ((Below.heap_setCell _ _ _ _ hq).trans (Below.heap_setCell _ _ _ _ hq)))
 · rw [Hs.out]
   exact (((HB3.out.setCell (p := ⟨s, 0, none⟩) (by simp) _).setCell (p := ⟨s, 1, none⟩) (by simp) _).setCell (p := ⟨s, 2, none⟩) (by simp) _).alloc (by simp; omega) _

theorem all_small {l : List Int} (h : ∀ x ∈ l, 0 ≤ x ∧ x < 268435456) (k : Nat) : 0 ≤ l.getD k 0 ∧ l.getD k 0 < 268435456 := by
 rcases Nat.lt_or_ge k l.length with hk | hk
 · rw [List.getD_eq_getElem?_getD, List.getElem?_eq_getElem hk]; exact h _ (List.getElem_mem hk)
 · rw [List.getD_eq_getElem?_getD, List.getElem?_eq_none hk]; simp
set_option maxRecDepth 100000 in
set_option maxHeartbeats 4000000 in
theorem params_1 (w : World) : Calls Tryz.prog 186 #[.int .i64 1] w fun e w' => (∃ A1 c1, e = .returned (.tuple #[.agg #[.int .i64 6, .slice A1 8 c1, .slice none 0 0], .bool true]) ∧ RB w' (In w.heap.size w'.heap.size) A1 c1 oid1) ∧ Below w.heap.size w w' := by
 have hB := ((Below.refl w.heap.size w).alloc (Nat.le_refl _) (.cells #[.int .i64 0, .slice none 0 0, .slice none 0 0] 172)).alloc (by simp) (.cells #[.int .i64 1, .int .i64 2, .int .i64 840, .int .i64 10045, .int .i64 3, .int .i64 1, .int .i64 7] 3)
 have hb := (Below.heap_alloc (w.alloc (.cells #[.int .i64 0, .slice none 0 0, .slice none 0 0] 172)) (.cells #[.int .i64 1, .int .i64 2, .int .i64 840, .int .i64 10045, .int .i64 3, .int .i64 1, .int .i64 7] 3) w.heap.size (by simp)).trans (heap_alloc_new w _)
 have hz : ((w.alloc (.cells #[.int .i64 0, .slice none 0 0, .slice none 0 0] 172)).alloc (.cells #[.int .i64 1, .int .i64 2, .int .i64 840, .int .i64 10045, .int .i64 3, .int .i64 1, .int .i64 7] 3)).heap.size = w.heap.size + 2 := by simp
 have hR : RZ _ (fun b => b < w.heap.size + 2) _ 7 [1, 2, 840, 10045, 3, 1, 7] := RS.fresh (w := (w.alloc (.cells #[.int .i64 0, .slice none 0 0, .slice none 0 0] 172))) (P := fun b => b < w.heap.size + 2) #[.int .i64 1, .int .i64 2, .int .i64 840, .int .i64 10045, .int .i64 3, .int .i64 1, .int .i64 7] 3 1 7 rfl (by unfold maxLen; omega) (by simp)
 rw [World.size_alloc] at hR
 have hO := kname_any (fun b => b < w.heap.size + 2) (w.heap.size + 1) 7 [1, 2, 840, 10045, 3, 1, 7] _ hR (fun b hb => by rw [hz]; exact hb) (by simp) rfl (by simp) (all_small (by simp))
 have HB := Lib.hid hB
 have H0 := Lib.hid hb
 have Hz := Lib.hid hz
 rw [oid1_eq] at hO
 have HO := Lib.hid hO
 clear hB hb hz hO hR
 go_enter Tryz.func186, Tryz.ntmps186
 go_wp2_with fail
 obtain ⟨s, hs⟩ : ∃ s, w.heap.size = s := ⟨_, rfl⟩
 rw [hs] at HB H0 Hz HO ⊢
 have Hs := Lib.hid hs
 clear hs
 generalize (w.alloc (.cells #[.int .i64 0, .slice none 0 0, .slice none 0 0] 172)).alloc (.cells #[.int .i64 1, .int .i64 2, .int .i64 840, .int .i64 10045, .int .i64 3, .int .i64 1, .int .i64 7] 3) = W1 at *
 refine HO.out.mono ?_
 rintro e w2 ⟨⟨A1, c1, rfl, hr1⟩, hB2⟩
 have Hr1 := Lib.hid hr1
 have hn : oid1.length = 8 := rfl
 rw [hn]
 clear hr1 hn
 have h2 := (hB2.block s (by have := Hz.out; omega)).trans H0.out
 have hlt : s < w2.heap.size := by have := Hz.out; have := hB2.size; omega
 have HB3 := Lib.hid (HB.out.trans (hB2.mono (by have := Hz.out; omega)))
 have H2 := Lib.hid h2
 have q0 := blk_cell h2 0
 have q1 := blk_cell h2 1
 have q2 := blk_cell h2 2
 have p0 := blk_free h2 0
 have p1 := blk_free h2 1
 have p2 := blk_free h2 2
 simp only [List.getElem?_toArray, List.getElem?_cons_zero, List.getElem?_cons_succ] at q0 q1 q2
 clear h2 hB2 H0
 go_wp2
 have r := set3 H2.out (.int .i64 6) (.slice A1 8 c1) (.slice none 0 0)
 have r0 := blk_cell r 0
 have r1 := blk_cell r 1
 have r2 := blk_cell r 2
 simp only [List.getElem?_toArray, List.getElem?_cons_zero, List.getElem?_cons_succ] at r0 r1 r2
 refine bodyPost_ret (v := .tuple #[.agg #[.int .i64 6, .slice A1 8 c1, .slice none 0 0], .bool true]) (by simp [results, Tryz.results186, go_sem, r0, r1, r2]) rfl ⟨⟨A1, c1, rfl, ?_⟩, ?_⟩
 · rw [Hs.out]
   refine (Hr1.out.keep fun p hp => World.cell?_of_block ?_).mono fun q hq => ⟨by have := hq.1; have := Hz.out; omega, by have := hq.2; simpa [World.setCell] using this⟩
   have hq : p.block ≠ s := by have := hp.1; have := Hz.out; omega
   exact (Below.heap_setCell _ _ _ _ hq).trans ((Below.heap_setCell _ _ _ _ hq).trans (Below.heap_setCell _ _ _ _ hq))
 · rw [Hs.out]
   exact ((HB3.out.setCell (p := ⟨s, 0, none⟩) (by simp) _).setCell (p := ⟨s, 1, none⟩) (by simp) _).setCell (p := ⟨s, 2, none⟩) (by simp) _

set_option maxRecDepth 100000 in
set_option maxHeartbeats 4000000 in
theorem params_2 (w : World) : Calls Tryz.prog 186 #[.int .i64 2] w fun e w' => (∃ A1 c1, e = .returned (.tuple #[.agg #[.int .i64 6, .slice A1 5 c1, .slice none 0 0], .bool true]) ∧ RB w' (In w.heap.size w'.heap.size) A1 c1 oid2) ∧ Below w.heap.size w w' := by
 have hB := ((Below.refl w.heap.size w).alloc (Nat.le_refl _) (.cells #[.int .i64 0, .slice none 0 0, .slice none 0 0] 172)).alloc (by simp) (.cells #[.int .i64 1, .int .i64 3, .int .i64 132, .int .i64 0, .int .i64 34] 3)
 have hb := (Below.heap_alloc (w.alloc (.cells #[.int .i64 0, .slice none 0 0, .slice none 0 0] 172)) (.cells #[.int .i64 1, .int .i64 3, .int .i64 132, .int .i64 0, .int .i64 34] 3) w.heap.size (by simp)).trans (heap_alloc_new w _)
 have hz : ((w.alloc (.cells #[.int .i64 0, .slice none 0 0, .slice none 0 0] 172)).alloc (.cells #[.int .i64 1, .int .i64 3, .int .i64 132, .int .i64 0, .int .i64 34] 3)).heap.size = w.heap.size + 2 := by simp
 have hR : RZ _ (fun b => b < w.heap.size + 2) _ 5 [1, 3, 132, 0, 34] := RS.fresh (w := (w.alloc (.cells #[.int .i64 0, .slice none 0 0, .slice none 0 0] 172))) (P := fun b => b < w.heap.size + 2) #[.int .i64 1, .int .i64 3, .int .i64 132, .int .i64 0, .int .i64 34] 3 1 5 rfl (by unfold maxLen; omega) (by simp)
 rw [World.size_alloc] at hR
 have hO := kname_any (fun b => b < w.heap.size + 2) (w.heap.size + 1) 5 [1, 3, 132, 0, 34] _ hR (fun b hb => by rw [hz]; exact hb) (by simp) rfl (by simp) (all_small (by simp))
 have HB := Lib.hid hB
 have H0 := Lib.hid hb
 have Hz := Lib.hid hz
 rw [oid2_eq] at hO
 have HO := Lib.hid hO
 clear hB hb hz hO hR
 go_enter Tryz.func186, Tryz.ntmps186
 go_wp2_with fail
 obtain ⟨s, hs⟩ : ∃ s, w.heap.size = s := ⟨_, rfl⟩
 rw [hs] at HB H0 Hz HO ⊢
 have Hs := Lib.hid hs
 clear hs
 generalize (w.alloc (.cells #[.int .i64 0, .slice none 0 0, .slice none 0 0] 172)).alloc (.cells #[.int .i64 1, .int .i64 3, .int .i64 132, .int .i64 0, .int .i64 34] 3) = W1 at *
 refine HO.out.mono ?_
 rintro e w2 ⟨⟨A1, c1, rfl, hr1⟩, hB2⟩
 have Hr1 := Lib.hid hr1
 have hn : oid2.length = 5 := rfl
 rw [hn]
 clear hr1 hn
 have h2 := (hB2.block s (by have := Hz.out; omega)).trans H0.out
 have hlt : s < w2.heap.size := by have := Hz.out; have := hB2.size; omega
 have HB3 := Lib.hid (HB.out.trans (hB2.mono (by have := Hz.out; omega)))
 have H2 := Lib.hid h2
 have q0 := blk_cell h2 0
 have q1 := blk_cell h2 1
 have q2 := blk_cell h2 2
 have p0 := blk_free h2 0
 have p1 := blk_free h2 1
 have p2 := blk_free h2 2
 simp only [List.getElem?_toArray, List.getElem?_cons_zero, List.getElem?_cons_succ] at q0 q1 q2
 clear h2 hB2 H0
 go_wp2
 have r := set3 H2.out (.int .i64 6) (.slice A1 5 c1) (.slice none 0 0)
 have r0 := blk_cell r 0
 have r1 := blk_cell r 1
 have r2 := blk_cell r 2
 simp only [List.getElem?_toArray, List.getElem?_cons_zero, List.getElem?_cons_succ] at r0 r1 r2
 refine bodyPost_ret (v := .tuple #[.agg #[.int .i64 6, .slice A1 5 c1, .slice none 0 0], .bool true]) (by simp [results, Tryz.results186, go_sem, r0, r1, r2]) rfl ⟨⟨A1, c1, rfl, ?_⟩, ?_⟩
 · rw [Hs.out]
   refine (Hr1.out.keep fun p hp => World.cell?_of_block ?_).mono fun q hq => ⟨by have := hq.1; have := Hz.out; omega, by have := hq.2; simpa [World.setCell] using this⟩
   have hq : p.block ≠ s := by have := hp.1; have := Hz.out; omega
   exact (Below.heap_setCell _ _ _ _ hq).trans ((Below.heap_setCell _ _ _ _ hq).trans (Below.heap_setCell _ _ _ _ hq))
 · rw [Hs.out]
   exact ((HB3.out.setCell (p := ⟨s, 0, none⟩) (by simp) _).setCell (p := ⟨s, 1, none⟩) (by simp) _).setCell (p := ⟨s, 2, none⟩) (by simp) _




end Go.Proofs.YtendnkpiidhogaaGreat.Der

namespace Go.Proofs.YtendnkpiidhogaaGreat.Der
open Go.RowKit Go.Shelf

attribute [local go_sem] Oper.semAt_some

def whichOf (z : Int) (bs : List Nat) : Int := if z = 6 ∧ bs = oid1 then 1 else if z = 6 ∧ bs = oid2 then 2 else 0

set_option maxRecDepth 100000 in
set_option maxHeartbeats 8000000 in
theorem which_any (P : Nat → Prop) (z : Int) (A Ak : Option Addr) (c nk ck : Nat) (bs : List Nat) (w : World) (hb : RB w P A c bs) (hP : ∀ q, P q → q < w.heap.size) : Calls Tryz.prog 152 #[.agg #[.int .i64 z, .slice A bs.length c, .slice Ak nk ck]] w fun e w' => e = .returned (.int .i64 (whichOf z bs)) ∧ Below w.heap.size w w' := by
 have hB := ((Below.refl w.heap.size w).alloc (Nat.le_refl _) (.cells #[.int .i64 z, .slice A bs.length c, .slice Ak nk ck] 172)).alloc (by simp) (.cells #[.int .i64 1, .int .i64 2] 3)
 have hb' := (Below.heap_alloc (w.alloc (.cells #[.int .i64 z, .slice A bs.length c, .slice Ak nk ck] 172)) (.cells #[.int .i64 1, .int .i64 2] 3) w.heap.size (by simp)).trans (heap_alloc_new w _)
 have hc := heap_alloc_new (w.alloc (.cells #[.int .i64 z, .slice A bs.length c, .slice Ak nk ck] 172)) (.cells #[.int .i64 1, .int .i64 2] 3)
 rw [World.size_alloc] at hc
 have HB := Lib.hid hB
 have Hb := Lib.hid hb'
 have Hc := Lib.hid hc
 have HR := Lib.hid hb
 have HP := Lib.hid hP
 clear hB hb hc hb' hP
 obtain ⟨s, hs⟩ : ∃ s, w.heap.size = s := ⟨_, rfl⟩
 rw [hs] at HB Hb Hc HP
 have Hs := Lib.hid hs
 clear hs
 go_enter Tryz.func152, Tryz.ntmps152
 go_wp2
 rw [Hs.out]
 go_loopw [9] (fun i wr => ∃ y : Int, i = .int .i64 y ∧ Below s w wr ∧ wr.heap[s]? = some (.cells #[.int .i64 z, .slice A bs.length c, .slice Ak nk ck] 172 (0, 0)) ∧ wr.heap[s + 1]? = some (.cells #[.int .i64 1, .int .i64 2] 3 (0, 0)) ∧ (z = 6 → y ≠ 0 → bs ≠ oid1) ∧ (y = 2 → z = 6 → bs ≠ oid2) ∧ (y = 0 ∨ y = 1 ∨ y = 2)) (fun i _ => 2 - (intOf i).toNat)
 case atStart => exact ⟨0, rfl, HB.out, Hb.out, Hc.out, fun _ h => absurd rfl h, fun h => absurd h (by decide), .inl rfl⟩
 case round =>
  clear HB Hb Hc
  obtain ⟨y, rfl, hB, hb, hc, hn1, hn2, hz⟩ := hrel
  have HN1 := Lib.hid hn1
  have HN2 := Lib.hid hn2
  clear hn1 hn2
  have x0 := blk_cell hc 0
  have x1 := blk_cell hc 1
  simp only [List.getElem?_toArray, List.getElem?_cons_zero, List.getElem?_cons_succ] at x0 x1
  have hl1 := blk_lt hc
  have hs1 := hB.size
  have HB := Lib.hid hB
  have Hb := Lib.hid hb
  have Hc := Lib.hid hc
  clear hB hb hc
  rcases hz with rfl | rfl | rfl
  · go_wp2_with fail
    refine (params_1 wr).mono ?_
    rintro e w2 ⟨⟨A1, c1, rfl, hr1⟩, hB2⟩
    have h2 := (hB2.block s (by omega)).trans Hb.out
    have h3 := (hB2.block (s + 1) hl1).trans Hc.out
    have hlt : s < w2.heap.size := by have := hB2.size; omega
    have hlt3 : s + 1 < w2.heap.size := by have := hB2.size; omega
    have q0 := blk_cell h2 0
    have q1 := blk_cell h2 1
    simp only [List.getElem?_toArray, List.getElem?_cons_zero, List.getElem?_cons_succ] at q0 q1
    have HB3 := Lib.hid (HB.out.trans (hB2.mono (by omega)))
    have H2 := Lib.hid h2
    have H3 := Lib.hid h3
    have Hr1 := Lib.hid (hr1.keep (w' := w2.alloc (.cells #[.int .i64 6, .slice A1 8 c1, .slice none 0 0] 172)) fun p hp => World.cell?_of_block (Below.heap_alloc _ _ _ hp.2))
    have HR2 := Lib.hid (HR.out.keep (w' := w2.alloc (.cells #[.int .i64 6, .slice A1 8 c1, .slice none 0 0] 172)) fun p hp => World.cell?_of_block ((Below.heap_alloc _ _ _ (by have := HP.out _ hp; omega)).trans ((hB2.block _ (by have := HP.out _ hp; omega)).trans (HB.out.block _ (HP.out _ hp)))))
    clear h2 h3 hB2 x0 x1 hr1
    by_cases h6 : z = 6
    · subst h6
      have he := bequal_any _ _ A A1 c c1 bs oid1 _ HR2.out Hr1.out
      rw [show oid1.length = 8 from rfl] at he
      obtain ⟨d, hd⟩ : ∃ d, decide (bs = oid1) = d := ⟨_, rfl⟩
      rw [hd] at he
      have HE := Lib.hid he
      have Hd := Lib.hid hd
      clear he hd
      go_wp2_with fail
      refine HE.out.mono ?_
      rintro e w3 ⟨rfl, rfl⟩
      cases d
      · have hno : bs ≠ oid1 := by simpa using Hd.out
        have Hno := Lib.hid hno
        clear hno
        go_wp2
        go_roundw
        case rel => exact ⟨1, by go_num, HB3.out.alloc (by omega) _, (Below.heap_alloc _ _ _ hlt).trans H2.out, (Below.heap_alloc _ _ _ hlt3).trans H3.out, fun _ _ => Hno.out, fun h => absurd h (by decide), .inr (.inl rfl)⟩
        case measure => first | (simp [intOf]; done) | (simp [intOf]; decide)
      · have hyes : bs = oid1 := by simpa using Hd.out
        have HW : Hid (whichOf 6 bs = 1) := Lib.hid (by rw [hyes]; decide)
        clear hyes
        go_wp2
        go_ret
        exact ⟨(by rw [HW.out]; rfl), by rw [Hs.out]; exact HB3.out.alloc (by omega) _⟩
    · have h6' : (z == 6) = false := by simpa using h6
      have H6 := Lib.hid h6
      clear h6
      go_wp2
      go_roundw
      case rel => exact ⟨1, by go_num, HB3.out.alloc (by omega) _, (Below.heap_alloc _ _ _ hlt).trans H2.out, (Below.heap_alloc _ _ _ hlt3).trans H3.out, fun h => absurd h H6.out, fun h => absurd h (by decide), .inr (.inl rfl)⟩
      case measure => first | (simp [intOf]; done) | (simp [intOf]; decide)
  · go_wp2_with fail
    refine (params_2 wr).mono ?_
    rintro e w2 ⟨⟨A1, c1, rfl, hr1⟩, hB2⟩
    have h2 := (hB2.block s (by omega)).trans Hb.out
    have h3 := (hB2.block (s + 1) hl1).trans Hc.out
    have hlt : s < w2.heap.size := by have := hB2.size; omega
    have hlt3 : s + 1 < w2.heap.size := by have := hB2.size; omega
    have q0 := blk_cell h2 0
    have q1 := blk_cell h2 1
    simp only [List.getElem?_toArray, List.getElem?_cons_zero, List.getElem?_cons_succ] at q0 q1
    have HB3 := Lib.hid (HB.out.trans (hB2.mono (by omega)))
    have H2 := Lib.hid h2
    have H3 := Lib.hid h3
    have Hr1 := Lib.hid (hr1.keep (w' := w2.alloc (.cells #[.int .i64 6, .slice A1 5 c1, .slice none 0 0] 172)) fun p hp => World.cell?_of_block (Below.heap_alloc _ _ _ hp.2))
    have HR2 := Lib.hid (HR.out.keep (w' := w2.alloc (.cells #[.int .i64 6, .slice A1 5 c1, .slice none 0 0] 172)) fun p hp => World.cell?_of_block ((Below.heap_alloc _ _ _ (by have := HP.out _ hp; omega)).trans ((hB2.block _ (by have := HP.out _ hp; omega)).trans (HB.out.block _ (HP.out _ hp)))))
    clear h2 h3 hB2 x0 x1 hr1
    by_cases h6 : z = 6
    · subst h6
      have he := bequal_any _ _ A A1 c c1 bs oid2 _ HR2.out Hr1.out
      rw [show oid2.length = 5 from rfl] at he
      obtain ⟨d, hd⟩ : ∃ d, decide (bs = oid2) = d := ⟨_, rfl⟩
      rw [hd] at he
      have HE := Lib.hid he
      have Hd := Lib.hid hd
      clear he hd
      go_wp2_with fail
      refine HE.out.mono ?_
      rintro e w3 ⟨rfl, rfl⟩
      cases d
      · have hno : bs ≠ oid2 := by simpa using Hd.out
        have Hno := Lib.hid hno
        clear hno
        go_wp2
        go_roundw
        case rel => exact ⟨2, by go_num, HB3.out.alloc (by omega) _, (Below.heap_alloc _ _ _ hlt).trans H2.out, (Below.heap_alloc _ _ _ hlt3).trans H3.out, fun h _ => HN1.out h (by decide), fun _ _ => Hno.out, .inr (.inr rfl)⟩
        case measure => first | (simp [intOf]; done) | (simp [intOf]; decide)
      · have hyes : bs = oid2 := by simpa using Hd.out
        have HW : Hid (whichOf 6 bs = 2) := Lib.hid (by rw [hyes]; decide)
        clear hyes
        go_wp2
        go_ret
        exact ⟨(by rw [HW.out]; rfl), by rw [Hs.out]; exact HB3.out.alloc (by omega) _⟩
    · have h6' : (z == 6) = false := by simpa using h6
      have H6 := Lib.hid h6
      clear h6
      go_wp2
      go_roundw
      case rel => exact ⟨2, by go_num, HB3.out.alloc (by omega) _, (Below.heap_alloc _ _ _ hlt).trans H2.out, (Below.heap_alloc _ _ _ hlt3).trans H3.out, fun h => absurd h H6.out, fun _ h => absurd h H6.out, .inr (.inr rfl)⟩
      case measure => first | (simp [intOf]; done) | (simp [intOf]; decide)
  · have hw : whichOf z bs = 0 := by
     unfold whichOf
     rw [if_neg (fun h => HN1.out h.1 (by decide) h.2), if_neg (fun h => HN2.out rfl h.1 h.2)]
    have HW := Lib.hid hw
    clear hw
    go_wp2
    go_ret
    exact ⟨(by rw [HW.out]; rfl), by rw [Hs.out]; exact HB.out⟩
end Go.Proofs.YtendnkpiidhogaaGreat.Der

namespace Go.Proofs.YtendnkpiidhogaaGreat.Der
open Go.RowKit Go.Shelf

attribute [local go_sem] Oper.semAt_some

def kpOf (b : List Nat) : Int :=
 match readOf b with
 | none => 0
 | some (.mk t bs _, n) => if n = b.length then whichOf t bs else 0
set_option maxRecDepth 100000 in
set_option maxHeartbeats 4000000 in
theorem readParams_k (P : Nat → Prop) (A : Option Addr) (c : Nat) (b : List Nat) (w : World) (hb : RB w P A c b) (hP : ∀ q, P q → q < w.heap.size) :
    Calls Tryz.prog 108 #[.slice A b.length c] w fun e w' => e = .returned (.tuple #[.int .i64 (kpOf b), .bool (decide (kpOf b ≠ 0))]) ∧ Below w.heap.size w w' := by
  have HK := Lib.hid (kread_any P A c b w hb hP)
  obtain ⟨R, hR⟩ : ∃ R, kpOf b = R := ⟨_, rfl⟩
  rw [hR]
  have HR := Lib.hid hR
  clear hR hb hP
  go_enter Tryz.func108, Tryz.ntmps108
  go_wp2_with fail
  refine HK.out.mono ?_
  obtain ⟨R0, hR0⟩ : ∃ R0, readOf b = R0 := ⟨_, rfl⟩
  rw [hR0]
  have HR0 := Lib.hid hR0
  clear hR0 HK
  rintro e w1 ⟨hKr, hB1⟩
  cases R0 with
  | none =>
    unfold KreadP at hKr
    subst hKr
    have hR : R = 0 := by rw [← HR.out]; unfold kpOf; rw [HR0.out]
    subst hR
    have hE := (Below.refl w1.heap.size w1).alloc (Nat.le_refl _) (.cells #[.int .i64 0, .slice none 0 0, .slice none 0 0] 172)
    have hw := which_any (fun _ => False) 0 none none 0 0 0 [] _ (RB.nil_ (w1.alloc (.cells #[.int .i64 0, .slice none 0 0, .slice none 0 0] 172)) _) (fun _ h => h.elim)
    have HW := Lib.hid hw
    have HB1 := Lib.hid (hB1.trans (hE.mono hB1.size))
    clear hw hE hB1
    go_wp2_with fail
    refine HW.out.mono ?_
    rintro e w2 ⟨rfl, hB2⟩
    have HB2 := Lib.hid (HB1.out.trans (hB2.mono HB1.out.size))
    have hw0 : whichOf 0 [] = 0 := by decide
    rw [hw0]
    clear hB2 hw0
    go_wp2
    go_ret2
    exact ⟨rfl, HB2.out⟩
  | some q =>
    obtain ⟨⟨t, bs, ks⟩, n⟩ := q
    unfold KreadP at hKr
    obtain ⟨v, rfl, hRD⟩ := hKr
    obtain ⟨A2, c2, Ak, ck, cs, rfl, hrb, -⟩ := hRD
    have hE := (Below.refl w1.heap.size w1).alloc (Nat.le_refl _) (.cells #[.int .i64 (t : Int), .slice A2 bs.length c2, .slice Ak ks.length ck] 172)
    have hw := which_any (In w.heap.size w1.heap.size) (t : Int) A2 Ak c2 ks.length ck bs _ (hrb.below hE (fun q hq => hq.2)) (fun q hq => by have := hq.2; simp; omega)
    have hR : R = if n = b.length then whichOf t bs else 0 := by rw [← HR.out]; unfold kpOf; rw [HR0.out]
    obtain ⟨W, hW⟩ : ∃ W, whichOf (t : Int) bs = W := ⟨_, rfl⟩
    rw [hW] at hw hR
    have HW := Lib.hid hw
    have HB1 := Lib.hid (hB1.trans (hE.mono hB1.size))
    have hW3 : W = 0 ∨ W = 1 ∨ W = 2 := by
      rw [← hW]; unfold whichOf
      split
      · exact .inr (.inl rfl)
      split
      · exact .inr (.inr rfl)
      · exact .inl rfl
    clear hw hE hB1 hrb hW HR0 HR
    obtain ⟨N, hN⟩ : ∃ N, b.length = N := ⟨_, rfl⟩
    rw [hN] at hR ⊢
    clear hN
    by_cases hn : n = N
    · subst hn
      rw [if_pos rfl] at hR
      subst hR
      have hnn : (n == n) = true := by simp
      rw [hnn]
      clear hnn
      go_wp2_with fail
      refine HW.out.mono ?_
      rintro e w2 ⟨rfl, hB2⟩
      have HB2 := Lib.hid (HB1.out.trans (hB2.mono HB1.out.size))
      clear hB2
      rcases hW3 with rfl | rfl | rfl
      all_goals
        go_wp2
        go_ret2
        exact ⟨rfl, HB2.out⟩
    · rw [if_neg hn] at hR
      subst hR
      have hnn : (n == N) = false := by simpa using hn
      rw [hnn]
      clear hnn hn
      go_wp2_with fail
      refine HW.out.mono ?_
      rintro e w2 ⟨rfl, hB2⟩
      have HB2 := Lib.hid (HB1.out.trans (hB2.mono HB1.out.size))
      clear hB2
      go_wp2
      go_ret2
      exact ⟨rfl, HB2.out⟩
end Go.Proofs.YtendnkpiidhogaaGreat.Der

namespace Go.Proofs.YtendnkpiidhogaaGreat
open Go.RowKit

def EV (l : List Nat) : Value := .agg (nts l).toArray
theorem six {l : List Nat} (h : l.length = 6) : ∃ a b c d e f, l = [a, b, c, d, e, f] := by
 match l, h with
 | [a, b, c, d, e, f], _ => exact ⟨a, b, c, d, e, f, rfl⟩
set_option maxRecDepth 100000 in
theorem eql_zero (a b c d e f : Nat) (w : World) : (Op.equalIn 10000 160 (.agg #[.int .u64 (a : Int), .int .u64 (b : Int), .int .u64 (c : Int), .int .u64 (d : Int), .int .u64 (e : Int), .int .u64 (f : Int)]) (.agg #[.int .u64 0, .int .u64 0, .int .u64 0, .int .u64 0, .int .u64 0, .int .u64 0])).run Tryz.prog w =
 .ok (decide ([a, b, c, d, e, f] = [0, 0, 0, 0, 0, 0])) w := by
 obtain ⟨i0, hi, hz0, hz1, hz2⟩ := info_parts info64
 have hc : Tryz.prog.cellsOf 139 = 1 := by kernel_rfl
 rw [show (10000 : Nat) = 9999 + 1 by rfl, run_equalIn_array _ _ _ _ Tryz.underlying160 hi, hc]
 rw [show List.range 6 = [0, 1, 2, 3, 4, 5] by rfl]
 have he : ∀ x y : Int, (Op.equalIn 9999 139 (.int .u64 x) (.int .u64 y)).run Tryz.prog w = .ok (x == y) w := fun x y => run_equalIn_int w 9998 _ .u64 .u64 x y Tryz.underlying139
 have hp : ∀ (xs : Array Value) (j : Nat) (x : Value), xs[j]? = some x → (part 139 xs j).run Tryz.prog w = .ok x w := fun xs j x h => by
  simp [part, h, go_sem]
 have hs : ∀ (xs ys : Array Value) (j : Nat) (x y : Int) (is : List Nat), xs[j]? = some (.int .u64 x) → ys[j]? = some (.int .u64 y) →
  (Op.eqItems 9999 139 1 xs ys (j :: is)).run Tryz.prog w = if x = y then (Op.eqItems 9999 139 1 xs ys is).run Tryz.prog w else .ok false w := by
  intro xs ys j x y is h1 h2
  have p1 := hp xs j _ h1
  have p2 := hp ys j _ h2
  simp only [Op.eqItems, Sem.run_bind, Nat.mul_one, p1, p2, he, Result.andThen_ok]
  by_cases hxy : x = y
  · simp [hxy]
  · simp [hxy]
 rw [hs _ _ 0 a 0 _ rfl rfl, hs _ _ 1 b 0 _ rfl rfl, hs _ _ 2 c 0 _ rfl rfl, hs _ _ 3 d 0 _ rfl rfl, hs _ _ 4 e 0 _ rfl rfl, hs _ _ 5 f 0 _ rfl rfl]
 have hn : (Op.eqItems 9999 139 1 #[.int .u64 (a : Int), .int .u64 (b : Int), .int .u64 (c : Int), .int .u64 (d : Int), .int .u64 (e : Int), .int .u64 (f : Int)] #[.int .u64 0, .int .u64 0, .int .u64 0, .int .u64 0, .int .u64 0, .int .u64 0] []).run Tryz.prog w = .ok true w := by simp [Op.eqItems]
 rw [hn]
 have hd : decide ([a, b, c, d, e, f] = [0, 0, 0, 0, 0, 0]) = decide ((a : Int) = 0 ∧ (b : Int) = 0 ∧ (c : Int) = 0 ∧ (d : Int) = 0 ∧ (e : Int) = 0 ∧ (f : Int) = 0) := by
  rw [decide_eq_decide]; simp
 rw [hd]
 by_cases h1 : (a : Int) = 0 <;> by_cases h2 : (b : Int) = 0 <;> by_cases h3 : (c : Int) = 0 <;> by_cases h4 : (d : Int) = 0 <;> by_cases h5 : (e : Int) = 0 <;> by_cases h6 : (f : Int) = 0 <;> simp only [h1, h2, h3, h4, h5, h6, if_true, if_false, and_self, and_true, and_false, decide_true, decide_false]

set_option maxRecDepth 100000 in
set_option maxHeartbeats 1000000 in
theorem zero_any (l : List Nat) (w : World) (hl : l.length = 6) : Calls Tryz.prog 177 #[EV l] w fun e w' => e = .returned (.bool (decide (l = [0, 0, 0, 0, 0, 0]))) ∧ Below w.heap.size w w' := by
 obtain ⟨a, b, c, d, e, f, rfl⟩ := six hl
 simp only [EV, nts, List.map_cons, List.map_nil]
 have heq := eql_zero a b c d e f
 generalize decide ([a, b, c, d, e, f] = [0, 0, 0, 0, 0, 0]) = r at *
 go_enter Tryz.func177, Tryz.ntmps177
 go_wp2
 go_ret
 exact ⟨rfl, (Below.refl _ w).alloc (Nat.le_refl _) _⟩
end Go.Proofs.YtendnkpiidhogaaGreat

namespace Go.Proofs.YtendnkpiidhogaaGreat

def MontT (B M : Nat) (a b : List Nat) (T i : Nat) : Prop := T < M + val B b ∧ ∃ k, T * B ^ i = val B (a.take i) * val B b + k * M
theorem MontT.zero {B M : Nat} (a b : List Nat) (hM : 0 < M) : MontT B M a b 0 0 := ⟨by omega, 0, by simp⟩
theorem MontT.step {B M inv i q T T2 T4 : Nat} {a b : List Nat} (hB : 2 ≤ B) (h : MontT B M a b T i) (ha : dg a i < B) (hq : q = (T + dg a i * val B b) % B * inv % B) (h2 : T2 = T + dg a i * val B b + q * M) (h4 : T2 = B * T4) : MontT B M a b T4 (i + 1) := by
 have hq' : q < B := by rw [hq]; exact Nat.mod_lt _ (by omega)
 obtain ⟨hb, k, hk⟩ := h
 refine ⟨mont_bound (by omega) h2 hb ha hq' h4, k + q * B ^ i, ?_⟩
 rw [Nat.pow_succ, show T4 * (B ^ i * B) = (B * T4) * B ^ i by rw [Nat.mul_comm (B ^ i), ← Nat.mul_assoc, Nat.mul_comm T4], ← h4]
 exact mont_eq h2 hk (val_take_getD B a i)

def FirstAt (B : Nat) (t b o : List Nat) (f j c : Nat) : Prop := o.length = t.length ∧ (∀ p, j ≤ p → dg o p = dg t p) ∧ val B (o.take j) + B ^ j * c = val B (t.take j) + f * val B (b.take j)
theorem FirstAt.zero (B : Nat) (t b : List Nat) (f : Nat) : FirstAt B t b t f 0 0 := ⟨rfl, fun _ _ => rfl, by simp⟩
theorem FirstAt.step {B f j c s c' : Nat} {t b o : List Nat} (h : FirstAt B t b o f j c) (hj : j < t.length) (he : s + B * c' = dg o j + f * dg b j + c) : FirstAt B t b (o.set j s) f (j + 1) c' := by
 obtain ⟨h1, h2, h3⟩ := h
 refine ⟨by simpa using h1, fun p hp => by rw [getD_set_ne (by omega)]; exact h2 p (by omega), ?_⟩
 rw [val_take_set B (by omega), val_take_getD, val_take_getD, Nat.pow_succ, Nat.mul_assoc]
 have e := congrArg (fun z => B ^ j * z) he
 simp only [Nat.mul_add] at e
 rw [h2 j (Nat.le_refl _)] at e
 have e2 : B ^ j * (f * dg b j) = f * (B ^ j * dg b j) := Nat.mul_left_comm _ _ _
 rw [Nat.mul_add f]
 omega
theorem FirstAt.fin {B f n c s c' : Nat} {t b o : List Nat} (h : FirstAt B t b o f n c) (hn : n + 2 ≤ t.length) (hb : b.take n = b ∨ val B (b.take n) = val B b) (he : s + B * c' = dg o n + c) :
    ((o.set n s).set (n + 1) c').length = t.length ∧ val B (((o.set n s).set (n + 1) c').take (n + 2)) = val B (t.take (n + 1)) + f * val B b := by
  obtain ⟨h1, h2, h3⟩ := h
  have hb' : val B (b.take n) = val B b := by rcases hb with h | h; · rw [h]
                                              · exact h
  refine ⟨by simpa using h1, ?_⟩
  rw [val_take_set B (by simp; omega), val_take_set B (by omega), val_take_getD B t n, Nat.pow_succ]
  have e := congrArg (fun z => B ^ n * z) he
  simp only [Nat.mul_add] at e
  rw [h2 n (Nat.le_refl _), ← Nat.mul_assoc] at e
  rw [hb'] at h3
  omega

def ShiftAt (B : Nat) (t m o : List Nat) (u k c : Nat) : Prop := o.length = t.length ∧ (∀ p, k ≤ p → dg o p = dg t p) ∧ B * val B (o.take k) + B ^ (k + 1) * c = val B (t.take (k + 1)) + u * val B (m.take (k + 1))
theorem ShiftAt.zero {B u c : Nat} {t m : List Nat} (he : B * c = dg t 0 + u * dg m 0) : ShiftAt B t m t u 0 c := by
 refine ⟨rfl, fun _ _ => rfl, ?_⟩
 rw [val_take_getD, val_take_getD]
 simp
 exact he
theorem ShiftAt.step {B u k c s c' : Nat} {t m o : List Nat} (h : ShiftAt B t m o u k c) (hk : k < t.length) (he : s + B * c' = dg o (k + 1) + u * dg m (k + 1) + c) : ShiftAt B t m (o.set k s) u (k + 1) c' := by
 obtain ⟨h1, h2, h3⟩ := h
 refine ⟨by simpa using h1, fun p hp => by rw [getD_set_ne (by omega)]; exact h2 p (by omega), ?_⟩
 rw [val_take_set B (by omega), val_take_getD B t (k + 1), val_take_getD B m (k + 1)]
 have e := congrArg (fun z => B ^ (k + 1) * z) he
 simp only [Nat.mul_add] at e
 rw [h2 (k + 1) (by omega)] at e
 have e2 : B ^ (k + 1) * (u * dg m (k + 1)) = u * (B ^ (k + 1) * dg m (k + 1)) := Nat.mul_left_comm _ _ _
 have e3 : B ^ (k + 1) * (B * c') = B ^ (k + 1 + 1) * c' := by rw [← Nat.mul_assoc, ← Nat.pow_succ]
 have e4 : B * (B ^ k * s) = B ^ (k + 1) * s := by rw [← Nat.mul_assoc, Nat.mul_comm B, ← Nat.pow_succ]
 rw [Nat.mul_add B, Nat.mul_add u, e4]
 omega
theorem ShiftAt.fin {B u k c s c' : Nat} {t m o : List Nat} (h : ShiftAt B t m o u k c) (hn : k + 3 ≤ t.length) (hm : val B (m.take (k + 1)) = val B m) (he : s + B * c' = dg o (k + 1) + c) :
 ((o.set k s).set (k + 1) (dg o (k + 2) + c')).length = t.length ∧ B * val B (((o.set k s).set (k + 1) (dg o (k + 2) + c')).take (k + 2)) = val B (t.take (k + 3)) + u * val B m := by
 obtain ⟨h1, h2, h3⟩ := h
 refine ⟨by simpa using h1, ?_⟩
 rw [val_take_set B (by simp; omega), val_take_set B (by omega), val_take_getD B t (k + 2), val_take_getD B t (k + 1), h2 (k + 2) (by omega)]
 have e := congrArg (fun z => B ^ (k + 1) * z) he
 simp only [Nat.mul_add] at e
 rw [h2 (k + 1) (by omega)] at e
 rw [hm] at h3
 have e3 : B ^ (k + 1) * (B * c') = B ^ (k + 2) * c' := by rw [← Nat.mul_assoc, ← Nat.pow_succ]
 have e4 : B * (B ^ k * s) = B ^ (k + 1) * s := by rw [← Nat.mul_assoc, Nat.mul_comm B, ← Nat.pow_succ]
 have e5 : B * (B ^ (k + 1) * (dg t (k + 2) + c')) = B ^ (k + 2) * dg t (k + 2) + B ^ (k + 2) * c' := by rw [← Nat.mul_assoc, Nat.mul_comm B, ← Nat.pow_succ, Nat.mul_add]
 rw [Nat.mul_add B, Nat.mul_add B, e4, e5]
 omega
end Go.Proofs.YtendnkpiidhogaaGreat

namespace Go.Proofs.YtendnkpiidhogaaGreat
open Go.RowKit

def fcells (n inv : Nat) (ml ol rl : List Nat) : List Value := .int .i64 (n : Int) :: (nts ml ++ .int .u64 (inv : Int) :: (nts ol ++ nts rl))
structure Fld (w : World) (g n inv : Nat) (ml ol rl : List Nat) : Prop where
 blk : w.heap[g]? = some (.cells (fcells n inv ml ol rl).toArray 231 (0, 0))
 m6 : ml.length = 6
 o6 : ol.length = 6
 r6 : rl.length = 6
variable {w w' : World} {g n inv : Nat} {ml ol rl : List Nat}
theorem Fld.below {B : Nat} (h : Fld w g n inv ml ol rl) (hb : Below B w w') (hg : g < B) : Fld w' g n inv ml ol rl := ⟨(hb.block g hg).trans h.blk, h.m6, h.o6, h.r6⟩
theorem Fld.lt (h : Fld w g n inv ml ol rl) : g < w.heap.size := blk_lt h.blk
theorem Fld.n0 (h : Fld w g n inv ml ol rl) : w.cell? ⟨g, 0, none⟩ = some (.int .i64 (n : Int)) := by
 rw [blk_cell h.blk 0]; rfl
theorem Fld.inv_ (h : Fld w g n inv ml ol rl) : w.cell? ⟨g, 7, none⟩ = some (.int .u64 (inv : Int)) := by
 rw [blk_cell h.blk 7]
 obtain ⟨a, b, c, d, e, f, rfl⟩ := six h.m6
 rfl
theorem Fld.m_ (h : Fld w g n inv ml ol rl) {j : Nat} (hj : j < 6) : w.cell? ⟨g, 1 + j, none⟩ = some (.int .u64 (dg ml j : Int)) := by
 rw [blk_cell h.blk (1 + j)]
 obtain ⟨a, b, c, d, e, f, rfl⟩ := six h.m6
 match j, hj with
 | 0, _ | 1, _ | 2, _ | 3, _ | 4, _ | 5, _ => rfl
def ARow (w : World) (g : Nat) (ty : TypeId) (l : List Nat) : Prop := w.heap[g]? = some (.cells (nts l).toArray ty (0, 0))
theorem ARow.cell {ty : TypeId} {l : List Nat} (h : ARow w g ty l) {i : Nat} (hi : i < l.length) : w.cell? ⟨g, i, none⟩ = some (.int .u64 (dg l i : Int)) := by
 rw [blk_cell h i, List.getElem?_toArray, nts_get hi]
theorem ARow.free {ty : TypeId} {l : List Nat} (h : ARow w g ty l) (i : Nat) : w.frozen? ⟨g, i, none⟩ = false := blk_free h i
theorem ARow.set {ty : TypeId} {l : List Nat} (h : ARow w g ty l) (i x : Nat) : ARow (w.setCell ⟨g, i, none⟩ (.int .u64 (x : Int))) g ty (l.set i x) := by
 have := blk_set h i (.int .u64 (x : Int))
 rw [ARow, this]
 simp [nts, List.map_set]
theorem ARow.below {ty : TypeId} {l : List Nat} {B : Nat} (h : ARow w g ty l) (hb : Below B w w') (hg : g < B) : ARow w' g ty l := (hb.block g hg).trans h
theorem ARow.lt {ty : TypeId} {l : List Nat} (h : ARow w g ty l) : g < w.heap.size := blk_lt h

theorem cells6 {w : World} {g : Nat} {ty : TypeId} {a b c d e f : Value} (h : w.heap[g]? = some (.cells #[a, b, c, d, e, f] ty (0, 0))) :
 w.cell? ⟨g, 0, none⟩ = some a ∧ w.cell? ⟨g, 1, none⟩ = some b ∧ w.cell? ⟨g, 2, none⟩ = some c ∧ w.cell? ⟨g, 3, none⟩ = some d ∧ w.cell? ⟨g, 4, none⟩ = some e ∧ w.cell? ⟨g, 5, none⟩ = some f :=
 ⟨blk_cell h 0, blk_cell h 1, blk_cell h 2, blk_cell h 3, blk_cell h 4, blk_cell h 5⟩
theorem six_set {w : World} {g : Nat} {ty : TypeId} {x0 x1 x2 x3 x4 x5 : Value} (h : w.heap[g]? = some (.cells #[x0, x1, x2, x3, x4, x5] ty (0, 0))) (a b c d e f : Value) :
 ((((((w.setCell ⟨g, 0, none⟩ a).setCell ⟨g, 1, none⟩ b).setCell ⟨g, 2, none⟩ c).setCell ⟨g, 3, none⟩ d).setCell ⟨g, 4, none⟩ e).setCell ⟨g, 5, none⟩ f).heap[g]? = some (.cells #[a, b, c, d, e, f] ty (0, 0)) := by
 have h1 := blk_set (blk_set (blk_set (blk_set (blk_set (blk_set h 0 a) 1 b) 2 c) 3 d) 4 e) 5 f
 rw [h1]
 rfl
theorem six_below {B g : Nat} {w0 w : World} (h : Below B w0 w) (hg : B ≤ g) (a b c d e f : Value) : Below B w0 ((((((w.setCell ⟨g, 0, none⟩ a).setCell ⟨g, 1, none⟩ b).setCell ⟨g, 2, none⟩ c).setCell ⟨g, 3, none⟩ d).setCell ⟨g, 4, none⟩ e).setCell ⟨g, 5, none⟩ f) :=
 (((((h.setCell (p := ⟨g, 0, none⟩) hg a).setCell (p := ⟨g, 1, none⟩) hg b).setCell (p := ⟨g, 2, none⟩) hg c).setCell (p := ⟨g, 3, none⟩) hg d).setCell (p := ⟨g, 4, none⟩) hg e).setCell (p := ⟨g, 5, none⟩) hg f
theorem end6 {fn : Func} {R : Ending → World → Prop} {a : Act} {W : World} {p : Tmp} {g : Nat} {ty : TypeId} {fr : Nat × Nat} {x0 x1 x2 x3 x4 x5 : Value} (hr : fn.results = #[.cell p 160]) (hp : a.tmps.getD p undef = .pointer (some ⟨g, 0, none⟩)) (hd : a.defers = [])
 (hg : W.heap[g]? = some (.cells #[x0, x1, x2, x3, x4, x5] ty fr)) (hR : R (.returned (.agg #[x0, x1, x2, x3, x4, x5])) W) : bodyPost Tryz.prog fn R .ret a W :=
 bodyPost_ret (results_cell_row hr a.tmps W g _ _ _ (.array 6 139) hp hg Tryz.underlying160 rfl (by kernel_rfl)) hd hR
theorem copy_arow (w : World) (g gt n c c' : Nat) (ty ty' : TypeId) (u src : List Nat) (hu : ARow w g ty u) (hs : ARow w gt ty' src) (hn : n ≤ src.length) (hn' : n ≤ u.length) (_hpos : 0 < n) :
 (Builtin.copy_ #[89, 89] 3 #[.slice (some ⟨g, 0, none⟩) n c, .slice (some ⟨gt, 0, none⟩) n c']).run Tryz.prog w = .ok (goInt n) (w.setRow g (nts (src.take n ++ u.drop n)).toArray) := by
 have hl : (nts (src.take n)).length = n := by rw [nts_length, List.length_take]; omega
 have h := run_copy_row (P := Tryz.prog) w 89 89 3 139 g 0 n c ⟨gt, 0, none⟩ n c' (nts u).toArray ty (nts (src.take n)) Tryz.underlying89 info64size hu
  (by rw [hl]; simp) (fun j v hj => by
   have hj' : j < n := by have := (List.getElem?_eq_some_iff.1 hj).1; omega
   rw [add_blk, blk_cell hs j, List.getElem?_toArray]
   rw [nts, List.getElem?_map, List.getElem?_take, if_pos hj'] at hj
   rw [nts, List.getElem?_map]
   exact hj) (by rw [hl]; simp [nts]; omega) (oneCell_nts _)
 rw [hl] at h
 rw [h]
 simp [nts, List.map_drop]
theorem val_take_lt {B : Nat} {l : List Nat} (h : ∀ x ∈ l, x < B) (k : Nat) (hB : 0 < B := by omega) : val B (l.take k) < B ^ k := by
 have h1 := val_lt (B := B) (l := l.take k) fun x hx => h x (List.mem_of_mem_take hx)
 exact Nat.lt_of_lt_of_le h1 (Nat.pow_le_pow_right hB (by rw [List.length_take]; omega))
theorem val_take_zeros {B k : Nat} {l : List Nat} (h : ∀ p, k ≤ p → dg l p = 0) : val B (l.take k) = val B l := by
 rcases Nat.lt_or_ge k l.length with h1 | h1
 · rw [val_take_drop B l (n := k) (by omega), val_zeros (l := l.drop k) ?_, Nat.mul_zero, Nat.add_zero]
   intro x hx
   obtain ⟨j, hj, rfl⟩ := List.mem_iff_getElem.1 hx
   have h2 := h (k + j) (by omega)
   rw [List.length_drop] at hj
   rw [List.getElem_drop]
   rwa [dg, getD_eq' (by omega)] at h2
 · rw [List.take_of_length_le h1]

set_option maxRecDepth 100000 in
set_option maxHeartbeats 2000000 in
theorem zbelow_any (gt over : Nat) (t : List Nat) (w : World) (hF : Fld w g n inv ml ol rl) (hml : ∀ x ∈ ml, x < 18446744073709551616) (hT : ARow w gt 232 t) (_hgt : gt ≠ g) (ht8 : t.length = 8) (ht : ∀ x ∈ t, x < 18446744073709551616) (hn : n ≤ 6) (hn1 : 0 < n)
 (hmv : val 18446744073709551616 (ml.take n) = val 18446744073709551616 ml) (ho : over < 18446744073709551616) (hv : val 18446744073709551616 (t.take n) + 18446744073709551616 ^ n * over < 2 * val 18446744073709551616 ml) :
 Calls Tryz.prog 213 #[.pointer (some ⟨g, 0, none⟩), .pointer (some ⟨gt, 0, none⟩), .int .u64 (over : Int)] w fun e w' => ∃ o, e = .returned (EV o) ∧ o.length = 6 ∧ (∀ x ∈ o, x < 18446744073709551616) ∧
  val 18446744073709551616 o = offM (val 18446744073709551616 (t.take n) + 18446744073709551616 ^ n * over) (val 18446744073709551616 ml) ∧ Below w.heap.size w w' := by
 have h0 := hF.n0
 have hg := hF.lt
 have hgtl := hT.lt
 have hB0 : Below w.heap.size w ((w.alloc (.cells #[.int .u64 0, .int .u64 0, .int .u64 0, .int .u64 0, .int .u64 0, .int .u64 0] 160)).alloc (.cells #[.int .u64 0, .int .u64 0, .int .u64 0, .int .u64 0, .int .u64 0, .int .u64 0] 160)) := ((Below.refl _ w).alloc (Nat.le_refl _) _).alloc (by simp) _
 have hr0 : ARow ((w.alloc (.cells #[.int .u64 0, .int .u64 0, .int .u64 0, .int .u64 0, .int .u64 0, .int .u64 0] 160)).alloc (.cells #[.int .u64 0, .int .u64 0, .int .u64 0, .int .u64 0, .int .u64 0, .int .u64 0] 160)) (w.heap.size + 1) 160 [0, 0, 0, 0, 0, 0] := by
  have := heap_alloc_new (w.alloc (.cells #[.int .u64 0, .int .u64 0, .int .u64 0, .int .u64 0, .int .u64 0, .int .u64 0] 160)) (.cells #[.int .u64 0, .int .u64 0, .int .u64 0, .int .u64 0, .int .u64 0, .int .u64 0] 160)
  rw [World.size_alloc] at this
  exact this
 have hres : ((w.alloc (.cells #[.int .u64 0, .int .u64 0, .int .u64 0, .int .u64 0, .int .u64 0, .int .u64 0] 160)).alloc (.cells #[.int .u64 0, .int .u64 0, .int .u64 0, .int .u64 0, .int .u64 0, .int .u64 0] 160)).heap[w.heap.size]? = some (.cells #[.int .u64 0, .int .u64 0, .int .u64 0, .int .u64 0, .int .u64 0, .int .u64 0] 160 (0, 0)) := (Below.heap_alloc _ _ _ (by simp)).trans (heap_alloc_new w _)
 go_enter Tryz.func213, Tryz.ntmps213
 go_wp2_with fail
 generalize (w.alloc (.cells #[.int .u64 0, .int .u64 0, .int .u64 0, .int .u64 0, .int .u64 0, .int .u64 0] 160)).alloc (.cells #[.int .u64 0, .int .u64 0, .int .u64 0, .int .u64 0, .int .u64 0, .int .u64 0] 160) = W0 at *
 have hW0 : w.heap.size + 2 ≤ W0.heap.size := by have := hr0.lt; omega
 have Hv := Lib.hid hv
 have Hmv := Lib.hid hmv
 have Hml := Lib.hid hml
 have Ht := Lib.hid ht
 have Ht8 := Lib.hid ht8
 have hm6 := Lib.hid hF.m6
 clear hv hmv hml ht ht8
 go_loopw [8, 14] (fun cv iv wr => ∃ (k cr : Nat) (o : List Nat), iv = .int .i64 (k : Int) ∧ cv = .int .u64 (cr : Int) ∧ k ≤ n ∧ cr ≤ 1 ∧ SubAt 18446744073709551616 t ml o k cr ∧ Hid (o.length = 6) ∧ Hid (∀ x ∈ o, x < 18446744073709551616) ∧ Hid (∀ p, k ≤ p → dg o p = 0) ∧ ARow wr (w.heap.size + 1) 160 o ∧ Below (w.heap.size + 1) W0 wr) (fun _ iv _ => n - (intOf iv).toNat)
 case atStart => exact ⟨0, 0, _, rfl, rfl, by omega, by omega, SubAt.zero _ _ _ _, Lib.hid rfl, Lib.hid (by simp), Lib.hid (fun p _ => by match p with | 0 | 1 | 2 | 3 | 4 | 5 => rfl | p + 6 => rfl), hr0, Below.refl _ _⟩
 case round =>
  obtain ⟨k, cr, o, rfl, rfl, hk, hcr, hA, Ho, Hlo, Hz, hblk, hB⟩ := hrel
  have hBw : Below w.heap.size w wr := hB0.trans (hB.mono (by omega))
  have hFr := hF.below hBw hg
  have hTr := hT.below hBw hgtl
  have c0 := hFr.n0
  by_cases hlt : k < n
  · have q1 := hTr.cell (i := k) (by have := Ht8.out; omega)
    have q2 := hFr.m_ (j := k) (by omega)
    have dt : dg t k < 18446744073709551616 := getD_lt (by omega) Ht.out k
    have dm : dg ml k < 18446744073709551616 := getD_lt (by omega) Hml.out k
    obtain ⟨s, cr', hs, hcr', he⟩ := borrow_of (dg t k) (dg ml k) cr dt dm hcr
    have hok : k < o.length := by have := Ho.out; omega
    have q3 := hblk.cell hok
    have q4 := hblk.free k
    have hA' := hA.step hok he
    have hblk' := hblk.set k s
    have hB' := hB.setCell (p := ⟨w.heap.size + 1, k, none⟩) (Nat.le_refl _) (.int .u64 (s : Int))
    have Ho' : Hid ((o.set k s).length = 6) := Lib.hid (by rw [List.length_set]; exact Ho.out)
    have Hlo' : Hid (∀ x ∈ o.set k s, x < 18446744073709551616) := Lib.hid (set_lt Hlo.out hs)
    have Hz' : Hid (∀ p, k + 1 ≤ p → dg (o.set k s) p = 0) := Lib.hid fun p hp => by rw [getD_set_ne (by omega)]; exact Hz.out p (by omega)
    have hsub := fun w => sub64_at (dg t k) (dg ml k) cr s cr' hcr dt dm hs he hcr' w
    have ki : (k : Int) < 8 := by omega
    have ki6 : (k : Int) < 6 := by omega
    clear he hA hblk hB hok hBw hFr hTr
    go_wp2_with fail
    have hfar : ∀ q : Addr, q.block < w.heap.size → (wr.setCell ⟨w.heap.size + 1, k, none⟩ (.int .u64 (s : Int))).drew.cell? q = wr.cell? q := fun q hq => World.cell?_of_block (Below.heap_setCell _ _ _ _ (by show q.block ≠ w.heap.size + 1; omega))
    have f1 := (hfar ⟨gt, k, none⟩ hgtl).trans q1
    have f2 := (hfar ⟨g, 1 + k, none⟩ hg).trans q2
    clear hfar
    go_region_held3 (fun w' => w'.cell? ⟨gt, k, none⟩ = some (.int .u64 (dg t k : Int)) ∧ w'.cell? ⟨g, 1 + k, none⟩ = some (.int .u64 (dg ml k : Int))) (first | exact ⟨q1, q2⟩ | exact ⟨f1, f2⟩ | go_keep) (fail)
    go_wp2
    go_roundw
    case rel => exact ⟨k + 1, cr', o.set k s, by go_num, rfl, by omega, hcr', hA', Ho', Hlo', Hz', hblk', hB'.drew⟩
    case measure => simp [intOf]; omega
  · obtain rfl : k = n := by omega
    have hfin : val 18446744073709551616 o + val 18446744073709551616 ml = val 18446744073709551616 (t.take k) + 18446744073709551616 ^ k * cr := by
     have h1 : val 18446744073709551616 (o.take k) + val 18446744073709551616 (ml.take k) = val 18446744073709551616 (t.take k) + 18446744073709551616 ^ k * cr := hA
     rw [Hmv.out] at h1
     have h2 : val 18446744073709551616 (o.take k) = val 18446744073709551616 o := val_take_zeros Hz.out
     omega
    have hvo : val 18446744073709551616 o < 18446744073709551616 ^ k := by
     rw [← val_take_zeros Hz.out]
     exact val_take_lt Hlo.out k
    have hvm : val 18446744073709551616 ml < 18446744073709551616 ^ k := by rw [← Hmv.out]; exact val_take_lt Hml.out k
    have hvt := val_take_lt Ht.out k
    have hv := Hv.out
    by_cases hcase : over < cr
    · obtain rfl : cr = 1 := by omega
      obtain rfl : over = 0 := by omega
      rw [Nat.mul_zero, Nat.add_zero] at hv
      have hoff : offM (val 18446744073709551616 (t.take k) + 18446744073709551616 ^ k * 0) (val 18446744073709551616 ml) = val 18446744073709551616 (t.take k) := by rw [Nat.mul_zero, Nat.add_zero, offM, if_pos (by omega)]
      have hcp := copy_arow wr.drew (w.heap.size + 1) gt k 6 8 160 232 o t hblk hTr (by have := Ht8.out; omega) (by have := Ho.out; omega) hn1
      have hvv : val 18446744073709551616 (t.take k ++ o.drop k) = val 18446744073709551616 (t.take k) := by
       rw [val_append, val_zeros (l := o.drop k) ?_, Nat.mul_zero, Nat.add_zero]
       intro x hx
       obtain ⟨j, hj, rfl⟩ := List.mem_iff_getElem.1 hx
       have h2 := Hz.out (k + j) (by omega)
       rw [List.length_drop] at hj
       rw [List.getElem_drop]
       rwa [dg, getD_eq' (by omega)] at h2
      have hlen : (t.take k ++ o.drop k).length = 6 := by rw [List.length_append, List.length_take, List.length_drop, Ho.out, Ht8.out]; omega
      have hlim : ∀ x ∈ t.take k ++ o.drop k, x < 18446744073709551616 := fun x hx => by
       rcases List.mem_append.1 hx with h | h
       · exact Ht.out x (List.mem_of_mem_take h)
       · exact Hlo.out x (List.mem_of_mem_drop h)
      generalize t.take k ++ o.drop k = o2 at *
      have hb2 : ARow (wr.drew.setRow (w.heap.size + 1) (nts o2).toArray) (w.heap.size + 1) 160 o2 := setRow_heap wr.drew _ _ _ _ _ hblk
      have hB2 := setRow_below hB.drew (Nat.le_refl (w.heap.size + 1)) (nts o2).toArray
      obtain ⟨a, b, c, d, e, f, hoe⟩ := six hlen
      have hcb : ((wr.drew.setRow (w.heap.size + 1) (nts o2).toArray).heap[w.heap.size + 1]? = some (.cells #[.int .u64 (a : Int), .int .u64 (b : Int), .int .u64 (c : Int), .int .u64 (d : Int), .int .u64 (e : Int), .int .u64 (f : Int)] 160 (0, 0))) := by
       have h := hb2
       rw [ARow] at h
       rw [h, hoe]
       rfl
      have hrb : (wr.drew.setRow (w.heap.size + 1) (nts o2).toArray).heap[w.heap.size]? = some (.cells #[.int .u64 0, .int .u64 0, .int .u64 0, .int .u64 0, .int .u64 0, .int .u64 0] 160 (0, 0)) := (hB2.block w.heap.size (by omega)).trans hres
      obtain ⟨e0, e1, e2, e3, e4, e5⟩ := cells6 hcb
      obtain ⟨r0, r1, r2, r3, r4, r5⟩ := cells6 hrb
      have z := fun i => blk_free hrb i
      have z0 := z 0
      have z1 := z 1
      have z2 := z 2
      have z3 := z 3
      have z4 := z 4
      have z5 := z 5
      have hrb' := hrb
      have hBf : Below w.heap.size w (wr.drew.setRow (w.heap.size + 1) (nts o2).toArray) := hB0.trans (hB2.mono (by omega))
      have Hoff := Lib.hid (hvv.trans hoff.symm)
      have Hoe := Lib.hid hoe
      have Hlen := Lib.hid hlen
      have Hlim := Lib.hid hlim
      have k6 : (k : Int) ≤ 6 := by omega
      have k8 : (k : Int) ≤ 8 := by omega
      clear hvo hv hfin hvm hvt hoff hA hblk hFr hTr z hcb hrb hvv hoe hlen hlim hb2 hB2
      go_wp2_with fail
      go_region
      generalize wr.drew.setRow (w.heap.size + 1) (nts o2).toArray = W9 at *
      go_wp2_with fail
      refine end6 rfl rfl rfl (six_set hrb' _ _ _ _ _ _) ?_
      exact ⟨o2, by rw [Hoe.out]; rfl, Hlen.out, Hlim.out, Hoff.out, six_below hBf (Nat.le_refl _) _ _ _ _ _ _⟩
    · have hoff : val 18446744073709551616 o = offM (val 18446744073709551616 (t.take k) + 18446744073709551616 ^ k * over) (val 18446744073709551616 ml) := by
       have hcr' : cr = 0 ∨ cr = 1 := by omega
       generalize 18446744073709551616 ^ k = R at *
       rcases Nat.eq_zero_or_pos over with rfl | hpo
       · obtain rfl : cr = 0 := by omega
         rw [Nat.mul_zero, Nat.add_zero] at hfin hv ⊢
         rw [offM, if_neg (by omega)]
         omega
       · have h1 : R * 1 ≤ R * over := Nat.mul_le_mul_left _ hpo
         have h2 : over = 1 := by
          rcases Nat.lt_or_ge over 2 with h | h
          · omega
          · have : R * 2 ≤ R * over := Nat.mul_le_mul_left _ h
            omega
         subst h2
         rw [offM, if_neg (by omega)]
         rcases hcr' with rfl | rfl
         · rw [Nat.mul_zero, Nat.add_zero] at hfin
           omega
         · omega
      have Hoff := Lib.hid hoff
      obtain ⟨a, b, c, d, e, f, hoe⟩ := six Ho.out
      have hcb : (wr.heap[w.heap.size + 1]? = some (.cells #[.int .u64 (a : Int), .int .u64 (b : Int), .int .u64 (c : Int), .int .u64 (d : Int), .int .u64 (e : Int), .int .u64 (f : Int)] 160 (0, 0))) := by
       rw [hoe] at hblk; exact hblk
      have hrb : wr.heap[w.heap.size]? = some (.cells #[.int .u64 0, .int .u64 0, .int .u64 0, .int .u64 0, .int .u64 0, .int .u64 0] 160 (0, 0)) := (hB.block w.heap.size (by omega)).trans hres
      obtain ⟨e0, e1, e2, e3, e4, e5⟩ := cells6 hcb
      obtain ⟨r0, r1, r2, r3, r4, r5⟩ := cells6 hrb
      have z := fun i => blk_free hrb i
      have z0 := z 0
      have z1 := z 1
      have z2 := z 2
      have z3 := z 3
      have z4 := z 4
      have z5 := z 5
      have hrb' := hrb
      clear hvo hv hfin hvm hvt hoff hA hblk hFr hTr z hcb hrb
      go_wp2_with fail
      refine end6 rfl rfl rfl (six_set hrb' _ _ _ _ _ _) ?_
      exact ⟨o, by rw [hoe]; rfl, Ho.out, Hlo.out, Hoff.out, six_below hBw (Nat.le_refl _) _ _ _ _ _ _⟩
end Go.Proofs.YtendnkpiidhogaaGreat

namespace Go.Proofs.YtendnkpiidhogaaGreat
open Go.RowKit

structure FF (w : World) (g n inv M : Nat) (ml ol rl : List Nat) : Prop where
 fld : Fld w g n inv ml ol rl
 mlt : ∀ x ∈ ml, x < 18446744073709551616
 mval : val 18446744073709551616 ml = M
 mtake : val 18446744073709551616 (ml.take n) = M
 npos : 0 < n
 nle : n ≤ 6
 big : 1 < M
 invLt : inv < 18446744073709551616
 invV : (inv * M + 1) % 18446744073709551616 = 0
theorem FF.below {w w' : World} {g n inv M B : Nat} {ml ol rl : List Nat} (h : FF w g n inv M ml ol rl) (hb : Below B w w') (hg : g < B) : FF w' g n inv M ml ol rl :=
 ⟨h.fld.below hb hg, h.mlt, h.mval, h.mtake, h.npos, h.nle, h.big, h.invLt, h.invV⟩
theorem FF.room {w : World} {g n inv M : Nat} {ml ol rl : List Nat} (h : FF w g n inv M ml ol rl) : M < 18446744073709551616 ^ n := by rw [← h.mtake]; exact val_take_lt h.mlt n
structure Elt (M : Nat) (l : List Nat) : Prop where
 six : l.length = 6
 lim : ∀ x ∈ l, x < 18446744073709551616
 lt : val 18446744073709551616 l < M
theorem Elt.take {w : World} {g n inv M : Nat} {ml ol rl l : List Nat} (h : FF w g n inv M ml ol rl) (he : Elt M l) : val 18446744073709551616 (l.take n) = val 18446744073709551616 l := by
 have h1 := val_take_drop 18446744073709551616 l (n := n) (by rw [he.six]; exact h.nle)
 have h2 := h.room
 rcases Nat.eq_zero_or_pos (val 18446744073709551616 (l.drop n)) with h3 | h3
 · rw [h3] at h1; omega
 · have h4 : 18446744073709551616 ^ n * 1 ≤ 18446744073709551616 ^ n * val 18446744073709551616 (l.drop n) := Nat.mul_le_mul_left _ h3
   have h5 := he.lt
   omega
theorem lay4 (w : World) (o1 o2 o3 o4 : Obj) : ((((w.alloc o1).alloc o2).alloc o3).alloc o4).heap[w.heap.size]? = some o1 ∧ ((((w.alloc o1).alloc o2).alloc o3).alloc o4).heap[w.heap.size + 1]? = some o2 ∧ ((((w.alloc o1).alloc o2).alloc o3).alloc o4).heap[w.heap.size + 1 + 1]? = some o3 ∧ ((((w.alloc o1).alloc o2).alloc o3).alloc o4).heap[w.heap.size + 1 + 1 + 1]? = some o4 ∧
 ((((w.alloc o1).alloc o2).alloc o3).alloc o4).heap.size = w.heap.size + 4 ∧ Below w.heap.size w ((((w.alloc o1).alloc o2).alloc o3).alloc o4) := by
 have e1 := heap_alloc_new w o1
 have e2 := heap_alloc_new (w.alloc o1) o2
 have e3 := heap_alloc_new ((w.alloc o1).alloc o2) o3
 have e4 := heap_alloc_new (((w.alloc o1).alloc o2).alloc o3) o4
 simp only [World.size_alloc] at e2 e3 e4
 refine ⟨?_, ?_, ?_, e4, by simp, (((((Below.refl _ w).alloc (Nat.le_refl _) _).alloc (by simp) _).alloc (by simp; omega) _).alloc (by simp; omega) _)⟩
 · exact (Below.heap_alloc _ _ _ (by simp <;> omega)).trans ((Below.heap_alloc _ _ _ (by simp <;> omega)).trans ((Below.heap_alloc _ _ _ (by simp)).trans e1))
 · exact (Below.heap_alloc _ _ _ (by simp <;> omega)).trans ((Below.heap_alloc _ _ _ (by simp)).trans e2)
 · exact (Below.heap_alloc _ _ _ (by simp)).trans e3

set_option maxRecDepth 100000 in
set_option maxHeartbeats 2000000 in
theorem zadd_any {g n inv M : Nat} {ml ol rl : List Nat} (a b : List Nat) (w : World) (hF : FF w g n inv M ml ol rl) (ha : Elt M a) (hb : Elt M b) :
 Calls Tryz.prog 174 #[.pointer (some ⟨g, 0, none⟩), EV a, EV b] w fun e w' => ∃ o, e = .returned (EV o) ∧ Elt M o ∧ val 18446744073709551616 o = offM (val 18446744073709551616 a + val 18446744073709551616 b) M ∧ Below w.heap.size w w' := by
 have hg := hF.fld.lt
 have h0 := hF.fld.n0
 have hn := hF.nle
 have hn1 := hF.npos
 have ta := ha.take hF
 have tb := hb.take hF
 obtain ⟨a0, a1, a2, a3, a4, a5, hae⟩ := six ha.six
 obtain ⟨b0, b1, b2, b3, b4, b5, hbe⟩ := six hb.six
 obtain ⟨l1, l2, l3, l4, hz, hB0⟩ := lay4 w (.cells #[.int .u64 (a0 : Int), .int .u64 (a1 : Int), .int .u64 (a2 : Int), .int .u64 (a3 : Int), .int .u64 (a4 : Int), .int .u64 (a5 : Int)] 160)
  (.cells #[.int .u64 (b0 : Int), .int .u64 (b1 : Int), .int .u64 (b2 : Int), .int .u64 (b3 : Int), .int .u64 (b4 : Int), .int .u64 (b5 : Int)] 160) (.cells #[.int .u64 0, .int .u64 0, .int .u64 0, .int .u64 0, .int .u64 0, .int .u64 0] 160)
  (.cells #[.int .u64 0, .int .u64 0, .int .u64 0, .int .u64 0, .int .u64 0, .int .u64 0, .int .u64 0, .int .u64 0] 232)
 have hva : EV a = .agg #[.int .u64 (a0 : Int), .int .u64 (a1 : Int), .int .u64 (a2 : Int), .int .u64 (a3 : Int), .int .u64 (a4 : Int), .int .u64 (a5 : Int)] := by rw [hae]; rfl
 have hvb : EV b = .agg #[.int .u64 (b0 : Int), .int .u64 (b1 : Int), .int .u64 (b2 : Int), .int .u64 (b3 : Int), .int .u64 (b4 : Int), .int .u64 (b5 : Int)] := by rw [hbe]; rfl
 rw [hva, hvb]
 have h00 := (hB0.cell (p := ⟨g, 0, none⟩) hg).trans h0
 go_enter Tryz.func174, Tryz.ntmps174
 go_wp2_with fail
 generalize (((w.alloc (.cells #[.int .u64 (a0 : Int), .int .u64 (a1 : Int), .int .u64 (a2 : Int), .int .u64 (a3 : Int), .int .u64 (a4 : Int), .int .u64 (a5 : Int)] 160)).alloc
  (.cells #[.int .u64 (b0 : Int), .int .u64 (b1 : Int), .int .u64 (b2 : Int), .int .u64 (b3 : Int), .int .u64 (b4 : Int), .int .u64 (b5 : Int)] 160)).alloc (.cells #[.int .u64 0, .int .u64 0, .int .u64 0, .int .u64 0, .int .u64 0, .int .u64 0] 160)).alloc
  (.cells #[.int .u64 0, .int .u64 0, .int .u64 0, .int .u64 0, .int .u64 0, .int .u64 0, .int .u64 0, .int .u64 0] 232) = W0 at *
 have A0 : ARow W0 w.heap.size 160 a := by rw [hae]; exact l1
 have B0 : ARow W0 (w.heap.size + 1) 160 b := by rw [hbe]; exact l2
 have T0 : ARow W0 (w.heap.size + 1 + 1 + 1) 232 [0, 0, 0, 0, 0, 0, 0, 0] := l4
 have hW0 : w.heap.size + 4 ≤ W0.heap.size := by omega
 have Ha := Lib.hid ha
 have Hb := Lib.hid hb
 have Hae := Lib.hid hae
 have Hbe := Lib.hid hbe
 have HF := Lib.hid hF
 clear l1 l2 l4 hz ha hb hae hbe hva hvb hF
 go_loopw [8, 14] (fun cv iv wr => ∃ (k cr : Nat) (o : List Nat), iv = .int .i64 (k : Int) ∧ cv = .int .u64 (cr : Int) ∧ k ≤ n ∧ cr ≤ 1 ∧ AddAt 18446744073709551616 a b o k cr ∧ Hid (o.length = 8) ∧ Hid (∀ x ∈ o, x < 18446744073709551616) ∧ ARow wr (w.heap.size + 1 + 1 + 1) 232 o ∧ Below (w.heap.size + 1 + 1 + 1) W0 wr) (fun _ iv _ => n - (intOf iv).toNat)
 case atStart => exact ⟨0, 0, _, rfl, rfl, by omega, by omega, AddAt.zero _ _ _ _, Lib.hid rfl, Lib.hid (by simp), T0, Below.refl _ _⟩
 case round =>
  obtain ⟨k, cr, o, rfl, rfl, hk, hcr, hA, Ho, Hlo, hblk, hB⟩ := hrel
  have hBw : Below w.heap.size w wr := hB0.trans (hB.mono (by omega))
  have hFr := HF.out.below hBw hg
  have c0 := hFr.fld.n0
  have hAr := A0.below hB (by omega)
  have hBr := B0.below hB (by omega)
  by_cases hlt : k < n
  · have q1 := hAr.cell (i := k) (by rw [Ha.out.six]; omega)
    have q2 := hBr.cell (i := k) (by rw [Hb.out.six]; omega)
    have dt : dg a k < 18446744073709551616 := getD_lt (by omega) Ha.out.lim k
    have dm : dg b k < 18446744073709551616 := getD_lt (by omega) Hb.out.lim k
    obtain ⟨s, cr', hs, hcr', he⟩ := carry_of (dg a k) (dg b k) cr dt dm hcr
    have hok : k < o.length := by have := Ho.out; omega
    have q3 := hblk.cell hok
    have q4 := hblk.free k
    have hA' := hA.step hok (by omega)
    have hblk' := hblk.set k s
    have hB' := hB.setCell (p := ⟨w.heap.size + 1 + 1 + 1, k, none⟩) (Nat.le_refl _) (.int .u64 (s : Int))
    have Ho' : Hid ((o.set k s).length = 8) := Lib.hid (by rw [List.length_set]; exact Ho.out)
    have Hlo' : Hid (∀ x ∈ o.set k s, x < 18446744073709551616) := Lib.hid (set_lt Hlo.out hs)
    have hadd := fun w => add64_at (dg a k) (dg b k) cr s cr' hcr hs (by omega) w
    have ki : (k : Int) < 8 := by omega
    have ki6 : (k : Int) < 6 := by omega
    clear he hA hblk hB hok hBw hFr hAr hBr
    go_wp2_with fail
    have hfar : ∀ q : Addr, q.block < w.heap.size + 1 + 1 + 1 → (wr.setCell ⟨w.heap.size + 1 + 1 + 1, k, none⟩ (.int .u64 (s : Int))).drew.cell? q = wr.cell? q := fun q hq => World.cell?_of_block (Below.heap_setCell _ _ _ _ (by show q.block ≠ w.heap.size + 1 + 1 + 1; omega))
    have f1 := (hfar ⟨w.heap.size, k, none⟩ (by show w.heap.size < _; omega)).trans q1
    have f2 := (hfar ⟨w.heap.size + 1, k, none⟩ (by show w.heap.size + 1 < _; omega)).trans q2
    clear hfar
    go_region_held3 (fun w' => w'.cell? ⟨w.heap.size, k, none⟩ = some (.int .u64 (dg a k : Int)) ∧ w'.cell? ⟨w.heap.size + 1, k, none⟩ = some (.int .u64 (dg b k : Int))) (first | exact ⟨q1, q2⟩ | exact ⟨f1, f2⟩ | go_keep) (fail)
    go_wp2
    go_roundw
    case rel => exact ⟨k + 1, cr', o.set k s, by go_num, rfl, by omega, hcr', hA', Ho', Hlo', hblk', hB'.drew⟩
    case measure => simp [intOf]; omega
  · obtain rfl : k = n := by omega
    have hsum : val 18446744073709551616 (o.take k) + 18446744073709551616 ^ k * cr = val 18446744073709551616 a + val 18446744073709551616 b := by
     have h1 : val 18446744073709551616 (o.take k) + 18446744073709551616 ^ k * cr = val 18446744073709551616 (a.take k) + val 18446744073709551616 (b.take k) := by have := hA; unfold AddAt at this; omega
     rw [ta, tb] at h1
     exact h1
    have hbel := zbelow_any (w.heap.size + 1 + 1 + 1) cr o wr hFr.fld hFr.mlt hblk (by omega) Ho.out Hlo.out hn hn1 (by rw [hFr.mtake, hFr.mval]) (by omega) (by rw [hsum, hFr.mval]; have := Ha.out.lt; have := Hb.out.lt; omega)
    rw [hsum, hFr.mval] at hbel
    have Hbel := Lib.hid hbel
    clear hbel hA hblk hFr hAr hBr hsum
    go_wp2_with fail
    refine Hbel.out.mono ?_
    rintro e w2 ⟨o2, rfl, ho6, hlim, hv2, hB2⟩
    obtain ⟨x0, x1, x2, x3, x4, x5, hoe⟩ := six ho6
    have hrb := (hB2.block (w.heap.size + 1 + 1) (by have := hB.size; omega)).trans ((hB.block (w.heap.size + 1 + 1) (by omega)).trans l3)
    obtain ⟨r0, r1, r2, r3, r4, r5⟩ := cells6 hrb
    have z := fun i => blk_free hrb i
    have z0 := z 0
    have z1 := z 1
    have z2 := z 2
    have z3 := z 3
    have z4 := z 4
    have z5 := z 5
    have hrb' := hrb
    have hBf : Below w.heap.size w w2 := hBw.trans (hB2.mono hBw.size)
    have Hv2 := Lib.hid hv2
    have Ho6 := Lib.hid ho6
    have Hlim := Lib.hid hlim
    have Hoe := Lib.hid hoe
    have hve : EV o2 = .agg #[.int .u64 (x0 : Int), .int .u64 (x1 : Int), .int .u64 (x2 : Int), .int .u64 (x3 : Int), .int .u64 (x4 : Int), .int .u64 (x5 : Int)] := by rw [hoe]; rfl
    rw [hve]
    clear hve hoe hv2 ho6 hlim z hrb hB2 hB Hbel
    go_wp2_with fail
    refine end6 rfl rfl rfl (six_set hrb' _ _ _ _ _ _) ?_
    exact ⟨o2, by rw [Hoe.out]; rfl, ⟨Ho6.out, Hlim.out, by rw [Hv2.out]; exact offM_lt (by have := Ha.out.lt; have := Hb.out.lt; omega)⟩, Hv2.out, six_below hBf (by omega) _ _ _ _ _ _⟩
end Go.Proofs.YtendnkpiidhogaaGreat

namespace Go.Proofs.YtendnkpiidhogaaGreat
open Go.RowKit

def subM (x y M : Nat) : Nat := if y ≤ x then x - y else x + M - y
theorem subM_lt {x y M : Nat} (hx : x < M) (hy : y < M) : subM x y M < M := by unfold subM; split <;> omega
theorem subM_mod {x y M : Nat} (hx : x < M) (hy : y < M) : subM x y M = (x + M - y) % M := by
 unfold subM
 split
 · rw [show x + M - y = x - y + M by omega, Nat.add_mod_right, Nat.mod_eq_of_lt (by omega)]
 · rw [Nat.mod_eq_of_lt (by omega)]
set_option maxRecDepth 100000 in
set_option maxHeartbeats 2000000 in
theorem zsub_any {g n inv M : Nat} {ml ol rl : List Nat} (a b : List Nat) (w : World) (hF : FF w g n inv M ml ol rl) (ha : Elt M a) (hb : Elt M b) :
 Calls Tryz.prog 176 #[.pointer (some ⟨g, 0, none⟩), EV a, EV b] w fun e w' => ∃ o, e = .returned (EV o) ∧ Elt M o ∧ val 18446744073709551616 o = subM (val 18446744073709551616 a) (val 18446744073709551616 b) M ∧ Below w.heap.size w w' := by
 have hg := hF.fld.lt
 have h0 := hF.fld.n0
 have hn := hF.nle
 have hn1 := hF.npos
 have ta := ha.take hF
 have tb := hb.take hF
 obtain ⟨a0, a1, a2, a3, a4, a5, hae⟩ := six ha.six
 obtain ⟨b0, b1, b2, b3, b4, b5, hbe⟩ := six hb.six
 obtain ⟨l1, l2, l3, l4, hz, hB0⟩ := lay4 w (.cells #[.int .u64 (a0 : Int), .int .u64 (a1 : Int), .int .u64 (a2 : Int), .int .u64 (a3 : Int), .int .u64 (a4 : Int), .int .u64 (a5 : Int)] 160)
  (.cells #[.int .u64 (b0 : Int), .int .u64 (b1 : Int), .int .u64 (b2 : Int), .int .u64 (b3 : Int), .int .u64 (b4 : Int), .int .u64 (b5 : Int)] 160) (.cells #[.int .u64 0, .int .u64 0, .int .u64 0, .int .u64 0, .int .u64 0, .int .u64 0] 160)
  (.cells #[.int .u64 0, .int .u64 0, .int .u64 0, .int .u64 0, .int .u64 0, .int .u64 0] 160)
 have hva : EV a = .agg #[.int .u64 (a0 : Int), .int .u64 (a1 : Int), .int .u64 (a2 : Int), .int .u64 (a3 : Int), .int .u64 (a4 : Int), .int .u64 (a5 : Int)] := by rw [hae]; rfl
 have hvb : EV b = .agg #[.int .u64 (b0 : Int), .int .u64 (b1 : Int), .int .u64 (b2 : Int), .int .u64 (b3 : Int), .int .u64 (b4 : Int), .int .u64 (b5 : Int)] := by rw [hbe]; rfl
 rw [hva, hvb]
 have h00 := (hB0.cell (p := ⟨g, 0, none⟩) hg).trans h0
 go_enter Tryz.func176, Tryz.ntmps176
 go_wp2_with fail
 generalize (((w.alloc (.cells #[.int .u64 (a0 : Int), .int .u64 (a1 : Int), .int .u64 (a2 : Int), .int .u64 (a3 : Int), .int .u64 (a4 : Int), .int .u64 (a5 : Int)] 160)).alloc
  (.cells #[.int .u64 (b0 : Int), .int .u64 (b1 : Int), .int .u64 (b2 : Int), .int .u64 (b3 : Int), .int .u64 (b4 : Int), .int .u64 (b5 : Int)] 160)).alloc (.cells #[.int .u64 0, .int .u64 0, .int .u64 0, .int .u64 0, .int .u64 0, .int .u64 0] 160)).alloc
  (.cells #[.int .u64 0, .int .u64 0, .int .u64 0, .int .u64 0, .int .u64 0, .int .u64 0] 160) = W0 at *
 have A0 : ARow W0 w.heap.size 160 a := by rw [hae]; exact l1
 have B0 : ARow W0 (w.heap.size + 1) 160 b := by rw [hbe]; exact l2
 have T0 : ARow W0 (w.heap.size + 1 + 1 + 1) 160 [0, 0, 0, 0, 0, 0] := l4
 have hW0 : w.heap.size + 4 ≤ W0.heap.size := by omega
 have Ha := Lib.hid ha
 have Hb := Lib.hid hb
 have Hae := Lib.hid hae
 have Hbe := Lib.hid hbe
 have HF := Lib.hid hF
 clear l1 l2 l4 hz ha hb hae hbe hva hvb hF
 go_loopw [8, 16] (fun cv iv wr => ∃ (k cr : Nat) (o : List Nat), iv = .int .i64 (k : Int) ∧ cv = .int .u64 (cr : Int) ∧ k ≤ n ∧ cr ≤ 1 ∧ SubAt 18446744073709551616 a b o k cr ∧ Hid (o.length = 6) ∧ Hid (∀ x ∈ o, x < 18446744073709551616) ∧ Hid (∀ p, k ≤ p → dg o p = 0) ∧ ARow wr (w.heap.size + 1 + 1 + 1) 160 o ∧ Below (w.heap.size + 1 + 1 + 1) W0 wr) (fun _ iv _ => n - (intOf iv).toNat)
 case atStart => exact ⟨0, 0, _, rfl, rfl, by omega, by omega, SubAt.zero _ _ _ _, Lib.hid rfl, Lib.hid (by simp), Lib.hid (fun p _ => by match p with | 0 | 1 | 2 | 3 | 4 | 5 => rfl | p + 6 => rfl), T0, Below.refl _ _⟩
 case round =>
  obtain ⟨k, cr, o, rfl, rfl, hk, hcr, hA, Ho, Hlo, Hz, hblk, hB⟩ := hrel
  have hBw : Below w.heap.size w wr := hB0.trans (hB.mono (by omega))
  have hFr := HF.out.below hBw hg
  have c0 := hFr.fld.n0
  have hAr := A0.below hB (by omega)
  have hBr := B0.below hB (by omega)
  by_cases hlt : k < n
  · have q1 := hAr.cell (i := k) (by rw [Ha.out.six]; omega)
    have q2 := hBr.cell (i := k) (by rw [Hb.out.six]; omega)
    have dt : dg a k < 18446744073709551616 := getD_lt (by omega) Ha.out.lim k
    have dm : dg b k < 18446744073709551616 := getD_lt (by omega) Hb.out.lim k
    obtain ⟨s, cr', hs, hcr', he⟩ := borrow_of (dg a k) (dg b k) cr dt dm hcr
    have hok : k < o.length := by have := Ho.out; omega
    have q3 := hblk.cell hok
    have q4 := hblk.free k
    have hA' := hA.step hok he
    have hblk' := hblk.set k s
    have hB' := hB.setCell (p := ⟨w.heap.size + 1 + 1 + 1, k, none⟩) (Nat.le_refl _) (.int .u64 (s : Int))
    have Ho' : Hid ((o.set k s).length = 6) := Lib.hid (by rw [List.length_set]; exact Ho.out)
    have Hlo' : Hid (∀ x ∈ o.set k s, x < 18446744073709551616) := Lib.hid (set_lt Hlo.out hs)
    have Hz' : Hid (∀ p, k + 1 ≤ p → dg (o.set k s) p = 0) := Lib.hid fun p hp => by rw [getD_set_ne (by omega)]; exact Hz.out p (by omega)
    have hsub := fun w => sub64_at (dg a k) (dg b k) cr s cr' hcr dt dm hs he hcr' w
    have ki6 : (k : Int) < 6 := by omega
    clear he hA hblk hB hok hBw hFr hAr hBr
    go_wp2_with fail
    have hfar : ∀ q : Addr, q.block < w.heap.size + 1 + 1 + 1 → (wr.setCell ⟨w.heap.size + 1 + 1 + 1, k, none⟩ (.int .u64 (s : Int))).drew.cell? q = wr.cell? q := fun q hq => World.cell?_of_block (Below.heap_setCell _ _ _ _ (by show q.block ≠ w.heap.size + 1 + 1 + 1; omega))
    have f1 := (hfar ⟨w.heap.size, k, none⟩ (by show w.heap.size < _; omega)).trans q1
    have f2 := (hfar ⟨w.heap.size + 1, k, none⟩ (by show w.heap.size + 1 < _; omega)).trans q2
    clear hfar
    go_region_held3 (fun w' => w'.cell? ⟨w.heap.size, k, none⟩ = some (.int .u64 (dg a k : Int)) ∧ w'.cell? ⟨w.heap.size + 1, k, none⟩ = some (.int .u64 (dg b k : Int))) (first | exact ⟨q1, q2⟩ | exact ⟨f1, f2⟩ | go_keep) (fail)
    go_wp2
    go_roundw
    case rel => exact ⟨k + 1, cr', o.set k s, by go_num, rfl, by omega, hcr', hA', Ho', Hlo', Hz', hblk', hB'.drew⟩
    case measure => simp [intOf]; omega
  · obtain rfl : k = n := by omega
    have hdif : val 18446744073709551616 o + val 18446744073709551616 b = val 18446744073709551616 a + 18446744073709551616 ^ k * cr := by
     have h1 : val 18446744073709551616 (o.take k) + val 18446744073709551616 (b.take k) = val 18446744073709551616 (a.take k) + 18446744073709551616 ^ k * cr := hA
     rw [ta, tb, val_take_zeros Hz.out] at h1
     exact h1
    have hvo : val 18446744073709551616 o < 18446744073709551616 ^ k := by rw [← val_take_zeros Hz.out]; exact val_take_lt Hlo.out k
    have hroom := hFr.room
    have hal := Ha.out.lt
    have hbl := Hb.out.lt
    have hrb := (hB.block (w.heap.size + 1 + 1) (by omega)).trans l3
    rcases Nat.eq_zero_or_pos cr with h0c | h0c
    · subst h0c
      have hv2 : val 18446744073709551616 o = subM (val 18446744073709551616 a) (val 18446744073709551616 b) M := by
       rw [Nat.mul_zero, Nat.add_zero] at hdif
       rw [subM, if_pos (by omega)]
       omega
      obtain ⟨x0, x1, x2, x3, x4, x5, hoe⟩ := six Ho.out
      have hcb : wr.heap[w.heap.size + 1 + 1 + 1]? = some (.cells #[.int .u64 (x0 : Int), .int .u64 (x1 : Int), .int .u64 (x2 : Int), .int .u64 (x3 : Int), .int .u64 (x4 : Int), .int .u64 (x5 : Int)] 160 (0, 0)) := by
       rw [hoe] at hblk; exact hblk
      obtain ⟨e0, e1, e2, e3, e4, e5⟩ := cells6 hcb
      obtain ⟨r0, r1, r2, r3, r4, r5⟩ := cells6 hrb
      have z := fun i => blk_free hrb i
      have z0 := z 0
      have z1 := z 1
      have z2 := z 2
      have z3 := z 3
      have z4 := z 4
      have z5 := z 5
      have hrb' := hrb
      have Hv2 := Lib.hid hv2
      have Hoe := Lib.hid hoe
      clear hv2 hoe hcb hrb z hdif hvo hroom hal hbl hA hblk hFr hAr hBr hB
      go_wp2_with fail
      refine end6 rfl rfl rfl (six_set hrb' _ _ _ _ _ _) ?_
      exact ⟨o, by rw [Hoe.out]; rfl, ⟨Ho.out, Hlo.out, by rw [Hv2.out]; exact subM_lt Ha.out.lt Hb.out.lt⟩, Hv2.out, six_below hBw (by omega) _ _ _ _ _ _⟩
    · obtain rfl : cr = 1 := by omega
      rw [Nat.mul_one] at hdif
      have Hdif := Lib.hid hdif
      have Hvo := Lib.hid hvo
      have Hroom := Lib.hid hroom
      have hB1 := hB
      have hblk1 := hblk
      have hAs := AddAt.zero 18446744073709551616 o ml o
      have HBw := Lib.hid hBw
      clear hA hdif hvo hroom hal hbl hFr hAr hBr hrb hB hblk hBw
      go_wp2_with fail
      have HT := Lib.hid (⟨Ho.out, Hlo.out, Hz.out⟩ : o.length = 6 ∧ (∀ x ∈ o, x < 18446744073709551616) ∧ ∀ p, k ≤ p → dg o p = 0)
      go_loopw [10, 40] (fun cv iv wx => ∃ (j cr : Nat) (o2 : List Nat), iv = .int .i64 (j : Int) ∧ cv = .int .u64 (cr : Int) ∧ j ≤ k ∧ cr ≤ 1 ∧ AddAt 18446744073709551616 o ml o2 j cr ∧ Hid (∀ p, j ≤ p → dg o2 p = dg o p) ∧ Hid (o2.length = 6) ∧ Hid (∀ x ∈ o2, x < 18446744073709551616) ∧ Hid (∀ p, k ≤ p → dg o2 p = 0) ∧ ARow wx (w.heap.size + 1 + 1 + 1) 160 o2 ∧ Below (w.heap.size + 1 + 1 + 1) W0 wx) (fun _ iv _ => k - (intOf iv).toNat)
      case atStart => exact ⟨0, 0, o, rfl, rfl, by omega, by omega, hAs, Lib.hid fun _ _ => rfl, Ho, Hlo, Hz, hblk1, hB1⟩
      case round =>
       clear hAs hblk1 hB1
       obtain ⟨j, cr, o2, rfl, rfl, hj, hcr2, hA, Hsame, Ho2, Hlo2, Hz2, hblk, hB⟩ := hrel
       have hBw : Below w.heap.size w wr := hB0.trans (hB.mono (by omega))
       have hFr := HF.out.below hBw hg
       have c0 := hFr.fld.n0
       by_cases hlt2 : j < k
       · have q1 := hblk.cell (i := j) (by have := Ho2.out; omega)
         rw [Hsame.out j (Nat.le_refl _)] at q1
         have q2 := hFr.fld.m_ (j := j) (by omega)
         have dt : dg o j < 18446744073709551616 := getD_lt (by omega) HT.out.2.1 j
         have dm : dg ml j < 18446744073709551616 := getD_lt (by omega) hFr.mlt j
         obtain ⟨s, cr', hs, hcr', he⟩ := carry_of (dg o j) (dg ml j) cr dt dm hcr2
         have hok : j < o2.length := by have := Ho2.out; omega
         have q4 := hblk.free j
         have hA' := hA.step hok (by omega)
         have hblk' := hblk.set j s
         have hB' := hB.setCell (p := ⟨w.heap.size + 1 + 1 + 1, j, none⟩) (Nat.le_refl _) (.int .u64 (s : Int))
         have Ho' : Hid ((o2.set j s).length = 6) := Lib.hid (by rw [List.length_set]; exact Ho2.out)
         have Hlo' : Hid (∀ x ∈ o2.set j s, x < 18446744073709551616) := Lib.hid (set_lt Hlo2.out hs)
         have Hz' : Hid (∀ p, k ≤ p → dg (o2.set j s) p = 0) := Lib.hid fun p hp => by rw [getD_set_ne (by omega)]; exact Hz2.out p hp
         have Hs' : Hid (∀ p, j + 1 ≤ p → dg (o2.set j s) p = dg o p) := Lib.hid fun p hp => by rw [getD_set_ne (by omega)]; exact Hsame.out p (by omega)
         have hadd := fun w => add64_at (dg o j) (dg ml j) cr s cr' hcr2 hs (by omega) w
         have ki6 : (j : Int) < 6 := by omega
         clear he hA hblk hB hok hBw hFr
         go_wp2_with fail
         go_region_with (fail)
         all_goals
          go_wp2
          go_roundw
          case rel =>
           refine ⟨_, _, _, _, _, _, _, _, _, _, _, _, _, _, _, _, _, _, _, _, _, _, ?_, rfl⟩
           exact ⟨j + 1, cr', o2.set j s, by go_num, rfl, by omega, hcr', hA', Hs', Ho', Hlo', Hz', hblk', hB'.drew⟩
          case measure => simp [intOf]; omega
       · obtain rfl : j = k := by omega
         have hsum : val 18446744073709551616 o2 + 18446744073709551616 ^ j * cr = val 18446744073709551616 o + M := by
          have h1 : val 18446744073709551616 (o2.take j) + 18446744073709551616 ^ j * cr = val 18446744073709551616 (o.take j) + val 18446744073709551616 (ml.take j) := hA
          rwa [val_take_zeros Hz2.out, val_take_zeros HT.out.2.2, hFr.mtake] at h1
         have hv2 : val 18446744073709551616 o2 = subM (val 18446744073709551616 a) (val 18446744073709551616 b) M := by
          have h1 := Hdif.out
          have h2 := Hroom.out
          have h3 := Ha.out.lt
          have h4 := Hb.out.lt
          have h5 : val 18446744073709551616 o2 < 18446744073709551616 ^ j := by rw [← val_take_zeros Hz2.out]; exact val_take_lt Hlo2.out j
          have h6 := Hvo.out
          generalize 18446744073709551616 ^ j = R at *
          have h7 : cr = 0 ∨ cr = 1 := by omega
          rw [subM, if_neg (by omega)]
          rcases h7 with rfl | rfl
          · rw [Nat.mul_zero] at hsum; omega
          · omega
         have hrb := (hB.block (w.heap.size + 1 + 1) (by omega)).trans l3
         obtain ⟨x0, x1, x2, x3, x4, x5, hoe⟩ := six Ho2.out
         have hcb : wr.heap[w.heap.size + 1 + 1 + 1]? = some (.cells #[.int .u64 (x0 : Int), .int .u64 (x1 : Int), .int .u64 (x2 : Int), .int .u64 (x3 : Int), .int .u64 (x4 : Int), .int .u64 (x5 : Int)] 160 (0, 0)) := by
          rw [hoe] at hblk; exact hblk
         obtain ⟨e0, e1, e2, e3, e4, e5⟩ := cells6 hcb
         obtain ⟨r0, r1, r2, r3, r4, r5⟩ := cells6 hrb
         have z := fun i => blk_free hrb i
         have z0 := z 0
         have z1 := z 1
         have z2 := z 2
         have z3 := z 3
         have z4 := z 4
         have z5 := z 5
         have hrb' := hrb
         have Hv2 := Lib.hid hv2
         have Hoe := Lib.hid hoe
         clear hv2 hoe hcb hrb z hsum hA hblk hFr hB
         go_wp2_with fail
         refine end6 rfl rfl rfl (six_set hrb' _ _ _ _ _ _) ?_
         exact ⟨o2, by rw [Hoe.out]; rfl, ⟨Ho2.out, Hlo2.out, by rw [Hv2.out]; exact subM_lt Ha.out.lt Hb.out.lt⟩, Hv2.out, six_below hBw (by omega) _ _ _ _ _ _⟩
end Go.Proofs.YtendnkpiidhogaaGreat

namespace Go.Proofs.YtendnkpiidhogaaGreat
open Go.RowKit

theorem val_take_mod {B : Nat} {l : List Nat} (h : ∀ x ∈ l, x < B) (_hB : 0 < B) (k : Nat) : val B (l.take (k + 1)) % B = dg l 0 := by
 cases l with
 | nil => simp [dg]
 | cons x m => rw [List.take_succ_cons, val_cons, Nat.add_mul_mod_self_left, Nat.mod_eq_of_lt (h x (by simp))]; rfl
theorem low_gone {B M inv V u t0 m0 : Nat} (_hB : 0 < B) (hi : (inv * M + 1) % B = 0) (hV : V % B = t0) (hm : M % B = m0) (hu : u = t0 * inv % B) : (t0 + u * m0) % B = 0 := by
 have h1 := mont_low (v := V) hi hV hu
 rw [← hV, ← hm, Nat.add_mod, Nat.mod_mod, Nat.mul_mod_mod, ← Nat.add_mod]
 exact h1
theorem low_parts {u m0 t0 : Nat} (hu : u < 18446744073709551616) (hm : m0 < 18446744073709551616) (ht : t0 < 18446744073709551616) (hz : (t0 + u * m0) % 18446744073709551616 = 0) :
 ∃ hi lo c : Nat, lo < 18446744073709551616 ∧ lo + 18446744073709551616 * hi = u * m0 ∧ c ≤ 1 ∧ 0 + 18446744073709551616 * c = lo + t0 + 0 ∧ hi + c < 18446744073709551616 ∧ 18446744073709551616 * (hi + c) = t0 + u * m0 := by
 have hb := mul_bound hu hm ht (show 0 < 18446744073709551616 by omega)
 refine ⟨u * m0 / 18446744073709551616, u * m0 % 18446744073709551616, (u * m0 % 18446744073709551616 + t0) / 18446744073709551616, Nat.mod_lt _ (by omega), Nat.mod_add_div _ _, ?_, ?_, ?_, ?_⟩
 all_goals
  generalize u * m0 = p at *
  omega
theorem top_small {M vb T x R top : Nat} (e1 : T = x + R * top) (h2 : T < M + vb) (hM : M ≤ R) (hb : vb < M) : top ≤ 1 := by
 rcases Nat.lt_or_ge top 2 with h | h
 · omega
 · have e5 : R * 2 ≤ R * top := Nat.mul_le_mul_left _ h
   omega
end Go.Proofs.YtendnkpiidhogaaGreat
