/- OperNone: the law answers true, whatever lies in memory, over the program's own table of constants. The card is tied. opers: ready, result of a digest. opers: finish, Final, Update, One of a digest. opers: Final, Update, One: of no operation, of a digest. What stands where blocks of cells stand. opers.Feed of no parts, to a digest. Bytes as a string. baileylaw20.begun: a digest goes in parts: true. The table of hashes.k as the row lists it. -/
import Derived.Test.YtpbmaapdppdagaaGreatDoorQfb259adfe4e7
import Derived.Deep.Upon
import Derived.Laws.BytesArg
import Derived.Lib.Bytes
import Derived.Lib.SlBytesConst
import Derived.Test.YtpbmaapdppdagaaGreatDoorRows
import Derived.ProofKit
import Derived.LaidMore
import Derived.OpenShut
import Derived.MakeChecks
import Derived.Test.YtpbmaapdppdagaaGreatDoorCards
import Derived.Test.YtpbmaapdppdagaaGreatDoorTie
import Derived.Stop.Joined
import Derived.SevenTiedAt
import Derived.Lay
import Derived.LaidSub
namespace Go.Proofs.YtpbmaapdppdagaaGreatDoor
open Go.RowKit
open Sha

attribute [local go_sem] Oper.semAt_some

def lenK (k : Int) : Nat := if k = 544 then 20 else 32
theorem RB.upS {w X : World} {A : Option Addr} {c : Nat} {d : List Nat} (h : RB w (fun b => b < w.heap.size) A c d) (hE : Ext w X) : RB X (fun b => b < X.heap.size) A c d := (h.below hE fun _ hb => hb).mono fun _ hb => Nat.lt_of_lt_of_le hb hE.bsize
def RQ (k : Int) (d : List Nat) (w : World) (A : Option Addr) (c : Nat) : Prop := ∃ o, RB w (fun b => b < w.heap.size) A c o ∧ o.length = lenK k ∧ (k = 592 → o = sha d)
theorem RQ.upS {k : Int} {d : List Nat} {w X : World} {A : Option Addr} {c : Nat} (h : RQ k d w A c) (hE : Ext w X) : RQ k d X A c := let ⟨o, h1, h2, h3⟩ := h; ⟨o, h1.upS hE, h2, h3⟩
theorem ofH {k : Int} (hk : Dig2 k) {P : Nat → Prop} {A : Option Addr} {c g : Nat} {d : List Nat} (w : World) (hw : KW w) (hg : w.heap[g]? = some (.cells #[.slice A d.length c] 23 (0, 0))) (hp : RB w P A c d) (hP : ∀ b, P b → b < w.heap.size) (hl : d.length ≤ 100000) (hd : ∀ x ∈ d, x < 256) :
 Calls Tryz.prog 52 #[.int .i64 (hashK k), .slice (some ⟨g, 0, none⟩) 1 1] w fun e w' => ∃ A c, e = .returned (.slice A (lenK k) c) ∧ RQ k d w' A c ∧ Ext w w' := by
 rcases hk with rfl | rfl
 · exact (of1_any w hw hg hp hP hl hd).mono fun e w' ⟨A, c, l, h1, h2, h3, h4⟩ => ⟨A, c, h1, ⟨l, h2, h3, fun h => absurd h (by decide)⟩, h4⟩
 · exact (of3_any w hw hg hp hP hl hd).mono fun e w' ⟨A, c, h1, h2, h3⟩ => ⟨A, c, h1, ⟨_, (h2.rb (by rw [sha_length]; decide)).mono fun b hb => hb.2, sha_length _, fun _ => rfl⟩, h3⟩
theorem ready_any (A : Option Addr) (n c : Nat) (w : World) : Calls Tryz.prog 51 #[.slice A n c, .int .i64 0] w fun e w' => ∃ g, e = .returned (.tuple #[.int .i64 (n : Int), .func (.func 92) #[] #[.pointer (some ⟨g, 0, none⟩)], .int .i64 0]) ∧ w'.heap[g]? = some (.cells #[.slice A n c] 23 (0, 0)) ∧ Ext w w' := by
 have hq := heap_alloc_new w (.cells #[.slice A n c] 23)
 have hE := Ext.alloc w (.cells #[.slice A n c] 23)
 obtain ⟨g, hg⟩ : ∃ g, w.heap.size = g := ⟨_, rfl⟩
 rw [hg] at hq
 obtain ⟨W0, hW0⟩ : ∃ W0, w.alloc (.cells #[.slice A n c] 23) = W0 := ⟨_, rfl⟩
 rw [hW0] at hq hE
 have HE := Lib.hid hE
 have HQ := Lib.hid hq
 have y0 := blk_cell hq 0
 simp only [List.getElem?_toArray, List.getElem?_cons_zero] at y0
 clear hq hE
 go_enter Tryz.func51, Tryz.ntmps51
 go_upto_region 1 with fail
 try rw [hW0, hg]
 clear hW0 hg
 go_wp2_with fail
 go_ret3
 exact ⟨g, rfl, HQ.out, HE.out⟩
theorem ready_one {A : Option Addr} {n c g : Nat} {w : World} (h : w.heap[g]? = some (.cells #[.slice A n c] 23 (0, 0))) : Calls Tryz.prog 92 #[.pointer (some ⟨g, 0, none⟩)] w fun e w' => e = .returned (.tuple #[.slice A n c, .int .i64 0]) ∧ w' = w := by
 have y0 := blk_cell h 0
 simp only [List.getElem?_toArray, List.getElem?_cons_zero] at y0
 go_enter Tryz.func92, Tryz.ntmps92
 go_wp2_with fail
 go_ret2
 exact ⟨rfl, rfl⟩
set_option maxRecDepth 100000 in
set_option maxHeartbeats 4000000 in
theorem result_dig {k : Int} (hk : Dig2 k) {b n c nd cd : Nat} {d A Ad : Option Addr} {be ov : Bool} {P : Nat → Prop} {l : List Nat} (w : World) (hw : KW w) (ho : OB9 w b k d Ad nd cd be ov) (hp : RB w P A c l) (hn : l.length = n) (hP : ∀ b, P b → b < w.heap.size) (hl : l.length ≤ 100000) (hd : ∀ x ∈ l, x < 256) :
 Calls Tryz.prog 29 #[.pointer (some ⟨b, 0, none⟩), .slice A n c] w fun e w' => ∃ g A1 c1, e = .returned (.tuple #[.int .i64 (lenK k : Int), .func (.func 92) #[] #[.pointer (some ⟨g, 0, none⟩)], .int .i64 0]) ∧ w'.heap[g]? = some (.cells #[.slice A1 (lenK k) c1] 23 (0, 0)) ∧ RQ k l w' A1 c1 ∧ Ext w w' := by
 obtain ⟨hq0, hq1, hz⟩ := two_at2' w (.cells #[.pointer (some ⟨b, 0, none⟩)] 22) (.cells #[.slice A n c] 23)
 have hE : Ext w ((w.alloc (.cells #[.pointer (some ⟨b, 0, none⟩)] 22)).alloc (.cells #[.slice A n c] 23)) := (Ext.alloc _ _).trans (Ext.alloc _ _)
 obtain ⟨g, hg⟩ : ∃ g, w.heap.size = g := ⟨_, rfl⟩
 rw [hg] at hq0 hq1
 obtain ⟨W0, hW0⟩ : ∃ W0, (w.alloc (.cells #[.pointer (some ⟨b, 0, none⟩)] 22)).alloc (.cells #[.slice A n c] 23) = W0 := ⟨_, rfl⟩
 rw [hW0] at hq0 hq1 hE
 have HE := Lib.hid hE
 have HW := Lib.hid (hw.ext hE)
 have HP := Lib.hid (hp.below hE hP)
 have HPP := Lib.hid (show ∀ b, P b → b < W0.heap.size from fun b hb => Nat.lt_of_lt_of_le (hP b hb) hE.bsize)
 have Hl := Lib.hid hl
 have Hd := Lib.hid hd
 obtain ⟨y0, y1, y5, y6, y7, y8⟩ := (ho.ext hE).facts
 have x0 := blk_cell hq0 0
 have x1 := blk_cell hq1 0
 simp only [List.getElem?_toArray, List.getElem?_cons_zero] at x0 x1
 have Hn := Lib.hid hn
 clear hq0 hq1 hE hw hp hP hl hd ho hn hz
 go_enter Tryz.func29, Tryz.ntmps29
 go_upto_region 1 with fail
 try rw [hW0, hg]
 clear hW0 hg
 go_upto_region 2 with fail
 refine Par.region_ext (by kernel_rfl) 16 [0, 1, 3, 7, 15, 31, 0, 64, 255, 511, 1023, 1023, 1023, 8191, 16383, 32767] [] (fun j f X => match j with
  | 0 => f 0 = .pointer (some ⟨b, 0, none⟩)
  | 1 => f 1 = .pointer (some ⟨b, 0, none⟩)
  | 2 => f 2 = .pointer (some ⟨b, 1, none⟩)
  | 3 => f 3 = .pointer (some ⟨b, 1, none⟩)
  | 4 => f 4 = .int .i64 k
  | 5 => f 5 = .int .i64 (hashK k)
  | 6 => f 6 = .slice A n c
  | 7 => ∃ q, f 7 = .slice (some ⟨q, 0, none⟩) 1 1 ∧ X.heap[q]? = some (.cells #[.slice A n c] 23 (0, 0))
  | 8 => ∃ A c, f 8 = .slice A (lenK k) c ∧ RQ k l X A c
  | 9 => ∃ q A c, f 9 = .tuple #[.int .i64 (lenK k : Int), .func (.func 92) #[] #[.pointer (some ⟨q, 0, none⟩)], .int .i64 0] ∧ X.heap[q]? = some (.cells #[.slice A (lenK k) c] 23 (0, 0)) ∧ RQ k l X A c
  | 10 => f 10 = .int .i64 (lenK k : Int)
  | 11 => ∃ q A c, f 11 = .func (.func 92) #[] #[.pointer (some ⟨q, 0, none⟩)] ∧ X.heap[q]? = some (.cells #[.slice A (lenK k) c] 23 (0, 0)) ∧ RQ k l X A c
  | 12 => f 12 = .int .i64 0
  | 13 => f 13 = .int .i64 (lenK k : Int)
  | 14 => ∃ q A c, f 14 = .func (.func 92) #[] #[.pointer (some ⟨q, 0, none⟩)] ∧ X.heap[q]? = some (.cells #[.slice A (lenK k) c] 23 (0, 0)) ∧ RQ k l X A c
  | 15 => f 15 = .int .i64 0
  | _ => True) (by kernel_rfl) [(13, 0), (14, 1), (15, 2), (16, 3), (17, 4), (18, 5), (19, 6), (20, 7), (21, 8), (22, 9), (23, 10), (24, 11), (25, 12), (4, 13), (5, 14), (6, 15)] (by kernel_rfl) ?_
 refine Par.ld0 1 15 x0 ?_
 refine Par.v1 2 14 0 ?_
 refine Par.v1 3 13 1 ?_
 refine Par.v1 4 12 2 ?_
 refine Par.ld1 5 11 3 y1 ?_
 refine Par.c0 6 10 (fun f => #[f 4]) (F' := 53) (fun f X hX hR => ?_) ?_
 · have e4 : f 4 = _ := hR.out 4 rfl
   simp only [e4]
   refine (hash_dig hk X).mono ?_
   rintro e w2 ⟨rfl, rfl⟩
   exact ⟨(.int .i64 (hashK k)), rfl, (Ext.refl _), fun _ _ => rfl⟩
 refine Par.ld0 7 9 x1 ?_
 refine Par.S 8 8 [(13, 0), (14, 1), (15, 2), (16, 3), (17, 4), (18, 5), (19, 6)] (fun f X hX hR K hK => ?_) ?_
 · have e6 : f 6 = _ := hR.out 6 rfl
   simp only [yA, yB, yC, yD, yE, e6]
   refine ⟨?_⟩
   go_simp
   exact hK.out _ _ _ (by simp only [yA, yB, yC, yD, yE, e6]) (Ext.alloc _ _) trivial (fun Y hY => ⟨_, rfl, hY.at_ (heap_alloc_new _ _)⟩)
 refine Par.c0 9 7 (fun f => #[f 5, f 7]) (F' := 52) (fun f X hX hR => ?_) ?_
 · have e5 : f 5 = _ := hR.out 5 rfl
   obtain ⟨g7, (e7 : f 7 = _), r7⟩ := hR.out 7 rfl
   simp only [e5, e7]
   rw [← Hn.out] at r7
   refine (ofH hk X (HW.out.ext hX) r7 (HP.out.below hX HPP.out) (fun b hb => Nat.lt_of_lt_of_le (HPP.out b hb) hX.bsize) Hl.out Hd.out).mono ?_
   rintro e w2 ⟨A2, c2, rfl, hr, hE⟩
   exact ⟨_, rfl, hE, fun Y hY => ⟨A2, c2, rfl, hr.upS hY⟩⟩
 refine Par.c0 10 6 (fun f => #[f 8, Value.int IntKind.i64 0]) (F' := 51) (fun f X hX hR => ?_) ?_
 · obtain ⟨A8, c8, (e8 : f 8 = _), r8⟩ := hR.out 8 rfl
   simp only [e8]
   refine (ready_any A8 (lenK k) c8 X).mono ?_
   rintro e w2 ⟨q, rfl, hq, hE⟩
   exact ⟨_, rfl, hE, fun Y hY => ⟨q, A8, c8, rfl, hY.at_ hq, (r8.upS hE).upS hY⟩⟩
 refine Par.S 11 5 [(13, 0), (14, 1), (15, 2), (16, 3), (17, 4), (18, 5), (19, 6), (20, 7), (21, 8), (22, 9), (24, 11), (25, 12)] (fun f X hX hR K hK => ?_) ?_
 · obtain ⟨g9, A9, c9, (e9 : f 9 = _), q9, r9⟩ := hR.out 9 rfl
   simp only [yA, yB, yC, yD, yE, e9]
   refine ⟨?_⟩
   go_simp
   exact Par.k hK (s := by simp only [yA, yB, yC, yD, yE, e9])
 refine Par.S 12 4 [(13, 0), (14, 1), (15, 2), (16, 3), (17, 4), (18, 5), (19, 6), (20, 7), (21, 8), (22, 9), (23, 10), (25, 12)] (fun f X hX hR K hK => ?_) ?_
 · obtain ⟨g9, A9, c9, (e9 : f 9 = _), q9, r9⟩ := hR.out 9 rfl
   simp only [yA, yB, yC, yD, yE, e9]
   refine ⟨?_⟩
   go_simp
   exact hK.out _ _ _ (by simp only [yA, yB, yC, yD, yE, e9]) (Ext.refl _) trivial (fun Y hY => ⟨g9, A9, c9, rfl, hY.at_ q9, r9.upS hY⟩)
 refine Par.S 13 3 [(13, 0), (14, 1), (15, 2), (16, 3), (17, 4), (18, 5), (19, 6), (20, 7), (21, 8), (22, 9), (23, 10), (24, 11)] (fun f X hX hR K hK => ?_) ?_
 · obtain ⟨g9, A9, c9, (e9 : f 9 = _), q9, r9⟩ := hR.out 9 rfl
   simp only [yA, yB, yC, yD, yE, e9]
   refine ⟨?_⟩
   go_simp
   exact Par.k hK (s := by simp only [yA, yB, yC, yD, yE, e9])
 refine Par.v1 14 2 10 ?_
 refine Par.S 15 1 [(13, 0), (14, 1), (15, 2), (16, 3), (17, 4), (18, 5), (19, 6), (20, 7), (21, 8), (22, 9), (23, 10), (24, 11), (25, 12), (4, 13)] (fun f X hX hR K hK => ?_) ?_
 · obtain ⟨g11, A11, c11, (e11 : f 11 = _), q11, r11⟩ := hR.out 11 rfl
   simp only [yA, yB, yC, yD, yE, e11]
   refine ⟨?_⟩
   go_simp
   exact hK.out _ _ _ (by simp only [yA, yB, yC, yD, yE, e11]) (Ext.refl _) trivial (fun Y hY => ⟨g11, A11, c11, rfl, hY.at_ q11, r11.upS hY⟩)
 refine Par.v1 16 0 12 ?_
 refine Par.AllOps.fin ⟨fun f X hX hR hal hap => ?_⟩
 obtain ⟨g7, (e7 : f 7 = _), r7⟩ := hR 7 (by decide)
 obtain ⟨A8, c8, (e8 : f 8 = _), r8⟩ := hR 8 (by decide)
 obtain ⟨g9, A9, c9, (e9 : f 9 = _), q9, r9⟩ := hR 9 (by decide)
 obtain ⟨g11, A11, c11, (e11 : f 11 = _), q11, r11⟩ := hR 11 (by decide)
 have e13 : f 13 = _ := hR 13 (by decide)
 obtain ⟨g14, A14, c14, (e14 : f 14 = _), q14, r14⟩ := hR 14 (by decide)
 have e15 : f 15 = _ := hR 15 (by decide)
 simp only [yA, yB, yD, yE, e7, e8, e9, e11, e13, e14, e15]
 clear hR hal hap e7 e8 e9 e11 e13 e14 e15
 refine Par.Chain.done ?_
 go_wp2
 go_ret3
 exact ⟨g14, A14, c14, rfl, q14, r14, HE.out.trans hX⟩
end Go.Proofs.YtpbmaapdppdagaaGreatDoor

namespace Go.Proofs.YtpbmaapdppdagaaGreatDoor
open Go.RowKit
open Sha

attribute [local go_sem] Oper.semAt_some

theorem OB9.over {w : World} {b : Nat} {k : Int} {d A : Option Addr} {n c : Nat} {be ov : Bool} (h : OB9 w b k d A n c be ov) : OB9 (w.setCell ⟨b, 8, none⟩ (.bool true)) b k d A n c be true := blk_set h 8 (.bool true)
theorem OB9.ne {w : World} {b g : Nat} {k : Int} {d A : Option Addr} {n c : Nat} {be ov : Bool} {cs : Array Value} (h : OB9 w b k d A n c be ov) (hg : w.heap[g]? = some (.cells cs 23 (0, 0))) : g ≠ b := by
 intro e
 unfold OB9 at h
 rw [e, h] at hg
 injection Option.some.inj hg with _ e2
 exact absurd e2 (by decide)
theorem RB.notOp {w : World} {b : Nat} {k : Int} {d A : Option Addr} {n c : Nat} {be ov : Bool} {A1 : Option Addr} {c1 : Nat} {l : List Nat} (h : OB9 w b k d A n c be ov) (hr : RB w (fun b => b < w.heap.size) A1 c1 l) (i : Nat) (v : Value) : RB (w.setCell ⟨b, i, none⟩ v) (fun x => x < (w.setCell ⟨b, i, none⟩ v).heap.size) A1 c1 l := by
 have hj := (Just.refl b w).set i v
 refine (hr.by_ fun q u hq hc => (World.cell?_of_block (hj.block q.block hq fun e => ?_)).trans hc).mono fun x hx => Nat.lt_of_lt_of_le hx hj.size
 unfold World.cell? at hc
 rw [e, h] at hc
 simp only at hc
 split at hc
 · cases hc
 · have hm := List.mem_of_getElem? (l := [Value.int .i64 1, .int .i64 k, .slice none 0 0, .slice none 0 0, .pointer d, .pointer none, .slice A n c, .bool be, .bool ov]) (i := q.off) (by simpa using hc)
   simp at hm
theorem RQ.notOp {w : World} {b : Nat} {k k' : Int} {d A : Option Addr} {n c : Nat} {be ov : Bool} {A1 : Option Addr} {c1 : Nat} {l : List Nat} (h : OB9 w b k d A n c be ov) (hr : RQ k' l w A1 c1) (i : Nat) (v : Value) : RQ k' l (w.setCell ⟨b, i, none⟩ v) A1 c1 := let ⟨o, h1, h2, h3⟩ := hr; ⟨o, RB.notOp h h1 i v, h2, h3⟩
def FinR (w : World) (b : Nat) (k : Int) (d A : Option Addr) (n c : Nat) (be : Bool) (l : List Nat) (room : Int) (e : Ending) (w' : World) : Prop :=
 if (lenK k : Int) ≤ room then ∃ A1 c1, e = .returned (.tuple #[.slice A1 (lenK k) c1, .int .i64 0, .int .i64 0]) ∧ OB9 w' b k d A n c be true ∧ RQ k l w' A1 c1 ∧ Just b w w'
 else e = .returned (.tuple #[.slice none 0 0, .int .i64 (lenK k : Int), .int .i64 336]) ∧ OB9 w' b k d A n c be false ∧ Ext w w'
set_option maxRecDepth 100000 in
set_option maxHeartbeats 4000000 in
theorem finish_dig {k : Int} (hk : Dig2 k) {b n c : Nat} {d A : Option Addr} {be : Bool} {P : Nat → Prop} {l : List Nat} (room : Int) (w : World) (hw : KW w) (ho : OB9 w b k d A n c be false) (hp : RB w P A c l) (hn : l.length = n) (hP : ∀ b, P b → b < w.heap.size) (hl : l.length ≤ 100000) (hd : ∀ x ∈ l, x < 256) :
 Calls Tryz.prog 15 #[.pointer (some ⟨b, 0, none⟩), .slice none 0 0, .slice none 0 0, .int .i64 room] w (FinR w b k d A n c be l room) := by
 obtain ⟨y0, y1, y5, y6, y7, y8⟩ := ho.facts
 have h1 := hp.cap
 have hnc : n ≤ c := by rw [← hn]; exact h1.1
 have hp2 := hp.mid' (k := 0) (m := n) (c' := n) (by omega) (by omega) (by omega) (by unfold maxLen; omega) (A' := A) (fun _ => by cases A <;> simp [Addr.add])
 rw [List.drop_zero, Nat.sub_zero, ← hn, List.take_length, hn] at hp2
 have n0 : (0 : Int) ≤ (n : Int) := by omega
 have n1 : (n : Int) ≤ (c : Int) := by omega
 have HO := Lib.hid ho
 have HW := Lib.hid hw
 have HP := Lib.hid hp2
 have HPP := Lib.hid hP
 have Hn := Lib.hid hn
 have Hl := Lib.hid hl
 have Hd := Lib.hid hd
 clear hw ho hp hp2 hP hl hd hn h1 hnc
 go_enter Tryz.func15, Tryz.ntmps15
 go_upto_region 1 with fail
 refine Par.region_ext (by kernel_rfl) 18 [0, 1, 3, 7, 0, 16, 48, 112, 240, 0, 512, 1536, 3584, 7680, 16383, 0, 65535, 131071] [] (fun j f X => match j with
  | 0 => f 0 = .pointer (some ⟨b, 0, none⟩)
  | 1 => f 1 = .pointer (some ⟨b, 0, none⟩)
  | 2 => f 2 = .pointer (some ⟨b, 6, none⟩)
  | 3 => f 3 = .slice A n c
  | 4 => f 4 = .pointer (some ⟨b, 0, none⟩)
  | 5 => f 5 = .pointer (some ⟨b, 0, none⟩)
  | 6 => f 6 = .pointer (some ⟨b, 6, none⟩)
  | 7 => f 7 = .slice A n c
  | 8 => f 8 = .int .i64 (n : Int)
  | 9 => f 9 = .pointer (some ⟨b, 0, none⟩)
  | 10 => f 10 = .pointer (some ⟨b, 0, none⟩)
  | 11 => f 11 = .pointer (some ⟨b, 6, none⟩)
  | 12 => f 12 = .slice A n c
  | 13 => f 13 = .int .i64 (n : Int)
  | 14 => f 14 = .slice A n n
  | 15 => f 15 = .slice none 0 0
  | 16 => f 16 = .slice A n n
  | 17 => f 17 = .slice A n n
  | _ => True) (by kernel_rfl) [(16, 0), (17, 1), (18, 2), (19, 3), (20, 4), (21, 5), (22, 6), (23, 7), (24, 8), (25, 9), (26, 10), (27, 11), (28, 12), (29, 13), (30, 14), (31, 15), (32, 16), (11, 17)] (by kernel_rfl) ?_
 refine Par.v0 1 17 ?_
 refine Par.v1 2 16 0 ?_
 refine Par.v1 3 15 1 ?_
 refine Par.ld1 4 14 2 y6 ?_
 refine Par.v0 5 13 ?_
 refine Par.v1 6 12 4 ?_
 refine Par.v1 7 11 5 ?_
 refine Par.ld1 8 10 6 y6 ?_
 refine Par.S 9 9 [(16, 0), (17, 1), (18, 2), (19, 3), (20, 4), (21, 5), (22, 6), (23, 7), (25, 9), (26, 10), (27, 11), (28, 12), (29, 13), (31, 15)] (fun f X hX hR K hK => ?_) ?_
 · have e7 : f 7 = _ := hR.out 7 rfl
   simp only [yA, yB, yC, yD, yE, e7]
   refine ⟨?_⟩
   go_simp
   exact Par.k hK (s := by simp only [yA, yB, yC, yD, yE, e7])
 refine Par.v0 10 8 ?_
 refine Par.v1 11 7 9 ?_
 refine Par.v1 12 6 10 ?_
 refine Par.ld1 13 5 11 y6 ?_
 refine Par.S 14 4 [(16, 0), (17, 1), (18, 2), (19, 3), (20, 4), (21, 5), (22, 6), (23, 7), (24, 8), (25, 9), (26, 10), (27, 11), (28, 12), (31, 15)] (fun f X hX hR K hK => ?_) ?_
 · have e12 : f 12 = _ := hR.out 12 rfl
   simp only [yA, yB, yC, yD, yE, e12]
   refine ⟨?_⟩
   go_simp
   exact Par.k hK (s := by simp only [yA, yB, yC, yD, yE, e12])
 refine Par.S 15 3 [(16, 0), (17, 1), (18, 2), (19, 3), (20, 4), (21, 5), (22, 6), (23, 7), (24, 8), (25, 9), (26, 10), (27, 11), (28, 12), (29, 13), (31, 15)] (fun f X hX hR K hK => ?_) ?_
 · have e3 : f 3 = _ := hR.out 3 rfl
   have e8 : f 8 = _ := hR.out 8 rfl
   have e13 : f 13 = _ := hR.out 13 rfl
   simp only [yA, yB, yC, yD, yE, e3, e8, e13]
   refine ⟨?_⟩
   go_simp
   exact Par.k hK (s := by simp only [yA, yB, yC, yD, yE, e3, e8, e13])
 refine Par.v0 16 2 ?_
 refine Par.S 17 1 [(16, 0), (17, 1), (18, 2), (19, 3), (20, 4), (21, 5), (22, 6), (23, 7), (24, 8), (25, 9), (26, 10), (27, 11), (28, 12), (29, 13), (30, 14), (31, 15)] (fun f X hX hR K hK => ?_) ?_
 · have e14 : f 14 = _ := hR.out 14 rfl
   have e15 : f 15 = _ := hR.out 15 rfl
   simp only [yA, yB, yC, yD, yE, e14, e15]
   refine ⟨?_⟩
   go_simp
   cases A
   · go_simp; exact Par.k hK (s := by simp only [yA, yB, yC, yD, yE, e14, e15])
   · go_simp; exact Par.k hK (s := by simp only [yA, yB, yC, yD, yE, e14, e15])
 refine Par.v1 18 0 16 ?_
 refine Par.AllOps.fin ⟨fun f X hX hR hal hap => ?_⟩
 have e17 : f 17 = _ := hR 17 (by decide)
 simp only [yA, yB, yD, yE, e17]
 clear hR hal hap e17
 refine Par.Chain.done ?_
 have E1 := hX
 have HE1 := Lib.hid E1
 replace y0 := E1.cell y0
 have Hres := Lib.hid (result_dig hk X (HW.out.ext E1) (HO.out.ext E1) (HP.out.below E1 HPP.out) Hn.out (fun b hb => Nat.lt_of_lt_of_le (HPP.out b hb) E1.bsize) Hl.out Hd.out)
 rename World => w1
 clear E1 hX y1 y5 y6 y7 y8 n0 n1
 go_wp2_with fail
 refine Hres.out.mono ?_
 rintro e w2 ⟨g, A1, c1, rfl, hg, hr, hE2⟩
 have HE2 := Lib.hid (HE1.out.trans hE2)
 have HG := Lib.hid hg
 have HR := Lib.hid hr
 have ho2 := HO.out.ext HE2.out
 have y8 := ho2.facts.2.2.2.2.2
 have f8 := blk_free ho2 8
 have HO2 := Lib.hid ho2
 clear Hres hg hr hE2 ho2 y0
 by_cases hrm : (lenK k : Int) ≤ room
 · have hgt : ¬ room < (lenK k : Int) := by omega
   have hne := HO2.out.ne HG.out
   have hj := (Just.refl b w2).set 8 (.bool true)
   have HG3 := Lib.hid (hj.at_ hne HG.out)
   have HO3 := Lib.hid HO2.out.over
   have HR3 := Lib.hid (RQ.notOp HO2.out HR.out 8 (.bool true))
   have HJ := Lib.hid ((Just.of_below (g := b) HE2.out (Nat.le_refl _)).trans hj)
   clear hne hj
   go_upto_region 12 with fail
   clear y8 f8
   generalize w2.setCell ⟨b, 8, none⟩ (.bool true) = w3 at *
   have Hone := Lib.hid (ready_one HG3.out)
   go_wp2_with fail
   refine Hone.out.mono ?_
   rintro e w4 ⟨rfl, rfl⟩
   go_wp2_with fail
   go_ret3
   unfold FinR
   rw [if_pos hrm]
   exact ⟨A1, c1, rfl, HO3.out, HR3.out, HJ.out⟩
 · have hgt : room < (lenK k : Int) := by omega
   go_wp2_with fail
   go_ret3
   unfold FinR
   rw [if_neg (by omega)]
   exact ⟨rfl, HO2.out, HE2.out⟩
end Go.Proofs.YtpbmaapdppdagaaGreatDoor

namespace Go.Proofs.YtpbmaapdppdagaaGreatDoor
open Go.RowKit
open Sha

attribute [local go_sem] Oper.semAt_some

theorem FinR.lift {w w1 w' : World} {b n c : Nat} {k room : Int} {d A : Option Addr} {be : Bool} {l : List Nat} {e : Ending} (hE : Ext w w1) (h : FinR w1 b k d A n c be l room e w') : FinR w b k d A n c be l room e w' := by
 unfold FinR at h ⊢
 split
 · rename_i hr
   rw [if_pos hr] at h
   obtain ⟨A1, c1, h1, h2, h3, h4⟩ := h
   exact ⟨A1, c1, h1, h2, h3, (Just.of_below (g := b) hE (Nat.le_refl _)).trans h4⟩
 · rename_i hr
   rw [if_neg hr] at h
   exact ⟨h.1, h.2.1, hE.trans h.2.2⟩
set_option maxRecDepth 100000 in
theorem final_nil (room : Int) (w : World) : Calls Tryz.prog 5 #[.pointer none, .slice none 0 0, .int .i64 room] w fun e w' => e = .returned (.tuple #[.slice none 0 0, .int .i64 0, .int .i64 145]) ∧ w' = w := by
 go_enter Tryz.func5, Tryz.ntmps5
 go_wp2_with fail
 refine (ends_nil w).mono ?_
 rintro e w1 ⟨rfl, rfl⟩
 go_wp2
 go_ret3
 exact ⟨rfl, rfl⟩
set_option maxRecDepth 100000 in
theorem update_nil (room : Int) (w : World) : Calls Tryz.prog 4 #[.pointer none, .slice none 0 0, .int .i64 room] w fun e w' => e = .returned (.tuple #[.slice none 0 0, .int .i64 0, .int .i64 145]) ∧ w' = w := by
 go_enter Tryz.func4, Tryz.ntmps4
 go_wp2_with fail
 refine (ends_nil w).mono ?_
 rintro e w1 ⟨rfl, rfl⟩
 go_wp2
 go_ret3
 exact ⟨rfl, rfl⟩
set_option maxRecDepth 100000 in
theorem one_nil (room : Int) (w : World) : Calls Tryz.prog 6 #[.pointer none, .slice none 0 0, .slice none 0 0, .int .i64 room] w fun e w' => e = .returned (.tuple #[.slice none 0 0, .int .i64 0, .int .i64 145]) ∧ w' = w := by
 go_enter Tryz.func6, Tryz.ntmps6
 go_wp2_with fail
 refine (over_nil w).mono ?_
 rintro e w1 ⟨rfl, rfl⟩
 go_wp2
 go_ret3
 exact ⟨rfl, rfl⟩
set_option maxRecDepth 100000 in
set_option maxHeartbeats 4000000 in
theorem final_dig {k : Int} (hk : Dig2 k) {b n c : Nat} {d A : Option Addr} {be : Bool} {P : Nat → Prop} {l : List Nat} (room : Int) (hroom : 0 ≤ room) (w : World) (hw : KW w) (ho : OB9 w b k d A n c be false) (hp : RB w P A c l) (hn : l.length = n) (hP : ∀ b, P b → b < w.heap.size) (hl : l.length ≤ 100000) (hd : ∀ x ∈ l, x < 256) :
 Calls Tryz.prog 5 #[.pointer (some ⟨b, 0, none⟩), .slice none 0 0, .int .i64 room] w (FinR w b k d A n c be l room) := by
 have hmax : max room 0 = room := by omega
 have hmx : ¬ room < 0 := by omega
 have He := Lib.hid (ends_at hk ho)
 have Hf := Lib.hid (fun X (hX : Ext w X) => (finish_dig hk room X (hw.ext hX) (ho.ext hX) (hp.below hX hP) hn (fun b hb => Nat.lt_of_lt_of_le (hP b hb) hX.bsize) hl hd).mono fun e w' h => FinR.lift hX h)
 clear hw ho hp hn hP hl hd
 go_enter Tryz.func5, Tryz.ntmps5
 go_wp2_with fail
 refine He.out.mono ?_
 rintro e w1 ⟨rfl, hE⟩
 have Hf1 := Lib.hid (Hf.out w1 hE)
 clear Hf He hE
 go_wp2_with fail
 refine Hf1.out.mono ?_
 rintro e w2 hF
 by_cases hr : (lenK k : Int) ≤ room
 · have hF2 := hF
   unfold FinR at hF2
   rw [if_pos hr] at hF2
   obtain ⟨A1, c1, rfl, _⟩ := hF2
   have HF := Lib.hid hF
   clear hF Hf1 hr
   go_wp2_with fail
   go_ret3
   exact HF.out
 · have hF2 := hF
   unfold FinR at hF2
   rw [if_neg hr] at hF2
   obtain ⟨rfl, _⟩ := hF2
   have HF := Lib.hid hF
   clear hF Hf1 hr
   go_wp2_with fail
   go_ret3
   exact HF.out
set_option maxRecDepth 100000 in
set_option maxHeartbeats 4000000 in
theorem update_dig {k : Int} (hk : Dig2 k) {b n c : Nat} {d A : Option Addr} {P : Nat → Prop} {l : List Nat} (room : Int) (w : World) (ho : OB9 w b k d none 0 0 false false) (hp : RB w P A c l) (hn : l.length = n) (hP : ∀ b, P b → b < w.heap.size) (hl : l.length ≤ 100000) :
 Calls Tryz.prog 4 #[.pointer (some ⟨b, 0, none⟩), .slice A n c, .int .i64 room] w fun e w' => e = .returned (.tuple #[.slice none 0 0, .int .i64 0, .int .i64 0]) ∧ ∃ A2 c2, OB9 w' b k d A2 n c2 true false ∧ RB w' (fun b => b < w'.heap.size) A2 c2 l ∧ Just b w w' := by
 have He := Lib.hid (ends_at hk ho)
 have HO := Lib.hid ho
 have HP := Lib.hid hp
 have HPP := Lib.hid hP
 have Hl := Lib.hid hl
 have Hn := Lib.hid hn
 clear ho hp hn hP hl
 go_enter Tryz.func4, Tryz.ntmps4
 go_wp2_with fail
 refine He.out.mono ?_
 rintro e w1 ⟨rfl, hE⟩
 have ho1 := HO.out.ext hE
 obtain ⟨y0, y1, y5, y6, y7, y8⟩ := ho1.facts
 have f6 := blk_free ho1 6
 have f7 := blk_free ho1 7
 have HP1 := HP.out.below hE HPP.out
 have HO1 := Lib.hid ho1
 have HE := Lib.hid hE
 have hown : OW w1 w1.heap.size none 0 [] := ⟨⟨by simp [bys], .inl ⟨rfl, rfl⟩⟩, by simp⟩
 clear ho1 He hE
 go_upto_region 5 with fail
 clear y0 y1 y5 y8
 have hlen : ([] : List Nat).length + l.length ≤ 100000000 := by have := Hl.out; simp; omega
 go_wp2_with (at_builtin; refine app8g rfl (.tmp 27) (.tmp 28) rfl w1.heap.size rfl hown (by rw [Hn.out]; rfl) HP1 hlen (Nat.le_refl _) ?_; intro A2 c2 W2 ho2 hg2; have E2 : Ext w1 W2 := ⟨hg2.os, hg2.tape, hg2.output, hg2.size, fun i hi => hg2.block i hi (fun e => by cases e)⟩; rw [List.nil_append] at ho2 ⊢; rw [Hn.out]; have HO2 := Lib.hid (HO1.out.ext E2); have HW2 := Lib.hid ho2; have HE2 := Lib.hid (HE.out.trans E2); replace y6 := E2.cell y6; replace y7 := E2.cell y7; have f6 := blk_free HO2.out 6; have f7 := blk_free HO2.out 7; have f6' := blk_free (blk_set HO2.out 7 (.bool true)) 6; clear ho2 hg2 E2 hown HP1)
 go_ret3
 have o1 : OB9 (W2.setCell ⟨b, 7, none⟩ (.bool true)) b k d none 0 0 true false := blk_set HO2.out 7 (.bool true)
 exact ⟨rfl, A2, c2, blk_set o1 6 (.slice A2 n c2), RB.notOp o1 (RB.notOp HO2.out ((HW2.out.rb (by have := Hl.out; omega)).mono fun b hb => hb.2) 7 (.bool true)) 6 _, ((Just.of_below (g := b) HE2.out (Nat.le_refl _)).set 7 _).set 6 _⟩
end Go.Proofs.YtpbmaapdppdagaaGreatDoor

namespace Go.Proofs.YtpbmaapdppdagaaGreatDoor
open Go.RowKit Go.Shelf
open Sha

def CK (W W' : World) : Prop := W.heap.size ≤ W'.heap.size ∧ ∀ (b : Nat) (cs : Array Value) (T : TypeId) (fr : Nat × Nat), W.heap[b]? = some (.cells cs T fr) → W'.heap[b]? = some (.cells cs T fr)
theorem CK.cell {W W' : World} (h : CK W W') {p : Addr} {v : Value} (hp : W.cell? p = some v) : W'.cell? p = some v := by
 have hb : ∃ cs T fr, W.heap[p.block]? = some (.cells cs T fr) := by
  unfold World.cell? at hp
  split at hp
  · rename_i cs T fr hc
    exact ⟨cs, T, fr, hc⟩
  all_goals cases hp
 obtain ⟨cs, T, fr, hb⟩ := hb
 exact (World.cell?_of_block ((h.2 _ _ _ _ hb).trans hb.symm)).trans hp
theorem RB.ck {W W' : World} {A : Option Addr} {c : Nat} {d : List Nat} (h : RB W (fun g => g < W.heap.size) A c d) (hk : CK W W') : RB W' (fun g => g < W'.heap.size) A c d :=
 (h.by_ fun _ _ _ hc => hk.cell hc).mono fun _ hg => Nat.lt_of_lt_of_le hg hk.1
theorem KW.ck {W W' : World} (h : KW W) (hk : CK W W') : KW W' := fun i hi => let ⟨y, h1, h2⟩ := h i hi; ⟨y, hk.cell h1, h2⟩
theorem DR.ck {W W' : World} {b : Nat} {k v : List Nat} {n : Int} (h : DR W b k v n) (hk : CK W W') : DR W' b k v n := let ⟨Ak, ck, Av, cv, h1, h2, h3, h4, h5⟩ := h; ⟨Ak, ck, Av, cv, hk.2 _ _ _ _ h1, h2.ck hk, h3.ck hk, h4, h5⟩
theorem CK.grown {X X' : World} {row : Option Nat} {B : Nat} (hg : X.grownBy X' row) (hr : ∀ r, row = some r → B ≤ r ∧ ∃ o : Obj, X.heap[r]? = some o ∧ o.isCells = false) : CK X X' :=
 ⟨hg.size, fun _b _cs _T _fr hb => (grownBy_keeps_cells hg (fun r e => (hr r e).2) hb rfl).trans hb⟩
theorem Ext.grown {w X X' : World} {row : Option Nat} {B : Nat} (hE : Ext w X) (hB : w.heap.size ≤ B) (hg : X.grownBy X' row) (hr : ∀ r, row = some r → B ≤ r ∧ ∃ o : Obj, X.heap[r]? = some o ∧ o.isCells = false) : Ext w X' :=
 ⟨hg.os.trans hE.os, hg.tape.trans hE.tape, hg.output.trans hE.output, Nat.le_trans hE.bsize hg.size, fun b hb => (hg.block b (Nat.lt_of_lt_of_le hb hE.bsize) (fun e => by have := (hr b e.symm).1; omega)).trans (hE.block b hb)⟩
end Go.Proofs.YtpbmaapdppdagaaGreatDoor

namespace Go.Proofs.YtpbmaapdppdagaaGreatDoor
open Go.RowKit
open Sha

attribute [local go_sem] Oper.semAt_some

theorem feed_seq (xs : Nat → Array Value) (Kp : World → World → Prop) (m : Nat) (w : World) : SeqAt Tryz.prog 23 #[] xs NoNeed TPlain Kp m 0 true w := by
 intro n l' J J' Jx W _ hW _ hOJ _ _ _ hT _ hY h0
 have hj := hT 0 W _ (Nat.le_refl _) h0 (World.grownBy.refl W none)
 clear hT hY h0 hOJ
 refine callsIn_of_wp Tryz.func23 rfl trivial ?_ rfl
 simp only [Tryz.ntmps23, List.size_toArray, List.length_cons, List.length_nil, Nat.reduceAdd, Nat.reduceSub, Array.replicate_succ, Array.replicate_zero, List.push_toArray, List.append_toArray, List.nil_append, List.cons_append]
 gi_wp2
 go_end0
 exact ⟨⟨_, rfl⟩, .inl hj⟩
theorem own_ext {w : World} {B : Nat} (hB : w.heap.size ≤ B) : OwnFrom B (fun (_ : Nat) W => Ext w W) := fun _ _ _ _ h hg hr => h.grown hB hg hr
set_option maxRecDepth 100000 in
set_option maxHeartbeats 4000000 in
theorem feed_dig {k : Int} (hk : Dig2 k) {b : Nat} {d : Option Addr} (w : World) (hw : KW w) (ho : OB9 w b k d none 0 0 false false) :
 Calls Tryz.prog 9 #[.pointer (some ⟨b, 0, none⟩), .nilFunc, .slice none 0 0] w fun e w' => ∃ A c, e = .returned (.tuple #[.slice A (lenK k) c, .int .i64 0]) ∧ Just b w w' := by
 obtain ⟨g, hg⟩ : ∃ g, w.heap.size = g := ⟨_, rfl⟩
 have q0 := heap_alloc_new w (.cells #[.pointer (some ⟨b, 0, none⟩)] 22)
 have F0 := Ext.alloc w (.cells #[.pointer (some ⟨b, 0, none⟩)] 22)
 have z0 : (w.alloc (.cells #[.pointer (some ⟨b, 0, none⟩)] 22)).heap.size = g + 1 := by rw [World.size_alloc, hg]
 rw [hg] at q0
 obtain ⟨w1, e1⟩ : ∃ X, w.alloc (.cells #[.pointer (some ⟨b, 0, none⟩)] 22) = X := ⟨_, rfl⟩
 rw [e1] at q0 F0 z0
 have q1 := heap_alloc_new w1 (.cells #[.slice none 0 0] 23)
 have F1 := Ext.alloc w1 (.cells #[.slice none 0 0] 23)
 have z1 : (w1.alloc (.cells #[.slice none 0 0] 23)).heap.size = g + 1 + 1 := by rw [World.size_alloc, z0]
 rw [z0] at q1
 obtain ⟨w2, e2⟩ : ∃ X, w1.alloc (.cells #[.slice none 0 0] 23) = X := ⟨_, rfl⟩
 rw [e2] at q1 F1 z1
 have q2 := heap_alloc_new w2 (.cells #[.int .i64 0] 24)
 have F2 := Ext.alloc w2 (.cells #[.int .i64 0] 24)
 have z2 : (w2.alloc (.cells #[.int .i64 0] 24)).heap.size = g + 1 + 1 + 1 := by rw [World.size_alloc, z1]
 rw [z1] at q2
 obtain ⟨w3, e3⟩ : ∃ X, w2.alloc (.cells #[.int .i64 0] 24) = X := ⟨_, rfl⟩
 rw [e3] at q2 F2 z2
 have HQ0 := Lib.hid (F2.at_ (F1.at_ q0))
 have HQ1 := Lib.hid (F2.at_ q1)
 have HQ2 := Lib.hid q2
 have HE := Lib.hid (F0.trans (F1.trans F2))
 have HW := Lib.hid (hw.ext HE.out)
 have HO := Lib.hid (ho.ext HE.out)
 have HZ := Lib.hid z2
 have Hb := Lib.hid (show b < g by rw [← hg]; exact blk_lt ho)
 have hnn : ∀ W, Sem.run Tryz.prog (binOp .eql 56 .nilFunc .nilFunc) W = .ok (.bool true) W := fun W => by kernel_rfl
 have Hg := Lib.hid hg
 have HE3 := Lib.hid e3
 clear q0 q1 q2 F0 F1 F2 hw ho e3
 refine (callsIn_wide (n := 6)).1 ?_
 refine callsIn_of_wp_marks Tryz.func9 rfl trivial ?_ rfl
 simp only [Tryz.ntmps9, List.size_toArray, List.length_cons, List.length_nil, Nat.reduceAdd, Nat.reduceSub, Array.replicate_succ, Array.replicate_zero, List.push_toArray, List.append_toArray, List.nil_append, List.cons_append]
 refine wpIn_wide.2 ?_
 go_wp2
 go_step3
 go_upto_region 3 with fail
 rw [HE3.out]
 clear e1 e2 hg z0 z1 z2
 go_wp2
 go_step3
 go_wp2
 clear hnn
 refine (wpIn_wide (n := 6)).1 ?_
 refine' wpIn_iter (by omega) (gf := 23) (lb := #[]) rfl (enters_of Tryz.func23 (by kernel_rfl) rfl)
  (feed_seq (fun _ => #[.slice none 0 0]) (fun _ _ => True) 1 w3) (fun _ _ => trivial) (fun _ _ _ _ _ _ _ _ => trivial) tplain_keeps (Below.refl _ _) (fun _ => rfl)
  (fun _ W => Ext w3 W) (fun _ W => Ext w3 W) (fun _ _ _ => False) (own_ext (Nat.le_refl _)) (own_ext (Nat.le_refl _)) (fun _ _ _ _ _ h => h.elim) (fun _ _ _ _ => trivial) (fun B k A C _ _ hi ht => ownFrom_plain (own_ext (Nat.le_refl _)) hi ht) (fun h => by cases h) (Ext.refl _) _ ?assign ?body ?done ?stop
 case assign =>
  intro l k W K hK
  gi_wp2
  exact hK
 case body => exact fun l k W _ h _ => absurd h (by omega)
 case stop => exact fun _ _ _ _ _ _ _ h _ => h.elim
 case done =>
  rintro D W hD hE hK
  have hq0 := hE.at_ HQ0.out
  have hq1 := hE.at_ HQ1.out
  have hq2 := hE.at_ HQ2.out
  have c0 := blk_cell hq0 0
  have c1 := blk_cell hq1 0
  have c2 := blk_cell hq2 0
  simp only [List.getElem?_toArray, List.getElem?_cons_zero] at c0 c1 c2
  have hbl := Hb.out
  have hzl := HZ.out
  have Hfin := Lib.hid (final_dig hk 9223372036854775807 (by omega) W (HW.out.ext hE) (HO.out.ext hE) (RB.nil_ W (fun _ => False)) rfl (fun _ h => h.elim) (by simp) (by simp))
  have HH := Lib.hid (And.intro hq1 (And.intro hq2 hK))
  have HEW := Lib.hid hE
  clear hq0 hq1 hq2 hK hE
  go_wp2_with fail
  refine Hfin.out.mono ?_
  rintro e X hF
  unfold FinR at hF
  rw [if_pos (by rcases hk with rfl | rfl <;> decide)] at hF
  obtain ⟨A1, d1, rfl, -, hr, hj⟩ := hF
  have hq1 := hj.at_ (by omega) HH.out.1
  have hq2 := hj.at_ (by omega) HH.out.2.1
  have hK := hj.at_ (by omega) HH.out.2.2
  replace c2 := blk_cell hq2 0
  have f2 := blk_free hq2 0
  simp only [List.getElem?_toArray, List.getElem?_cons_zero] at c2
  obtain ⟨Y, hY⟩ : ∃ Y, X.setCell ⟨g + 1 + 1, 0, none⟩ (.int .i64 0) = Y := ⟨_, rfl⟩
  have hjY := (Just.refl (g + 1 + 1) X).set 0 (.int .i64 0)
  have hq2Y := blk_set hq2 0 (.int .i64 0)
  rw [hY] at hjY hq2Y
  have HYF := Lib.hid hY
  have Hq2 := Lib.hid hq2
  have HjY := Lib.hid hjY
  have HKY := Lib.hid (hjY.at_ (by omega) hK)
  have cy1 := blk_cell (hjY.at_ (by omega) hq1) 0
  have cy2 := blk_cell hq2Y 0
  simp only [List.getElem?_toArray, List.getElem?_cons_zero] at cy1
  have cy2 : Y.cell? ⟨g + 1 + 1, 0, none⟩ = some (.int .i64 0) := cy2
  obtain ⟨o, ho1, ho2, -⟩ := hr
  have HRY := Lib.hid (show RB Y (fun x => x < Y.heap.size) A1 d1 o from (ho1.by_ fun q u hq hc => (World.cell?_of_block (hjY.block q.block hq fun e => by
   unfold World.cell? at hc
   rw [e, Hq2.out] at hc
   simp only at hc
   split at hc
   · cases hc
   · have hm := List.mem_of_getElem? (l := [Value.int .i64 0]) (i := q.off) (by simpa using hc)
     simp at hm)).trans hc).mono fun x hx => Nat.lt_of_lt_of_le hx hjY.size)
  have Ho2 := Lib.hid ho2
  have HJ := Lib.hid ((Just.of_below (g := b) (HE.out.trans HEW.out) (Nat.le_refl _)).trans hj)
  have hown : OW Y Y.heap.size none 0 [] := ⟨⟨by simp [bys], .inl ⟨rfl, rfl⟩⟩, by simp⟩
  have hlen : ([] : List Nat).length + o.length ≤ 100000000 := by rw [ho2]; rcases hk with rfl | rfl <;> decide
  clear Hfin hj hq1 hq2 hK hjY hq2Y hY c0 c1 ho1 ho2 hzl
  go_upto_region 14 with fail
  rw [HYF.out]
  clear c2 f2
  go_wp2_with (at_builtin; refine app8g rfl (.tmp 43) (.tmp 44) rfl Y.heap.size rfl hown (by rw [Ho2.out]; rfl) HRY.out hlen (Nat.le_refl _) ?_; intro A2 c2 W2 ho2 hg2; have E2 : Ext Y W2 := ⟨hg2.os, hg2.tape, hg2.output, hg2.size, fun i hi => hg2.block i hi (fun e => by cases e)⟩; rw [List.nil_append, Ho2.out])
  rw [Exit.noGoto_ret]
  have hKW := E2.at_ HKY.out
  have hz3 := HZ.out
  have hgl := Hg.out
  have s1 := HJ.out.size
  have s2 := HjY.out.size
  have s3 := E2.bsize
  exact ⟨by simp, .inl ⟨_, _, rfl, run_takeDeferred hKW, _, results_tmp2 rfl _ _ _, A2, c2, rfl, E2.os.trans (HjY.out.os.trans HJ.out.os), E2.tape.trans (HjY.out.tape.trans HJ.out.tape), E2.output.trans (HjY.out.output.trans HJ.out.output), by simp; omega,
   fun i hi hne => (World.putObj_heap_other (by omega)).trans ((E2.block i (by omega)).trans ((HjY.out.block i (by omega) (by omega)).trans (HJ.out.block i hi hne)))⟩⟩
end Go.Proofs.YtpbmaapdppdagaaGreatDoor

namespace Go.Proofs.YtpbmaapdppdagaaGreatDoor
open Go.RowKit

def strB (bs : List Nat) : ByteArray := strOfNums (bs.map fun b : Nat => (b : Int))
section
variable {w : World} {Q : Nat → Prop} {A : Option Addr} {c : Nat} {bs : List Nat}
theorem RB.str {P : Program} (h : RB w Q A c bs) (src e dst : TypeId) (hs : P.underlying src = some (.slice e)) (he : P.underlying e = some (.int .u8)) (hd : P.underlying dst = some .string) :
 (convert src dst (.slice A bs.length c)).run P w = .ok (.string (strB bs)) w := by
 rcases A with _ | ad
 · have hl : bs.length = 0 := by
    rcases Nat.eq_zero_or_pos bs.length with h0 | h0
    · exact h0
    · obtain ⟨ad, h, _⟩ := h.1.2.2.2 h0
      cases h
   obtain rfl := List.eq_nil_of_length_eq_zero hl
   rw [run_convert_bytes_nil w src e hs he _ _ dst hd]
   rfl
 · have hc : ∀ j v, (bys bs)[j]? = some v → w.cell? (ad.add j) = some v := by
    intro j v hj
    rcases Nat.eq_zero_or_pos bs.length with h0 | h0
    · obtain rfl := List.eq_nil_of_length_eq_zero h0
      simp [bys] at hj
    · obtain ⟨ad', h, _, hc⟩ := h.1.2.2.2 h0
      injection h with h
      subst h
      exact hc j v hj
   have hl : (loadCells ad bs.length).run P w = .ok ((bs.map fun b : Nat => (b : Int)).map (Value.int .u8)).toArray w := by
    have := run_loadCells_list (P := P) w ad (bys bs) hc
    simpa [bys, Function.comp_def] using this
   rw [run_convert_bytes_string w src dst e _ _ c hs he hd, run_bytesToString w _ _ c _ hl, foldl_push_bytes]
   simp [strB, strOfNums, ByteArray.empty, ByteArray.emptyWithCapacity]
   rfl
end

end Go.Proofs.YtpbmaapdppdagaaGreatDoor

namespace Go.Proofs.YtpbmaapdppdagaaGreatDoor
open Go.RowKit
open Sha

attribute [local go_sem] Oper.semAt_some

theorem abc4 : (sha [97, 98, 99]).take 4 = [186, 120, 22, 191] := by decide +kernel
theorem litm3 (w : World) : RB (w.alloc (.cells #[.int .u8 97, .int .u8 98, .int .u8 99] 5 (3, 4))) (fun g => g = w.heap.size) (some ⟨w.heap.size, 0, none⟩) 3 [97, 98, 99] := by
 refine ⟨⟨by simp, by unfold maxLen; omega, by simp [bys], fun _ => ⟨_, rfl, rfl, fun j u hu => ?_⟩⟩, by decide, by decide⟩
 rw [add_blk, World.cell?, heap_alloc_new]
 simpa [bys] using hu
theorem cv3 (w : World) (cs : Array Value) (n c : Nat) : (convert 23 23 (.slice (some ⟨w.heap.size, 0, none⟩) n c)).run Tryz.prog (w.alloc (.cells cs 5)) = .ok (.slice (some ⟨w.heap.size, 0, none⟩) n c) (w.alloc (.cells cs 5 (cs.size, cs.size + 1))) :=
 Lib.run_convert_bytes_const (P := Tryz.prog) w 23 5 cs n c Tryz.underlying23 Tryz.underlying5
theorem drbg0 (w : World) (hk : KW w) : Calls Tryz.prog 8 #[.slice none 0 0] w fun e w' => ∃ b, e = .returned (.pointer (some ⟨b, 0, none⟩)) ∧ Ext w w' := by
 have h := new_any (P := fun b => b < w.heap.size) (A := none) (c := 0) (d := []) w hk ⟨⟨by simp, by unfold maxLen; omega, by simp [bys], fun h => absurd h (by simp)⟩, by simp, by simp⟩ (fun _ h => h) (by simp)
 exact h.mono fun e w' ⟨b, h1, _, _, h2⟩ => ⟨b, h1, h2⟩
set_option maxRecDepth 100000 in
set_option maxHeartbeats 4000000 in
theorem begun20_any (w : World) (hk : KW w) : Calls Tryz.prog 10 #[] w fun e w' => e = .returned (.bool true) ∧ Ext w w' := by
 have HD := Lib.hid (drbg0 w hk)
 have HK := Lib.hid hk
 clear hk
 go_enter Tryz.func10, Tryz.ntmps10
 go_wp2_with fail
 refine HD.out.mono ?_
 rintro e w1 ⟨D, rfl, hE1⟩
 have HE1 := Lib.hid hE1
 clear hE1 HD
 go_wp2_with fail
 refine (new_dig (.inr rfl) ⟨D, 0, none⟩ w1).mono ?_
 rintro e w2 ⟨b, rfl, ho, hb, hE2⟩
 have HE2 := Lib.hid (HE1.out.trans hE2)
 have HB := Lib.hid (Nat.le_trans HE1.out.bsize hb)
 have HO := Lib.hid ho
 clear ho hb hE2 HE1
 have hcv := cv3 w2 #[.int .u8 97, .int .u8 98, .int .u8 99] 3 3
 simp only [List.size_toArray, List.length_cons, List.length_nil, Nat.reduceAdd] at hcv
 have hl := litm3 w2
 have E3 := Ext.alloc w2 (.cells #[.int .u8 97, .int .u8 98, .int .u8 99] 5 (3, 4))
 have z3 : (w2.alloc (.cells #[.int .u8 97, .int .u8 98, .int .u8 99] 5 (3, 4))).heap.size = w2.heap.size + 1 := World.size_alloc _ _
 obtain ⟨w3, e3⟩ : ∃ X, w2.alloc (.cells #[.int .u8 97, .int .u8 98, .int .u8 99] 5 (3, 4)) = X := ⟨_, rfl⟩
 rw [e3] at hl E3 hcv z3
 have Hup := Lib.hid (update_dig (n := 3) (.inr rfl) 0 w3 (HO.out.ext E3) hl rfl (fun x hx => by rw [z3]; omega) (by decide))
 have HE3 := Lib.hid (HE2.out.trans E3)
 have HW3 := Lib.hid e3
 clear hl E3 z3 e3 HO HE2
 go_wp2_with fail
 refine Hup.out.mono ?_
 rintro e w4 ⟨rfl, A4, c4, ho4, hr4, hj4⟩
 have HE4 := Lib.hid (hj4.ext HE3.out HB.out)
 have Hf1 := Lib.hid (final_dig (.inr rfl) 31 (by omega) w4 (HK.out.ext HE4.out) ho4 hr4 rfl (fun _ h => h) (by decide) (by decide))
 have HR4 := Lib.hid hr4
 clear ho4 hr4 hj4 Hup hcv HE3 HW3
 go_wp2_with fail
 refine Hf1.out.mono ?_
 rintro e w5 hF
 unfold FinR at hF
 rw [if_neg (by decide)] at hF
 obtain ⟨rfl, ho5, hE5⟩ := hF
 have HE5 := Lib.hid (HE4.out.trans hE5)
 have Hf2 := Lib.hid (final_dig (.inr rfl) 32 (by omega) w5 (HK.out.ext HE5.out) ho5 (HR4.out.upS hE5) rfl (fun _ h => h) (by decide) (by decide))
 clear ho5 hE5 Hf1 HR4 HE4
 go_wp2_with fail
 refine Hf2.out.mono ?_
 rintro e w6 hF
 unfold FinR at hF
 rw [if_pos (by decide)] at hF
 obtain ⟨A6, c6, rfl, ho6, hr6, hj6⟩ := hF
 have HE6 := Lib.hid (hj6.ext HE5.out HB.out)
 obtain ⟨o, hr, hol, ho⟩ := hr6
 obtain rfl := ho rfl
 have hl32 : lenK 592 = 32 := by decide
 rw [hl32] at hol ⊢
 have h4 := hr.mid' (k := 0) (m := 4) (c' := c6) (by omega) (by rw [hol]; omega) (by have := hr.cap.1; omega) (by have := hr.cap.2.1; unfold maxLen; omega) (A' := A6) (fun _ => by cases A6 <;> simp [Addr.add])
 rw [List.drop_zero, Nat.sub_zero, abc4] at h4
 have hst := RB.str (P := Tryz.prog) h4 23 5 9 Tryz.underlying23 Tryz.underlying5 Tryz.underlying9
 have hc6 : (4 : Int) ≤ (c6 : Int) := by have := hr.cap.1; omega
 have hsb : strB [186, 120, 22, 191] = { data := #[186, 120, 22, 191] } := by decide
 rw [hsb, show ([186, 120, 22, 191] : List Nat).length = 4 from rfl] at hst
 have Hov := Lib.hid (over_at ho6)
 clear hr hol h4 ho6 hj6 hsb Hf2 HE5
 go_wp2_with fail
 refine Hov.out.mono ?_
 rintro e w7 ⟨rfl, rfl⟩
 go_wp2_with fail
 go_ret
 exact ⟨rfl, HE6.out⟩
set_option maxRecDepth 100000 in
set_option maxHeartbeats 4000000 in
theorem opernone_law (w : World) (hk : KW w) : Calls Tryz.prog 3 #[] w fun e w' => e = .returned (.bool true) ∧ Ext w w' := by
 have HK := Lib.hid hk
 clear hk
 go_enter Tryz.func3, Tryz.ntmps3
 go_wp2_with fail
 refine (update_nil 5 w).mono ?_
 rintro e w1 ⟨rfl, rfl⟩
 go_wp2_with fail
 refine (final_nil 5 _).mono ?_
 rintro e w2 ⟨rfl, rfl⟩
 go_wp2_with fail
 refine (one_nil 5 _).mono ?_
 rintro e w3 ⟨rfl, rfl⟩
 go_wp2_with fail
 refine (new_nodrbg 544 _).mono ?_
 rintro e w4 ⟨rfl, hE4⟩
 have HE4 := Lib.hid hE4
 have HD := Lib.hid (drbg0 w4 (HK.out.ext hE4))
 clear hE4
 go_wp2_with fail
 refine HD.out.mono ?_
 rintro e w5 ⟨D, rfl, hE5⟩
 have HE5 := Lib.hid (HE4.out.trans hE5)
 clear hE5 HD HE4
 go_wp2_with fail
 refine (new_dig (.inl rfl) ⟨D, 0, none⟩ w5).mono ?_
 rintro e w6 ⟨b, rfl, ho, hb, hE6⟩
 have HE6 := Lib.hid (HE5.out.trans hE6)
 have HB := Lib.hid (Nat.le_trans HE5.out.bsize hb)
 have Hfd := Lib.hid (feed_dig (.inl rfl) w6 (HK.out.ext HE6.out) ho)
 clear ho hb hE6 HE5
 go_wp2_with fail
 refine Hfd.out.mono ?_
 rintro e w7 ⟨A7, c7, rfl, hj7⟩
 have HE7 := Lib.hid (hj7.ext HE6.out HB.out)
 have hl20 : lenK 544 = 20 := by decide
 rw [hl20]
 have Hbg := Lib.hid (begun20_any w7 (HK.out.ext HE7.out))
 clear hj7 Hfd HE6 hl20
 go_wp2_with fail
 refine Hbg.out.mono ?_
 rintro e w8 ⟨rfl, hE8⟩
 have HE8 := Lib.hid (HE7.out.trans hE8)
 clear hE8 Hbg HE7
 go_wp2_with fail
 refine (over_nil _).mono ?_
 rintro e w9 ⟨rfl, rfl⟩
 go_wp2_with fail
 go_ret
 exact ⟨rfl, HE8.out⟩
end Go.Proofs.YtpbmaapdppdagaaGreatDoor

namespace Go.Proofs.YtpbmaapdppdagaaGreatDoor
open Go.ChangeShapes Go.WideShapes Go.ChangeAt Go.RowKit
open Sha

theorem gK : Tryz.prog.globalNamed "bailey/hashes.k" = some 1 := by kernel_rfl
theorem tK : (Tryz.prog.globals[1]?).map (·.type) = some 278 := by kernel_rfl
def kOk (n : Nat) (i : Nat) : Bool := decide (n < 18446744073709551616 ∧ n / 4294967296 = (wd kk i).toNat)
theorem k_all : (List.range 64).all (fun i => match (Rows.laid_bailey_hashes_k (H := Unit)) with | .agg l => (match l[i]? with | some (.lit (.int .u64 n)) => decide (0 ≤ n) && kOk n.toNat i | _ => false) | _ => false) = true := by decide +kernel
theorem of_laid {W : World} (h : laidMetH Tryz.prog [("bailey/hashes.k", Rows.laid_bailey_hashes_k)] W) : KW W := by
 rw [MakeChecks.laidMetH_plain _ _ _ (by kernel_rfl)] at h
 obtain ⟨ps, ⟨g0, t0, cs0, f0, p0, q0, hg0, ht0, hv0, hd0, _⟩, _, _⟩ := h
 obtain rfl := Option.some.inj (gK.symm.trans hg0)
 obtain rfl := Option.some.inj (tK.symm.trans ht0)
 obtain ⟨xs, m, rfl, hx, hlen, hn, hel⟩ := DataW.trod_array Tryz.underlying278 hd0
 have c1 : Tryz.prog.cellsOf 112 = 1 := by kernel_rfl
 intro i hi
 have hi80 : i < xs.length := by omega
 have h0 := hel i (by omega)
 rw [List.getElem?_eq_getElem hi80] at h0
 obtain ⟨k, e1, e2, _⟩ := DataW.trod_int Tryz.underlying112 h0
 rw [c1, Nat.mul_one] at e1
 have hall := List.all_eq_true.1 k_all i (List.mem_range.2 hi)
 have hx1 := congrArg (fun z : DataW Unit × List MemPlace => z.1) hx
 simp only at hx1
 rw [hx1] at hall
 simp only [List.getElem?_map, List.getElem?_eq_getElem hi80, Option.map_some, e2, Bool.and_eq_true, kOk, decide_eq_true_eq] at hall
 obtain ⟨k0, k1, k2⟩ := hall
 have hc : cs0[i]? = some (.int .u64 k) := by
  have : (cs0.toList.drop i)[0]? = some (Value.int .u64 k) := by
   have h2 := congrArg (fun l : List Value => l[0]?) e1
   simpa using h2
  simpa using this
 refine ⟨k.toNat, ?_, k1, k2⟩
 rw [World.var?_cell hg0 hv0 i, hc, Int.toNat_of_nonneg k0]
end Go.Proofs.YtpbmaapdppdagaaGreatDoor

namespace Go.Proofs.YtpbmaapdppdagaaGreatDoor.operNone
open Go.ChangeShapes Go.WideShapes Go.ChangeAt Go.RowKit

abbrev lst : List (String × DataW Unit) := [("unicode/utf8.acceptRanges", Rows.laid_unicode_utf8_acceptRanges), ("bailey/hashes.k", Rows.laid_bailey_hashes_k), ("unicode/utf8.first", Rows.laid_unicode_utf8_first)]
theorem of_lst {W : World} (h : laidMetH Tryz.prog lst W) : KW W :=
 of_laid (show laidMetH Tryz.prog [("bailey/hashes.k", Rows.laid_bailey_hashes_k)] W from h.filter fun x => x.1 == "bailey/hashes.k")
theorem own : ownKnob Tryz.prog.godebug = none := by kernel_rfl

set_option maxRecDepth 100000 in
theorem lifted (os : Os) (started : os.Started) (H : Type) (enc : TypeId × Value → H) :
 ReturnsInHanded {} Tryz.checked os 3 .any (fun w args => (Rows.operNoneSpec.pre enc Tryz.prog Tryz.f3 Rows.operNoneRow.domain false w args ∧ laidMetH Tryz.prog lst w) ∧ sizedMet enc Tryz.prog Tryz.f3 (OpenSpec.ofChange Rows.operNoneSpec) false w args) (Rows.operNoneSpec.post enc Tryz.prog Tryz.f3 false true false false) := by
 refine returnsInHanded_of_change_and (C := Tryz.checked) (X := fun w _ => laidMetH Tryz.prog lst w) (fun _ _ _ hh h => h.of_heap hh) own started (by kernel_rfl) Tryz.func3
  (ChangeSpec.witness_shaped (enc := enc) (C := Tryz.checked) (os := os) (X := fun w _ => laidMetH Tryz.prog lst w) false (World.laidAll Tryz.prog os lst) #[] 8 (World.laidAll_os _ _ _) (World.shaped_of_ZipB (by kernel_rfl) (by kernel_rfl)) (by kernel_rfl) (by kernel_rfl) (by kernel_rfl) (by rw [MakeChecks.laidMetH_plain _ _ _ (by kernel_rfl)]; exact laidMet_laidAll _ (by kernel_rfl) (by kernel_rfl))) ?_
 intro W base args ds gs before hval0 hW hcnd hsz0 hL _
 have hk : KW W := of_lst hL
 have hW' := hW
 obtain ⟨p, q, hA0, hV, rfl, hfz, hnd⟩ := hW
 have hA : DataW.TrodAll enc Tryz.prog W 0 (fun _ => true) true Tryz.f3.params.toList args.toList ds p := hA0
 rw [Tryz.params3] at hA
 obtain ⟨hargs, rfl, rfl⟩ := trodAll_nil hA
 obtain rfl : args = #[] := by cases args; simp_all
 obtain ⟨rfl, rfl⟩ := trodVars_none hV
 refine (opernone_law W hk).mono fun e W' ⟨he, bel⟩ => ?_
 subst he
 exact ⟨_, rfl, _, _, _, [], _, [], hW', trodAll_mk1 (shut_bool Tryz.underlying4 _), trodAll_mk0, rfl, bel.frame _, fun h => by cases h⟩

theorem over : Rows.operNoneRow.holds Tryz.pinned (OpenSpec.ofChange Rows.operNoneSpec) :=
 OpenClaim.holds_of_wide 3 Tryz.f3 rfl rfl rfl rfl rfl rfl rfl ⟨rfl, rfl, rfl, rfl, rfl⟩ rfl rfl rfl rfl rfl (by kernel_rfl) Tryz.func3 (by kernel_rfl)
  (of_decide_eq_true (by kernel_rfl)) (by unfold Func.isWrapper; first | (rw [if_pos (by decide +kernel)]; kernel_rfl) | (rw [if_neg (by decide +kernel)]; exact ⟨rfl, rfl⟩))
  (fun os started H enc _ => lifted os started H enc)

theorem proved : Rows.OperNoneCardSaid :=
 Claim7.holds_tied_plain_at .later [] [.data, .data, .pinned] true (true, "4bee7007c6a4789d6fecb39fa001a02edce54dc748b8aa632d6ac4799ef2fa79") false over (fun _ h => by cases h) (by kernel_rfl) (fun _ h => by cases h) operNone_row_tie rfl ⟨rfl, rfl⟩ (by kernel_rfl) rfl
  (fun f fn hf hfn => by
   obtain rfl : f = 3 := Option.some.inj ((show Tryz.prog.funcNamed "bailey/baileylaw20.OperNone" = some 3 by kernel_rfl).symm.trans hf) |>.symm
   obtain rfl : fn = Tryz.f3 := (Option.some.inj (Tryz.func3.symm.trans hfn)).symm
   exact ⟨by kernel_rfl, fun j t ht => by
    rw [Tryz.params3] at ht
    simp at ht⟩)
  (by kernel_rfl)
#print axioms proved
end Go.Proofs.YtpbmaapdppdagaaGreatDoor.operNone
