/- drbg: update. drbg: Bytes. drbg: Below. modarith: rest, may, Gcd. What limb.Add computes. modarith: Inverse. modarith: Mod and Mul. ecdsa's small functions: pick, Number, times, first; and curve.Inverse. ecdsa.Number of a short hash, and curve.Inverse. ecdsa's small functions, told with lengths of their own. ecdsa.first: a point's first coordinate modulo the order. The curve's products and sums by the kernel's own reckoning, each number laid as it comes. What bytes.Repeat calls at thirty-two ones. -/
import Derived.Test.YtaemogcomplhiaaGreatDoorQ66c474690330
import Derived.Lib.MakeNoZero
import Derived.Laws.Externs
namespace Go.Proofs.YtaemogcomplhiaaGreatDoor
open Go.RowKit
open Sha

theorem KW.ne {w : World} {b : Nat} {k v : List Nat} {n : Int} (h : KW w) (hd : DR w b k v n) : 3 ≠ b := by
 intro e
 obtain ⟨z, h1, h2⟩ := h 0 (by omega)
 obtain ⟨Ak, ck, Av, cv, h3, _⟩ := hd
 rw [e] at h1
 rw [blk_cell h3 0] at h1
 simp at h1
theorem KW.dr {w X : World} {b F : Nat} {k v : List Nat} {n : Int} (h : KW w) (hd : DR w b k v n) (hf : Fr b F w X) (hF : w.heap.size ≤ F) : KW X := fun i hi => by
 obtain ⟨z, h1, h2⟩ := h i hi
 exact ⟨z, (World.cell?_of_block (hf.block _ (Nat.lt_of_lt_of_le h.lt hF) (h.ne hd))).trans h1, h2⟩
theorem DR.vcell {w : World} {b : Nat} {k v : List Nat} {n : Int} (h : DR w b k v n) : ∃ Av cv, w.cell? ⟨b, 1, none⟩ = some (.slice Av 32 cv) := by
 obtain ⟨Ak, ck, Av, cv, h1, _⟩ := h
 exact ⟨Av, cv, blk_cell h1 1⟩
theorem DR.free {w : World} {b : Nat} {k v : List Nat} {n : Int} (h : DR w b k v n) (i : Nat) : w.frozen? ⟨b, i, none⟩ = false := by
 obtain ⟨Ak, ck, Av, cv, h1, _⟩ := h
 exact blk_free h1 i
theorem DR.kcell {w : World} {b : Nat} {k v : List Nat} {n : Int} (h : DR w b k v n) : ∃ Av cv, w.cell? ⟨b, 0, none⟩ = some (.slice Av 32 cv) := by
 obtain ⟨Ak, ck, Av, cv, h1, _⟩ := h
 exact ⟨Ak, ck, blk_cell h1 0⟩
theorem turnK {w w1 : World} {b : Nat} {k v k' : List Nat} {n : Int} {A : Option Addr} {c : Nat} (hd : DR w b k v n) (hE : Ext w w1) (ho : OW w1 w.heap.size A c k') (hl : k'.length = 32) :
 DR (w1.setCell ⟨b, 0, none⟩ (.slice A 32 c)) b k' v n ∧ Fr b w.heap.size w (w1.setCell ⟨b, 0, none⟩ (.slice A 32 c)) :=
 ⟨(hd.ext hE).setK (ho.rb' (by omega)) hl, (Fr.below hE (Nat.le_refl _)).trans (Fr.just ((Just.refl b w1).set 0 _) hE.bsize)⟩
theorem turnV {w w1 : World} {b : Nat} {k v v' : List Nat} {n : Int} {A : Option Addr} {c : Nat} (hd : DR w b k v n) (hE : Ext w w1) (ho : OW w1 w.heap.size A c v') (hl : v'.length = 32) :
 DR (w1.setCell ⟨b, 1, none⟩ (.slice A 32 c)) b k v' n ∧ Fr b w.heap.size w (w1.setCell ⟨b, 1, none⟩ (.slice A 32 c)) :=
 ⟨(hd.ext hE).setV (ho.rb' (by omega)) hl, (Fr.below hE (Nat.le_refl _)).trans (Fr.just ((Just.refl b w1).set 1 _) hE.bsize)⟩
theorem DR.v0 {w : World} {b : Nat} {k v : List Nat} {n : Int} {y : Value} (h : DR w b k v n) (hv : w.cell? ⟨b, 1, none⟩ = some y) (u : Value) : (w.setCell ⟨b, 0, none⟩ u).cell? ⟨b, 1, none⟩ = some y := by
 obtain ⟨Ak, ck, Av, cv, h1, _⟩ := h
 have e1 := blk_cell h1 1
 rw [hv] at e1
 rw [blk_cell (blk_set h1 0 u) 1, e1]
 rfl
set_option maxRecDepth 100000 in
set_option maxHeartbeats 8000000 in
theorem update_any {b : Nat} {k v d : List Nat} {n : Int} {P : Nat → Prop} {A : Option Addr} {c : Nat} (w : World) (hk : KW w) (hd : DR w b k v n) (hp : RB w P A c d) (hP : ∀ k, P k → k < w.heap.size) (hl : d.length ≤ 200000) :
 Calls Tryz.prog 33 #[.pointer (some ⟨b, 0, none⟩), .slice A d.length c] w fun e w' => e = .returned (.tuple #[]) ∧ DR w' b (upd2 k v d).1 (upd2 k v d).2 n ∧ Fr b w.heap.size w w' := by
 obtain ⟨Av, cv, vc⟩ := hd.vcell
 have h1 := mac3 (x := 0) w hk hd (by omega) hp hP hl vc
 rw [show ((0 : Nat) : Int) = 0 from rfl] at h1
 have H1 := Lib.hid h1
 obtain ⟨Ak, ck, kc⟩ := hd.kcell
 clear h1
 have HK := Lib.hid hk
 have HD := Lib.hid hd
 have HP := Lib.hid hp
 have HPP := Lib.hid hP
 clear hk hd hp hP
 go_enter Tryz.func33, Tryz.ntmps33
 go_wp2_with fail
 refine H1.out.mono ?_
 rintro e w1 ⟨A1, c1, rfl, ho, hE⟩
 obtain ⟨hd1, hf1⟩ := turnK HD.out hE ho (hmac_len _ _)
 have fr1 := (HD.out.ext hE).free 0
 have vc1 := hE.cell vc
 have kc1 := hE.cell kc
 have HK1 := Lib.hid (HK.out.dr HD.out hf1 (Nat.le_refl _))
 have vcs := (HD.out.ext hE).v0 vc1 (.slice A1 32 c1)
 have HD1 := Lib.hid hd1
 have HF1 := Lib.hid hf1
 clear hd1 hf1 hE ho vc vc1 H1 kc
 go_upto_region 1 with fail
 obtain ⟨X1, hX1⟩ : ∃ X, w1.setCell ⟨b, 0, none⟩ (.slice A1 32 c1) = X := ⟨_, rfl⟩
 rw [hX1] at HK1 HD1 HF1 vcs ⊢
 clear hX1 fr1 kc1
 have H2 := Lib.hid (mac1 _ HK1.out HD1.out vcs)
 go_wp2_with fail
 refine H2.out.mono ?_
 rintro e w2 ⟨A2, c2, rfl, ho, hE⟩
 obtain ⟨hd2, hf2⟩ := turnV HD1.out hE ho (hmac_len _ _)
 have fr2 := (HD1.out.ext hE).free 1
 have vc2 := hE.cell vcs
 have hff := HF1.out.trans (hf2.mono HF1.out.size)
 have HK2 := Lib.hid (HK.out.dr HD.out hff (Nat.le_refl _))
 have HP2 := Lib.hid (HP.out.dr HPP.out HD.out hff)
 have HD2 := Lib.hid hd2
 have HF2 := Lib.hid hff
 clear hd2 hf2 hff hE ho vcs H2 HK1 HD1 HF1 HK HP
 go_upto_region 2 with fail
 obtain ⟨X2, hX2⟩ : ∃ X, w2.setCell ⟨b, 1, none⟩ (.slice A2 32 c2) = X := ⟨_, rfl⟩
 rw [hX2] at HK2 HD2 HF2 HP2 ⊢
 clear hX2 fr2 vc2
 by_cases h0 : d.length = 0
 · have l0 : ¬ (0 : Int) < (d.length : Int) := by omega
   go_wp2_with fail
   have hu : upd2 k v d = half k v d 0 := if_pos h0
   have hfin : DR X2 b (upd2 k v d).1 (upd2 k v d).2 n := by rw [hu]; exact HD2.out
   go_end0
   exact ⟨rfl, hfin, HF2.out⟩
 · have l0 : (0 : Int) < (d.length : Int) := by omega
   have H3 := Lib.hid (HD2.out)
   obtain ⟨Av', cv', vc⟩ := HD2.out.vcell
   obtain ⟨Ak', ck', kc⟩ := HD2.out.kcell
   have hlt2 : ∀ k, P k → k < X2.heap.size := fun k hk => Nat.lt_of_lt_of_le (HPP.out k hk) HF2.out.size
   have h1 := mac3 (x := 1) X2 HK2.out HD2.out (by omega) HP2.out hlt2 hl vc
   rw [show ((1 : Nat) : Int) = 1 from rfl] at h1
   have H1 := Lib.hid h1
   clear h1 hlt2
   go_wp2_with fail
   refine H1.out.mono ?_
   rintro e w3 ⟨A3, c3, rfl, ho, hE⟩
   obtain ⟨hd1, hf1⟩ := turnK HD2.out hE ho (hmac_len _ _)
   have fr1 := (HD2.out.ext hE).free 0
   have vc1 := hE.cell vc
   have kc1 := hE.cell kc
   have HK1 := Lib.hid (HK2.out.dr HD2.out hf1 (Nat.le_refl _))
   have vcs := (HD2.out.ext hE).v0 vc1 (.slice A3 32 c3)
   have HD1 := Lib.hid hd1
   have HF1 := Lib.hid (HF2.out.trans (hf1.mono HF2.out.size))
   clear hd1 hf1 hE ho vc vc1 H1 kc
   go_upto_region 4 with fail
   obtain ⟨X1, hX1⟩ : ∃ X, w3.setCell ⟨b, 0, none⟩ (.slice A3 32 c3) = X := ⟨_, rfl⟩
   rw [hX1] at HK1 HD1 HF1 vcs ⊢
   clear hX1 fr1 kc1
   have H2 := Lib.hid (mac1 _ HK1.out HD1.out vcs)
   go_wp2_with fail
   refine H2.out.mono ?_
   rintro e w4 ⟨A4, c4, rfl, ho, hE⟩
   obtain ⟨hd2, hf2⟩ := turnV HD1.out hE ho (hmac_len _ _)
   have fr2 := (HD1.out.ext hE).free 1
   have vc2 := hE.cell vcs
   have hff := HF1.out.trans (hf2.mono HF1.out.size)
   have hu : upd2 k v d = half (half k v d 0).1 (half k v d 0).2 d 1 := if_neg h0
   have Hfin := Lib.hid (show DR (w4.setCell ⟨b, 1, none⟩ (.slice A4 32 c4)) b (upd2 k v d).1 (upd2 k v d).2 n by rw [hu]; exact hd2)
   have HF2' := Lib.hid hff
   clear hd2 hf2 hff hE ho vcs H2 HK1 HD1 HF1 hu
   go_wp2_with fail
   go_end0
   exact ⟨rfl, Hfin.out, HF2'.out⟩
end Go.Proofs.YtaemogcomplhiaaGreatDoor

namespace Go.Proofs.YtaemogcomplhiaaGreatDoor
open Go.RowKit
open Sha

def dvs (k v : List Nat) : Nat → List Nat
 | 0 => v
 | m + 1 => hmac k (dvs k v m)
def douts (k v : List Nat) : Nat → List Nat
 | 0 => []
 | m + 1 => douts k v m ++ dvs k v (m + 1)
theorem douts_len (k v : List Nat) (m : Nat) : (douts k v m).length = 32 * m := by
 induction m with
 | zero => rfl
 | succ m ih => rw [douts, List.length_append, ih, dvs, hmac_len]; omega
def BL (w : World) (F b : Nat) (k v : List Nat) (n : Int) (A : Option Addr) (c : Nat) (out : List Nat) : Prop :=
 ∃ Ak ck Av cv, w.heap[b]? = some (.cells #[.slice Ak 32 ck, .slice Av 32 cv, .int .i64 n] 70 (0, 0)) ∧ RB w (fun g => g < F) Ak ck k ∧ F ≤ w.heap.size ∧ RB w (fun g => g < w.heap.size) Av cv v ∧ k.length = 32 ∧ v.length = 32 ∧ OW w F A c out
theorem BL.dr {w : World} {F b c : Nat} {k v out : List Nat} {n : Int} {A : Option Addr} (h : BL w F b k v n A c out) : DR w b k v n := by
 obtain ⟨Ak, ck, Av, cv, h1, h2, hF, h3, h4, h5, _⟩ := h
 exact ⟨Ak, ck, Av, cv, h1, h2.mono fun _ hg => Nat.lt_of_lt_of_le hg hF, h3, h4, h5⟩
theorem BL.ow {w : World} {F b c : Nat} {k v out : List Nat} {n : Int} {A : Option Addr} (h : BL w F b k v n A c out) : OW w F A c out := let ⟨_, _, _, _, _, _, _, _, _, _, h⟩ := h; h
theorem DR.bl {w : World} {b : Nat} {k v : List Nat} {n : Int} (h : DR w b k v n) : BL w w.heap.size b k v n none 0 [] := by
 obtain ⟨Ak, ck, Av, cv, h1, h2, h3, h4, h5⟩ := h
 exact ⟨Ak, ck, Av, cv, h1, h2, Nat.le_refl _, h3, h4, h5, ⟨⟨by simp [bys], .inl ⟨rfl, rfl⟩⟩, by simp⟩⟩
theorem OW.drb {w X : World} {b : Nat} {cs : Array Value} {A : Option Addr} {c base : Nat} {l : List Nat} (h : OW w base A c l) (hj : Just b w X) (hb : w.heap[b]? = some (.cells cs 70 (0, 0))) : OW X base A c l :=
 h.same fun g _ cs' hk => hj.at_ (fun e => by
  rw [e, hb] at hk
  injection Option.some.inj hk with _ e2
  exact absurd e2 (by decide)) hk
theorem own_ne {w : World} {b g base c : Nat} {cs : Array Value} {A : Option Addr} {l : List Nat} (hb : w.heap[b]? = some (.cells cs 70 (0, 0))) (h : OW w base A c l) (hg : (Value.slice A l.length c).ownBlock = some g) : b ≠ g := by
 intro e
 obtain ⟨_, cs', hc⟩ := h.own hg
 rw [← e, hb] at hc
 injection Option.some.inj hc with _ e2
 exact absurd e2 (by decide)
theorem BL.turn {w w1 : World} {F b c c' : Nat} {k v v' out : List Nat} {n : Int} {A A' : Option Addr} (h : BL w F b k v n A c out) (hE : Ext w w1) (ho : OW w1 w.heap.size A' c' v') (hl : v'.length = 32) :
 BL (w1.setCell ⟨b, 1, none⟩ (.slice A' 32 c')) F b k v' n A c out ∧ OW (w1.setCell ⟨b, 1, none⟩ (.slice A' 32 c')) w.heap.size A' c' v' ∧ (w1.setCell ⟨b, 1, none⟩ (.slice A' 32 c')).cell? ⟨b, 1, none⟩ = some (.slice A' 32 c') ∧ (∀ g, (Value.slice A out.length c).ownBlock = some g → g < w.heap.size) := by
 have hd := h.dr.ext hE
 obtain ⟨Ak, ck, Av, cv, h1, h2, hF, h3, h4, h5, h6⟩ := h
 have j := (Just.refl b w1).set 1 (.slice A' 32 c')
 have h1' := hE.at_ h1
 have ho' := ho.drb j h1'
 exact ⟨⟨Ak, ck, A', c', blk_set h1' 1 _, (h2.below hE (fun _ hg => Nat.lt_of_lt_of_le hg hF)).dr (fun _ hg => Nat.lt_of_lt_of_le hg (Nat.le_trans hF hE.bsize)) hd (DR.frS _ _), Nat.le_trans hF (Nat.le_trans hE.bsize (DR.frS (b := b) 1 (.slice A' 32 c')).size), ho'.rb' (by omega), h4, hl, (h6.same fun g _ cs hk => hE.at_ hk).drb j h1'⟩, ho', by rw [blk_cell (blk_set h1' 1 _) 1]; rfl, fun g hg => let ⟨_, cs, hc⟩ := h6.own hg; blk_lt hc⟩
theorem OW.keepOwn {w w' : World} {base : Nat} {A : Option Addr} {c : Nat} {bs : List Nat} (h : OW w base A c bs) (hk : ∀ g cs, (Value.slice A bs.length c).ownBlock = some g → w.heap[g]? = some (.cells cs 5 (0, 0)) → w'.heap[g]? = some (.cells cs 5 (0, 0))) : OW w' base A c bs := by
 obtain ⟨⟨h1, h2⟩, h3⟩ := h
 refine ⟨⟨h1, ?_⟩, h3⟩
 rcases h2 with h2 | ⟨g, cap, cur, e, hg, hb, h4⟩
 · exact .inl h2
 · exact .inr ⟨g, cap, cur, e, hg, hk g _ (by rw [e]; simp [Value.ownBlock]) hb, h4⟩
theorem BL.app {w w' : World} {F B b c c2 : Nat} {k v out : List Nat} {n : Int} {A A' A2 : Option Addr} {c' : Nat} (h : BL w F b k v n A c out) (hv : OW w B A' c' v) (hc : w.cell? ⟨b, 1, none⟩ = some (.slice A' 32 c')) (hB : ∀ g, (Value.slice A out.length c).ownBlock = some g → g < B)
 (hg : w.grownBy w' (Value.slice A out.length c).ownBlock) (ho : OW w' F A2 c2 (out ++ v)) : BL w' F b k v n A2 c2 (out ++ v) := by
 obtain ⟨Ak, ck, Av, cv, h1, h2, hF, h3, h4, h5, h6⟩ := h
 have e1 := blk_cell h1 1
 rw [hc] at e1
 simp only [List.getElem?_toArray, List.getElem?_cons_zero, List.getElem?_cons_succ, Option.some.injEq, Value.slice.injEq] at e1
 obtain ⟨rfl, _, rfl⟩ := e1
 have k1 := (hg.block b (blk_lt h1) (fun e => own_ne h1 h6 e.symm rfl)).trans h1
 refine ⟨Ak, ck, A', c', k1, h2.keep fun p hp => World.cell?_of_block (hg.block _ (Nat.lt_of_lt_of_le hp hF) (fun e => ?_)), Nat.le_trans hF hg.size, (hv.keepOwn fun g cs hq hk => (hg.block g (blk_lt hk) (fun e => ?_)).trans hk).rb' (by omega), h4, h5, ho⟩
 · have h8 := (h6.own e.symm).1
   omega
 · have h7 := (hv.own hq).1
   have h8 := hB g e.symm
   omega
theorem OW.blk {w : World} {base : Nat} {A : Option Addr} {c : Nat} {bs : List Nat} (h : OW w base A c bs) (h0 : 0 < bs.length) : ∃ g cs, A = some ⟨g, 0, none⟩ ∧ w.heap[g]? = some (.cells cs 5 (0, 0)) := by
 obtain ⟨⟨h1, h2⟩, h3⟩ := h
 rcases h2 with ⟨e, hn⟩ | ⟨g, cap, cur, e, hg, hb, h4⟩
 · injection e with e1 e2 e3
   omega
 · injection e with e1 e2 e3
   exact ⟨g, _, e1, hb⟩
set_option maxRecDepth 100000 in
set_option maxHeartbeats 8000000 in
theorem dbytes_own {b m : Nat} {k v : List Nat} {num : Int} (w : World) (hk : KW w) (hd : DR w b k v num) (hm : 0 < m) (hm2 : m ≤ 65536) (hn : 0 ≤ num) (hn2 : num < 1000000000) :
 Calls Tryz.prog 96 #[.pointer (some ⟨b, 0, none⟩), .int .i64 (m : Int)] w fun e w' => ∃ A c, e = .returned (.slice A m c) ∧ RB w' (In w.heap.size w'.heap.size) A c ((douts k v ((m + 31) / 32)).take m) ∧ DR w' b (upd2 k (dvs k v ((m + 31) / 32)) []).1 (upd2 k (dvs k v ((m + 31) / 32)) []).2 (num + 1) ∧ Fr b w.heap.size w w' ∧ ∃ g cs, A = some ⟨g, 0, none⟩ ∧ w'.heap[g]? = some (.cells cs 5 (0, 0)) := by
 have HB0 := Lib.hid hd.bl
 have HK := Lib.hid hk
 have HD := Lib.hid hd
 have m1 : ¬ (m : Int) < 1 := by omega
 have m2 : ¬ (65536 : Int) < (m : Int) := by omega
 clear hk hd
 go_enter Tryz.func96, Tryz.ntmps96
 go_wp2_with fail
 go_loopw [5] (fun sv wr => ∃ (q : Nat) (A : Option Addr) (c : Nat), sv = .slice A (douts k v q).length c ∧ 32 * q < m + 32 ∧ Hid (BL wr w.heap.size b k (dvs k v q) num A c (douts k v q)) ∧ Hid (Fr b w.heap.size w wr)) (fun sv _ => m + 32 - (match sv with | .slice _ l _ => l | _ => 0))
 case atStart => exact ⟨0, none, 0, rfl, by omega, HB0, Lib.hid (Fr.refl _ _ _)⟩
 case round =>
  clear HB0
  obtain ⟨q, A, c, rfl, hq, HB, HF⟩ := hrel
  have hql := douts_len k v q
  obtain ⟨Av, cv, vc⟩ := HB.out.dr.vcell
  by_cases hlt : 32 * q < m
  · have hl1 : ((douts k v q).length : Int) < (m : Int) := by omega
    have HKr := Lib.hid (HK.out.dr HD.out HF.out (Nat.le_refl _))
    have H2 := Lib.hid (mac1 _ HKr.out HB.out.dr vc)
    have Hql := Lib.hid hql
    have fsz := HF.out.size
    clear hql HKr
    go_wp2_with fail
    refine H2.out.mono ?_
    rintro e w1 ⟨A1, c1, rfl, ho, hE⟩
    obtain ⟨v', hv'⟩ : ∃ x, hmac k (dvs k v q) = x := ⟨_, rfl⟩
    have hvl : v'.length = 32 := by rw [← hv']; exact hmac_len _ _
    rw [hv'] at ho
    obtain ⟨hb1, hv1, hc1, hown⟩ := HB.out.turn hE ho hvl
    have fr := (HB.out.dr.ext hE).free 1
    have vc1 := hE.cell vc
    have hf1 := (Fr.below hE (Nat.le_refl _)).trans (Fr.just ((Just.refl b w1).set 1 (.slice A1 32 c1)) hE.bsize)
    have HF1 := Lib.hid (HF.out.trans (hf1.mono fsz))
    have HB1 := Lib.hid hb1
    have HV1 := Lib.hid hv1
    have Hown := Lib.hid hown
    have Hvl := Lib.hid hvl
    have Hv' := Lib.hid hv'
    clear hb1 hv1 hown hvl hv' hf1 hE ho vc H2 HB HF
    go_upto_region 6 with fail
    obtain ⟨X1, hX1⟩ : ∃ X, w1.setCell ⟨b, 1, none⟩ (.slice A1 32 c1) = X := ⟨_, rfl⟩
    rw [hX1] at HF1 HB1 HV1 hc1 ⊢
    clear hX1 fr vc1
    have hO1 := Lib.hid HB1.out.ow
    have hP1 := Lib.hid (HV1.out.rb (by rw [Hvl.out]; omega))
    have hlen := Lib.hid (show (douts k v q).length + v'.length ≤ 100000000 by rw [Hvl.out, Hql.out]; omega)
    have hbase := Lib.hid HF1.out.size
    go_wp2_with (at_builtin; refine app8g rfl (.tmp 30) (.tmp 34) rfl w.heap.size rfl hO1.out (by rw [Hvl.out]; rfl) hP1.out hlen.out hbase.out ?_; intro A2 c2 W2 ho2 hg2; have HO2 := Lib.hid ho2; have HG2 := Lib.hid hg2; clear ho2 hg2)
    have e1 : douts k v q ++ v' = douts k v (q + 1) := by rw [douts, dvs, Hv'.out]
    have e2 : v' = dvs k v (q + 1) := by rw [dvs, Hv'.out]
    have hba := HB1.out.app HV1.out hc1 Hown.out HG2.out HO2.out
    rw [e1, e2] at hba
    have HBn := Lib.hid hba
    have HFn := Lib.hid (HF1.out.trans (Fr.below (b := b) (Below.grown (Below.refl w.heap.size X1) HG2.out hbase.out (own_base hO1.out.1)) (Nat.le_refl _)))
    have E1 := Lib.hid e1
    clear hba e1 e2
    go_roundw
    case rel => exact ⟨q + 1, A2, c2, by rw [← E1.out, List.length_append], by omega, HBn, HFn⟩
    case measure => simp only [Hql.out, Hvl.out]; omega
  · obtain ⟨M, hM⟩ : ∃ M, (m + 31) / 32 = M := ⟨_, rfl⟩
    obtain rfl : q = M := by omega
    have HM := Lib.hid hM
    have hl1 : ¬ ((douts k v q).length : Int) < (m : Int) := by omega
    have hkr := HK.out.dr HD.out HF.out (Nat.le_refl _)
    have H2 := Lib.hid (update_any (d := []) wr hkr HB.out.dr (RB.nil_ wr (fun _ => False)) (fun _ h => h.elim) (by simp))
    have Hql := Lib.hid hql
    have hrb := HB.out.ow.rb (by omega)
    obtain ⟨g, cs, eA, hgc⟩ := HB.out.ow.blk (by omega)
    have HG := Lib.hid hgc
    have HA := Lib.hid eA
    have fsz := HF.out.size
    have HDB := Lib.hid HB.out.dr
    clear hql hkr hM vc hgc eA
    go_wp2_with fail
    refine H2.out.mono ?_
    rintro e w1 ⟨rfl, hd1, hf1⟩
    have hR1 := Lib.hid (hrb.dr (fun _ hk => hk.2) HB.out.dr hf1)
    have HF1 := Lib.hid (HF.out.trans (hf1.mono fsz))
    obtain ⟨Ak, ck, Av', cv', h1, _⟩ := id hd1
    have nc := blk_cell h1 2
    simp only [List.getElem?_toArray, List.getElem?_cons_zero, List.getElem?_cons_succ] at nc
    have fr := hd1.free 2
    have hd2 := hd1.setN (num + 1)
    have hf2 := HF1.out.trans ((Fr.just (b := b) ((Just.refl b w1).set 2 (.int .i64 (num + 1))) (Nat.le_refl _)).mono HF1.out.size)
    have hR2 := hR1.out.dr (fun _ hk => Nat.lt_of_lt_of_le hk.2 hf1.size) hd1 (Fr.just (b := b) ((Just.refl b w1).set 2 (.int .i64 (num + 1))) (Nat.le_refl _))
    have hgb : g ≠ b := by
     obtain ⟨_, _, _, _, hb0, _⟩ := HDB.out
     intro e
     have hx := HG.out
     rw [e, hb0] at hx
     injection Option.some.inj hx with _ e2
     exact absurd e2 (by decide)
    have HG2 := Lib.hid (((Just.refl b w1).set 2 (.int .i64 (num + 1))).at_ hgb (hf1.at_ (blk_lt HG.out) hgb HG.out))
    have HD2 := Lib.hid hd2
    have HF2 := Lib.hid hf2
    have HR2 := Lib.hid hR2
    have hc := hrb.cap
    have b1 : (0 : Int) ≤ (m : Int) := by omega
    have b2 : (m : Int) ≤ (c : Int) := by have := Hql.out; omega
    have hwz := IntWalk.i64_in (num + 1) (by omega)
    have fz2 : wr.heap.size ≤ (w1.setCell ⟨b, 2, none⟩ (.int .i64 (num + 1))).heap.size := by simpa [World.setCell] using hf1.size
    clear hd1 hf1 hd2 hf2 hR2 h1 hrb H2 HB HF hR1 HF1 hgb HG HDB
    go_upto_region 9 with fail
    go_wp2_with fail
    go_ret
    rw [HM.out]
    have hsl := HR2.out.mid' (k := 0) (m := m) (c' := m) (by omega) (by have := Hql.out; omega) (by omega) (by unfold maxLen; omega) (A' := A) (fun _ => by cases A <;> simp [Addr.add])
    rw [List.drop_zero, Nat.sub_zero] at hsl
    exact ⟨A, m, rfl, hsl.mono fun g hg => ⟨hg.1, Nat.lt_of_lt_of_le hg.2 fz2⟩, HD2.out, HF2.out, g, _, HA.out, HG2.out⟩
theorem dbytes_any {b m : Nat} {k v : List Nat} {num : Int} (w : World) (hk : KW w) (hd : DR w b k v num) (hm : 0 < m) (hm2 : m ≤ 65536) (hn : 0 ≤ num) (hn2 : num < 1000000000) :
 Calls Tryz.prog 96 #[.pointer (some ⟨b, 0, none⟩), .int .i64 (m : Int)] w fun e w' => ∃ A c, e = .returned (.slice A m c) ∧ RB w' (In w.heap.size w'.heap.size) A c ((douts k v ((m + 31) / 32)).take m) ∧ DR w' b (upd2 k (dvs k v ((m + 31) / 32)) []).1 (upd2 k (dvs k v ((m + 31) / 32)) []).2 (num + 1) ∧ Fr b w.heap.size w w' :=
 (dbytes_own w hk hd hm hm2 hn hn2).mono fun _ _ ⟨A, c, h1, h2, h3, h4, _⟩ => ⟨A, c, h1, h2, h3, h4⟩
end Go.Proofs.YtaemogcomplhiaaGreatDoor

namespace Go.Proofs.YtaemogcomplhiaaGreatDoor
open Go.RowKit
open Sha

set_option maxRecDepth 100000 in
set_option maxHeartbeats 8000000 in
theorem dbelow_any {b q : Nat} {P : Nat → Prop} {A : Option Addr} {c : Nat} {a k v : List Nat} {num : Int} (w : World) (hk : KW w) (hd : DR w b k v num) (h : RN w P A c a) (hP : ∀ b, P b → b < w.heap.size) (hPb : ¬ P b) (hal : a.length < 90000) (hq : nbits (val 18446744073709551616 a) = q) (hq0 : 0 < q) (hq1 : q ≤ 4096) (hv0 : 0 < val 18446744073709551616 a) (hn : 0 ≤ num) (hn2 : num < 1000000000) :
 Calls Tryz.prog 68 #[.pointer (some ⟨b, 0, none⟩), .slice A a.length c] w fun e w' => ∃ A2 c2 r m, m = (q + 71) / 8 ∧ r = numOf ((douts k v ((m + 31) / 32)).take m) % val 18446744073709551616 a ∧ e = .returned (.tuple #[.slice A2 (digs 18446744073709551616 r).length c2, .bool true]) ∧
  OB w' w.heap.size A2 c2 (digs 18446744073709551616 r) ∧ DR w' b (upd2 k (dvs k v ((m + 31) / 32)) []).1 (upd2 k (dvs k v ((m + 31) / 32)) []).2 (num + 1) ∧ Fr b w.heap.size w w' := by
 have H := Lib.hid (bits_any P A c a w h)
 rw [hq] at H
 obtain ⟨m, hm⟩ : ∃ m, (q + 71) / 8 = m := ⟨_, rfl⟩
 have hmi : ((q : Int) + 64 + 7) / 8 = (m : Int) := by omega
 have HB := Lib.hid (dbytes_any (m := m) w hk hd (by omega) (by omega) hn hn2)
 have q0 : ((q : Int) == 0) = false := by rw [beq_eq_false_iff_ne]; omega
 have q1 : decide ((4096 : Int) < (q : Int)) = false := decide_eq_false (by omega)
 have HM := Lib.hid hm
 have HR := Lib.hid h
 have HD := Lib.hid hd
 have HPP := Lib.hid hP
 clear hk hd h hP hm hn hn2
 go_enter Tryz.func68, Tryz.ntmps68
 go_wp2_with fail
 refine H.out.mono ?_
 rintro e w1 ⟨rfl, rfl⟩
 clear H
 go_wp2_with fail
 refine HB.out.mono ?_
 rintro e w2 ⟨A1, c1, rfl, hr, hd2, hf2⟩
 have hlm : ((douts k v ((m + 31) / 32)).take m).length = m := by rw [List.length_take, douts_len]; omega
 obtain ⟨bs, hbs⟩ : ∃ bs, (douts k v ((m + 31) / 32)).take m = bs := ⟨_, rfl⟩
 rw [hbs] at hr hlm
 have H3 := Lib.hid (fromBytes_any _ A1 c1 bs w2 hr (fun g hg => hg.2) (by omega))
 rw [hlm] at H3
 have HD2 := Lib.hid hd2
 have HF2 := Lib.hid hf2
 have HBS := Lib.hid hbs
 have hbl := hr.2.1
 clear hr hd2 hf2 hbs HB
 go_wp2_with fail
 refine H3.out.mono ?_
 rintro e w3 ⟨A2, c2, rfl, ho3, hb3⟩
 have hl2 : (digs 18446744073709551616 (numOf bs)).length ≤ m := digs_length_of_lt (by omega) (Nat.lt_of_lt_of_le (numOf_lt hbl) (by rw [hlm]; exact Nat.pow_le_pow_left (by omega) m))
 have hr2 : RN w2 P A c a := HR.out.keep fun p hp => World.cell?_of_block (HF2.out.block _ (HPP.out _ hp) (fun e => hPb (e ▸ hp)))
 have hP2 : ∀ g, P g → g < w2.heap.size := fun g hg => Nat.lt_of_lt_of_le (HPP.out g hg) HF2.out.size
 have H4 := Lib.hid (quo_any _ P A2 A c2 c _ a w3 ho3.rn (hr2.below hb3 hP2) (fun g hg => hg.2) (fun g hg => Nat.lt_of_lt_of_le (hP2 g hg) hb3.size) (by have := HM.out; omega) hal hv0)
 rw [val_digs (by omega)] at H4
 have HB3 := Lib.hid hb3
 clear ho3 hb3 hr2 hP2 H3
 go_wp2_with fail
 refine H4.out.mono ?_
 rintro e w4 ⟨A3, c3, A4, c4, rfl, _, ho4, hb4⟩
 have HO4 := Lib.hid ho4
 have HD4 := Lib.hid ((HD2.out.ext HB3.out).ext hb4)
 have hs1 := HF2.out.size
 have hs2 := HB3.out.size
 have HF4 := Lib.hid ((HF2.out.trans (Fr.below (b := b) HB3.out hs1)).trans (Fr.below (b := b) hb4 (Nat.le_trans hs1 hs2)))
 clear ho4 hb4 H4
 go_wp2_with fail
 go_ret2
 exact ⟨A4, c4, _, m, HM.out.symm, by rw [HBS.out], rfl, HO4.out.mono (Nat.le_trans hs1 hs2), HD4.out, HF4.out⟩
end Go.Proofs.YtaemogcomplhiaaGreatDoor

namespace Go.Proofs.YtaemogcomplhiaaGreatDoor
open Go.RowKit

set_option maxRecDepth 100000 in
set_option maxHeartbeats 1000000 in
theorem rest_any (P P' : Nat → Prop) (A A' : Option Addr) (c c' : Nat) (a b : List Nat) (w : World) (h : RN w P A c a) (h' : RN w P' A' c' b) (hP : ∀ b, P b → b < w.heap.size) (hP' : ∀ b, P' b → b < w.heap.size) (hl : a.length < 90000) (hl' : b.length < 90000) (h0 : 0 < val 18446744073709551616 b) :
 Calls Tryz.prog 118 #[.slice A a.length c, .slice A' b.length c'] w fun e w' => ∃ A1 c1, e = .returned (.slice A1 (digs 18446744073709551616 (val 18446744073709551616 a % val 18446744073709551616 b)).length c1) ∧
  OB w' w.heap.size A1 c1 (digs 18446744073709551616 (val 18446744073709551616 a % val 18446744073709551616 b)) ∧ Below w.heap.size w w' := by
 have hq := Lib.hid (quo_any P P' A A' c c' a b w h h' hP hP' hl hl' h0)
 generalize val 18446744073709551616 a % val 18446744073709551616 b = r at *
 generalize val 18446744073709551616 a / val 18446744073709551616 b = q at *
 clear h0 hl hl'
 go_enter Tryz.func118, Tryz.ntmps118
 go_wp2_with fail
 refine hq.out.mono ?_
 rintro e w1 ⟨A1, c1, A2, c2, rfl, _, hO, hB⟩
 go_wp2
 go_ret
 exact ⟨A2, c2, rfl, hO, hB⟩

def RNN (w : World) (P : Nat → Prop) (A : Option Addr) (c : Nat) (ls : List (List Nat)) (cs : List Value) : Prop :=
 RS w P 1 A ls.length c cs ∧ ls.length ≤ 1000 ∧ ∀ (j : Nat) l, ls[j]? = some l → ∃ A' c', cs[j]? = some (.slice A' l.length c') ∧ RN w P A' c' l

set_option maxRecDepth 100000 in
set_option maxHeartbeats 1000000 in
theorem may_any (P : Nat → Prop) (A : Option Addr) (c : Nat) (ls : List (List Nat)) (cs : List Value) (w : World) (h : RNN w P A c ls cs) :
 Calls Tryz.prog 117 #[.slice A ls.length c] w fun e w' => e = .returned (.bool (ls.all fun l => decide (nbits (val 18446744073709551616 l) ≤ 4096))) ∧ w = w' := by
 obtain ⟨⟨h1, h2, h3, h4⟩, h5, h6⟩ := h
 go_enter Tryz.func117, Tryz.ntmps117
 go_wp2_with fail
 go_loopw [7] (fun iv wr => ∃ k : Nat, iv = .int .i64 (k : Int) ∧ k ≤ ls.length ∧ Hid ((ls.all fun l => decide (nbits (val 18446744073709551616 l) ≤ 4096)) = ((ls.drop k).all fun l => decide (nbits (val 18446744073709551616 l) ≤ 4096))) ∧ w = wr) (fun iv _ => ls.length - (intOf iv).toNat)
 case atStart => exact ⟨0, rfl, by omega, Lib.hid (by simp), rfl⟩
 case round =>
  obtain ⟨k, rfl, hk, hall, rfl⟩ := hrel
  by_cases hlt : k < ls.length
  · obtain ⟨ad, rfl, _, hc⟩ := h4 (by omega)
    obtain ⟨A1, c1, e1, hr⟩ := h6 k _ (List.getElem?_eq_getElem hlt)
    have hx := hc _ _ e1
    have hb := Lib.hid (bits_any P A1 c1 ls[k] w hr)
    have hd : (ls.drop k).all (fun l => decide (nbits (val 18446744073709551616 l) ≤ 4096)) = (decide (nbits (val 18446744073709551616 ls[k]) ≤ 4096) && (ls.drop (k + 1)).all fun l => decide (nbits (val 18446744073709551616 l) ≤ 4096)) := by
     rw [List.drop_eq_getElem_cons hlt, List.all_cons]
    obtain ⟨l, hl⟩ : ∃ l, ls[k] = l := ⟨_, rfl⟩
    rw [hl] at hx hb hd
    obtain ⟨nb, hnb⟩ : ∃ nb, nbits (val 18446744073709551616 l) = nb := ⟨_, rfl⟩
    rw [hnb] at hb hd
    have Hall := hall
    have Hd := Lib.hid hd
    clear hd hl hr e1 hc h4 h6 hnb hall
    go_wp2_with fail
    refine hb.out.mono ?_
    rintro e w' ⟨rfl, rfl⟩
    by_cases hbig : 4096 < nb
    · have hf := Lib.hid (show (ls.all fun l => decide (nbits (val 18446744073709551616 l) ≤ 4096)) = false from Hall.out.trans (by rw [Hd.out, decide_eq_false (by omega : ¬ nb ≤ 4096), Bool.false_and]))
      have t1 : decide ((4096 : Int) < (nb : Int)) = true := decide_eq_true (by omega)
      clear Hall Hd
      go_wp2
      go_ret
      exact ⟨by rw [hf.out]; rfl, rfl⟩
    · have hf := Hall.out.trans (by rw [Hd.out, decide_eq_true (by omega : nb ≤ 4096), Bool.true_and])
      have Hf := Lib.hid hf
      have t1 : decide ((4096 : Int) < (nb : Int)) = false := decide_eq_false (by omega)
      clear Hall Hd hf
      go_wp2
      go_roundw
      case rel => exact ⟨k + 1, by go_num, by omega, Hf, by first | rfl | trivial⟩
      case measure => simp [intOf]; omega
  · have hf := Lib.hid (show (ls.all fun l => decide (nbits (val 18446744073709551616 l) ≤ 4096)) = true from hall.out.trans (by rw [List.drop_of_length_le (by omega), List.all_nil]))
    clear hall h4 h6
    go_wp2
    go_ret
    exact ⟨by rw [hf.out]; rfl, rfl⟩

def readLimbs (w : World) (v : Value) : Nat := match v with
 | .slice (some a) n _ => val 18446744073709551616 ((List.range n).map fun i => match w.cell? (a.add i) with | some (.int _ z) => z.toNat | _ => 0)
 | _ => 0
theorem RN.read {w : World} {P : Nat → Prop} {A : Option Addr} {c : Nat} {l : List Nat} (h : RN w P A c l) : readLimbs w (.slice A l.length c) = val 18446744073709551616 l := by
 rcases Nat.eq_zero_or_pos l.length with h0 | h0
 · obtain rfl := List.eq_nil_of_length_eq_zero h0
   cases A <;> simp [readLimbs]
 · obtain ⟨ad, rfl, _, _⟩ := h.at_ h0
   simp only [readLimbs]
   congr 1
   apply List.ext_getElem?
   intro i
   rw [List.getElem?_map]
   by_cases hi : i < l.length
   · rw [List.getElem?_range hi, List.getElem?_eq_getElem hi, Option.map_some, h.cells i hi, getD_eq hi]
     simp
   · rw [List.getElem?_eq_none (by simp; omega), List.getElem?_eq_none (by omega)]
     rfl

end Go.Proofs.YtaemogcomplhiaaGreatDoor

namespace Go.Proofs.YtaemogcomplhiaaGreatDoor
open Go.RowKit

set_option maxRecDepth 100000 in
set_option maxHeartbeats 1000000 in
theorem add_any (P P' : Nat → Prop) (A A' : Option Addr) (c c' : Nat) (a b : List Nat) (w : World) (h : RN w P A c a) (h' : RN w P' A' c' b) (hP : ∀ b, P b → b < w.heap.size) (hP' : ∀ b, P' b → b < w.heap.size) (hl : a.length < 100000) (hl' : b.length < 100000) :
 Calls Tryz.prog 63 #[.slice A a.length c, .slice A' b.length c'] w fun e w' => ∃ A1 c1, e = .returned (.slice A1 (digs 18446744073709551616 (val 18446744073709551616 a + val 18446744073709551616 b)).length c1) ∧
  OB w' w.heap.size A1 c1 (digs 18446744073709551616 (val 18446744073709551616 a + val 18446744073709551616 b)) ∧ Below w.heap.size w w' := by
 have ta := Lib.hid (trim_any P A c a w h)
 have tb := Lib.hid (trim_any P' A' c' b w h')
 have la := digs_length_le (B := 18446744073709551616) (by omega) h.2.1
 have lb := digs_length_le (B := 18446744073709551616) (by omega) h'.2.1
 replace h := h.trim
 replace h' := h'.trim
 generalize val 18446744073709551616 a = x at *
 generalize val 18446744073709551616 b = y at *
 have hx := val_digs (B := 18446744073709551616) (by omega) x
 have hy := val_digs (B := 18446744073709551616) (by omega) y
 generalize digs 18446744073709551616 x = l at *
 generalize digs 18446744073709551616 y = m at *
 have la' : l.length < 100000 := by omega
 have lb' : m.length < 100000 := by omega
 clear la lb hl hl'
 have Hx := Lib.hid hx
 have Hy := Lib.hid hy
 clear hx hy
 go_enter Tryz.func63, Tryz.ntmps63
 go_wp2_with fail
 refine ta.out.mono ?_
 rintro e w1 ⟨rfl, rfl⟩
 go_wp2_with fail
 refine tb.out.mono ?_
 rintro e w1 ⟨rfl, rfl⟩
 go_upto_if 17 with fail
 go_cut [0, 1] (fun s0 s1 wx => ∃ (A c : _) (l : List Nat) (A' c' : _) (m : List Nat), s0 = .slice A l.length c ∧ s1 = .slice A' m.length c' ∧ m.length ≤ l.length ∧ l.length < 100000 ∧
  RN w (fun b => b < w.heap.size) A c l ∧ RN w (fun b => b < w.heap.size) A' c' m ∧ Hid (val 18446744073709551616 l + val 18446744073709551616 m = x + y) ∧ w = wx)
 case first =>
  by_cases hs : l.length < m.length
  · go_wp2_with fail
    go_meet
    case rel => exact ⟨A', c', m, A, c, l, rfl, rfl, by omega, by omega, h'.mono hP', h.mono hP, Lib.hid (by rw [Hx.out, Hy.out, Nat.add_comm]), rfl⟩
  · go_wp2_with fail
    go_meet
    case rel => exact ⟨A, c, l, A', c', m, rfl, rfl, by omega, by omega, h.mono hP, h'.mono hP', Lib.hid (by rw [Hx.out, Hy.out]), rfl⟩
 case rest =>
  clear ta tb h h' hP hP' Hx Hy la' lb'
  clear A A' c c' l m
  obtain ⟨A, c, l, A', c', m, rfl, rfl, hle, hlen, h, h', Hv, rfl⟩ := hcut
  obtain ⟨h1, h2, h3⟩ := h.cap
  obtain ⟨g1, g2, g3⟩ := h'.cap
  have hmk := run_make_row' (P := Tryz.prog) 24 65 (.int .u64 0) 8 Tryz.underlying24 info64 rfl .i64 .i64 (l.length + 1) (by omega) (by omega)
  simp only [Int.natCast_add, Int.cast_ofNat_Int] at hmk
  go_wp2
  go_loopw [6, 26] (fun cv iv wr => ∃ (k cr : Nat) (o : List Nat), iv = .int .i64 (k : Int) ∧ cv = .int .u64 (cr : Int) ∧ k ≤ l.length ∧ cr ≤ 1 ∧ AddAt 18446744073709551616 l m o k cr ∧ Hid (o.length = l.length + 1) ∧ Lim o ∧ Blk wr w.heap.size o ∧ Below w.heap.size w wr) (fun _ iv _ => l.length - (intOf iv).toNat)
  case atStart => exact ⟨0, 0, List.replicate (l.length + 1) 0, rfl, rfl, by omega, by omega, AddAt.zero _ _ _ _, Lib.hid (by simp), ⟨by simp, by simp; omega⟩, Blk.made w _, (Below.refl _ w).alloc (Nat.le_refl _) _⟩
  case round =>
   obtain ⟨k, cr, o, rfl, rfl, hk, hcr, hA, Ho, hLo, hblk, hB⟩ := hrel
   by_cases hlt : k < l.length
   · obtain ⟨ad, rfl, _, q1⟩ := (h.below hB (fun b hb => hb)).at_ hlt
     obtain ⟨s, cr', hs, hcr', he⟩ := carry_of (dg l k) (dg m k) cr (h.2.dgLt k) (h'.2.dgLt k) hcr
     have hok : k < o.length := by have := Ho.out; omega
     have q3 := hblk.cell hok
     have q4 := hblk.free k
     have hA' := hA.step hok he
     have hblk' := hblk.set k s
     have hLo' := hLo.set k s hs
     have hB' := hB.setCell (p := ⟨w.heap.size, k, none⟩) (Nat.le_refl _) (.int .u64 (s : Int))
     have Ho' : Hid ((o.set k s).length = l.length + 1) := Lib.hid (by rw [List.length_set]; exact Ho.out)
     by_cases hm : k < m.length
     · obtain ⟨ae, rfl, _, q2⟩ := (h'.below hB (fun b hb => hb)).at_ hm
       have hadd := fun w => add64_at (dg l k) (dg m k) cr s cr' hcr hs he w
       clear he hA hblk hLo hB
       go_wp2
       go_roundw
       case rel => exact ⟨k + 1, cr', o.set k s, by go_num, rfl, by omega, hcr', hA', Ho', hLo', hblk', hB'⟩
       case measure => simp [intOf]; omega
     · have hadd := fun w => add64_at (dg l k) 0 cr s cr' hcr hs (by rw [dg_none (by omega : m.length ≤ k)] at he; exact he) w
       simp only [Int.cast_ofNat_Int] at hadd
       clear he hA hblk hLo hB
       go_wp2
       go_roundw
       case rel => exact ⟨k + 1, cr', o.set k s, by go_num, rfl, by omega, hcr', hA', Ho', hLo', hblk', hB'⟩
       case measure => simp [intOf]; omega
   · obtain rfl : k = l.length := by omega
     have hfin := hA.fin (by rw [Ho.out]) (Nat.le_refl _) hle
     rw [Hv.out] at hfin
     have q4 := hblk.free l.length
     have q3 := hblk.cell (i := l.length) (by have := Ho.out; omega)
     have hblk' := hblk.set l.length cr
     have hLo' := hLo.set l.length cr (by omega)
     have hB' := hB.setCell (p := ⟨w.heap.size, l.length, none⟩) (Nat.le_refl _) (.int .u64 (cr : Int))
     have Ho' : Hid ((o.set l.length cr).length = l.length + 1) := Lib.hid (by rw [List.length_set]; exact Ho.out)
     obtain ⟨o', ho'⟩ : ∃ o', o.set l.length cr = o' := ⟨_, rfl⟩
     rw [ho'] at hfin hblk' hLo' Ho'
     have hOB : OB (wr.setCell ⟨w.heap.size, l.length, none⟩ (.int .u64 (cr : Int))) w.heap.size (some ⟨w.heap.size, 0, none⟩) (l.length + 1) o' := OB.of_blk hblk' (Nat.le_refl _) hLo' (by have := Ho'.out; omega) (by unfold maxLen; omega)
     have ht := trim_any _ _ _ _ _ hOB.rn
     have hOB' := hOB.trim
     rw [hfin, Ho'.out] at ht
     rw [hfin] at hOB'
     have Ht := Lib.hid ht
     clear hA hblk hLo hB ht hfin hOB hblk' hLo' ho'
     go_wp2_with fail
     refine Ht.out.mono ?_
     rintro e w1 ⟨rfl, rfl⟩
     go_wp2
     go_ret
     exact ⟨_, _, rfl, hOB', hB'⟩

end Go.Proofs.YtaemogcomplhiaaGreatDoor

namespace Go.Proofs.YtaemogcomplhiaaGreatDoor
open Go.RowKit

def invLoop (m r s t u : Nat) : Nat × Nat := if _h : s = 0 then (r, t) else invLoop m s (r % s) u ((t + m - r / s * u % m) % m)
termination_by s
decreasing_by exact Nat.mod_lt _ (by omega)
theorem invLoop_zero (m r t u : Nat) : invLoop m r 0 t u = (r, t) := by rw [invLoop]; simp
theorem invLoop_step {m r s t u : Nat} (h : s ≠ 0) : invLoop m r s t u = invLoop m s (r % s) u ((t + m - r / s * u % m) % m) := by rw [invLoop]; simp [h]
def invAns (x m : Nat) : List Nat × Bool := if (invLoop m m (x % m) 0 1).1 = 1 then (digs 18446744073709551616 (invLoop m m (x % m) 0 1).2, true) else ([], false)
theorem RNN.two {w : World} {P P' : Nat → Prop} {A A' : Option Addr} {c c' : Nat} {a b : List Nat} (h : RN w P A c a) (h' : RN w P' A' c' b) (hP : ∀ b, P b → b < w.heap.size) (hP' : ∀ b, P' b → b < w.heap.size) :
 RNN (w.alloc (.cells #[.slice A a.length c, .slice A' b.length c'] 24)) (fun _ => True) (some ⟨w.heap.size, 0, none⟩) 2 [a, b] [.slice A a.length c, .slice A' b.length c'] := by
 have hB : Below w.heap.size w (w.alloc (.cells #[.slice A a.length c, .slice A' b.length c'] 24)) := (Below.refl _ w).alloc (Nat.le_refl _) _
 refine ⟨RS.fresh (w := w) (P := fun _ => True) #[.slice A a.length c, .slice A' b.length c'] 24 1 2 rfl (by unfold maxLen; omega) trivial, by simp, fun j l hl => ?_⟩
 match j, hl with
 | 0, hl => simp at hl; subst hl; exact ⟨A, c, rfl, (h.below hB hP).mono fun _ _ => trivial⟩
 | 1, hl => simp at hl; subst hl; exact ⟨A', c', rfl, (h'.below hB hP').mono fun _ _ => trivial⟩
 | j + 2, hl => simp at hl

set_option maxRecDepth 100000 in
set_option maxHeartbeats 2000000 in
theorem inverse_yes (P P' : Nat → Prop) (A A' : Option Addr) (c c' : Nat) (a b : List Nat) (X M : Nat) (w : World) (h : RN w P A c a) (h' : RN w P' A' c' b) (hP : ∀ b, P b → b < w.heap.size) (hP' : ∀ b, P' b → b < w.heap.size) (hX : val 18446744073709551616 a = X) (hM : val 18446744073709551616 b = M) (hM2 : 2 ≤ M)
 (hla : a.length < 40000) (hlb : b.length < 40000) (hmay : nbits X ≤ 4096 ∧ nbits M ≤ 4096) :
 Calls Tryz.prog 86 #[.slice A a.length c, .slice A' b.length c'] w fun e w' => ∃ A1 c1, e = .returned (.tuple #[.slice A1 (invAns X M).1.length c1, .bool (invAns X M).2]) ∧ OB w' w.heap.size A1 c1 (invAns X M).1 ∧ Below w.heap.size w w' := by
 have hb := bits_any P' A' c' b w h'
 have hlM : (digs 18446744073709551616 M).length ≤ 40000 := by have := digs_length_le (B := 18446744073709551616) (by omega) h'.2.1; rw [hM] at this; omega
 have hnb : 2 ≤ nbits M := by
  rcases Nat.lt_or_ge (nbits M) 2 with h0 | h0
  · have := lt_of_nbits (x := M) (k := 1) (by omega); omega
  · exact h0
 rw [hM] at hb
 have t1 : decide ((nbits M : Int) < 2) = false := decide_eq_false (by omega)
 have hmy := may_any _ _ _ _ _ _ (RNN.two h h' hP hP')
 rw [show (([a, b] : List (List Nat)).all fun l => decide (nbits (val 18446744073709551616 l) ≤ 4096)) = true by simp [hX, hM, hmay.1, hmay.2]] at hmy
 simp only [List.length_cons, List.length_nil, Nat.zero_add, Nat.reduceAdd] at hmy
 have hB0 : Below w.heap.size w (w.alloc (.cells #[.slice A a.length c, .slice A' b.length c'] 24)) := (Below.refl _ w).alloc (Nat.le_refl _) _
 have hz0 : (w.alloc (.cells #[.slice A a.length c, .slice A' b.length c'] 24)).heap.size = w.heap.size + 1 := by simp
 have Hb := Lib.hid hb
 have Hmy := Lib.hid hmy
 clear hb hmy hmay hnb
 go_enter Tryz.func86, Tryz.ntmps86
 go_wp2_with fail
 refine Hb.out.mono ?_
 rintro e w' ⟨rfl, rfl⟩
 go_wp2_with fail
 refine Hmy.out.mono ?_
 rintro e w' ⟨rfl, rfl⟩
 generalize w.alloc (.cells #[.slice A a.length c, .slice A' b.length c'] 24) = W0 at *
 have hn1 := norm_any P' A' c' b W0 (h'.below hB0 hP')
 rw [hM] at hn1
 have Hn1 := Lib.hid hn1
 clear hn1
 go_wp2_with fail
 refine Hn1.out.mono ?_
 rintro e w1 ⟨A1, c1, rfl, hO1, hB1⟩
 have hB01 := hB0.trans (hB1.mono (by omega))
 have hr1 := rest_any P P' A A' c c' a b w1 (h.below hB01 hP) (h'.below hB01 hP') (fun b hb => by have := hP b hb; have := hB01.size; omega) (fun b hb => by have := hP' b hb; have := hB01.size; omega) (by omega) (by omega) (by omega)
 rw [hX, hM] at hr1
 have Hr1 := Lib.hid hr1
 clear hr1
 go_wp2_with fail
 refine Hr1.out.mono ?_
 rintro e w2 ⟨A2, c2, rfl, hO2, hB2⟩
 have hB02 := hB01.trans (hB2.mono hB01.size)
 have hof := Lib.hid (of_any 1 w2 (by omega))
 go_wp2_with fail
 refine hof.out.mono ?_
 rintro e w3 ⟨A3, c3, rfl, hO3, hB3⟩
 have hB03 := hB02.trans (hB3.mono hB02.size)
 have hz1 := hB01.size
 have hz2 := hB02.size
 have hz3 := hB03.size
 have zA : OB w3 w.heap.size A1 c1 (digs 18446744073709551616 M) := ((hO1.below hB2 (Nat.le_refl _)).below hB3 (Nat.le_refl _)).mono (by omega)
 have zB : OB w3 w.heap.size A2 c2 (digs 18446744073709551616 (X % M)) := (hO2.below hB3 (Nat.le_refl _)).mono (by omega)
 have zC : OB w3 w.heap.size A3 c3 (digs 18446744073709551616 1) := hO3.mono (by omega)
 have hXm := Nat.mod_lt X (show 0 < M by omega)
 clear hO1 hO2 hO3 hB0 hB1 hB2 hB3 hB01 hB02 Hn1 Hr1 hof h
 go_wp2_with fail
 go_loopw [6, 7, 8, 9] (fun rv sv tv uv wr => ∃ (A1 A2 A3 A4 : Option Addr) (c1 c2 c3 c4 r s t u : Nat), rv = .slice A1 (digs 18446744073709551616 r).length c1 ∧ sv = .slice A2 (digs 18446744073709551616 s).length c2 ∧ tv = .slice A3 (digs 18446744073709551616 t).length c3 ∧ uv = .slice A4 (digs 18446744073709551616 u).length c4 ∧
  OB wr w.heap.size A1 c1 (digs 18446744073709551616 r) ∧ OB wr w.heap.size A2 c2 (digs 18446744073709551616 s) ∧ OB wr w.heap.size A3 c3 (digs 18446744073709551616 t) ∧ OB wr w.heap.size A4 c4 (digs 18446744073709551616 u) ∧ r ≤ M ∧ s ≤ M ∧ t ≤ M ∧ u ≤ M ∧ Hid (invLoop M r s t u = invLoop M M (X % M) 0 1) ∧ Below w.heap.size w wr)
  (fun _ sv _ _ wr => readLimbs wr sv)
 case atStart => exact ⟨A1, A2, none, A3, c1, c2, 0, c3, M, X % M, 0, 1, rfl, rfl, by rw [digs_zero]; rfl, rfl, zA, zB, by rw [digs_zero]; exact OB.nil_ _ _, zC, by omega, by omega, by omega, by omega, Lib.hid rfl, hB03⟩
 case round =>
  clear zA zB zC hB03 hXm
  obtain ⟨A1, A2, A3, A4, c1, c2, c3, c4, r, s, t, u, rfl, rfl, rfl, rfl, zA, zB, zC, zD, hr, hs, ht, hu, hI, hB⟩ := hrel
  have zw := hB.size
  by_cases h0 : s = 0
  · subst h0
    have hI' := hI.out
    rw [invLoop_zero] at hI'
    have hbr := Lib.hid (bits_any _ A1 c1 _ wr zA.rn)
    rw [val_digs (by omega)] at hbr
    rw [digs_zero] at *
    have hlr : (r : Nat) = 1 ↔ nbits r = 1 := by
     constructor
     · rintro rfl; decide
     · intro h
       have h1 := lt_of_nbits (x := r) (k := 1) (by omega)
       rcases Nat.eq_zero_or_pos r with h2 | h2
       · subst h2; rw [nbits_zero] at h; omega
       · omega
    by_cases h1 : r = 1
    · have hn1 : nbits r = 1 := hlr.1 h1
      have hans : invAns X M = (digs 18446744073709551616 t, true) := by rw [invAns, ← hI', if_pos h1]
      rw [hn1] at hbr
      have Hans := Lib.hid hans
      clear hans hI hI' hlr h1 hn1
      go_wp2_with fail
      refine hbr.out.mono ?_
      rintro e w' ⟨rfl, rfl⟩
      go_wp2
      go_ret2
      exact ⟨A3, c3, by rw [Hans.out]; rfl, by rw [Hans.out]; exact zC, hB⟩
    · have hn1 : ((nbits r : Nat) : Int) ≠ 1 := fun e => h1 (hlr.2 (by omega))
      have hans : invAns X M = ([], false) := by rw [invAns, ← hI', if_neg h1]
      have t2 : (((nbits r : Nat) : Int) != 1) = true := by simpa using hn1
      have Hans := Lib.hid hans
      clear hans hI hI' hlr h1 hn1
      go_wp2_with fail
      refine hbr.out.mono ?_
      rintro e w' ⟨rfl, rfl⟩
      go_wp2
      go_ret2
      exact ⟨none, 0, by rw [Hans.out]; rfl, by rw [Hans.out]; exact OB.nil_ _ _, hB⟩
  · have kp : (0 : Int) < ((digs 18446744073709551616 s).length : Int) := by
     have : 0 < (digs 18446744073709551616 s).length := by rw [digs_pos (by omega) (by omega)]; simp
     omega
    have zm := h'.below hB hP'
    have ltm : ∀ X : World, Below w.heap.size w X → ∀ b, P' b → b < X.heap.size := fun X hX b hb => by have := hP' b hb; have := hX.size; omega
    have vd := fun v => val_digs (B := 18446744073709551616) (by omega) v
    have hq1 := quo_any _ _ A1 A2 c1 c2 _ _ wr zA.rn zB.rn (fun b hb => hb.2) (fun b hb => hb.2) (by have := dig_len hr hlM; omega) (by have := dig_len hs hlM; omega) (by rw [vd]; omega)
    rw [vd, vd] at hq1
    have hqM : r / s ≤ M := Nat.le_trans (Nat.div_le_self _ _) hr
    have hlM2 : r % s ≤ M := Nat.le_trans (Nat.mod_le _ _) hr
    have Hq1 := Lib.hid hq1
    have hrd := zB.rn.read
    rw [vd] at hrd
    have Hrd := Lib.hid hrd
    have hmod := Nat.mod_lt r (show 0 < s by omega)
    have hstep := Lib.hid (show invLoop M s (r % s) u ((t + M - r / s * u % M) % M) = invLoop M M (X % M) 0 1 by rw [← hI.out, invLoop_step h0])
    clear hq1 hrd hI
    go_wp2_with fail
    refine Hq1.out.mono ?_
    rintro e w4 ⟨A5, c5, A6, c6, rfl, y5, y6, hB4⟩
    have s4 := hB4.size
    have zD4 := zD.below hB4 (Nat.le_refl _)
    have hm1 := mul_any _ _ A5 A4 c5 c4 _ _ w4 y5.rn zD4.rn (fun b hb => hb.2) (fun b hb => hb.2) (by have := dig_len hqM hlM; omega) (by have := dig_len hu hlM; omega)
    rw [vd, vd] at hm1
    have Hm1 := Lib.hid hm1
    clear hm1
    go_wp2_with fail
    refine Hm1.out.mono ?_
    rintro e w5 ⟨A7, c7, rfl, y7, hB5⟩
    have hB45 := hB4.trans (hB5.mono s4)
    have hBw5 := hB.trans (hB45.mono zw)
    have hr5 := rest_any _ P' A7 A' c7 c' _ b w5 y7.rn (h'.below hBw5 hP') (fun b hb => hb.2) (ltm w5 hBw5) (by have := dig_mul hqM hu hlM; omega) (by omega) (by omega)
    rw [vd, hM] at hr5
    have hlessM := Nat.mod_lt (r / s * u) (show 0 < M by omega)
    generalize r / s * u % M = less at *
    have Hr5 := Lib.hid hr5
    clear hr5
    go_wp2_with fail
    refine Hr5.out.mono ?_
    rintro e w6 ⟨A8, c8, rfl, y8, hB6⟩
    have hBw6 := hBw5.trans (hB6.mono (by have := hBw5.size; omega))
    have hB46 := hB45.trans (hB6.mono (by have := hB45.size; omega))
    have zC6 := zC.below hB46 (Nat.le_refl _)
    have ha6 := add_any _ P' A3 A' c3 c' _ b w6 zC6.rn (h'.below hBw6 hP') (fun b hb => hb.2) (ltm w6 hBw6) (by have := dig_len ht hlM; omega) (by omega)
    rw [vd, hM] at ha6
    have Ha6 := Lib.hid ha6
    clear ha6
    go_wp2_with fail
    refine Ha6.out.mono ?_
    rintro e w7 ⟨A9, c9, rfl, y9, hB7⟩
    have y8' := y8.below hB7 (Nat.le_refl _)
    have hs7 := sub_yes _ _ A9 A8 c9 c8 _ _ w7 y9.rn y8'.rn (fun b hb => hb.2) (fun b hb => hb.2) (by have := dig_add ht (Nat.le_refl M) hlM; omega) (by rw [vd, vd]; omega)
    rw [vd, vd] at hs7
    have hdif : t + M - less ≤ M + M := by omega
    have hlast := dig_add (Nat.le_refl M) (Nat.le_refl M) hlM
    have hld := dig_len hdif hlast
    generalize t + M - less = dif at *
    have Hs7 := Lib.hid hs7
    clear hs7
    have hBw7 := hBw6.trans (hB7.mono hBw6.size)
    go_wp2_with fail
    refine Hs7.out.mono ?_
    rintro e w8 ⟨A10, c10, rfl, y10, hB8⟩
    have hBw8 := hBw7.trans (hB8.mono hBw7.size)
    have hr8 := rest_any _ P' A10 A' c10 c' _ b w8 y10.rn (h'.below hBw8 hP') (fun b hb => hb.2) (ltm w8 hBw8) (by omega) (by omega) (by omega)
    rw [vd, hM] at hr8
    have hdm := Nat.mod_lt dif (show 0 < M by omega)
    have Hr8 := Lib.hid hr8
    clear hr8
    go_wp2_with fail
    refine Hr8.out.mono ?_
    rintro e w9 ⟨A11, c11, rfl, y11, hB9⟩
    have hB79 := hB8.trans (hB9.mono hB8.size)
    have hB49 : Below wr.heap.size wr w9 := (hB46.trans (hB7.mono hB46.size)).trans (hB79.mono (by have := hB46.size; have := hB7.size; omega))
    have hBw9 := hB.trans (hB49.mono zw)
    have f2 := (zB.below hB49 (Nat.le_refl _))
    have f6 : OB w9 w.heap.size A6 c6 (digs 18446744073709551616 (r % s)) := (y6.below (B := w4.heap.size) (((hB5.trans (hB6.mono hB5.size)).trans (hB7.mono (by have := hB5.size; have := hB6.size; omega))).trans (hB79.mono (by have := hB5.size; have := hB6.size; have := hB7.size; omega))) (Nat.le_refl _)).mono zw
    have f4 := (zD.below hB49 (Nat.le_refl _))
    have f11 := y11.mono (base' := w.heap.size) hBw8.size
    have hrd9 := f6.rn.read
    rw [vd] at hrd9
    have Hrd9 := Lib.hid hrd9
    clear hrd9
    go_wp2
    go_roundw
    case rel => exact ⟨A2, A6, A4, A11, c2, c6, c4, c11, s, r % s, u, dif % M, rfl, rfl, rfl, rfl, f2, f6, f4, f11, hs, hlM2, hu, by omega, hstep, hBw9⟩
    case measure => rw [Hrd.out, Hrd9.out]; exact hmod
end Go.Proofs.YtaemogcomplhiaaGreatDoor

namespace Go.Proofs.YtaemogcomplhiaaGreatDoor
open Go.RowKit

theorem RNN.three {w : World} {P P' P'' : Nat → Prop} {A A' A'' : Option Addr} {c c' c'' : Nat} {a b d : List Nat} (h : RN w P A c a) (h' : RN w P' A' c' b) (h'' : RN w P'' A'' c'' d) (hP : ∀ b, P b → b < w.heap.size) (hP' : ∀ b, P' b → b < w.heap.size) (hP'' : ∀ b, P'' b → b < w.heap.size) :
 RNN (w.alloc (.cells #[.slice A a.length c, .slice A' b.length c', .slice A'' d.length c''] 24)) (fun _ => True) (some ⟨w.heap.size, 0, none⟩) 3 [a, b, d] [.slice A a.length c, .slice A' b.length c', .slice A'' d.length c''] := by
 have hB : Below w.heap.size w (w.alloc (.cells #[.slice A a.length c, .slice A' b.length c', .slice A'' d.length c''] 24)) := (Below.refl _ w).alloc (Nat.le_refl _) _
 refine ⟨RS.fresh (w := w) (P := fun _ => True) #[.slice A a.length c, .slice A' b.length c', .slice A'' d.length c''] 24 1 3 rfl (by unfold maxLen; omega) trivial, by simp, fun j l hl => ?_⟩
 match j, hl with
 | 0, hl => simp at hl; subst hl; exact ⟨A, c, rfl, (h.below hB hP).mono fun _ _ => trivial⟩
 | 1, hl => simp at hl; subst hl; exact ⟨A', c', rfl, (h'.below hB hP').mono fun _ _ => trivial⟩
 | 2, hl => simp at hl; subst hl; exact ⟨A'', c'', rfl, (h''.below hB hP'').mono fun _ _ => trivial⟩
 | j + 3, hl => simp at hl
theorem all_two {a b : List Nat} {X Y : Nat} (hX : val 18446744073709551616 a = X) (hY : val 18446744073709551616 b = Y) :
 (([a, b] : List (List Nat)).all fun l => decide (nbits (val 18446744073709551616 l) ≤ 4096)) = (decide (nbits X ≤ 4096) && decide (nbits Y ≤ 4096)) := by simp [hX, hY]
theorem all_three {a b d : List Nat} {X Y Z : Nat} (hX : val 18446744073709551616 a = X) (hY : val 18446744073709551616 b = Y) (hZ : val 18446744073709551616 d = Z) :
 (([a, b, d] : List (List Nat)).all fun l => decide (nbits (val 18446744073709551616 l) ≤ 4096)) = (decide (nbits X ≤ 4096) && decide (nbits Y ≤ 4096) && decide (nbits Z ≤ 4096)) := by simp [hX, hY, hZ, Bool.and_assoc]
theorem dig64_mul {x y j k : Nat} (hx : (digs 18446744073709551616 x).length ≤ j) (hy : (digs 18446744073709551616 y).length ≤ k) : (digs 18446744073709551616 (x * y)).length ≤ j + k := by
 have h1 := lt_pow_digs (B := 18446744073709551616) (by omega) x
 have h2 := lt_pow_digs (B := 18446744073709551616) (by omega) y
 have h3 : 18446744073709551616 ^ (digs 18446744073709551616 x).length ≤ 18446744073709551616 ^ j := Nat.pow_le_pow_right (by omega) hx
 have h4 : 18446744073709551616 ^ (digs 18446744073709551616 y).length ≤ 18446744073709551616 ^ k := Nat.pow_le_pow_right (by omega) hy
 refine digs_length_of_lt (by omega) ?_
 rw [Nat.pow_add]
 exact Nat.mul_lt_mul'' (by omega) (by omega)
theorem nbits_pos {M : Nat} (h : 0 < M) : 0 < nbits M := by
 rcases Nat.eq_zero_or_pos (nbits M) with h0 | h0
 · have := lt_of_nbits (x := M) (k := 0) (by omega); omega
 · exact h0

set_option maxRecDepth 100000 in
set_option maxHeartbeats 1000000 in
theorem mod_any (A A' : Option Addr) (c c' : Nat) (a b : List Nat) (X M : Nat) (w : World) (h : RU w A c a) (h' : RU w A' c' b) (hX : val 18446744073709551616 a = X) (hM : val 18446744073709551616 b = M) (hla : a.length < 90000) (hlb : b.length < 90000) :
    Calls Tryz.prog 88 #[.slice A a.length c, .slice A' b.length c'] w fun e w' => Below w.heap.size w w' ∧
      ((¬ (0 < M ∧ nbits X ≤ 4096 ∧ nbits M ≤ 4096) ∧ e = .returned (.tuple #[.slice none 0 0, .bool false])) ∨
       (0 < M ∧ nbits X ≤ 4096 ∧ nbits M ≤ 4096 ∧ ∃ A1 c1, e = .returned (.tuple #[.slice A1 (digs 18446744073709551616 (X % M)).length c1, .bool true]) ∧ OB w' w.heap.size A1 c1 (digs 18446744073709551616 (X % M)))) := by
  have hb := bits_any _ A' c' b w h'
  rw [hM] at hb
  rcases Nat.eq_zero_or_pos M with h0 | h0
  · have hn : nbits M = 0 := by rw [h0]; exact nbits_zero
    rw [hn] at hb
    have Hb := Lib.hid hb
    have Hno := Lib.hid (show ¬ (0 < M ∧ nbits X ≤ 4096 ∧ nbits M ≤ 4096) by omega)
    clear hb hn h0
    go_enter Tryz.func88, Tryz.ntmps88
    go_wp2_with fail
    refine Hb.out.mono ?_
    rintro e w' ⟨rfl, rfl⟩
    go_wp2
    go_ret2
    exact ⟨Below.refl _ _, .inl ⟨Hno.out, rfl⟩⟩
  · have hnp := nbits_pos h0
    have hng : ((nbits M : Int) == 0) = false := eqB (by omega)
    have hmy := may_any _ _ _ _ _ _ (RNN.two h h' lt_self lt_self)
    rw [all_two hX hM] at hmy
    simp only [List.length_cons, List.length_nil, Nat.zero_add, Nat.reduceAdd] at hmy
    have hB0 : Below w.heap.size w (w.alloc (.cells #[.slice A a.length c, .slice A' b.length c'] 24)) := (Below.refl _ w).alloc (Nat.le_refl _) _
    obtain ⟨ok, hok⟩ : ∃ ok, (decide (nbits X ≤ 4096) && decide (nbits M ≤ 4096)) = ok := ⟨_, rfl⟩
    rw [hok] at hmy
    have Hb := Lib.hid hb
    have Hmy := Lib.hid hmy
    have Hok := Lib.hid hok
    have H0 := Lib.hid h0
    clear hb hmy hok hnp
    cases ok
    · have Hno := Lib.hid (show ¬ (0 < M ∧ nbits X ≤ 4096 ∧ nbits M ≤ 4096) from fun h => by have := Hok.out; simp [h.2.1, h.2.2] at this)
      clear Hok
      go_enter Tryz.func88, Tryz.ntmps88
      go_wp2_with fail
      refine Hb.out.mono ?_
      rintro e w' ⟨rfl, rfl⟩
      go_wp2_with fail
      refine Hmy.out.mono ?_
      rintro e w' ⟨rfl, rfl⟩
      go_wp2
      go_ret2
      exact ⟨hB0, .inl ⟨Hno.out, rfl⟩⟩
    · have hyes : nbits X ≤ 4096 ∧ nbits M ≤ 4096 := by have := Hok.out; simpa using this
      have Hyes := Lib.hid hyes
      clear Hok hyes
      have hz0 : (w.alloc (.cells #[.slice A a.length c, .slice A' b.length c'] 24)).heap.size = w.heap.size + 1 := by simp
      have hr := rest_any _ _ A A' c c' a b (w.alloc (.cells #[.slice A a.length c, .slice A' b.length c'] 24)) (h.up hB0) (h'.up hB0) lt_self lt_self hla hlb (by rw [hM]; exact h0)
      rw [hX, hM, hz0] at hr
      have Hr := Lib.hid hr
      clear hr hng
      have hng : ((nbits M : Int) == 0) = false := eqB (by have := nbits_pos H0.out; omega)
      clear h0
      go_enter Tryz.func88, Tryz.ntmps88
      go_wp2_with fail
      refine Hb.out.mono ?_
      rintro e w' ⟨rfl, rfl⟩
      go_wp2_with fail
      refine Hmy.out.mono ?_
      rintro e w' ⟨rfl, rfl⟩
      go_wp2_with fail
      refine Hr.out.mono ?_
      rintro e w' ⟨A1, c1, rfl, hO, hB⟩
      go_wp2
      go_ret2
      exact ⟨hB0.trans (hB.mono (by omega)), .inr ⟨H0.out, Hyes.out.1, Hyes.out.2, A1, c1, rfl, hO.mono (by omega)⟩⟩

set_option maxRecDepth 100000 in
set_option maxHeartbeats 1000000 in
theorem mmod_any (A A' A'' : Option Addr) (c c' c'' : Nat) (a d b : List Nat) (X Y M : Nat) (w : World) (h : RU w A c a) (hd : RU w A'' c'' d) (h' : RU w A' c' b) (hX : val 18446744073709551616 a = X) (hY : val 18446744073709551616 d = Y) (hM : val 18446744073709551616 b = M) (hla : a.length < 40000) (hld : d.length < 40000) (hlb : b.length < 40000) :
    Calls Tryz.prog 87 #[.slice A a.length c, .slice A'' d.length c'', .slice A' b.length c'] w fun e w' => Below w.heap.size w w' ∧
      ((¬ (0 < M ∧ nbits X ≤ 4096 ∧ nbits Y ≤ 4096 ∧ nbits M ≤ 4096) ∧ e = .returned (.tuple #[.slice none 0 0, .bool false])) ∨
       (0 < M ∧ nbits X ≤ 4096 ∧ nbits Y ≤ 4096 ∧ nbits M ≤ 4096 ∧ ∃ A1 c1, e = .returned (.tuple #[.slice A1 (digs 18446744073709551616 (X * Y % M)).length c1, .bool true]) ∧ OB w' w.heap.size A1 c1 (digs 18446744073709551616 (X * Y % M)))) := by
  have hb := bits_any _ A' c' b w h'
  rw [hM] at hb
  rcases Nat.eq_zero_or_pos M with h0 | h0
  · have hn : nbits M = 0 := by rw [h0]; exact nbits_zero
    rw [hn] at hb
    have Hb := Lib.hid hb
    have Hno := Lib.hid (show ¬ (0 < M ∧ nbits X ≤ 4096 ∧ nbits Y ≤ 4096 ∧ nbits M ≤ 4096) by omega)
    clear hb hn h0
    go_enter Tryz.func87, Tryz.ntmps87
    go_wp2_with fail
    refine Hb.out.mono ?_
    rintro e w' ⟨rfl, rfl⟩
    go_wp2
    go_ret2
    exact ⟨Below.refl _ _, .inl ⟨Hno.out, rfl⟩⟩
  · have hmy := may_any _ _ _ _ _ _ (RNN.three h hd h' lt_self lt_self lt_self)
    rw [all_three hX hY hM] at hmy
    simp only [List.length_cons, List.length_nil, Nat.zero_add, Nat.reduceAdd] at hmy
    have hB0 : Below w.heap.size w (w.alloc (.cells #[.slice A a.length c, .slice A'' d.length c'', .slice A' b.length c'] 24)) := (Below.refl _ w).alloc (Nat.le_refl _) _
    obtain ⟨ok, hok⟩ : ∃ ok, (decide (nbits X ≤ 4096) && decide (nbits Y ≤ 4096) && decide (nbits M ≤ 4096)) = ok := ⟨_, rfl⟩
    rw [hok] at hmy
    have Hb := Lib.hid hb
    have Hmy := Lib.hid hmy
    have Hok := Lib.hid hok
    have H0 := Lib.hid h0
    clear hb hmy hok
    cases ok
    · have Hno := Lib.hid (show ¬ (0 < M ∧ nbits X ≤ 4096 ∧ nbits Y ≤ 4096 ∧ nbits M ≤ 4096) from fun h => by have := Hok.out; simp [h.2.1, h.2.2.1, h.2.2.2] at this)
      have hng : ((nbits M : Int) == 0) = false := eqB (by have := nbits_pos H0.out; omega)
      clear Hok h0
      go_enter Tryz.func87, Tryz.ntmps87
      go_wp2_with fail
      refine Hb.out.mono ?_
      rintro e w' ⟨rfl, rfl⟩
      go_wp2_with fail
      refine Hmy.out.mono ?_
      rintro e w' ⟨rfl, rfl⟩
      go_wp2
      go_ret2
      exact ⟨hB0, .inl ⟨Hno.out, rfl⟩⟩
    · have hyes : (nbits X ≤ 4096 ∧ nbits Y ≤ 4096) ∧ nbits M ≤ 4096 := by have := Hok.out; simpa using this
      have Hyes := Lib.hid hyes
      clear Hok hyes
      have hz0 : (w.alloc (.cells #[.slice A a.length c, .slice A'' d.length c'', .slice A' b.length c'] 24)).heap.size = w.heap.size + 1 := by simp
      have hm := mul_any _ _ A A'' c c'' a d _ (h.up hB0) (hd.up hB0) lt_self lt_self (by omega) (by omega)
      rw [hX, hY, hz0] at hm
      have Hm := Lib.hid hm
      have hlp : (digs 18446744073709551616 (X * Y)).length < 90000 := by
        have h1 := digs_length_le (B := 18446744073709551616) (by omega) h.2.1
        have h2 := digs_length_le (B := 18446744073709551616) (by omega) hd.2.1
        rw [hX] at h1
        rw [hY] at h2
        have h3 := dig64_mul (Nat.le_refl (digs 18446744073709551616 X).length) (Nat.le_refl (digs 18446744073709551616 Y).length)
        omega
      have hrest := fun (V : World) (hV : Below w.heap.size w V) A1 c1 (hO : RU V A1 c1 (digs 18446744073709551616 (X * Y))) => rest_any _ _ A1 A' c1 c' (digs 18446744073709551616 (X * Y)) b V hO (h'.up hV) lt_self lt_self hlp (by omega) (by rw [hM]; exact h0)
      simp only [hM, val_digs (show 2 ≤ 18446744073709551616 by omega)] at hrest
      have Hrest := Lib.hid hrest
      have hng : ((nbits M : Int) == 0) = false := eqB (by have := nbits_pos H0.out; omega)
      clear hm hrest h0 hlp
      go_enter Tryz.func87, Tryz.ntmps87
      go_wp2_with fail
      refine Hb.out.mono ?_
      rintro e w' ⟨rfl, rfl⟩
      go_wp2_with fail
      refine Hmy.out.mono ?_
      rintro e w' ⟨rfl, rfl⟩
      go_wp2_with fail
      refine Hm.out.mono ?_
      rintro e w1 ⟨A1, c1, rfl, hO1, hB1⟩
      have hB01 := hB0.trans (hB1.mono (by omega))
      have Hr := Lib.hid (Hrest.out w1 hB01 A1 c1 hO1.ru)
      go_wp2_with fail
      refine Hr.out.mono ?_
      rintro e w2 ⟨A2, c2, rfl, hO2, hB2⟩
      go_wp2
      go_ret2
      exact ⟨hB01.trans (hB2.mono hB01.size), .inr ⟨H0.out, Hyes.out.1.1, Hyes.out.1.2, Hyes.out.2, A2, c2, rfl, hO2.mono hB01.size⟩⟩
end Go.Proofs.YtaemogcomplhiaaGreatDoor

namespace Go.Proofs.YtaemogcomplhiaaGreatDoor.Ec
open Go.RowKit Go.Shelf
open Sha

attribute [local go_sem] Oper.semAt_some

abbrev ordC (C : Crv) : Nat := val 18446744073709551616 C.nl
theorem ord_c {c : Int} {C : Crv} (h : IsC c C) : 2 < ordC C ∧ 0 < nbits (ordC C - 1) ∧ nbits (ordC C - 1) ≤ 384 ∧ C.nl.length ≤ 6 ∧ nbits (ordC C) ≤ 384 ∧ ordC C < 256 ^ C.size := by
 rcases h with ⟨_, rfl⟩ | ⟨_, rfl⟩
 · have e1 : nbits (ordC c256 - 1) = 256 := nbits_eq (k := 255) (by decide +kernel) (by decide +kernel)
   have e2 : nbits (ordC c256) = 256 := nbits_eq (k := 255) (by decide +kernel) (by decide +kernel)
   exact ⟨by decide +kernel, by omega, by omega, by decide, by omega, by decide +kernel⟩
 · have e1 : nbits (ordC c384 - 1) = 384 := nbits_eq (k := 383) (by decide +kernel) (by decide +kernel)
   have e2 : nbits (ordC c384) = 384 := nbits_eq (k := 383) (by decide +kernel) (by decide +kernel)
   exact ⟨by decide +kernel, by omega, by omega, by decide, by omega, by decide +kernel⟩
def pickM (C : Crv) : Nat := (nbits (ordC C - 1) + 71) / 8
def pickN (C : Crv) (k v : List Nat) : Nat := numOf ((douts k v ((pickM C + 31) / 32)).take (pickM C)) % (ordC C - 1) + 1
def pickS (C : Crv) (k v : List Nat) : List Nat × List Nat := upd2 k (dvs k v ((pickM C + 31) / 32)) []
theorem pickN_may {c : Int} {C : Crv} (h : IsC c C) (k v : List Nat) : mayE C (pickN C k v) = true := by
 have h1 := (ord_c h).1
 have h2 : pickN C k v < ordC C := by
  unfold pickN
  have := Nat.mod_lt (numOf ((douts k v ((pickM C + 31) / 32)).take (pickM C))) (show ordC C - 1 > 0 by omega)
  omega
 unfold mayE
 rw [decide_eq_true (show 0 < pickN C k v by unfold pickN; omega), decide_eq_true h2]
 rfl
theorem digs_one : digs 18446744073709551616 1 = [1] := by rw [digs_pos (by omega) (by omega), show 1 / 18446744073709551616 = 0 from rfl, digs_zero]
theorem digs_nb {x k : Nat} (h : nbits x ≤ 64 * k) : (digs 18446744073709551616 x).length ≤ k := by
 by_cases h0 : x = 0
 · subst h0; rw [digs_zero]; simp
 · refine digs_length_of_lt (by omega) (Nat.lt_of_lt_of_le (nbits_bounds h0).2.1 ?_)
   rw [show (18446744073709551616 : Nat) = 2 ^ 64 from rfl, ← Nat.pow_mul]
   exact Nat.pow_le_pow_right (by omega) h
set_option maxRecDepth 100000 in
set_option maxHeartbeats 8000000 in
theorem pick_any {c : Int} {C : Crv} (hC : IsC c C) {b : Nat} {k v : List Nat} {num : Int} (w : World) (hk : KW w) (hd : DR w b k v num) (hn : 0 ≤ num) (hn2 : num < 1000000000) :
 Calls Tryz.prog 31 #[.int .i64 c, .pointer (some ⟨b, 0, none⟩)] w fun e w' => ∃ A c, e = .returned (.slice A (digs 18446744073709551616 (pickN C k v)).length c) ∧ OB w' w.heap.size A c (digs 18446744073709551616 (pickN C k v)) ∧ DR w' b (pickS C k v).1 (pickS C k v).2 (num + 1) ∧ Fr b w.heap.size w w' := by
 obtain ⟨n1, n2, n3, n4, n5, n6⟩ := ord_c hC
 have hbl := hd.lt
 have HO := Lib.hid (order_c hC w)
 have HK := Lib.hid hk
 have HD := Lib.hid hd
 have HL := Lib.hid n4
 have HN := Lib.hid (And.intro n1 (And.intro n2 n3))
 have HB := Lib.hid hbl
 have Hn := Lib.hid (And.intro hn hn2)
 clear hk hd n1 n2 n3 n4 n5 n6 hbl hn hn2 hC
 go_enter Tryz.func31, Tryz.ntmps31
 go_wp2_with fail
 refine HO.out.mono ?_
 rintro e w1 ⟨A1, c1, rfl, r1, E1⟩
 have R1 := Lib.hid r1
 have HE1 := Lib.hid E1
 have H2 := Lib.hid (of_any 1 w1 (by omega))
 clear r1 E1 HO
 go_wp2_with fail
 refine H2.out.mono ?_
 rintro e w2 ⟨A2, c2, rfl, o2, B2⟩
 have h3 := sub_yes _ _ A1 A2 c1 c2 C.nl (digs 18446744073709551616 1) w2 (RN.up R1.out B2) o2.ru (fun _ h => h) (fun _ h => h) (by have := HL.out; omega) (by rw [val_digs (by omega)]; exact Nat.le_trans (by decide : 1 ≤ 3) HN.out.1)
 rw [val_digs (by omega)] at h3
 have H3 := Lib.hid h3
 have HE2 := Lib.hid (Ext.trans HE1.out B2)
 clear h3 o2 B2 H2 HE1 R1
 go_wp2_with fail
 refine H3.out.mono ?_
 rintro e w3 ⟨A3, c3, rfl, o3, B3⟩
 have HE3 := Lib.hid (Ext.trans HE2.out B3)
 have h4 := dbelow_any (q := nbits (ordC C - 1)) (a := digs 18446744073709551616 (ordC C - 1)) w3 (HK.out.ext HE3.out) (HD.out.ext HE3.out) o3.rn (fun _ h => h.2) (fun h => by have := h.1; have := HE2.out.bsize; have := HB.out; omega) (by have := digs_nb (x := ordC C - 1) (k := 6) HN.out.2.2; omega) (by rw [val_digs (by omega)]) HN.out.2.1 (by have := HN.out.2.2; omega) (by rw [val_digs (by omega)]; have := HN.out.1; omega) Hn.out.1 Hn.out.2
 have H4 := Lib.hid h4
 clear o3 B3 h4 H3 HE2
 go_wp2_with fail
 refine H4.out.mono ?_
 rintro e w4 ⟨A4, c4, r, m, hm, hr, rfl, o4, d4, f4⟩
 rw [val_digs (by omega)] at hr
 have hrl : (digs 18446744073709551616 r).length ≤ 6 := Nat.le_trans (digs_length_mono (by omega) (Nat.le_of_lt (by rw [hr]; exact Nat.mod_lt _ (by have := HN.out.1; omega)))) (digs_nb (x := ordC C - 1) (k := 6) HN.out.2.2)
 have HRL := Lib.hid hrl
 have hpm : m = pickM C := hm
 subst hpm
 have hr' : r + 1 = pickN C k v := by rw [hr]; rfl
 have HR := Lib.hid hr'
 have HD4 := Lib.hid d4
 have HF4 := Lib.hid ((Fr.below (b := b) HE3.out (Nat.le_refl _)).trans (f4.mono HE3.out.bsize))
 have O4 := Lib.hid o4
 have H5 := Lib.hid (of_any 1 w4 (by omega))
 clear hm hr hr' hrl d4 f4 o4 H4
 go_wp2_with fail
 refine H5.out.mono ?_
 rintro e w5 ⟨A5, c5, rfl, o5, B5⟩
 have h6 := add_any _ _ A4 A5 c4 c5 (digs 18446744073709551616 r) (digs 18446744073709551616 1) w5 (RN.up O4.out.ru B5) o5.ru (fun _ h => h) (fun _ h => h) (by have := HRL.out; omega) (by rw [digs_one]; simp)
 rw [val_digs (by omega), val_digs (by omega), HR.out] at h6
 have H6 := Lib.hid h6
 have HD5 := Lib.hid (HD4.out.ext B5)
 have HF5 := Lib.hid (HF4.out.trans (Fr.below (b := b) B5 HF4.out.size))
 clear o5 B5 h6 H5 HD4 HF4
 go_wp2_with fail
 refine H6.out.mono ?_
 rintro e w6 ⟨A6, c6, rfl, o6, B6⟩
 have HD6 := Lib.hid (HD5.out.ext B6)
 have HF6 := Lib.hid (HF5.out.trans (Fr.below (b := b) B6 HF5.out.size))
 have O6 := Lib.hid o6
 clear o6 B6 H6
 go_wp2
 go_ret
 exact ⟨A6, c6, rfl, O6.out.mono HF5.out.size, HD6.out, HF6.out⟩
set_option maxRecDepth 100000 in
set_option maxHeartbeats 4000000 in
theorem times_any {c : Int} {C : Crv} (hC : IsC c C) {A B : Option Addr} {ca cb x y : Nat} (w : World) (ha : RU w A ca (digs 18446744073709551616 x)) (hb : RU w B cb (digs 18446744073709551616 y)) (hx : nbits x ≤ 4000) (hy : nbits y ≤ 4000) :
 Calls Tryz.prog 55 #[.int .i64 c, .slice A (digs 18446744073709551616 x).length ca, .slice B (digs 18446744073709551616 y).length cb] w fun e w' => ∃ A c, e = .returned (.slice A (digs 18446744073709551616 (x * y % ordC C)).length c) ∧ RU w' A c (digs 18446744073709551616 (x * y % ordC C)) ∧ Ext w w' := by
 obtain ⟨n1, n2, n3, n4, n5, n6⟩ := ord_c hC
 have HO := Lib.hid (order_c hC w)
 have HA := Lib.hid ha
 have HB := Lib.hid hb
 have HN := Lib.hid (And.intro n1 (And.intro n4 n5))
 have HX := Lib.hid (And.intro hx hy)
 have HL := Lib.hid (And.intro (show (digs 18446744073709551616 x).length < 40000 by have := digs_nb (x := x) (k := 63) (by omega); omega) (show (digs 18446744073709551616 y).length < 40000 by have := digs_nb (x := y) (k := 63) (by omega); omega))
 clear ha hb n1 n2 n3 n4 n5 n6 hx hy hC
 go_enter Tryz.func55, Tryz.ntmps55
 go_wp2_with fail
 refine HO.out.mono ?_
 rintro e w1 ⟨A1, c1, rfl, r1, E1⟩
 have H2 := Lib.hid (mmod_any A A1 B ca c1 cb _ _ C.nl x y (ordC C) w1 (RN.up HA.out E1) (RN.up HB.out E1) r1 (val_digs (by omega) x) (val_digs (by omega) y) rfl HL.out.1 HL.out.2 (by have := HN.out.2.1; omega))
 have HE1 := Lib.hid E1
 clear r1 E1 HO
 go_wp2_with fail
 refine H2.out.mono ?_
 rintro e w2 ⟨B2, ⟨h0, _⟩ | ⟨_, _, _, _, A2, c2, rfl, o2⟩⟩
 · exact absurd ⟨by have := HN.out.1; omega, by have := HX.out.1; omega, by have := HX.out.2; omega, by have := HN.out.2.2; omega⟩ h0
 have O2 := Lib.hid o2
 have HE2 := Lib.hid (Ext.trans HE1.out B2)
 clear o2 B2 H2
 go_wp2
 go_ret
 exact ⟨A2, c2, rfl, O2.out.ru, HE2.out⟩
end Go.Proofs.YtaemogcomplhiaaGreatDoor.Ec

namespace Go.Proofs.YtaemogcomplhiaaGreatDoor.Ec
open Go.RowKit Go.Shelf
open Sha

attribute [local go_sem] Oper.semAt_some

set_option maxRecDepth 100000 in
set_option maxHeartbeats 4000000 in
theorem number_short {c : Int} {C : Crv} (hC : IsC c C) {P : Nat → Prop} {ad : Addr} {cap n : Nat} {bs : List Nat} (w : World) (h : RB w P (some ad) cap bs) (hP : ∀ b, P b → b < w.heap.size) (hn : bs.length = n) (hl : n ≤ C.size) (h0 : 0 < n) :
 Calls Tryz.prog 56 #[.int .i64 c, .slice (some ad) n cap] w fun e w' => ∃ A c, e = .returned (.slice A (digs 18446744073709551616 (numOf bs)).length c) ∧ OB w' w.heap.size A c (digs 18446744073709551616 (numOf bs)) ∧ Ext w w' := by
 obtain ⟨l1, l2, l3⟩ := h.cap
 rw [hn] at l1 l3
 have hs := hC.fine.small
 obtain ⟨s, hs'⟩ : ∃ s, C.size = s := ⟨_, rfl⟩
 have HS := Lib.hid (size_c hC w)
 rw [hs'] at HS hl hs
 have HB := Lib.hid h
 have HP := Lib.hid hP
 have HN := Lib.hid hn
 have hmin : min (n : Int) (s : Int) = n := by omega
 have hlt : ¬ (s : Int) < n := by omega
 have hle : (n : Int) ≤ (s : Int) := by omega
 have hcap : (n : Int) ≤ cap := by omega
 have hn0 : (0 : Int) ≤ n := by omega
 have Hs := Lib.hid hs
 have Hl := Lib.hid hl
 clear h hP hn hs hs' l2 l3 hl hC
 go_enter Tryz.func56, Tryz.ntmps56
 go_wp2_with fail
 refine HS.out.mono ?_
 rintro e w1 ⟨rfl, E1⟩
 have hf := fromBytes_any P (some ad) cap bs w1 (HB.out.below E1 HP.out) (fun b hb => Nat.lt_of_lt_of_le (HP.out b hb) E1.bsize) (by rw [HN.out]; have := Hs.out; have := Hl.out; omega)
 rw [HN.out] at hf
 have HF := Lib.hid hf
 have HE1 := Lib.hid E1
 clear hf E1 HS
 go_wp2_with fail
 refine HF.out.mono ?_
 rintro e w2 ⟨A2, c2, rfl, o2, B2⟩
 have O2 := Lib.hid o2
 have HE2 := Lib.hid (Ext.trans HE1.out B2)
 clear o2 B2 HF
 go_wp2
 go_ret
 exact ⟨A2, c2, rfl, O2.out.mono HE1.out.bsize, HE2.out⟩
set_option maxRecDepth 100000 in
set_option maxHeartbeats 4000000 in
theorem einv_any {c : Int} {C : Crv} (hC : IsC c C) {A : Option Addr} {ca x y : Nat} (w : World) (ha : RU w A ca (digs 18446744073709551616 x)) (hx : nbits x ≤ 4000) (hy : invAns x (ordC C) = (digs 18446744073709551616 y, true)) :
 Calls Tryz.prog 54 #[.int .i64 c, .slice A (digs 18446744073709551616 x).length ca] w fun e w' => ∃ A c, e = .returned (.slice A (digs 18446744073709551616 y).length c) ∧ RU w' A c (digs 18446744073709551616 y) ∧ Ext w w' := by
 obtain ⟨n1, n2, n3, n4, n5, n6⟩ := ord_c hC
 have HO := Lib.hid (order_c hC w)
 have HA := Lib.hid ha
 have HN := Lib.hid (And.intro n1 (And.intro n4 n5))
 have HX := Lib.hid hx
 have HY := Lib.hid hy
 have HL := Lib.hid (show (digs 18446744073709551616 x).length < 40000 by have := digs_nb (x := x) (k := 63) (by omega); omega)
 clear ha n1 n2 n3 n4 n5 n6 hx hC hy
 go_enter Tryz.func54, Tryz.ntmps54
 go_wp2_with fail
 refine HO.out.mono ?_
 rintro e w1 ⟨A1, c1, rfl, r1, E1⟩
 have h2 := inverse_yes _ _ A A1 ca c1 _ C.nl x (ordC C) w1 (RN.up HA.out E1) r1 (fun _ h => h) (fun _ h => h) (val_digs (by omega) x) rfl (by have := HN.out.1; omega) HL.out (by have := HN.out.2.1; omega) ⟨by have := HX.out; omega, by have := HN.out.2.2; omega⟩
 rw [HY.out] at h2
 have H2 := Lib.hid h2
 have HE1 := Lib.hid E1
 clear r1 E1 HO h2
 go_wp2_with fail
 refine H2.out.mono ?_
 rintro e w2 ⟨A2, c2, rfl, o2, B2⟩
 have O2 := Lib.hid o2
 have HE2 := Lib.hid (Ext.trans HE1.out B2)
 clear o2 B2 H2
 go_wp2
 go_ret
 exact ⟨A2, c2, rfl, O2.out.ru, HE2.out⟩
end Go.Proofs.YtaemogcomplhiaaGreatDoor.Ec

namespace Go.Proofs.YtaemogcomplhiaaGreatDoor.Ec
open Go.RowKit Go.Shelf

theorem times_l {c : Int} {C : Crv} (hC : IsC c C) {A B : Option Addr} {ca cb x y z lx ly : Nat} (w : World) (ha : RU w A ca (digs 18446744073709551616 x)) (hb : RU w B cb (digs 18446744073709551616 y)) (hx : nbits x ≤ 4000) (hy : nbits y ≤ 4000) (hz : x * y % ordC C = z) (hlx : (digs 18446744073709551616 x).length = lx) (hly : (digs 18446744073709551616 y).length = ly) :
 Calls Tryz.prog 55 #[.int .i64 c, .slice A lx ca, .slice B ly cb] w fun e w' => ∃ A c, e = .returned (.slice A (digs 18446744073709551616 z).length c) ∧ RU w' A c (digs 18446744073709551616 z) ∧ Ext w w' := by
 subst hz hlx hly
 exact times_any hC w ha hb hx hy
theorem add_l {A B : Option Addr} {ca cb x y z lx ly : Nat} (w : World) (ha : RU w A ca (digs 18446744073709551616 x)) (hb : RU w B cb (digs 18446744073709551616 y)) (hx : nbits x ≤ 4000) (hy : nbits y ≤ 4000) (hz : x + y = z) (hlx : (digs 18446744073709551616 x).length = lx) (hly : (digs 18446744073709551616 y).length = ly) :
 Calls Tryz.prog 63 #[.slice A lx ca, .slice B ly cb] w fun e w' => ∃ A c, e = .returned (.slice A (digs 18446744073709551616 z).length c) ∧ RU w' A c (digs 18446744073709551616 z) ∧ Ext w w' := by
 subst hz hlx hly
 have h1 := digs_nb (x := x) (k := 63) (by omega)
 have h2 := digs_nb (x := y) (k := 63) (by omega)
 have h := add_any _ _ A B ca cb (digs 18446744073709551616 x) (digs 18446744073709551616 y) w ha hb (fun _ h => h) (fun _ h => h) (by omega) (by omega)
 rw [val_digs (by omega), val_digs (by omega)] at h
 refine h.mono ?_
 rintro e w' ⟨A', c', rfl, o, B'⟩
 exact ⟨A', c', rfl, o.ru, B'⟩
theorem einv_l {c : Int} {C : Crv} (hC : IsC c C) {A : Option Addr} {ca x y lx : Nat} (w : World) (ha : RU w A ca (digs 18446744073709551616 x)) (hx : nbits x ≤ 4000) (hy : invAns x (ordC C) = (digs 18446744073709551616 y, true)) (hlx : (digs 18446744073709551616 x).length = lx) :
 Calls Tryz.prog 54 #[.int .i64 c, .slice A lx ca] w fun e w' => ∃ A c, e = .returned (.slice A (digs 18446744073709551616 y).length c) ∧ RU w' A c (digs 18446744073709551616 y) ∧ Ext w w' := by
 subst hlx
 exact einv_any hC w ha hx hy
theorem bytes_l {A : Option Addr} {ca x n lx : Nat} (w : World) (ha : RU w A ca (digs 18446744073709551616 x)) (hn : n ≤ 65536) (hx : nbits x ≤ 8 * n) (hlx : (digs 18446744073709551616 x).length = lx) :
 Calls Tryz.prog 60 #[.slice A lx ca, .int .i64 (n : Int)] w fun e w' => ∃ A1, e = .returned (.tuple #[.slice A1 n n, .bool true]) ∧ RB w' (fun q => q < w'.heap.size) A1 n (bytesOf x n) ∧ Ext w w' := by
 subst hlx
 have h := bytes_yes _ A ca (digs 18446744073709551616 x) n w ha (fun _ h => h) hn (by rw [val_digs (by omega)]; exact hx)
 rw [val_digs (by omega)] at h
 refine h.mono ?_
 rintro e w' ⟨A1, rfl, r, B⟩
 exact ⟨A1, rfl, r.mono fun q hq => hq.2, B⟩
theorem bits_l {A : Option Addr} {ca x lx : Nat} (w : World) (ha : RU w A ca (digs 18446744073709551616 x)) (hlx : (digs 18446744073709551616 x).length = lx) :
 Calls Tryz.prog 62 #[.slice A lx ca] w fun e w' => e = .returned (.int .i64 (nbits x : Int)) ∧ w = w' := by
 subst hlx
 have h := bits_any _ A ca _ w ha
 rw [val_digs (by omega)] at h
 exact h
end Go.Proofs.YtaemogcomplhiaaGreatDoor.Ec

namespace Go.Proofs.YtaemogcomplhiaaGreatDoor.Ec
open Go.RowKit Go.Shelf

attribute [local go_sem] Oper.semAt_some

set_option maxRecDepth 100000 in
set_option maxHeartbeats 4000000 in
theorem first_any {c : Int} {C : Crv} (hC : IsC c C) {A B : Option Addr} {ca cb x y lx ly : Nat} (bi : Bool) (w : World) (ha : RU w A ca (digs 18446744073709551616 x)) (hx : nbits x ≤ 4000) (hy : x % ordC C = y) (hlx : (digs 18446744073709551616 x).length = lx) :
 Calls Tryz.prog 59 #[.int .i64 c, .agg #[.bool bi, .slice A lx ca, .slice B ly cb]] w fun e w' => ∃ A c, e = .returned (.slice A (digs 18446744073709551616 y).length c) ∧ RU w' A c (digs 18446744073709551616 y) ∧ Ext w w' := by
 subst hlx
 obtain ⟨n1, n2, n3, n4, n5, n6⟩ := ord_c hC
 obtain ⟨W0, hW0⟩ : ∃ W0, W0 = w.alloc (.cells #[.bool bi, .slice A (digs 18446744073709551616 x).length ca, .slice B ly cb] 33) := ⟨_, rfl⟩
 obtain ⟨s, hs⟩ : ∃ s, w.heap.size = s := ⟨_, rfl⟩
 have hq0 := heap_alloc_new w (.cells #[.bool bi, .slice A (digs 18446744073709551616 x).length ca, .slice B ly cb] 33)
 have hE : Ext w W0 := by rw [hW0]; exact Ext.alloc _ _
 rw [← hW0, hs] at hq0
 have HO := Lib.hid (fun W => order_c hC W)
 have hl : (digs 18446744073709551616 x).length < 40000 := by have := digs_nb (x := x) (k := 63) (by omega); omega
 have HM := Lib.hid (fun X (hX : Ext W0 X) A3 c3 (r3 : RU X A3 c3 C.nl) => show Calls Tryz.prog 88 #[.slice A (digs 18446744073709551616 x).length ca, .slice A3 C.nl.length c3] X fun e w' => ∃ A c, e = .returned (.tuple #[.slice A (digs 18446744073709551616 y).length c, .bool true]) ∧ RU w' A c (digs 18446744073709551616 y) ∧ Ext X w' from by
  refine (mod_any A A3 ca c3 _ C.nl x (ordC C) X (RN.up ha (hE.trans hX)) r3 (val_digs (by omega) x) rfl (by omega) (by omega)).mono ?_
  rintro e w' ⟨hB, ⟨h0, _⟩ | ⟨_, _, _, A2, c2, rfl, o2⟩⟩
  · exact absurd ⟨by omega, by omega, by omega⟩ h0
  · rw [hy] at o2 ⊢
    exact ⟨A2, c2, rfl, o2.ru, hB⟩)
 obtain ⟨lx, hlx⟩ : ∃ l, (digs 18446744073709551616 x).length = l := ⟨_, rfl⟩
 rw [hlx] at HM hq0 hW0 ⊢
 have HE := Lib.hid hE
 have Hs := Lib.hid hs
 obtain ⟨y0, y1, y2, f0, f1, f2⟩ := pt_facts hq0
 clear ha hq0 hE hs n1 n2 n3 n4 n5 n6 hx hy hl hlx hC
 go_enter Tryz.func59, Tryz.ntmps59
 go_upto_region 1 with fail
 rw [← hW0, Hs.out]
 clear hW0
 refine Par.region_ext (by kernel_rfl) 10 [0, 1, 0, 4, 15, 31, 63, 63, 127, 511] [] (fun j f X => match j with
  | 0 => f 0 = .pointer (some ⟨s, 1, none⟩)
  | 1 => f 1 = .slice A lx ca
  | 2 => f 2 = .int .i64 c
  | 3 => ∃ A c, f 3 = .slice A C.nl.length c ∧ RU X A c C.nl
  | 4 => ∃ A c, f 4 = .tuple #[.slice A (digs 18446744073709551616 y).length c, .bool true] ∧ RU X A c (digs 18446744073709551616 y)
  | 5 => ∃ A c, f 5 = .tuple #[.slice A (digs 18446744073709551616 y).length c, .bool true] ∧ RU X A c (digs 18446744073709551616 y)
  | 6 => ∃ A c, f 6 = .slice A (digs 18446744073709551616 y).length c ∧ RU X A c (digs 18446744073709551616 y)
  | 7 => f 7 = .bool true
  | 8 => ∃ A c, f 8 = .slice A (digs 18446744073709551616 y).length c ∧ RU X A c (digs 18446744073709551616 y)
  | 9 => f 9 = .bool true
  | _ => True) (by kernel_rfl) [(8, 0), (9, 1), (10, 2), (11, 3), (12, 4), (7, 5), (13, 6), (14, 7), (5, 8), (6, 9)] (by kernel_rfl) ?_
 refine Par.v0 1 9 ?_
 refine Par.ld1 2 8 0 y1 ?_
 refine Par.v0 3 7 ?_
 refine Par.c0 4 6 (fun f => #[f 2]) (F' := 66) (fun f X hX hR => ?_) ?_
 · have e2 : f 2 = _ := hR.out 2 rfl
   simp only [e2]
   refine (HO.out X).mono ?_
   rintro e w2 ⟨A, c, rfl, h, hB⟩
   exact ⟨(.slice A C.nl.length c), rfl, hB, fun Y hY => ⟨A, c, rfl, RN.up h hY⟩⟩
 refine Par.c0 5 5 (fun f => #[f 1, f 3]) (F' := 88) (fun f X hX hR => ?_) ?_
 · have e1 : f 1 = _ := hR.out 1 rfl
   obtain ⟨A3, c3, (e3 : f 3 = _), r3⟩ := hR.out 3 rfl
   simp only [e1, e3]
   refine (HM.out X hX A3 c3 r3).mono ?_
   rintro e w2 ⟨A, c, rfl, h, hB⟩
   exact ⟨(.tuple #[.slice A (digs 18446744073709551616 y).length c, .bool true]), rfl, hB, fun Y hY => ⟨A, c, rfl, RN.up h hY⟩⟩
 refine Par.S 6 4 [(8, 0), (9, 1), (10, 2), (11, 3), (12, 4)] (fun f X hX hR K hK => ?_) ?_
 · obtain ⟨A4, c4, (e4 : f 4 = _), r4⟩ := hR.out 4 rfl
   simp only [yA, yB, yC, yD, yE, e4]
   refine ⟨?_⟩
   go_simp
   exact hK.out _ _ _ (by simp only [yA, yB, yC, yD, yE, e4]) (Ext.refl _) trivial (fun Y hY => ⟨A4, c4, rfl, RN.up r4 hY⟩)
 refine Par.S 7 3 [(8, 0), (9, 1), (10, 2), (11, 3), (12, 4), (7, 5), (14, 7)] (fun f X hX hR K hK => ?_) ?_
 · obtain ⟨A5, c5, (e5 : f 5 = _), r5⟩ := hR.out 5 rfl
   simp only [yA, yB, yC, yD, yE, e5]
   refine ⟨?_⟩
   go_simp
   exact hK.out _ _ _ (by simp only [yA, yB, yC, yD, yE, e5]) (Ext.refl _) trivial (fun Y hY => ⟨A5, c5, rfl, RN.up r5 hY⟩)
 refine Par.S 8 2 [(8, 0), (9, 1), (10, 2), (11, 3), (12, 4), (7, 5), (13, 6), (5, 8)] (fun f X hX hR K hK => ?_) ?_
 · obtain ⟨A5, c5, (e5 : f 5 = _), r5⟩ := hR.out 5 rfl
   simp only [yA, yB, yC, yD, yE, e5]
   refine ⟨?_⟩
   go_simp
   exact Par.k hK (s := by simp only [yA, yB, yC, yD, yE, e5])
 refine Par.S 9 1 [(8, 0), (9, 1), (10, 2), (11, 3), (12, 4), (7, 5), (13, 6), (14, 7)] (fun f X hX hR K hK => ?_) ?_
 · obtain ⟨A6, c6, (e6 : f 6 = _), r6⟩ := hR.out 6 rfl
   simp only [yA, yB, yC, yD, yE, e6]
   refine ⟨?_⟩
   go_simp
   exact hK.out _ _ _ (by simp only [yA, yB, yC, yD, yE, e6]) (Ext.refl _) trivial (fun Y hY => ⟨A6, c6, rfl, RN.up r6 hY⟩)
 refine Par.v1 10 0 7 ?_
 refine Par.AllOps.fin ⟨fun f X hX hR hal hap => ?_⟩
 obtain ⟨A3, c3, (e3 : f 3 = _), r3⟩ := hR 3 (by decide)
 obtain ⟨A4, c4, (e4 : f 4 = _), r4⟩ := hR 4 (by decide)
 obtain ⟨A5, c5, (e5 : f 5 = _), r5⟩ := hR 5 (by decide)
 obtain ⟨A6, c6, (e6 : f 6 = _), r6⟩ := hR 6 (by decide)
 obtain ⟨A8, c8, (e8 : f 8 = _), r8⟩ := hR 8 (by decide)
 simp only [yA, yB, yD, yE, e3, e4, e5, e6, e8]
 clear hR hal hap e3 e4 e5 e6 e8
 refine Par.Chain.done ?_
 have HE2 := Lib.hid (Ext.trans HE.out hX)
 clear hX y0 y1 y2 f0 f1 f2 r3 r4 r5 r6
 go_wp2
 go_ret
 exact ⟨A8, c8, rfl, r8, HE2.out⟩
end Go.Proofs.YtaemogcomplhiaaGreatDoor.Ec

namespace Go.Proofs.YtaemogcomplhiaaGreatDoor.Ec

def fz {α : Type} (n : Nat) (f : Nat → α) : α := match n with | 0 => f 0 | k + 1 => f (k + 1)
theorem fz_eq {α : Type} (n : Nat) (f : Nat → α) : fz n f = f n := by cases n <;> rfl
def f3 {α : Type} (s : Nat × Nat × Nat) (f : Nat → Nat → Nat → α) : α := fz s.1 fun x => fz s.2.1 fun y => fz s.2.2 fun z => f x y z
theorem f3_eq {α : Type} (s : Nat × Nat × Nat) (f : Nat → Nat → Nat → α) : f3 s f = f s.1 s.2.1 s.2.2 := by unfold f3; simp only [fz_eq]
def mulG (M : Nat) (p : Nat × Nat × Nat) (E : Nat) : Nat → Nat → Nat → Nat → Nat → Nat → (Nat × Nat × Nat) × Nat
  | 0, _, x, y, z, d => ((x, y, z), d)
  | n + 1, i, x, y, z, d =>
    if (bitAt E i).1 % 4 = 0 then f3 (dblT M (x, y, z)) fun a b c => f3 (tabP M p (2 * d + (bitAt E i).2)) fun t u v => f3 (addT M (a, b, c) (t, u, v)) fun x y z => fz (i + 1) fun i => mulG M p E n i x y z 0
    else f3 (dblT M (x, y, z)) fun x y z => fz (2 * d + (bitAt E i).2) fun d => fz (i + 1) fun i => mulG M p E n i x y z d
theorem mulG_eq (M : Nat) (p : Nat × Nat × Nat) (E : Nat) : ∀ n i, mulG M p E n i (mulS M p E i).1.1 (mulS M p E i).1.2.1 (mulS M p E i).1.2.2 (mulS M p E i).2 = mulS M p E (i + n)
  | 0, i => rfl
  | n + 1, i => by
    rw [show i + (n + 1) = (i + 1) + n by omega, ← mulG_eq M p E n (i + 1), mulG]
    simp only [f3_eq, fz_eq]
    have e : mulS M p E (i + 1) = if (bitAt E i).1 % 4 = 0 then (addT M (dblT M (mulS M p E i).1) (tabP M p (2 * (mulS M p E i).2 + (bitAt E i).2)), 0) else (dblT M (mulS M p E i).1, 2 * (mulS M p E i).2 + (bitAt E i).2) := rfl
    rw [e]
    split <;> rfl
def pwF (m a : Nat) : Nat → Nat → Nat
 | 0, _ => 1 % m
 | k + 1, e => if e % 2 = 1 then pwF m a k (e / 2) * pwF m a k (e / 2) % m * a % m else pwF m a k (e / 2) * pwF m a k (e / 2) % m
theorem pwF_eq {m a : Nat} : ∀ k e, e < 2 ^ k → pwF m a k e = a ^ e % m
  | 0, e, h => by
    have : e = 0 := by omega
    subst this
    rfl
  | k + 1, e, h => by
    have hd : e / 2 < 2 ^ k := by rw [Nat.pow_succ] at h; omega
    have h1 := Nat.div_add_mod e 2
    simp only [pwF]
    rw [pwF_eq k (e / 2) hd]
    have sq : a ^ (e / 2) % m * (a ^ (e / 2) % m) % m = a ^ (2 * (e / 2)) % m := by
      rw [← Nat.mul_mod, ← Nat.pow_add]
      congr 2
      omega
    split
    · rename_i ho
      rw [sq, Nat.mod_mul_mod, ← Nat.pow_succ]
      congr 2
      omega
    · rw [sq]
      congr 2
      omega
def downF (M : Nat) (p : Nat × Nat × Nat) : Option (Nat × Nat) := fz (pwF M p.2.2 256 (M - 2)) fun u => if p.2.2 % M = 0 then none else some (p.1 * (u * u % M) % M % M, p.2.1 * (u * u % M * u % M) % M % M)
theorem downF_eq {M : Nat} (p : Nat × Nat × Nat) (hM : M - 2 < 2 ^ 256) : downF M p = downT M p := by
 unfold downF downT downP
 rw [fz_eq, pwF_eq 256 _ hM]
 generalize p.2.2 ^ (M - 2) = u
 simp only [mm]
 have e1 : u % M * (u % M) % M = u * u % M := (Nat.mul_mod u u M).symm
 have e2 : u * u % M * (u % M) % M = u * u % M * u % M := by rw [Nat.mul_mod, Nat.mod_mod, Nat.mod_mod, ← Nat.mul_mod, Nat.mod_mul_mod]
 rw [e1, e2]
def mulF (C : Crv) (x y E : Nat) : Option (Option (Nat × Nat)) := if onB C.M C.bb x y = true then some (downF C.M (mulG C.M (x, y, 1) E (nbits E) 0 1 1 0 0).1) else none
theorem mulF_eq {C : Crv} {x y E : Nat} (hM : C.M - 2 < 2 ^ 256) (hE : nbits E ≤ 4096) : mulC C false x y E = mulF C x y E := by
 have h := mulG_eq C.M (x, y, 1) E (nbits E) 0
 rw [Nat.zero_add] at h
 unfold mulC mulF
 rw [if_pos hE, downF_eq _ hM, show upP false x y = (x, y, 1) from rfl, ← h]
 rfl
def addF (C : Crv) (x y u v : Nat) : Option (Option (Nat × Nat)) := if onB C.M C.bb x y = true then (if onB C.M C.bb u v = true then some (f3 (addT C.M (x, y, 1) (u, v, 1)) fun a b c => downF C.M (a, b, c)) else none) else none
theorem addF_eq {C : Crv} {x y u v : Nat} (hM : C.M - 2 < 2 ^ 256) : addC C false x y false u v = addF C x y u v := by
 unfold addC addF
 rw [f3_eq, downF_eq _ hM]
 rfl
theorem c256_lt : c256.M - 2 < 2 ^ 256 := by decide +kernel
abbrev eKey : Nat := 110066130015802009474046148371272023593080024477183009805587143031252073655978
abbrev eKk : Nat := 107779323474988826052224347888305060046280763634212666574931899910345441668288
abbrev eR' : Nat := 25977288503853393716652032588498566305194343633991309518364746196609453180960
abbrev eT : Nat := 37770117932026156049172039120758503168212124412985157458423084762336719498901
abbrev eI : Nat := 106754667409752053512634815028296606224892078111964034758566215503536184417907
abbrev eS : Nat := 31672600657996915719765063915927342923876227216746519456348864979464926653788
abbrev eW : Nat := 49088283842224337010804296858261905727516148431712012627153600141367233559220
abbrev eU1 : Nat := 4949614300662615366786766246518171094738549107753278794478061035640248286102
abbrev eU2 : Nat := 70558983771563734067621506605741236500576238817182598477487461413852045656991
abbrev eQ : Nat × Nat := (113515001384046449164058056303279658808511266657878524928823703426351177434559, 21176059819131940777825660752100379636750046115576985156935838526979906288476)
abbrev eR : Nat × Nat := (25977288503853393716652032588498566305194343633991309518364746196609453180960, 48582944771377152531173521449928515070586091585768012822087481791582739959474)
abbrev eA : Nat × Nat := (102213660801912738577355430096833939953099284759535322292499151633381134001761, 92409874442633145953552628655564808589168729286431245618439694300415881872152)
abbrev eB : Nat × Nat := (80679172271377021265122162203278303360540964236662578313438880791368623190110, 75015912442229030464259426553784456458409526620579227854056504289374120725388)
theorem mul_key : mulC c256 false (val 18446744073709551616 c256.xl) (val 18446744073709551616 c256.yl) eKey = some (some eQ) := by
 rw [mulF_eq c256_lt (by decide +kernel)]
 decide +kernel
theorem mul_kk : mulC c256 false (val 18446744073709551616 c256.xl) (val 18446744073709551616 c256.yl) eKk = some (some eR) := by
 rw [mulF_eq c256_lt (by decide +kernel)]
 decide +kernel
theorem mul_u1 : mulC c256 false (val 18446744073709551616 c256.xl) (val 18446744073709551616 c256.yl) eU1 = some (some eA) := by
 rw [mulF_eq c256_lt (by decide +kernel)]
 decide +kernel
theorem mul_u2 : mulC c256 false eQ.1 eQ.2 eU2 = some (some eB) := by
 rw [mulF_eq c256_lt (by decide +kernel)]
 decide +kernel
theorem add_ab : addC c256 false eA.1 eA.2 false eB.1 eB.2 = some (some eR) := by
 rw [addF_eq c256_lt]
 decide +kernel
theorem e_r : eR.1 % val 18446744073709551616 c256.nl = eR' := by decide +kernel
theorem e_t : eR' * eKey % val 18446744073709551616 c256.nl = eT := by decide +kernel
theorem e_u1 : numOf [104, 97, 115, 104] * eW % val 18446744073709551616 c256.nl = eU1 := by decide +kernel
theorem e_u2 : eR' * eW % val 18446744073709551616 c256.nl = eU2 := by decide +kernel
def invF (m : Nat) : Nat → Nat → Nat → Nat → Nat → Option (Nat × Nat)
 | 0, _, _, _, _ => none
 | n + 1, r, s, t, u => if s = 0 then some (r, t) else fz (r % s) fun a => fz ((t + m - r / s * u % m) % m) fun b => invF m n s a u b
theorem invF_eq {m : Nat} {p : Nat × Nat} : ∀ n r s t u, invF m n r s t u = some p → invLoop m r s t u = p
  | 0, _, _, _, _, h => by cases h
  | n + 1, r, s, t, u, h => by
    rw [invF] at h
    by_cases h0 : s = 0
    · rw [if_pos h0] at h
      subst h0
      rw [invLoop_zero]
      exact Option.some.inj h
    · rw [if_neg h0, fz_eq, fz_eq] at h
      rw [invLoop_step h0]
      exact invF_eq n _ _ _ _ h
theorem inv_ans {x m y : Nat} (h : invF m 400 m (x % m) 0 1 = some (1, y)) : invAns x m = (digs 18446744073709551616 y, true) := by
 unfold invAns
 rw [invF_eq 400 _ _ _ _ h, if_pos rfl]
theorem inv_kk : invAns eKk (val 18446744073709551616 c256.nl) = (digs 18446744073709551616 eI, true) := inv_ans (by decide +kernel)
theorem inv_s : invAns eS (val 18446744073709551616 c256.nl) = (digs 18446744073709551616 eW, true) := inv_ans (by decide +kernel)
end Go.Proofs.YtaemogcomplhiaaGreatDoor.Ec

namespace Go.Proofs.YtaemogcomplhiaaGreatDoor
open Go.RowKit
open Sha

theorem run_nozero (w : World) (n : Nat) (hn : n ≤ 281474976710656) : ∃ cs, (callFunc 70 #[.int .i64 (n : Int)]).run Tryz.prog w = .ok (.value (.slice (some ⟨w.heap.size, 0, none⟩) n cs.size)) ((w.drew.drew).alloc (.cells cs 5)) ∧ n ≤ cs.size ∧ cs.size ≤ maxLen := by
 obtain ⟨cs, h1, h2, h3⟩ := Lib.run_makeNoZero (P := Tryz.prog) w #[3] 22 5 Tryz.underlying22 n hn
 refine ⟨cs, ?_, h2, h3 (by unfold maxLen; omega)⟩
 rw [run_callFunc_extern (e := Extern.BytealgMakeNoZero.makeNoZero #[3] #[22]) Tryz.func70 (by kernel_rfl) (by kernel_rfl) (by kernel_rfl) (by kernel_rfl), h1]
 rfl
theorem mul_one_any (w : World) : Calls Tryz.prog 69 #[.int .u64 1, .int .u64 32] w fun e w' => e = .returned (.tuple #[.int .u64 0, .int .u64 32]) ∧ w' = w := by
 have H := Lib.hid (mul64_at 1 32 0 32 (by omega) (by omega) (by omega) (by omega))
 go_enter Tryz.func69, Tryz.ntmps69
 go_wp2_with fail
 refine (H.out w).mono ?_
 rintro e w1 ⟨rfl, rfl⟩
 go_wp2
 go_ret2
 exact ⟨rfl, rfl⟩
theorem ones_copy {w : World} {g p k dl dc sl sc : Nat} {a : Addr} {cur : Array Value} (hb : w.heap[g]? = some (.cells cur 5 (0, 0))) (ho : ∀ j, j < p → cur[j]? = some (.int .u8 1)) (hs : ∀ j, j < k → w.cell? (a.add j) = some (.int .u8 1)) (hk : k = min sl dl) (hle : p + k ≤ cur.size) :
 ∃ W' cur', (Builtin.copy_ #[22, 22] 3 #[.slice (some ⟨g, p, none⟩) dl dc, .slice (some a) sl sc]).run Tryz.prog w = .ok (.int .i64 (k : Int)) W' ∧ W'.heap[g]? = some (.cells cur' 5 (0, 0)) ∧ cur'.size = cur.size ∧ (∀ j, j < p + k → cur'[j]? = some (.int .u8 1)) ∧ Just g w W' := by
 have hcl : (List.replicate k (Value.int .u8 1)).length = k := List.length_replicate
 have hr := run_copy_row (P := Tryz.prog) w 22 22 3 5 g p dl dc a sl sc cur 5 (List.replicate k (.int .u8 1)) Tryz.underlying22 (by kernel_rfl) hb (by rw [hcl]; exact hk) (fun j v hv => by
  obtain ⟨h1, h2⟩ := List.getElem?_eq_some_iff.1 hv
  rw [hcl] at h1
  rw [hs j h1, ← h2, List.getElem_replicate]) (by rw [hcl]; exact hle) (by intro v hv; rw [(List.mem_replicate.1 hv).2]; rfl)
 rw [hcl] at hr
 refine ⟨_, _, hr, Go.setRow_heap w g _ _ 5 _ hb, ?_, ?_, ⟨rfl, rfl, rfl, by simp [World.setRow], fun k _ hk => Go.setRow_other w g k _ hk⟩⟩
 · simp; omega
 · intro j hj
   have hpl : (cur.toList.take p).length = p := by simp; omega
   rw [List.getElem?_toArray, List.append_assoc]
   by_cases h : j < p
   · rw [List.getElem?_append_left (by omega), List.getElem?_take_of_lt h]
     simpa using ho j h
   · rw [List.getElem?_append_right (by omega), hpl, List.getElem?_append_left (by rw [hcl]; omega), List.getElem?_replicate_of_lt (by omega)]
set_option maxRecDepth 100000 in
set_option maxHeartbeats 8000000 in
theorem repeat_one {g : Nat} (w : World) (hg : w.heap[g]? = some (.cells #[.int .u8 1] 5 (0, 0))) :
 Calls Tryz.prog 32 #[.slice (some ⟨g, 0, none⟩) 1 1, .int .i64 32] w fun e w' => ∃ A, e = .returned (.slice A 32 32) ∧ RB w' (fun k => k < w'.heap.size) A 32 (List.replicate 32 1) ∧ Ext w w' := by
 obtain ⟨cs, hrun, hcs, hcm⟩ := run_nozero w 32 (by omega)
 rw [show ((32 : Nat) : Int) = 32 from rfl] at hrun
 obtain ⟨W1, hW1⟩ : ∃ W, (w.drew.drew).alloc (.cells cs 5) = W := ⟨_, rfl⟩
 have hb : W1.heap[w.heap.size]? = some (.cells cs 5 (0, 0)) := by rw [← hW1]; exact heap_alloc_new w.drew.drew _
 have hE : Ext w W1 := by rw [← hW1]; exact ((Ext.drew w).trans (Ext.drew _)).trans (Ext.alloc _ _)
 rw [hW1] at hrun
 have c32 : (32 : Int) ≤ (cs.size : Int) := by omega
 obtain ⟨W2, cs2, hcp, hb2, hz2, hon, hj2⟩ := ones_copy (p := 0) (k := 1) (dl := 32) (dc := 32) (sl := 1) (sc := 1) (a := ⟨g, 0, none⟩) hb (by omega) (by
  intro j hj
  obtain rfl : j = 0 := by omega
  exact blk_cell (hE.at_ hg) 0) rfl (by omega)
 have Hb2 := Lib.hid hb2
 have Hon := Lib.hid hon
 have HE2 := Lib.hid (hj2.ext hE (Nat.le_refl _))
 have hz := Lib.hid (show 32 ≤ cs2.size by omega)
 clear hb hE hW1 hg hb2 hon hj2 hz2 hcm
 go_enter Tryz.func32, Tryz.ntmps32
 go_upto_region 6 with (go_at_call 69; refine (mul_one_any _).mono ?_; rintro e w1 ⟨rfl, rfl⟩)
 go_upto_region 18 with fail
 clear hrun hcp
 go_loopw [10] (fun iv wr => ∃ (p : Nat) (cur : Array Value), iv = .int .i64 (p : Int) ∧ (p = 1 ∨ p = 2 ∨ p = 4 ∨ p = 8 ∨ p = 16 ∨ p = 32) ∧ Hid (wr.heap[w1.heap.size]? = some (.cells cur 5 (0, 0))) ∧ Hid (∀ j, j < p → cur[j]? = some (.int .u8 1)) ∧ Hid (32 ≤ cur.size) ∧ Hid (Ext w1 wr)) (fun iv _ => (32 - intOf iv).toNat)
 case atStart => exact ⟨1, cs2, rfl, .inl rfl, Hb2, Hon, hz, HE2⟩
 case round =>
  clear Hb2 Hon hz HE2
  obtain ⟨p, cur, rfl, hp, HB, HO, HZ, HE⟩ := hrel
  rcases hp with rfl | rfl | rfl | rfl | rfl | rfl
  · obtain ⟨X, cur', hc, hbx, hzx, hox, hjx⟩ := ones_copy (w := wr.drew) (p := 1) (k := 1) (dl := 31) (dc := 31) (sl := 1) (sc := 32) (a := ⟨w1.heap.size, 0, none⟩) (show wr.drew.heap[w1.heap.size]? = some (.cells cur 5 (0, 0)) from HB.out) HO.out (by
     intro j hj
     rw [show Addr.add ⟨w1.heap.size, 0, none⟩ j = ⟨w1.heap.size, j, none⟩ by unfold Addr.add; split <;> simp_all, blk_cell (show wr.drew.heap[w1.heap.size]? = some (.cells cur 5 (0, 0)) from HB.out) j]
     exact HO.out j hj) rfl (by have := HZ.out; omega)
    rw [show ((1 : Nat) : Int) = 1 from rfl] at hc ⊢
    have HBn := Lib.hid hbx
    have HOn := Lib.hid (show ∀ j, j < 2 → cur'[j]? = some (.int .u8 1) from hox)
    have HEn := Lib.hid (hjx.ext (HE.out.trans (Ext.drew _)) (Nat.le_refl _))
    have HZn := Lib.hid (show 32 ≤ cur'.size by have := HZ.out; omega)
    clear hbx hzx hox hjx HB HO HE HZ
    go_upto_region 20 with fail
    rw [show min (1 : Int) 32 = 1 from by decide]
    go_region_with fail
    all_goals
     go_roundw
     case rel =>
      have hR : ∃ (p : Nat) (cur : Array Value), Value.int .i64 2 = .int .i64 (p : Int) ∧ (p = 1 ∨ p = 2 ∨ p = 4 ∨ p = 8 ∨ p = 16 ∨ p = 32) ∧ Hid (X.heap[w1.heap.size]? = some (.cells cur 5 (0, 0))) ∧ Hid (∀ j, j < p → cur[j]? = some (.int .u8 1)) ∧ Hid (32 ≤ cur.size) ∧ Hid (Ext w1 X) := ⟨2, cur', rfl, by omega, HBn, HOn, HZn, HEn⟩
      first | exact ⟨_, _, _, _, _, _, _, _, _, _, _, _, _, _, _, hR, rfl⟩ | exact ⟨_, _, _, _, _, _, _, _, _, _, _, _, _, _, _, _, hR, rfl⟩ | exact ⟨_, _, _, _, _, _, _, _, _, _, _, _, _, _, _, _, _, hR, rfl⟩ | exact ⟨_, _, _, _, _, _, _, _, _, _, _, _, _, _, _, _, _, _, hR, rfl⟩ | exact ⟨_, _, _, _, _, _, _, _, _, _, _, _, _, _, _, _, _, _, _, hR, rfl⟩ | exact ⟨_, _, _, _, _, _, _, _, _, _, _, _, _, _, _, _, _, _, _, _, hR, rfl⟩ | exact ⟨_, _, _, _, _, _, _, _, _, _, _, _, _, _, _, _, _, _, _, _, _, hR, rfl⟩ | exact ⟨_, _, _, _, _, _, _, _, _, _, _, _, _, _, _, _, _, _, _, _, _, _, hR, rfl⟩ | exact ⟨_, _, _, _, _, _, _, _, _, _, _, _, _, _, _, _, _, _, _, _, _, _, _, hR, rfl⟩
     case measure => change (32 - (2 : Int)).toNat < (32 - (1 : Int)).toNat; decide
  · obtain ⟨X, cur', hc, hbx, hzx, hox, hjx⟩ := ones_copy (w := wr.drew) (p := 2) (k := 2) (dl := 30) (dc := 30) (sl := 2) (sc := 32) (a := ⟨w1.heap.size, 0, none⟩) (show wr.drew.heap[w1.heap.size]? = some (.cells cur 5 (0, 0)) from HB.out) HO.out (by
     intro j hj
     rw [show Addr.add ⟨w1.heap.size, 0, none⟩ j = ⟨w1.heap.size, j, none⟩ by unfold Addr.add; split <;> simp_all, blk_cell (show wr.drew.heap[w1.heap.size]? = some (.cells cur 5 (0, 0)) from HB.out) j]
     exact HO.out j hj) rfl (by have := HZ.out; omega)
    rw [show ((2 : Nat) : Int) = 2 from rfl] at hc ⊢
    have HBn := Lib.hid hbx
    have HOn := Lib.hid (show ∀ j, j < 4 → cur'[j]? = some (.int .u8 1) from hox)
    have HEn := Lib.hid (hjx.ext (HE.out.trans (Ext.drew _)) (Nat.le_refl _))
    have HZn := Lib.hid (show 32 ≤ cur'.size by have := HZ.out; omega)
    clear hbx hzx hox hjx HB HO HE HZ
    go_upto_region 20 with fail
    rw [show min (2 : Int) 32 = 2 from by decide]
    go_region_with fail
    all_goals
     go_roundw
     case rel =>
      have hR : ∃ (p : Nat) (cur : Array Value), Value.int .i64 4 = .int .i64 (p : Int) ∧ (p = 1 ∨ p = 2 ∨ p = 4 ∨ p = 8 ∨ p = 16 ∨ p = 32) ∧ Hid (X.heap[w1.heap.size]? = some (.cells cur 5 (0, 0))) ∧ Hid (∀ j, j < p → cur[j]? = some (.int .u8 1)) ∧ Hid (32 ≤ cur.size) ∧ Hid (Ext w1 X) := ⟨4, cur', rfl, by omega, HBn, HOn, HZn, HEn⟩
      first | exact ⟨_, _, _, _, _, _, _, _, _, _, _, _, _, _, _, hR, rfl⟩ | exact ⟨_, _, _, _, _, _, _, _, _, _, _, _, _, _, _, _, hR, rfl⟩ | exact ⟨_, _, _, _, _, _, _, _, _, _, _, _, _, _, _, _, _, hR, rfl⟩ | exact ⟨_, _, _, _, _, _, _, _, _, _, _, _, _, _, _, _, _, _, hR, rfl⟩ | exact ⟨_, _, _, _, _, _, _, _, _, _, _, _, _, _, _, _, _, _, _, hR, rfl⟩ | exact ⟨_, _, _, _, _, _, _, _, _, _, _, _, _, _, _, _, _, _, _, _, hR, rfl⟩ | exact ⟨_, _, _, _, _, _, _, _, _, _, _, _, _, _, _, _, _, _, _, _, _, hR, rfl⟩ | exact ⟨_, _, _, _, _, _, _, _, _, _, _, _, _, _, _, _, _, _, _, _, _, _, hR, rfl⟩ | exact ⟨_, _, _, _, _, _, _, _, _, _, _, _, _, _, _, _, _, _, _, _, _, _, _, hR, rfl⟩
     case measure => change (32 - (4 : Int)).toNat < (32 - (2 : Int)).toNat; decide
  · obtain ⟨X, cur', hc, hbx, hzx, hox, hjx⟩ := ones_copy (w := wr.drew) (p := 4) (k := 4) (dl := 28) (dc := 28) (sl := 4) (sc := 32) (a := ⟨w1.heap.size, 0, none⟩) (show wr.drew.heap[w1.heap.size]? = some (.cells cur 5 (0, 0)) from HB.out) HO.out (by
     intro j hj
     rw [show Addr.add ⟨w1.heap.size, 0, none⟩ j = ⟨w1.heap.size, j, none⟩ by unfold Addr.add; split <;> simp_all, blk_cell (show wr.drew.heap[w1.heap.size]? = some (.cells cur 5 (0, 0)) from HB.out) j]
     exact HO.out j hj) rfl (by have := HZ.out; omega)
    rw [show ((4 : Nat) : Int) = 4 from rfl] at hc ⊢
    have HBn := Lib.hid hbx
    have HOn := Lib.hid (show ∀ j, j < 8 → cur'[j]? = some (.int .u8 1) from hox)
    have HEn := Lib.hid (hjx.ext (HE.out.trans (Ext.drew _)) (Nat.le_refl _))
    have HZn := Lib.hid (show 32 ≤ cur'.size by have := HZ.out; omega)
    clear hbx hzx hox hjx HB HO HE HZ
    go_upto_region 20 with fail
    rw [show min (4 : Int) 32 = 4 from by decide]
    go_region_with fail
    all_goals
     go_roundw
     case rel =>
      have hR : ∃ (p : Nat) (cur : Array Value), Value.int .i64 8 = .int .i64 (p : Int) ∧ (p = 1 ∨ p = 2 ∨ p = 4 ∨ p = 8 ∨ p = 16 ∨ p = 32) ∧ Hid (X.heap[w1.heap.size]? = some (.cells cur 5 (0, 0))) ∧ Hid (∀ j, j < p → cur[j]? = some (.int .u8 1)) ∧ Hid (32 ≤ cur.size) ∧ Hid (Ext w1 X) := ⟨8, cur', rfl, by omega, HBn, HOn, HZn, HEn⟩
      first | exact ⟨_, _, _, _, _, _, _, _, _, _, _, _, _, _, _, hR, rfl⟩ | exact ⟨_, _, _, _, _, _, _, _, _, _, _, _, _, _, _, _, hR, rfl⟩ | exact ⟨_, _, _, _, _, _, _, _, _, _, _, _, _, _, _, _, _, hR, rfl⟩ | exact ⟨_, _, _, _, _, _, _, _, _, _, _, _, _, _, _, _, _, _, hR, rfl⟩ | exact ⟨_, _, _, _, _, _, _, _, _, _, _, _, _, _, _, _, _, _, _, hR, rfl⟩ | exact ⟨_, _, _, _, _, _, _, _, _, _, _, _, _, _, _, _, _, _, _, _, hR, rfl⟩ | exact ⟨_, _, _, _, _, _, _, _, _, _, _, _, _, _, _, _, _, _, _, _, _, hR, rfl⟩ | exact ⟨_, _, _, _, _, _, _, _, _, _, _, _, _, _, _, _, _, _, _, _, _, _, hR, rfl⟩ | exact ⟨_, _, _, _, _, _, _, _, _, _, _, _, _, _, _, _, _, _, _, _, _, _, _, hR, rfl⟩
     case measure => change (32 - (8 : Int)).toNat < (32 - (4 : Int)).toNat; decide
  · obtain ⟨X, cur', hc, hbx, hzx, hox, hjx⟩ := ones_copy (w := wr.drew) (p := 8) (k := 8) (dl := 24) (dc := 24) (sl := 8) (sc := 32) (a := ⟨w1.heap.size, 0, none⟩) (show wr.drew.heap[w1.heap.size]? = some (.cells cur 5 (0, 0)) from HB.out) HO.out (by
     intro j hj
     rw [show Addr.add ⟨w1.heap.size, 0, none⟩ j = ⟨w1.heap.size, j, none⟩ by unfold Addr.add; split <;> simp_all, blk_cell (show wr.drew.heap[w1.heap.size]? = some (.cells cur 5 (0, 0)) from HB.out) j]
     exact HO.out j hj) rfl (by have := HZ.out; omega)
    rw [show ((8 : Nat) : Int) = 8 from rfl] at hc ⊢
    have HBn := Lib.hid hbx
    have HOn := Lib.hid (show ∀ j, j < 16 → cur'[j]? = some (.int .u8 1) from hox)
    have HEn := Lib.hid (hjx.ext (HE.out.trans (Ext.drew _)) (Nat.le_refl _))
    have HZn := Lib.hid (show 32 ≤ cur'.size by have := HZ.out; omega)
    clear hbx hzx hox hjx HB HO HE HZ
    go_upto_region 20 with fail
    rw [show min (8 : Int) 32 = 8 from by decide]
    go_region_with fail
    all_goals
     go_roundw
     case rel =>
      have hR : ∃ (p : Nat) (cur : Array Value), Value.int .i64 16 = .int .i64 (p : Int) ∧ (p = 1 ∨ p = 2 ∨ p = 4 ∨ p = 8 ∨ p = 16 ∨ p = 32) ∧ Hid (X.heap[w1.heap.size]? = some (.cells cur 5 (0, 0))) ∧ Hid (∀ j, j < p → cur[j]? = some (.int .u8 1)) ∧ Hid (32 ≤ cur.size) ∧ Hid (Ext w1 X) := ⟨16, cur', rfl, by omega, HBn, HOn, HZn, HEn⟩
      first | exact ⟨_, _, _, _, _, _, _, _, _, _, _, _, _, _, _, hR, rfl⟩ | exact ⟨_, _, _, _, _, _, _, _, _, _, _, _, _, _, _, _, hR, rfl⟩ | exact ⟨_, _, _, _, _, _, _, _, _, _, _, _, _, _, _, _, _, hR, rfl⟩ | exact ⟨_, _, _, _, _, _, _, _, _, _, _, _, _, _, _, _, _, _, hR, rfl⟩ | exact ⟨_, _, _, _, _, _, _, _, _, _, _, _, _, _, _, _, _, _, _, hR, rfl⟩ | exact ⟨_, _, _, _, _, _, _, _, _, _, _, _, _, _, _, _, _, _, _, _, hR, rfl⟩ | exact ⟨_, _, _, _, _, _, _, _, _, _, _, _, _, _, _, _, _, _, _, _, _, hR, rfl⟩ | exact ⟨_, _, _, _, _, _, _, _, _, _, _, _, _, _, _, _, _, _, _, _, _, _, hR, rfl⟩ | exact ⟨_, _, _, _, _, _, _, _, _, _, _, _, _, _, _, _, _, _, _, _, _, _, _, hR, rfl⟩
     case measure => change (32 - (16 : Int)).toNat < (32 - (8 : Int)).toNat; decide
  · obtain ⟨X, cur', hc, hbx, hzx, hox, hjx⟩ := ones_copy (w := wr.drew) (p := 16) (k := 16) (dl := 16) (dc := 16) (sl := 16) (sc := 32) (a := ⟨w1.heap.size, 0, none⟩) (show wr.drew.heap[w1.heap.size]? = some (.cells cur 5 (0, 0)) from HB.out) HO.out (by
     intro j hj
     rw [show Addr.add ⟨w1.heap.size, 0, none⟩ j = ⟨w1.heap.size, j, none⟩ by unfold Addr.add; split <;> simp_all, blk_cell (show wr.drew.heap[w1.heap.size]? = some (.cells cur 5 (0, 0)) from HB.out) j]
     exact HO.out j hj) rfl (by have := HZ.out; omega)
    rw [show ((16 : Nat) : Int) = 16 from rfl] at hc ⊢
    have HBn := Lib.hid hbx
    have HOn := Lib.hid (show ∀ j, j < 32 → cur'[j]? = some (.int .u8 1) from hox)
    have HEn := Lib.hid (hjx.ext (HE.out.trans (Ext.drew _)) (Nat.le_refl _))
    have HZn := Lib.hid (show 32 ≤ cur'.size by have := HZ.out; omega)
    clear hbx hzx hox hjx HB HO HE HZ
    go_upto_region 20 with fail
    rw [show min (16 : Int) 32 = 16 from by decide]
    go_region_with fail
    all_goals
     go_roundw
     case rel =>
      have hR : ∃ (p : Nat) (cur : Array Value), Value.int .i64 32 = .int .i64 (p : Int) ∧ (p = 1 ∨ p = 2 ∨ p = 4 ∨ p = 8 ∨ p = 16 ∨ p = 32) ∧ Hid (X.heap[w1.heap.size]? = some (.cells cur 5 (0, 0))) ∧ Hid (∀ j, j < p → cur[j]? = some (.int .u8 1)) ∧ Hid (32 ≤ cur.size) ∧ Hid (Ext w1 X) := ⟨32, cur', rfl, by omega, HBn, HOn, HZn, HEn⟩
      first | exact ⟨_, _, _, _, _, _, _, _, _, _, _, _, _, _, _, hR, rfl⟩ | exact ⟨_, _, _, _, _, _, _, _, _, _, _, _, _, _, _, _, hR, rfl⟩ | exact ⟨_, _, _, _, _, _, _, _, _, _, _, _, _, _, _, _, _, hR, rfl⟩ | exact ⟨_, _, _, _, _, _, _, _, _, _, _, _, _, _, _, _, _, _, hR, rfl⟩ | exact ⟨_, _, _, _, _, _, _, _, _, _, _, _, _, _, _, _, _, _, _, hR, rfl⟩ | exact ⟨_, _, _, _, _, _, _, _, _, _, _, _, _, _, _, _, _, _, _, _, hR, rfl⟩ | exact ⟨_, _, _, _, _, _, _, _, _, _, _, _, _, _, _, _, _, _, _, _, _, hR, rfl⟩ | exact ⟨_, _, _, _, _, _, _, _, _, _, _, _, _, _, _, _, _, _, _, _, _, _, hR, rfl⟩ | exact ⟨_, _, _, _, _, _, _, _, _, _, _, _, _, _, _, _, _, _, _, _, _, _, _, hR, rfl⟩
     case measure => change (32 - (32 : Int)).toNat < (32 - (16 : Int)).toNat; decide
  · rw [show ((32 : Nat) : Int) = 32 from rfl]
    have hones : bys (List.replicate 32 1) = List.replicate 32 (Value.int .u8 1) := by simp [bys]
    have hRB : RB wr (fun k => k < wr.heap.size) (some ⟨w1.heap.size, 0, none⟩) 32 (List.replicate 32 1) := by
     refine ⟨⟨by simp, by unfold maxLen; omega, by simp [bys], fun _ => ⟨⟨w1.heap.size, 0, none⟩, rfl, blk_lt HB.out, fun j u hu => ?_⟩⟩, fun x hx => by rw [(List.mem_replicate.1 hx).2]; omega, by simp⟩
     rw [hones] at hu
     obtain ⟨h1, h2⟩ := List.getElem?_eq_some_iff.1 hu
     rw [List.length_replicate] at h1
     rw [List.getElem_replicate] at h2
     rw [show Addr.add ⟨w1.heap.size, 0, none⟩ j = ⟨w1.heap.size, j, none⟩ by unfold Addr.add; split <;> simp_all, blk_cell HB.out j, HO.out j h1, h2]
    have HRB := Lib.hid hRB
    clear hRB hones
    go_wp2_with fail
    go_ret
    exact ⟨_, rfl, HRB.out, HE.out⟩
end Go.Proofs.YtaemogcomplhiaaGreatDoor
