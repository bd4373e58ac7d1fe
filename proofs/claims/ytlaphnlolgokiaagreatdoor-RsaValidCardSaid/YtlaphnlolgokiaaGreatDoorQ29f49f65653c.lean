/- hashes: HMAC-SHA-256. drbg: the code of parts. drbg: the state; update. drbg: update. drbg: Bytes. Plain arithmetic of shifts of numbers: nothing of the program. What limb.Shl and Shr compute. What limb.Quo computes: a divisor of two limbs or more. What bytes.Repeat calls at thirty-two ones. drbg: New. -/
import Derived.Test.YtlaphnlolgokiaaGreatDoorQdde239e7aad4
import Derived.RegionTactic
import Derived.ChangeAlike
import Derived.BigQuiet
import Derived.Lib.MakeNoZero
import Derived.Laws.Externs
namespace Go.Proofs.YtlaphnlolgokiaaGreatDoor
open Go.RowKit
open Sha

set_option maxRecDepth 100000 in
set_option maxHeartbeats 8000000 in
theorem hmac_any {P Q : Nat → Prop} {A B : Option Addr} {c d : Nat} {key : List Nat} {ps : List (List Nat)} (w : World) (hk : KW w) (hp : RB w P A c key) (hP : ∀ k, P k → k < w.heap.size) (hl0 : 0 < key.length) (hl : key.length ≤ 64)
 (hq : RP w Q B d ps) (hQ : ∀ k, Q k → k < w.heap.size) (hlf : ps.flatten.length ≤ 300000) (hpb : ∀ x ∈ ps.flatten, x < 256) :
 Calls Tryz.prog 85 #[.int .i64 3, .slice A key.length c, .slice B ps.length d] w fun e w' => ∃ A' c', e = .returned (.slice A' 32 c') ∧ OW w' w.heap.size A' c' (hmac key ps.flatten) ∧ Ext w w' := by
 have hkb := hp.2.1
 have H1 := Lib.hid (newKeyed_any w hk hp hP hl0 hl)
 have HKB := Lib.hid hkb
 have HK := Lib.hid hk
 have HQ := Lib.hid hq
 have HQQ := Lib.hid hQ
 have HL := Lib.hid hlf
 have HPB := Lib.hid hpb
 have Hle := Lib.hid hl
 clear hk hp hP hl0 hl hq hQ hlf hpb hkb
 go_enter Tryz.func85, Tryz.ntmps85
 go_wp2_with fail
 refine (size3 _).mono ?_
 rintro e wn ⟨rfl, rfl⟩
 go_wp2_with fail
 refine H1.out.mono ?_
 rintro e W1 ⟨b1, b2, rfl, hne, l1, l2, hs1, hs2, hE⟩
 have H2 := Lib.hid (of_parts W1 hs1 hs2 (mask_len _ _) (mask_len _ _) (mask_lt HKB.out (by omega)) (mask_lt HKB.out (by omega)) (HK.out.ext hE) (HQ.out.ext hE HQQ.out) (fun k hk => Nat.lt_of_lt_of_le (HQQ.out k hk) hE.bsize) HL.out HPB.out)
 have HE := Lib.hid hE
 clear hs1 hs2 hE H1
 go_wp2_with fail
 refine H2.out.mono ?_
 rintro e W2 ⟨A', c', rfl, ho, hE2⟩
 have HO := Lib.hid ho
 have HE2 := Lib.hid hE2
 clear ho hE2 H2
 go_wp2_with fail
 go_ret
 exact ⟨A', c', rfl, HO.out.mono HE.out.bsize, HE.out.trans HE2.out⟩
end Go.Proofs.YtlaphnlolgokiaaGreatDoor

namespace Go.Proofs.YtlaphnlolgokiaaGreatDoor
open Go.RowKit
open Sha

set_option maxRecDepth 100000 in
set_option maxHeartbeats 8000000 in
theorem mac_any {b : Nat} {P Q : Nat → Prop} {A B : Option Addr} {c d : Nat} {key : List Nat} {ps : List (List Nat)} (w : World) (hk : KW w) (hb : w.cell? ⟨b, 0, none⟩ = some (.slice A key.length c)) (hp : RB w P A c key) (hP : ∀ k, P k → k < w.heap.size) (hl0 : 0 < key.length) (hl : key.length ≤ 64)
 (hq : RP w Q B d ps) (hQ : ∀ k, Q k → k < w.heap.size) (hlf : ps.flatten.length ≤ 300000) (hpb : ∀ x ∈ ps.flatten, x < 256) :
 Calls Tryz.prog 56 #[.pointer (some ⟨b, 0, none⟩), .slice B ps.length d] w fun e w' => ∃ A' c', e = .returned (.slice A' 32 c') ∧ OW w' w.heap.size A' c' (hmac key ps.flatten) ∧ Ext w w' := by
 have H := Lib.hid (hmac_any w hk hp hP hl0 hl hq hQ hlf hpb)
 clear hk hp hP hl0 hl hq hQ hlf hpb
 go_enter Tryz.func56, Tryz.ntmps56
 go_wp2_with fail
 refine H.out.mono ?_
 rintro e wn ⟨A', c', rfl, ho, hE⟩
 have HO := Lib.hid ho
 have HE := Lib.hid hE
 clear ho hE H
 go_wp2_with fail
 go_ret
 exact ⟨A', c', rfl, HO.out, HE.out⟩
end Go.Proofs.YtlaphnlolgokiaaGreatDoor

namespace Go.Proofs.YtlaphnlolgokiaaGreatDoor
open Go.RowKit
open Sha

def DR (w : World) (b : Nat) (k v : List Nat) (n : Int) : Prop :=
 ∃ Ak ck Av cv, w.heap[b]? = some (.cells #[.slice Ak 32 ck, .slice Av 32 cv, .int .i64 n] 68 (0, 0)) ∧ RB w (fun g => g < w.heap.size) Ak ck k ∧ RB w (fun g => g < w.heap.size) Av cv v ∧ k.length = 32 ∧ v.length = 32
theorem DR.lt {w : World} {b : Nat} {k v : List Nat} {n : Int} (h : DR w b k v n) : b < w.heap.size := let ⟨_, _, _, _, h, _⟩ := h; blk_lt h
theorem DR.ext {w X : World} {b : Nat} {k v : List Nat} {n : Int} (h : DR w b k v n) (hE : Ext w X) : DR X b k v n := by
 obtain ⟨Ak, ck, Av, cv, h1, h2, h3, h4, h5⟩ := h
 exact ⟨Ak, ck, Av, cv, hE.at_ h1, h2.upE hE, h3.upE hE, h4, h5⟩
theorem RB.dr {w X : World} {b : Nat} {k v : List Nat} {n : Int} {P : Nat → Prop} {A : Option Addr} {c : Nat} {d : List Nat} (h : RB w P A c d) (hP : ∀ k, P k → k < w.heap.size) (hd : DR w b k v n) (hf : Fr b w.heap.size w X) : RB X P A c d :=
 h.by_ fun q u hq hc => (World.cell?_of_block (hf.block _ (hP _ hq) (fun e => by
  obtain ⟨Ak, ck, Av, cv, h1, _⟩ := hd
  unfold World.cell? at hc
  rw [e, h1] at hc
  simp only at hc
  split at hc
  · cases hc
  · have hm := List.mem_of_getElem? (l := [Value.slice Ak 32 ck, .slice Av 32 cv, .int .i64 n]) (i := q.off) (by simpa using hc)
    simp at hm))).trans hc
theorem RB.dr' {w X : World} {b : Nat} {k v : List Nat} {n : Int} {A : Option Addr} {c : Nat} {d : List Nat} (h : RB w (fun g => g < w.heap.size) A c d) (hd : DR w b k v n) (hf : Fr b w.heap.size w X) : RB X (fun g => g < X.heap.size) A c d :=
 (h.dr (fun _ h => h) hd hf).mono fun _ hg => Nat.lt_of_lt_of_le hg hf.size
theorem DR.fr {w X : World} {b b' : Nat} {k v k' v' : List Nat} {n n' : Int} (h : DR w b k v n) (hf : Fr b' w.heap.size w X) (hb : DR w b' k' v' n') (hn : b ≠ b') : DR X b k v n := by
 obtain ⟨Ak, ck, Av, cv, h1, h2, h3, h4, h5⟩ := h
 exact ⟨Ak, ck, Av, cv, hf.at_ (blk_lt h1) hn h1, h2.dr' hb hf, h3.dr' hb hf, h4, h5⟩
theorem DR.frS {w : World} {b : Nat} (i : Nat) (u : Value) : Fr b w.heap.size w (w.setCell ⟨b, i, none⟩ u) := Fr.just ((Just.refl b w).set i u) (Nat.le_refl _)
theorem DR.setK {w : World} {b c : Nat} {A : Option Addr} {k k' v : List Nat} {n : Int} (h : DR w b k v n) (ho : RB w (fun g => g < w.heap.size) A c k') (hl : k'.length = 32) : DR (w.setCell ⟨b, 0, none⟩ (.slice A 32 c)) b k' v n := by
 have hd := h
 obtain ⟨Ak, ck, Av, cv, h1, h2, h3, h4, h5⟩ := h
 exact ⟨A, c, Av, cv, blk_set h1 0 _, ho.dr' hd (DR.frS _ _), h3.dr' hd (DR.frS _ _), hl, h5⟩
theorem DR.setV {w : World} {b c : Nat} {A : Option Addr} {k v v' : List Nat} {n : Int} (h : DR w b k v n) (ho : RB w (fun g => g < w.heap.size) A c v') (hl : v'.length = 32) : DR (w.setCell ⟨b, 1, none⟩ (.slice A 32 c)) b k v' n := by
 have hd := h
 obtain ⟨Ak, ck, Av, cv, h1, h2, h3, h4, h5⟩ := h
 exact ⟨Ak, ck, A, c, blk_set h1 1 _, h2.dr' hd (DR.frS _ _), ho.dr' hd (DR.frS _ _), h4, hl⟩
theorem DR.setN {w : World} {b : Nat} {k v : List Nat} {n : Int} (h : DR w b k v n) (m : Int) : DR (w.setCell ⟨b, 2, none⟩ (.int .i64 m)) b k v m := by
 have hd := h
 obtain ⟨Ak, ck, Av, cv, h1, h2, h3, h4, h5⟩ := h
 exact ⟨Ak, ck, Av, cv, blk_set h1 2 _, h2.dr' hd (DR.frS _ _), h3.dr' hd (DR.frS _ _), h4, h5⟩
theorem hmac_len (k m : List Nat) : (hmac k m).length = 32 := sha_length _
def half (k v d : List Nat) (c : Nat) : List Nat × List Nat := (hmac k (v ++ [c] ++ d), hmac (hmac k (v ++ [c] ++ d)) v)
def upd2 (k v d : List Nat) : List Nat × List Nat := if d.length = 0 then half k v d 0 else half (half k v d 0).1 (half k v d 0).2 d 1
theorem OW.rb' {w : World} {base : Nat} {A : Option Addr} {c : Nat} {bs : List Nat} (h : OW w base A c bs) (hl : bs.length ≤ 100000000) : RB w (fun k => k < w.heap.size) A c bs := (h.rb hl).mono fun _ hk => hk.2
theorem RS.lit (w : World) (cs : Array Value) (t : TypeId) (hl : cs.size ≤ maxLen) : RS (w.alloc (.cells cs t)) (fun k => k < (w.alloc (.cells cs t)).heap.size) 1 (some ⟨w.heap.size, 0, none⟩) cs.size cs.size cs.toList :=
 RS.fresh cs t 1 cs.size (by simp) hl (by rw [World.size_alloc]; omega)
theorem mac3 {b x : Nat} {k v : List Nat} {n : Int} {P : Nat → Prop} {A : Option Addr} {c : Nat} {d : List Nat} (w : World) (hk : KW w) (hd : DR w b k v n) (hx : x < 256) (hp : RB w P A c d) (hP : ∀ k, P k → k < w.heap.size) (hl : d.length ≤ 200000) {Av : Option Addr} {cv : Nat} (hv : w.cell? ⟨b, 1, none⟩ = some (.slice Av 32 cv)) :
 Calls Tryz.prog 56 #[.pointer (some ⟨b, 0, none⟩), .slice (some ⟨w.heap.size + 1, 0, none⟩) 3 3] ((w.alloc (.cells #[.int .u8 (x : Int)] 5)).alloc (.cells #[.slice Av 32 cv, .slice (some ⟨w.heap.size, 0, none⟩) 1 1, .slice A d.length c] 62))
  fun e w' => ∃ A' c', e = .returned (.slice A' 32 c') ∧ OW w' w.heap.size A' c' (hmac k (v ++ [x] ++ d)) ∧ Ext w w' := by
 obtain ⟨W1, hW1⟩ : ∃ W, w.alloc (.cells #[.int .u8 (x : Int)] 5) = W := ⟨_, rfl⟩
 have hx1 := OW.lit w x hx
 have hE1 : Ext w W1 := by rw [← hW1]; exact Ext.alloc _ _
 have hz1 : w.heap.size + 1 = W1.heap.size := by rw [← hW1, World.size_alloc]
 rw [hW1] at hx1 ⊢
 rw [hz1]
 have hE2 := Ext.alloc W1 (.cells #[.slice Av 32 cv, .slice (some ⟨w.heap.size, 0, none⟩) 1 1, .slice A d.length c] 62)
 have hr := RS.lit W1 #[.slice Av 32 cv, .slice (some ⟨w.heap.size, 0, none⟩) 1 1, .slice A d.length c] 62 (by simp [maxLen])
 obtain ⟨W2, hW2⟩ : ∃ W, W1.alloc (.cells #[.slice Av 32 cv, .slice (some ⟨w.heap.size, 0, none⟩) 1 1, .slice A d.length c] 62) = W := ⟨_, rfl⟩
 rw [hW2] at hE2 hr ⊢
 have hE := hE1.trans hE2
 obtain ⟨Ak, ck, Av', cv', h1, h2, h3, h4, h5⟩ := hd
 have e1 := blk_cell h1 1
 rw [hv] at e1
 simp only [List.getElem?_toArray, List.getElem?_cons_zero, List.getElem?_cons_succ, Option.some.injEq, Value.slice.injEq] at e1
 obtain ⟨rfl, _, rfl⟩ := e1
 have c0 : W2.cell? ⟨b, 0, none⟩ = some (.slice Ak 32 ck) := hE.cell (blk_cell h1 0)
 have o2 := h2.upE hE
 have o3 := h3.upE hE
 have o1 := (hx1.same (w' := W2) fun g _ cs hk => hE2.at_ hk).rb' (by simp)
 have hq : RP W2 (fun k => k < W2.heap.size) (some ⟨W1.heap.size, 0, none⟩) 3 [v, [x], d] := by
  refine ⟨_, hr, fun i hi => ?_⟩
  match i, hi with
  | 0, _ => exact ⟨Av, cv, by simp [h5], o3⟩
  | 1, _ => exact ⟨some ⟨w.heap.size, 0, none⟩, 1, by simp, o1⟩
  | 2, _ => exact ⟨A, c, by simp, (hp.below hE hP).mono fun k hk => Nat.lt_of_lt_of_le (hP k hk) hE.bsize⟩
  | i + 3, hi => exact absurd hi (by simp only [List.length_cons, List.length_nil]; omega)
 rw [← h4] at c0
 have hm := mac_any W2 (hk.ext hE) c0 o2 (fun _ h => h) (by omega) (by omega) hq (fun _ h => h) (by simp [h5]; omega) (by
  intro y hy
  simp only [List.flatten_cons, List.flatten_nil, List.append_nil, List.mem_append, List.mem_singleton] at hy
  rcases hy with hy | hy | hy
  · exact o3.2.1 y hy
  · omega
  · exact hp.2.1 y hy)
 refine hm.mono ?_
 rintro e w' ⟨A', c', rfl, ho, hE'⟩
 refine ⟨A', c', rfl, ?_, hE.trans hE'⟩
 have := ho.mono hE.bsize
 simpa using this
theorem mac1 {b : Nat} {k v : List Nat} {n : Int} (w : World) (hk : KW w) (hd : DR w b k v n) {Av : Option Addr} {cv : Nat} (hv : w.cell? ⟨b, 1, none⟩ = some (.slice Av 32 cv)) :
 Calls Tryz.prog 56 #[.pointer (some ⟨b, 0, none⟩), .slice (some ⟨w.heap.size, 0, none⟩) 1 1] (w.alloc (.cells #[.slice Av 32 cv] 62))
  fun e w' => ∃ A' c', e = .returned (.slice A' 32 c') ∧ OW w' w.heap.size A' c' (hmac k v) ∧ Ext w w' := by
 have hE := Ext.alloc w (.cells #[.slice Av 32 cv] 62)
 have hr := RS.lit w #[.slice Av 32 cv] 62 (by simp [maxLen])
 obtain ⟨W2, hW2⟩ : ∃ W, w.alloc (.cells #[.slice Av 32 cv] 62) = W := ⟨_, rfl⟩
 rw [hW2] at hE hr ⊢
 obtain ⟨Ak, ck, Av', cv', h1, h2, h3, h4, h5⟩ := hd
 have e1 := blk_cell h1 1
 rw [hv] at e1
 simp only [List.getElem?_toArray, List.getElem?_cons_zero, List.getElem?_cons_succ, Option.some.injEq, Value.slice.injEq] at e1
 obtain ⟨rfl, _, rfl⟩ := e1
 have c0 : W2.cell? ⟨b, 0, none⟩ = some (.slice Ak 32 ck) := hE.cell (blk_cell h1 0)
 have o2 := h2.upE hE
 have o3 := h3.upE hE
 have hq : RP W2 (fun k => k < W2.heap.size) (some ⟨w.heap.size, 0, none⟩) 1 [v] := by
  refine ⟨_, hr, fun i hi => ?_⟩
  match i, hi with
  | 0, _ => exact ⟨Av, cv, by simp [h5], o3⟩
  | i + 1, hi => exact absurd hi (by simp only [List.length_cons, List.length_nil]; omega)
 rw [← h4] at c0
 have hm := mac_any W2 (hk.ext hE) c0 o2 (fun _ h => h) (by omega) (by omega) hq (fun _ h => h) (by simp [h5]) (by
  intro y hy
  simp only [List.flatten_cons, List.flatten_nil, List.append_nil] at hy
  exact o3.2.1 y hy)
 refine hm.mono ?_
 rintro e w' ⟨A', c', rfl, ho, hE'⟩
 refine ⟨A', c', rfl, ?_, hE.trans hE'⟩
 have := ho.mono hE.bsize
 simpa using this
end Go.Proofs.YtlaphnlolgokiaaGreatDoor

namespace Go.Proofs.YtlaphnlolgokiaaGreatDoor
open Go.RowKit
open Sha

theorem KW.ne {w : World} {b : Nat} {k v : List Nat} {n : Int} (h : KW w) (hd : DR w b k v n) : 3 ≠ b := by
 intro e
 obtain ⟨z, h1, h2⟩ := h 0 (by omega)
 obtain ⟨Ak, ck, Av, cv, h3, _⟩ := hd
 rw [e] at h1
 rw [blk_cell h3 0] at h1
 simp at h1
theorem KW.dr {w X : World} {b F : Nat} {k v : List Nat} {n : Int} (h : KW w) (hd : DR w b k v n) (hf : Fr b F w X) (hF : w.heap.size ≤ F) : KW X := fun i hi => by
 obtain ⟨z, h1, h2⟩ := h i hi
 exact ⟨z, (World.cell?_of_block (hf.block _ (Nat.lt_of_lt_of_le h.lt hF) (h.ne hd))).trans h1, h2⟩
theorem DR.vcell {w : World} {b : Nat} {k v : List Nat} {n : Int} (h : DR w b k v n) : ∃ Av cv, w.cell? ⟨b, 1, none⟩ = some (.slice Av 32 cv) := by
 obtain ⟨Ak, ck, Av, cv, h1, _⟩ := h
 exact ⟨Av, cv, blk_cell h1 1⟩
theorem DR.free {w : World} {b : Nat} {k v : List Nat} {n : Int} (h : DR w b k v n) (i : Nat) : w.frozen? ⟨b, i, none⟩ = false := by
 obtain ⟨Ak, ck, Av, cv, h1, _⟩ := h
 exact blk_free h1 i
theorem DR.kcell {w : World} {b : Nat} {k v : List Nat} {n : Int} (h : DR w b k v n) : ∃ Av cv, w.cell? ⟨b, 0, none⟩ = some (.slice Av 32 cv) := by
 obtain ⟨Ak, ck, Av, cv, h1, _⟩ := h
 exact ⟨Ak, ck, blk_cell h1 0⟩
theorem turnK {w w1 : World} {b : Nat} {k v k' : List Nat} {n : Int} {A : Option Addr} {c : Nat} (hd : DR w b k v n) (hE : Ext w w1) (ho : OW w1 w.heap.size A c k') (hl : k'.length = 32) :
 DR (w1.setCell ⟨b, 0, none⟩ (.slice A 32 c)) b k' v n ∧ Fr b w.heap.size w (w1.setCell ⟨b, 0, none⟩ (.slice A 32 c)) :=
 ⟨(hd.ext hE).setK (ho.rb' (by omega)) hl, (Fr.below hE (Nat.le_refl _)).trans (Fr.just ((Just.refl b w1).set 0 _) hE.bsize)⟩
theorem turnV {w w1 : World} {b : Nat} {k v v' : List Nat} {n : Int} {A : Option Addr} {c : Nat} (hd : DR w b k v n) (hE : Ext w w1) (ho : OW w1 w.heap.size A c v') (hl : v'.length = 32) :
 DR (w1.setCell ⟨b, 1, none⟩ (.slice A 32 c)) b k v' n ∧ Fr b w.heap.size w (w1.setCell ⟨b, 1, none⟩ (.slice A 32 c)) :=
 ⟨(hd.ext hE).setV (ho.rb' (by omega)) hl, (Fr.below hE (Nat.le_refl _)).trans (Fr.just ((Just.refl b w1).set 1 _) hE.bsize)⟩
theorem DR.v0 {w : World} {b : Nat} {k v : List Nat} {n : Int} {y : Value} (h : DR w b k v n) (hv : w.cell? ⟨b, 1, none⟩ = some y) (u : Value) : (w.setCell ⟨b, 0, none⟩ u).cell? ⟨b, 1, none⟩ = some y := by
 obtain ⟨Ak, ck, Av, cv, h1, _⟩ := h
 have e1 := blk_cell h1 1
 rw [hv] at e1
 rw [blk_cell (blk_set h1 0 u) 1, e1]
 rfl
set_option maxRecDepth 100000 in
set_option maxHeartbeats 8000000 in
theorem update_any {b : Nat} {k v d : List Nat} {n : Int} {P : Nat → Prop} {A : Option Addr} {c : Nat} (w : World) (hk : KW w) (hd : DR w b k v n) (hp : RB w P A c d) (hP : ∀ k, P k → k < w.heap.size) (hl : d.length ≤ 200000) :
 Calls Tryz.prog 39 #[.pointer (some ⟨b, 0, none⟩), .slice A d.length c] w fun e w' => e = .returned (.tuple #[]) ∧ DR w' b (upd2 k v d).1 (upd2 k v d).2 n ∧ Fr b w.heap.size w w' := by
 obtain ⟨Av, cv, vc⟩ := hd.vcell
 have h1 := mac3 (x := 0) w hk hd (by omega) hp hP hl vc
 rw [show ((0 : Nat) : Int) = 0 from rfl] at h1
 have H1 := Lib.hid h1
 obtain ⟨Ak, ck, kc⟩ := hd.kcell
 clear h1
 have HK := Lib.hid hk
 have HD := Lib.hid hd
 have HP := Lib.hid hp
 have HPP := Lib.hid hP
 clear hk hd hp hP
 go_enter Tryz.func39, Tryz.ntmps39
 go_wp2_with fail
 refine H1.out.mono ?_
 rintro e w1 ⟨A1, c1, rfl, ho, hE⟩
 obtain ⟨hd1, hf1⟩ := turnK HD.out hE ho (hmac_len _ _)
 have fr1 := (HD.out.ext hE).free 0
 have vc1 := hE.cell vc
 have kc1 := hE.cell kc
 have HK1 := Lib.hid (HK.out.dr HD.out hf1 (Nat.le_refl _))
 have vcs := (HD.out.ext hE).v0 vc1 (.slice A1 32 c1)
 have HD1 := Lib.hid hd1
 have HF1 := Lib.hid hf1
 clear hd1 hf1 hE ho vc vc1 H1 kc
 go_upto_region 1 with fail
 obtain ⟨X1, hX1⟩ : ∃ X, w1.setCell ⟨b, 0, none⟩ (.slice A1 32 c1) = X := ⟨_, rfl⟩
 rw [hX1] at HK1 HD1 HF1 vcs ⊢
 clear hX1 fr1 kc1
 have H2 := Lib.hid (mac1 _ HK1.out HD1.out vcs)
 go_wp2_with fail
 refine H2.out.mono ?_
 rintro e w2 ⟨A2, c2, rfl, ho, hE⟩
 obtain ⟨hd2, hf2⟩ := turnV HD1.out hE ho (hmac_len _ _)
 have fr2 := (HD1.out.ext hE).free 1
 have vc2 := hE.cell vcs
 have hff := HF1.out.trans (hf2.mono HF1.out.size)
 have HK2 := Lib.hid (HK.out.dr HD.out hff (Nat.le_refl _))
 have HP2 := Lib.hid (HP.out.dr HPP.out HD.out hff)
 have HD2 := Lib.hid hd2
 have HF2 := Lib.hid hff
 clear hd2 hf2 hff hE ho vcs H2 HK1 HD1 HF1 HK HP
 go_upto_region 2 with fail
 obtain ⟨X2, hX2⟩ : ∃ X, w2.setCell ⟨b, 1, none⟩ (.slice A2 32 c2) = X := ⟨_, rfl⟩
 rw [hX2] at HK2 HD2 HF2 HP2 ⊢
 clear hX2 fr2 vc2
 by_cases h0 : d.length = 0
 · have l0 : ¬ (0 : Int) < (d.length : Int) := by omega
   go_wp2_with fail
   have hu : upd2 k v d = half k v d 0 := if_pos h0
   have hfin : DR X2 b (upd2 k v d).1 (upd2 k v d).2 n := by rw [hu]; exact HD2.out
   go_end0
   exact ⟨rfl, hfin, HF2.out⟩
 · have l0 : (0 : Int) < (d.length : Int) := by omega
   have H3 := Lib.hid (HD2.out)
   obtain ⟨Av', cv', vc⟩ := HD2.out.vcell
   obtain ⟨Ak', ck', kc⟩ := HD2.out.kcell
   have hlt2 : ∀ k, P k → k < X2.heap.size := fun k hk => Nat.lt_of_lt_of_le (HPP.out k hk) HF2.out.size
   have h1 := mac3 (x := 1) X2 HK2.out HD2.out (by omega) HP2.out hlt2 hl vc
   rw [show ((1 : Nat) : Int) = 1 from rfl] at h1
   have H1 := Lib.hid h1
   clear h1 hlt2
   go_wp2_with fail
   refine H1.out.mono ?_
   rintro e w3 ⟨A3, c3, rfl, ho, hE⟩
   obtain ⟨hd1, hf1⟩ := turnK HD2.out hE ho (hmac_len _ _)
   have fr1 := (HD2.out.ext hE).free 0
   have vc1 := hE.cell vc
   have kc1 := hE.cell kc
   have HK1 := Lib.hid (HK2.out.dr HD2.out hf1 (Nat.le_refl _))
   have vcs := (HD2.out.ext hE).v0 vc1 (.slice A3 32 c3)
   have HD1 := Lib.hid hd1
   have HF1 := Lib.hid (HF2.out.trans (hf1.mono HF2.out.size))
   clear hd1 hf1 hE ho vc vc1 H1 kc
   go_upto_region 4 with fail
   obtain ⟨X1, hX1⟩ : ∃ X, w3.setCell ⟨b, 0, none⟩ (.slice A3 32 c3) = X := ⟨_, rfl⟩
   rw [hX1] at HK1 HD1 HF1 vcs ⊢
   clear hX1 fr1 kc1
   have H2 := Lib.hid (mac1 _ HK1.out HD1.out vcs)
   go_wp2_with fail
   refine H2.out.mono ?_
   rintro e w4 ⟨A4, c4, rfl, ho, hE⟩
   obtain ⟨hd2, hf2⟩ := turnV HD1.out hE ho (hmac_len _ _)
   have fr2 := (HD1.out.ext hE).free 1
   have vc2 := hE.cell vcs
   have hff := HF1.out.trans (hf2.mono HF1.out.size)
   have hu : upd2 k v d = half (half k v d 0).1 (half k v d 0).2 d 1 := if_neg h0
   have Hfin := Lib.hid (show DR (w4.setCell ⟨b, 1, none⟩ (.slice A4 32 c4)) b (upd2 k v d).1 (upd2 k v d).2 n by rw [hu]; exact hd2)
   have HF2' := Lib.hid hff
   clear hd2 hf2 hff hE ho vcs H2 HK1 HD1 HF1 hu
   go_wp2_with fail
   go_end0
   exact ⟨rfl, Hfin.out, HF2'.out⟩
end Go.Proofs.YtlaphnlolgokiaaGreatDoor

namespace Go.Proofs.YtlaphnlolgokiaaGreatDoor
open Go.RowKit
open Sha

def dvs (k v : List Nat) : Nat → List Nat
 | 0 => v
 | m + 1 => hmac k (dvs k v m)
def douts (k v : List Nat) : Nat → List Nat
 | 0 => []
 | m + 1 => douts k v m ++ dvs k v (m + 1)
theorem douts_len (k v : List Nat) (m : Nat) : (douts k v m).length = 32 * m := by
 induction m with
 | zero => rfl
 | succ m ih => rw [douts, List.length_append, ih, dvs, hmac_len]; omega
def BL (w : World) (F b : Nat) (k v : List Nat) (n : Int) (A : Option Addr) (c : Nat) (out : List Nat) : Prop :=
 ∃ Ak ck Av cv, w.heap[b]? = some (.cells #[.slice Ak 32 ck, .slice Av 32 cv, .int .i64 n] 68 (0, 0)) ∧ RB w (fun g => g < F) Ak ck k ∧ F ≤ w.heap.size ∧ RB w (fun g => g < w.heap.size) Av cv v ∧ k.length = 32 ∧ v.length = 32 ∧ OW w F A c out
theorem BL.dr {w : World} {F b c : Nat} {k v out : List Nat} {n : Int} {A : Option Addr} (h : BL w F b k v n A c out) : DR w b k v n := by
 obtain ⟨Ak, ck, Av, cv, h1, h2, hF, h3, h4, h5, _⟩ := h
 exact ⟨Ak, ck, Av, cv, h1, h2.mono fun _ hg => Nat.lt_of_lt_of_le hg hF, h3, h4, h5⟩
theorem BL.ow {w : World} {F b c : Nat} {k v out : List Nat} {n : Int} {A : Option Addr} (h : BL w F b k v n A c out) : OW w F A c out := let ⟨_, _, _, _, _, _, _, _, _, _, h⟩ := h; h
theorem DR.bl {w : World} {b : Nat} {k v : List Nat} {n : Int} (h : DR w b k v n) : BL w w.heap.size b k v n none 0 [] := by
 obtain ⟨Ak, ck, Av, cv, h1, h2, h3, h4, h5⟩ := h
 exact ⟨Ak, ck, Av, cv, h1, h2, Nat.le_refl _, h3, h4, h5, ⟨⟨by simp [bys], .inl ⟨rfl, rfl⟩⟩, by simp⟩⟩
theorem OW.drb {w X : World} {b : Nat} {cs : Array Value} {A : Option Addr} {c base : Nat} {l : List Nat} (h : OW w base A c l) (hj : Just b w X) (hb : w.heap[b]? = some (.cells cs 68 (0, 0))) : OW X base A c l :=
 h.same fun g _ cs' hk => hj.at_ (fun e => by
  rw [e, hb] at hk
  injection Option.some.inj hk with _ e2
  exact absurd e2 (by decide)) hk
theorem own_ne {w : World} {b g base c : Nat} {cs : Array Value} {A : Option Addr} {l : List Nat} (hb : w.heap[b]? = some (.cells cs 68 (0, 0))) (h : OW w base A c l) (hg : (Value.slice A l.length c).ownBlock = some g) : b ≠ g := by
 intro e
 obtain ⟨_, cs', hc⟩ := h.own hg
 rw [← e, hb] at hc
 injection Option.some.inj hc with _ e2
 exact absurd e2 (by decide)
theorem BL.turn {w w1 : World} {F b c c' : Nat} {k v v' out : List Nat} {n : Int} {A A' : Option Addr} (h : BL w F b k v n A c out) (hE : Ext w w1) (ho : OW w1 w.heap.size A' c' v') (hl : v'.length = 32) :
 BL (w1.setCell ⟨b, 1, none⟩ (.slice A' 32 c')) F b k v' n A c out ∧ OW (w1.setCell ⟨b, 1, none⟩ (.slice A' 32 c')) w.heap.size A' c' v' ∧ (w1.setCell ⟨b, 1, none⟩ (.slice A' 32 c')).cell? ⟨b, 1, none⟩ = some (.slice A' 32 c') ∧ (∀ g, (Value.slice A out.length c).ownBlock = some g → g < w.heap.size) := by
 have hd := h.dr.ext hE
 obtain ⟨Ak, ck, Av, cv, h1, h2, hF, h3, h4, h5, h6⟩ := h
 have j := (Just.refl b w1).set 1 (.slice A' 32 c')
 have h1' := hE.at_ h1
 have ho' := ho.drb j h1'
 exact ⟨⟨Ak, ck, A', c', blk_set h1' 1 _, (h2.below hE (fun _ hg => Nat.lt_of_lt_of_le hg hF)).dr (fun _ hg => Nat.lt_of_lt_of_le hg (Nat.le_trans hF hE.bsize)) hd (DR.frS _ _), Nat.le_trans hF (Nat.le_trans hE.bsize (DR.frS (b := b) 1 (.slice A' 32 c')).size), ho'.rb' (by omega), h4, hl, (h6.same fun g _ cs hk => hE.at_ hk).drb j h1'⟩, ho', by rw [blk_cell (blk_set h1' 1 _) 1]; rfl, fun g hg => let ⟨_, cs, hc⟩ := h6.own hg; blk_lt hc⟩
theorem OW.keepOwn {w w' : World} {base : Nat} {A : Option Addr} {c : Nat} {bs : List Nat} (h : OW w base A c bs) (hk : ∀ g cs, (Value.slice A bs.length c).ownBlock = some g → w.heap[g]? = some (.cells cs 5 (0, 0)) → w'.heap[g]? = some (.cells cs 5 (0, 0))) : OW w' base A c bs := by
 obtain ⟨⟨h1, h2⟩, h3⟩ := h
 refine ⟨⟨h1, ?_⟩, h3⟩
 rcases h2 with h2 | ⟨g, cap, cur, e, hg, hb, h4⟩
 · exact .inl h2
 · exact .inr ⟨g, cap, cur, e, hg, hk g _ (by rw [e]; simp [Value.ownBlock]) hb, h4⟩
theorem BL.app {w w' : World} {F B b c c2 : Nat} {k v out : List Nat} {n : Int} {A A' A2 : Option Addr} {c' : Nat} (h : BL w F b k v n A c out) (hv : OW w B A' c' v) (hc : w.cell? ⟨b, 1, none⟩ = some (.slice A' 32 c')) (hB : ∀ g, (Value.slice A out.length c).ownBlock = some g → g < B)
 (hg : w.grownBy w' (Value.slice A out.length c).ownBlock) (ho : OW w' F A2 c2 (out ++ v)) : BL w' F b k v n A2 c2 (out ++ v) := by
 obtain ⟨Ak, ck, Av, cv, h1, h2, hF, h3, h4, h5, h6⟩ := h
 have e1 := blk_cell h1 1
 rw [hc] at e1
 simp only [List.getElem?_toArray, List.getElem?_cons_zero, List.getElem?_cons_succ, Option.some.injEq, Value.slice.injEq] at e1
 obtain ⟨rfl, _, rfl⟩ := e1
 have k1 := (hg.block b (blk_lt h1) (fun e => own_ne h1 h6 e.symm rfl)).trans h1
 refine ⟨Ak, ck, A', c', k1, h2.keep fun p hp => World.cell?_of_block (hg.block _ (Nat.lt_of_lt_of_le hp hF) (fun e => ?_)), Nat.le_trans hF hg.size, (hv.keepOwn fun g cs hq hk => (hg.block g (blk_lt hk) (fun e => ?_)).trans hk).rb' (by omega), h4, h5, ho⟩
 · have h8 := (h6.own e.symm).1
   omega
 · have h7 := (hv.own hq).1
   have h8 := hB g e.symm
   omega
theorem OW.blk {w : World} {base : Nat} {A : Option Addr} {c : Nat} {bs : List Nat} (h : OW w base A c bs) (h0 : 0 < bs.length) : ∃ g cs, A = some ⟨g, 0, none⟩ ∧ w.heap[g]? = some (.cells cs 5 (0, 0)) := by
 obtain ⟨⟨h1, h2⟩, h3⟩ := h
 rcases h2 with ⟨e, hn⟩ | ⟨g, cap, cur, e, hg, hb, h4⟩
 · injection e with e1 e2 e3
   omega
 · injection e with e1 e2 e3
   exact ⟨g, _, e1, hb⟩
set_option maxRecDepth 100000 in
set_option maxHeartbeats 8000000 in
theorem dbytes_own {b m : Nat} {k v : List Nat} {num : Int} (w : World) (hk : KW w) (hd : DR w b k v num) (hm : 0 < m) (hm2 : m ≤ 65536) (hn : 0 ≤ num) (hn2 : num < 1000000000) :
 Calls Tryz.prog 35 #[.pointer (some ⟨b, 0, none⟩), .int .i64 (m : Int)] w fun e w' => ∃ A c, e = .returned (.slice A m c) ∧ RB w' (In w.heap.size w'.heap.size) A c ((douts k v ((m + 31) / 32)).take m) ∧ DR w' b (upd2 k (dvs k v ((m + 31) / 32)) []).1 (upd2 k (dvs k v ((m + 31) / 32)) []).2 (num + 1) ∧ Fr b w.heap.size w w' ∧ ∃ g cs, A = some ⟨g, 0, none⟩ ∧ w'.heap[g]? = some (.cells cs 5 (0, 0)) := by
 have HB0 := Lib.hid hd.bl
 have HK := Lib.hid hk
 have HD := Lib.hid hd
 have m1 : ¬ (m : Int) < 1 := by omega
 have m2 : ¬ (65536 : Int) < (m : Int) := by omega
 clear hk hd
 go_enter Tryz.func35, Tryz.ntmps35
 go_wp2_with fail
 go_loopw [5] (fun sv wr => ∃ (q : Nat) (A : Option Addr) (c : Nat), sv = .slice A (douts k v q).length c ∧ 32 * q < m + 32 ∧ Hid (BL wr w.heap.size b k (dvs k v q) num A c (douts k v q)) ∧ Hid (Fr b w.heap.size w wr)) (fun sv _ => m + 32 - (match sv with | .slice _ l _ => l | _ => 0))
 case atStart => exact ⟨0, none, 0, rfl, by omega, HB0, Lib.hid (Fr.refl _ _ _)⟩
 case round =>
  clear HB0
  obtain ⟨q, A, c, rfl, hq, HB, HF⟩ := hrel
  have hql := douts_len k v q
  obtain ⟨Av, cv, vc⟩ := HB.out.dr.vcell
  by_cases hlt : 32 * q < m
  · have hl1 : ((douts k v q).length : Int) < (m : Int) := by omega
    have HKr := Lib.hid (HK.out.dr HD.out HF.out (Nat.le_refl _))
    have H2 := Lib.hid (mac1 _ HKr.out HB.out.dr vc)
    have Hql := Lib.hid hql
    have fsz := HF.out.size
    clear hql HKr
    go_wp2_with fail
    refine H2.out.mono ?_
    rintro e w1 ⟨A1, c1, rfl, ho, hE⟩
    obtain ⟨v', hv'⟩ : ∃ x, hmac k (dvs k v q) = x := ⟨_, rfl⟩
    have hvl : v'.length = 32 := by rw [← hv']; exact hmac_len _ _
    rw [hv'] at ho
    obtain ⟨hb1, hv1, hc1, hown⟩ := HB.out.turn hE ho hvl
    have fr := (HB.out.dr.ext hE).free 1
    have vc1 := hE.cell vc
    have hf1 := (Fr.below hE (Nat.le_refl _)).trans (Fr.just ((Just.refl b w1).set 1 (.slice A1 32 c1)) hE.bsize)
    have HF1 := Lib.hid (HF.out.trans (hf1.mono fsz))
    have HB1 := Lib.hid hb1
    have HV1 := Lib.hid hv1
    have Hown := Lib.hid hown
    have Hvl := Lib.hid hvl
    have Hv' := Lib.hid hv'
    clear hb1 hv1 hown hvl hv' hf1 hE ho vc H2 HB HF
    go_upto_region 6 with fail
    obtain ⟨X1, hX1⟩ : ∃ X, w1.setCell ⟨b, 1, none⟩ (.slice A1 32 c1) = X := ⟨_, rfl⟩
    rw [hX1] at HF1 HB1 HV1 hc1 ⊢
    clear hX1 fr vc1
    have hO1 := Lib.hid HB1.out.ow
    have hP1 := Lib.hid (HV1.out.rb (by rw [Hvl.out]; omega))
    have hlen := Lib.hid (show (douts k v q).length + v'.length ≤ 100000000 by rw [Hvl.out, Hql.out]; omega)
    have hbase := Lib.hid HF1.out.size
    go_wp2_with (at_builtin; refine app8g rfl (.tmp 30) (.tmp 34) rfl w.heap.size rfl hO1.out (by rw [Hvl.out]; rfl) hP1.out hlen.out hbase.out ?_; intro A2 c2 W2 ho2 hg2; have HO2 := Lib.hid ho2; have HG2 := Lib.hid hg2; clear ho2 hg2)
    have e1 : douts k v q ++ v' = douts k v (q + 1) := by rw [douts, dvs, Hv'.out]
    have e2 : v' = dvs k v (q + 1) := by rw [dvs, Hv'.out]
    have hba := HB1.out.app HV1.out hc1 Hown.out HG2.out HO2.out
    rw [e1, e2] at hba
    have HBn := Lib.hid hba
    have HFn := Lib.hid (HF1.out.trans (Fr.below (b := b) (Below.grown (Below.refl w.heap.size X1) HG2.out hbase.out (own_base hO1.out.1)) (Nat.le_refl _)))
    have E1 := Lib.hid e1
    clear hba e1 e2
    go_roundw
    case rel => exact ⟨q + 1, A2, c2, by rw [← E1.out, List.length_append], by omega, HBn, HFn⟩
    case measure => simp only [Hql.out, Hvl.out]; omega
  · obtain ⟨M, hM⟩ : ∃ M, (m + 31) / 32 = M := ⟨_, rfl⟩
    obtain rfl : q = M := by omega
    have HM := Lib.hid hM
    have hl1 : ¬ ((douts k v q).length : Int) < (m : Int) := by omega
    have hkr := HK.out.dr HD.out HF.out (Nat.le_refl _)
    have H2 := Lib.hid (update_any (d := []) wr hkr HB.out.dr (RB.nil_ wr (fun _ => False)) (fun _ h => h.elim) (by simp))
    have Hql := Lib.hid hql
    have hrb := HB.out.ow.rb (by omega)
    obtain ⟨g, cs, eA, hgc⟩ := HB.out.ow.blk (by omega)
    have HG := Lib.hid hgc
    have HA := Lib.hid eA
    have fsz := HF.out.size
    have HDB := Lib.hid HB.out.dr
    clear hql hkr hM vc hgc eA
    go_wp2_with fail
    refine H2.out.mono ?_
    rintro e w1 ⟨rfl, hd1, hf1⟩
    have hR1 := Lib.hid (hrb.dr (fun _ hk => hk.2) HB.out.dr hf1)
    have HF1 := Lib.hid (HF.out.trans (hf1.mono fsz))
    obtain ⟨Ak, ck, Av', cv', h1, _⟩ := id hd1
    have nc := blk_cell h1 2
    simp only [List.getElem?_toArray, List.getElem?_cons_zero, List.getElem?_cons_succ] at nc
    have fr := hd1.free 2
    have hd2 := hd1.setN (num + 1)
    have hf2 := HF1.out.trans ((Fr.just (b := b) ((Just.refl b w1).set 2 (.int .i64 (num + 1))) (Nat.le_refl _)).mono HF1.out.size)
    have hR2 := hR1.out.dr (fun _ hk => Nat.lt_of_lt_of_le hk.2 hf1.size) hd1 (Fr.just (b := b) ((Just.refl b w1).set 2 (.int .i64 (num + 1))) (Nat.le_refl _))
    have hgb : g ≠ b := by
     obtain ⟨_, _, _, _, hb0, _⟩ := HDB.out
     intro e
     have hx := HG.out
     rw [e, hb0] at hx
     injection Option.some.inj hx with _ e2
     exact absurd e2 (by decide)
    have HG2 := Lib.hid (((Just.refl b w1).set 2 (.int .i64 (num + 1))).at_ hgb (hf1.at_ (blk_lt HG.out) hgb HG.out))
    have HD2 := Lib.hid hd2
    have HF2 := Lib.hid hf2
    have HR2 := Lib.hid hR2
    have hc := hrb.cap
    have b1 : (0 : Int) ≤ (m : Int) := by omega
    have b2 : (m : Int) ≤ (c : Int) := by have := Hql.out; omega
    have hwz := IntWalk.i64_in (num + 1) (by omega)
    have fz2 : wr.heap.size ≤ (w1.setCell ⟨b, 2, none⟩ (.int .i64 (num + 1))).heap.size := by simpa [World.setCell] using hf1.size
    clear hd1 hf1 hd2 hf2 hR2 h1 hrb H2 HB HF hR1 HF1 hgb HG HDB
    go_upto_region 9 with fail
    go_wp2_with fail
    go_ret
    rw [HM.out]
    have hsl := HR2.out.mid' (k := 0) (m := m) (c' := m) (by omega) (by have := Hql.out; omega) (by omega) (by unfold maxLen; omega) (A' := A) (fun _ => by cases A <;> simp [Addr.add])
    rw [List.drop_zero, Nat.sub_zero] at hsl
    exact ⟨A, m, rfl, hsl.mono fun g hg => ⟨hg.1, Nat.lt_of_lt_of_le hg.2 fz2⟩, HD2.out, HF2.out, g, _, HA.out, HG2.out⟩
end Go.Proofs.YtlaphnlolgokiaaGreatDoor

namespace Go.Proofs.YtlaphnlolgokiaaGreatDoor

theorem up_parts {x k : Nat} (hx : x < 18446744073709551616) (hk : k < 64) : ∃ hi lo t, x / 2 ^ (64 - k) = hi ∧ x * 2 ^ k % 18446744073709551616 = lo ∧ lo + 18446744073709551616 * hi = x * 2 ^ k ∧ lo = t * 2 ^ k ∧ lo + 2 ^ k ≤ 18446744073709551616 ∧ hi < 2 ^ k := by
 have e64 : (18446744073709551616 : Nat) = 2 ^ k * 2 ^ (64 - k) := by rw [← Nat.pow_add, show k + (64 - k) = 64 by omega]
 have hpos : 0 < 2 ^ k := Nat.pow_pos (by omega)
 have h1 : x * 2 ^ k / 18446744073709551616 = x / 2 ^ (64 - k) := by rw [e64, Nat.mul_comm x, Nat.mul_div_mul_left _ _ hpos]
 have h2 : x * 2 ^ k % 18446744073709551616 = (x % 2 ^ (64 - k)) * 2 ^ k := by
  rw [e64, Nat.mul_comm x, Nat.mul_mod_mul_left, Nat.mul_comm]
 have h3 := Nat.div_add_mod (x * 2 ^ k) 18446744073709551616
 refine ⟨_, _, _, rfl, rfl, by rw [← h1]; omega, h2, ?_, ?_⟩
 · have h4 : x % 2 ^ (64 - k) + 1 ≤ 2 ^ (64 - k) := Nat.mod_lt _ (Nat.pow_pos (by omega))
   have h5 : (x % 2 ^ (64 - k) + 1) * 2 ^ k ≤ 2 ^ (64 - k) * 2 ^ k := Nat.mul_le_mul_right _ h4
   rw [Nat.add_mul, Nat.one_mul, Nat.mul_comm (2 ^ (64 - k)), ← e64, ← h2] at h5
   exact h5
 · apply Nat.div_lt_of_lt_mul
   rw [Nat.mul_comm, ← e64]; exact hx
def ShlAt (l o : List Nat) (w k i : Nat) : Prop := val 18446744073709551616 o = 2 ^ (64 * w + k) * val 18446744073709551616 (l.take i) ∧ (∀ j, i + w < j → dg o j = 0) ∧ dg o (i + w) < 2 ^ k
theorem dg_replicate (n j : Nat) : dg (List.replicate n 0) j = 0 := by
 rw [dg, List.getD_eq_getElem?_getD, List.getElem?_replicate]
 split <;> rfl
theorem ShlAt.zero (l : List Nat) (w k n : Nat) : ShlAt l (List.replicate n 0) w k 0 := by
 refine ⟨by rw [val_replicate]; simp, fun j _ => dg_replicate n j, by rw [dg_replicate]; exact Nat.pow_pos (by omega)⟩
theorem ShlAt.step {l o : List Nat} {w k i hi lo : Nat} (h : ShlAt l o w k i) (ho : i + w + 1 < o.length) (he : lo + 18446744073709551616 * hi = dg l i * 2 ^ k) (hh : hi < 2 ^ k) : ShlAt l ((o.set (i + w) (dg o (i + w) + lo)).set (i + w + 1) hi) w k (i + 1) := by
 obtain ⟨h1, h2, h3⟩ := h
 refine ⟨?_, fun j hj => by rw [getD_set_ne (by omega), getD_set_ne (by omega)]; exact h2 j (by omega), by rw [show i + 1 + w = i + w + 1 by omega, getD_set_eq (by simp; omega)]; exact hh⟩
 have s1 := val_set' 18446744073709551616 (show i + w < o.length by omega) (dg o (i + w) + lo)
 have s2 := val_set' 18446744073709551616 (l := o.set (i + w) (dg o (i + w) + lo)) (n := i + w + 1) (by simp; omega) hi
 rw [getD_set_ne (by omega : i + w ≠ i + w + 1), h2 (i + w + 1) (by omega)] at s2
 rw [val_take_getD, Nat.mul_add, ← h1]
 have e : 2 ^ (64 * w + k) * (18446744073709551616 ^ i * dg l i) = 18446744073709551616 ^ (i + w) * (dg l i * 2 ^ k) := by
  rw [Nat.pow_add, Nat.pow_mul, show (2 : Nat) ^ 64 = 18446744073709551616 by decide, Nat.pow_add]
  generalize 18446744073709551616 ^ w = a
  generalize 18446744073709551616 ^ i = b
  generalize 2 ^ k = c
  generalize dg l i = d
  rw [Nat.mul_comm b d, ← Nat.mul_assoc, Nat.mul_comm _ b, Nat.mul_assoc a, Nat.mul_comm c d, ← Nat.mul_assoc b a]
 rw [e, ← he, Nat.mul_add, ← Nat.mul_assoc, ← Nat.pow_succ]
 rw [Nat.mul_add] at s1
 generalize 18446744073709551616 ^ (i + w + 1) * hi = q1 at *
 generalize 18446744073709551616 ^ (i + w) * lo = q2 at *
 generalize 18446744073709551616 ^ (i + w) * dg o (i + w) = q3 at *
 generalize val 18446744073709551616 (o.set (i + w) (dg o (i + w) + lo)) = q4 at *
 generalize val 18446744073709551616 ((o.set (i + w) (dg o (i + w) + lo)).set (i + w + 1) hi) = q5 at *
 generalize val 18446744073709551616 o = q6 at *
 omega
theorem ShlAt.fin {l o : List Nat} {w k : Nat} (h : ShlAt l o w k l.length) : val 18446744073709551616 o = val 18446744073709551616 l * 2 ^ (64 * w + k) := by
 have := h.1
 rwa [List.take_length, Nat.mul_comm] at this
theorem shr_digit {x k : Nat} {l : List Nat} (hk : k < 64) (i w : Nat) (hx : dg l (i + w + 1) = x) (hl : ∀ y ∈ l, y < 18446744073709551616) :
    ∃ t, x * 2 ^ (64 - k) % 18446744073709551616 = t * 2 ^ (64 - k) ∧ dg l (i + w) / 2 ^ k < 2 ^ (64 - k) ∧ dg l (i + w) / 2 ^ k + t * 2 ^ (64 - k) < 18446744073709551616 ∧
      val 18446744073709551616 l / 2 ^ (64 * (i + w) + k) % 18446744073709551616 = dg l (i + w) / 2 ^ k + t * 2 ^ (64 - k) := by
  have e64 : (18446744073709551616 : Nat) = 2 ^ k * 2 ^ (64 - k) := by rw [← Nat.pow_add, show k + (64 - k) = 64 by omega]
  have hpos : 0 < 2 ^ (64 - k) := Nat.pow_pos (by omega)
  have hd : dg l (i + w) < 18446744073709551616 := getD_lt (by omega) hl _
  have h1 : dg l (i + w) / 2 ^ k < 2 ^ (64 - k) := Nat.div_lt_of_lt_mul (by rw [← e64]; exact hd)
  have h2 : x * 2 ^ (64 - k) % 18446744073709551616 = (x % 2 ^ k) * 2 ^ (64 - k) := by
    rw [e64, Nat.mul_mod_mul_right]
  have h4 : (x % 2 ^ k + 1) * 2 ^ (64 - k) ≤ 2 ^ k * 2 ^ (64 - k) := Nat.mul_le_mul_right _ (Nat.mod_lt _ (Nat.pow_pos (by omega)))
  rw [← e64, Nat.add_mul, Nat.one_mul] at h4
  refine ⟨x % 2 ^ k, h2, h1, by omega, ?_⟩
  have hv : val 18446744073709551616 l / 2 ^ (64 * (i + w) + k) = dg l (i + w) / 2 ^ k + 2 ^ (64 - k) * (x + 18446744073709551616 * val 18446744073709551616 (l.drop (i + w + 2))) := by
    have hs := val_shift (m := 64) l hl (i + w) k (by omega)
    have h6 : val 18446744073709551616 l = val 18446744073709551616 (l.take (i + w)) + 18446744073709551616 ^ (i + w) * (dg l (i + w) + 18446744073709551616 * (x + 18446744073709551616 * val 18446744073709551616 (l.drop (i + w + 2)))) := by
      have dgdrop : ∀ j, val 18446744073709551616 (l.drop j) = dg l j + 18446744073709551616 * val 18446744073709551616 (l.drop (j + 1)) := fun j => by
        rcases Nat.lt_or_ge j l.length with h | h
        · rw [List.drop_eq_getElem_cons h, val_cons, dg, getD_eq' h]
        · rw [List.drop_eq_nil_of_le h, List.drop_eq_nil_of_le (by omega), dg, List.getD_eq_getElem?_getD, List.getElem?_eq_none h]
          simp
      rw [← hx, ← dgdrop (i + w + 1), ← dgdrop (i + w)]
      rcases Nat.lt_or_ge l.length (i + w) with h | h
      · rw [List.take_of_length_le (by omega), List.drop_eq_nil_of_le (by omega)]; simp
      · exact val_take_drop _ _ h
    have h7 : val 18446744073709551616 (l.take (i + w)) < 18446744073709551616 ^ (i + w) := by
      refine Nat.lt_of_lt_of_le (val_lt fun y hy => hl y (List.mem_of_mem_take hy)) (Nat.pow_le_pow_right (by omega) ?_)
      rw [List.length_take]; omega
    rw [Nat.pow_add, Nat.pow_mul, show (2 : Nat) ^ 64 = 18446744073709551616 by decide, ← Nat.div_div_eq_div_mul, h6, Nat.add_mul_div_left _ _ (Nat.pow_pos (by omega)), Nat.div_eq_of_lt h7, Nat.zero_add]
    generalize x + 18446744073709551616 * val 18446744073709551616 (l.drop (i + w + 2)) = v
    have : dg l (i + w) + 18446744073709551616 * v = dg l (i + w) + 2 ^ k * (2 ^ (64 - k) * v) := by rw [← Nat.mul_assoc, ← e64]
    rw [this, Nat.add_mul_div_left _ _ (Nat.pow_pos (by omega))]
  rw [hv, Nat.mul_add, ← Nat.add_assoc]
  have h8 : 2 ^ (64 - k) * (18446744073709551616 * val 18446744073709551616 (l.drop (i + w + 2))) = 18446744073709551616 * (2 ^ (64 - k) * val 18446744073709551616 (l.drop (i + w + 2))) := Nat.mul_left_comm _ _ _
  rw [h8, Nat.add_mul_mod_self_left]
  have h9 : x * 2 ^ (64 - k) = 18446744073709551616 * (x * 2 ^ (64 - k) / 18446744073709551616) + (x % 2 ^ k) * 2 ^ (64 - k) := by
    have := Nat.div_add_mod (x * 2 ^ (64 - k)) 18446744073709551616
    rw [h2] at this; omega
  rw [Nat.mul_comm (2 ^ (64 - k)) x, h9, Nat.add_comm (18446744073709551616 * _), ← Nat.add_assoc, Nat.add_mul_mod_self_left]
  exact Nat.mod_eq_of_lt (by omega)
def ShrAt (l o : List Nat) (w k i : Nat) : Prop := ∀ j, j < i → dg o j = val 18446744073709551616 l / 2 ^ (64 * (j + w) + k) % 18446744073709551616
theorem digit_of_val {B : Nat} {o : List Nat} (x : Nat) (hd : ∀ j, j < o.length → dg o j = x / B ^ j % B) (hx : x < B ^ o.length) : val B o = x := by
  have : ∀ i, i ≤ o.length → val B (o.take i) = x % B ^ i := by
    intro i
    induction i with
    | zero => intro _; simp [Nat.mod_one]
    | succ i ih =>
      intro hi
      rw [val_take_getD, ih (by omega), hd i (by omega), Nat.pow_succ, Nat.mod_mul]
  have h := this o.length (Nat.le_refl _)
  rw [List.take_length, Nat.mod_eq_of_lt hx] at h
  exact h
theorem ShrAt.fin {l o : List Nat} {w k : Nat} (h : ShrAt l o w k o.length) (hl : ∀ x ∈ l, x < 18446744073709551616) (hn : l.length = o.length + w) : val 18446744073709551616 o = val 18446744073709551616 l / 2 ^ (64 * w + k) := by
 apply digit_of_val
 · intro j hj
   rw [h j hj, Nat.div_div_eq_div_mul]
   congr 2
   rw [show (18446744073709551616 : Nat) = 2 ^ 64 by decide, ← Nat.pow_mul, ← Nat.pow_add]
   congr 1
   omega
 · apply Nat.div_lt_of_lt_mul
   have h1 := val_lt hl
   rw [hn, Nat.pow_add] at h1
   rw [Nat.pow_add, Nat.pow_mul, show (2 : Nat) ^ 64 = 18446744073709551616 by decide]
   have h2 : 18446744073709551616 ^ o.length * 18446744073709551616 ^ w * 1 ≤ 18446744073709551616 ^ o.length * 18446744073709551616 ^ w * 2 ^ k := Nat.mul_le_mul_left _ (Nat.pow_pos (by omega))
   have h3 : 18446744073709551616 ^ w * 2 ^ k * 18446744073709551616 ^ o.length = 18446744073709551616 ^ o.length * 18446744073709551616 ^ w * 2 ^ k := by
    rw [Nat.mul_comm, Nat.mul_assoc]
   rw [h3]
   omega
end Go.Proofs.YtlaphnlolgokiaaGreatDoor

namespace Go.Proofs.YtlaphnlolgokiaaGreatDoor
open Go.RowKit

set_option maxRecDepth 100000 in
set_option maxHeartbeats 2000000 in
theorem shl_yes (P : Nat → Prop) (A : Option Addr) (c : Nat) (a : List Nat) (n : Nat) (w : World) (h : RN w P A c a) (hP : ∀ b, P b → b < w.heap.size) (hl : a.length < 100000) (hn : n ≤ 65536) (hv : 0 < val 18446744073709551616 a) :
 Calls Tryz.prog 74 #[.slice A a.length c, .int .i64 (n : Int)] w fun e w' => ∃ A1 c1, e = .returned (.slice A1 (digs 18446744073709551616 (val 18446744073709551616 a * 2 ^ n)).length c1) ∧
  OB w' w.heap.size A1 c1 (digs 18446744073709551616 (val 18446744073709551616 a * 2 ^ n)) ∧ c1 ≤ a.length + n / 64 + 1 ∧ (∃ o, A1 = some ⟨w.heap.size, 0, none⟩ ∧ Blk w' w.heap.size o ∧ o.length = c1 ∧ digs 18446744073709551616 (val 18446744073709551616 a * 2 ^ n) = o.take (digs 18446744073709551616 (val 18446744073709551616 a * 2 ^ n)).length) ∧ Below w.heap.size w w' := by
 have ta := Lib.hid (trim_any P A c a w h)
 have la := digs_length_le (B := 18446744073709551616) (by omega) h.2.1
 replace h := h.trim
 have hne : 0 < (digs 18446744073709551616 (val 18446744073709551616 a)).length := by rw [digs_pos (by omega) hv]; simp
 generalize val 18446744073709551616 a = x at *
 have hx := val_digs (B := 18446744073709551616) (by omega) x
 generalize digs 18446744073709551616 x = l at *
 have la' : l.length < 100000 := by omega
 have Hla := Lib.hid la
 have Hx := Lib.hid hx
 clear hl hx hv la
 obtain ⟨h1, h2, h3⟩ := h.cap
 obtain ⟨s, k, hk, hnk⟩ : ∃ s k, k < 64 ∧ n = 64 * s + k := ⟨n / 64, n % 64, by omega, by omega⟩
 have e1 : (n : Int) / 64 = (s : Int) := by omega
 have e2 : (n : Int) % 64 = (k : Int) := by omega
 have hs : s ≤ 1024 := by omega
 have hne' : ((l.length : Int) == 0) = false := eqB (by omega)
 have hmk := run_make_row' (P := Tryz.prog) 23 34 (.int .u64 0) 8 Tryz.underlying23 info64 rfl .i64 .i64 (l.length + s + 1) (by omega) (by omega)
 simp only [Int.natCast_add, Int.cast_ofNat_Int] at hmk
 have hk1 : (k : Int) < 64 := by omega
 have Hnk := Lib.hid hnk
 clear hne hnk
 go_enter Tryz.func74, Tryz.ntmps74
 go_wp2_with fail
 refine ta.out.mono ?_
 rintro e w1 ⟨rfl, rfl⟩
 go_wp2
 go_loopw [36] (fun iv wr => ∃ (i : Nat) (o : List Nat), iv = .int .i64 (i : Int) ∧ i ≤ l.length ∧ ShlAt l o s k i ∧ Hid (o.length = l.length + s + 1) ∧ Lim o ∧ Blk wr w.heap.size o ∧ Below w.heap.size w wr) (fun iv _ => l.length - (intOf iv).toNat)
 case atStart => exact ⟨0, List.replicate (l.length + s + 1) 0, rfl, by omega, ShlAt.zero _ _ _ _, Lib.hid (by simp), ⟨by simp, by simp; omega⟩, Blk.made w _, (Below.refl _ w).alloc (Nat.le_refl _) _⟩
 case round =>
  obtain ⟨i, o, rfl, hi, hS, Ho, hLo, hblk, hB⟩ := hrel
  by_cases hlt : i < l.length
  · obtain ⟨ad, rfl, had, q1⟩ := (h.below hB hP).at_ hlt
    have hol := Ho.out
    obtain ⟨hi', lo, t, p1, p2, p3, p4, p5, p6⟩ := up_parts (h.2.dgLt i) hk
    have hS' := hS.step (by omega) p3 p6
    obtain ⟨y, hy⟩ : ∃ y, dg o (i + s) + lo = y := ⟨_, rfl⟩
    rw [hy] at hS'
    have hyl : y < 18446744073709551616 := by have := hS.2.2; omega
    have hhl : hi' < 18446744073709551616 := by
     have : 2 ^ k ≤ 2 ^ 63 := Nat.pow_le_pow_right (by omega) (by omega)
     omega
    have f1 : IntKind.u64.wrap ((dg l i : Int) * 2 ^ k) = (lo : Int) := by
     rw [← p2]
     simp [IntKind.wrap, IntKind.bits, IntKind.signed]
    have f2 : bits .or .u64 (dg o (i + s) : Int) (lo : Int) = (y : Int) := by
     rw [bits_or_u64_nat _ _ (hLo.dgLt _) (by omega), Nat.or_comm, p4, or_shift _ _ _ hS.2.2, ← p4, ← hy, Nat.add_comm]
    have f3 : (dg l i : Int) / 2 ^ (64 - k) = (hi' : Int) := by rw [← p1]; simp
    have q3 := hblk.cell (i := i + s) (by omega)
    have q4 := hblk.free (i + s)
    have hblk1 := hblk.set (i + s) y
    have q5 := hblk1.cell (i := i + s + 1) (by simp; omega)
    have q6 := hblk1.free (i + s + 1)
    have hblk2 := hblk1.set (i + s + 1) hi'
    have hLo' := (hLo.set (i + s) y hyl).set (i + s + 1) hi' hhl
    have hB2 := (hB.setCell (p := ⟨w.heap.size, i + s, none⟩) (Nat.le_refl _) (.int .u64 (y : Int))).setCell (p := ⟨w.heap.size, i + s + 1, none⟩) (Nat.le_refl _) (.int .u64 (hi' : Int))
    have Ho' : Hid (((o.set (i + s) y).set (i + s + 1) hi').length = l.length + s + 1) := Lib.hid (by simpa using Ho.out)
    have k1 : (i : Int) + (s : Int) + 1 < (l.length : Int) + (s : Int) + 1 := by omega
    clear hS hLo hblk hB hblk1 hol p1 p2 p3 p4 p5 p6 hyl hhl hy
    go_wp2
    go_roundw
    case rel => exact ⟨i + 1, (o.set (i + s) y).set (i + s + 1) hi', by go_num, by omega, hS', Ho', hLo', hblk2, hB2⟩
    case measure => simp [intOf]; omega
  · obtain rfl : i = l.length := by omega
    have hfin := hS.fin
    rw [Hx.out, ← Hnk.out] at hfin
    have hOB : OB wr w.heap.size (some ⟨w.heap.size, 0, none⟩) (l.length + s + 1) o := OB.of_blk hblk (Nat.le_refl _) hLo (by have := Ho.out; omega) (by unfold maxLen; omega)
    have ht := trim_any _ _ _ _ _ hOB.rn
    have hOB' := hOB.trim
    have hpre : digs 18446744073709551616 (val 18446744073709551616 o) = o.take (digs 18446744073709551616 (val 18446744073709551616 o)).length := by
     obtain ⟨n, hn, e⟩ := hLo.trim
     rw [e, List.length_take, Nat.min_eq_left hn]
    rw [hfin, Ho.out] at ht
    rw [hfin] at hOB' hpre
    have Hpre := Lib.hid hpre
    have Hblk := Lib.hid hblk
    have Ht := Lib.hid ht
    have hcc : Hid (l.length + s + 1 ≤ a.length + n / 64 + 1) := Lib.hid (by have := Hla.out; have := Hnk.out; omega)
    clear hblk hLo ht hfin hOB hS hpre
    go_wp2_with fail
    refine Ht.out.mono ?_
    rintro e w1 ⟨rfl, rfl⟩
    go_wp2
    go_ret
    exact ⟨_, _, rfl, hOB', hcc.out, ⟨o, rfl, Hblk.out, Ho.out, Hpre.out⟩, hB⟩

set_option maxRecDepth 100000 in
set_option maxHeartbeats 2000000 in
theorem shr_any (P : Nat → Prop) (A : Option Addr) (c : Nat) (a : List Nat) (n : Nat) (w : World) (h : RN w P A c a) (hP : ∀ b, P b → b < w.heap.size) (hl : a.length < 100000) (hn : n ≤ 9223372036854775807) :
 Calls Tryz.prog 68 #[.slice A a.length c, .int .i64 (n : Int)] w fun e w' => ∃ A1 c1, e = .returned (.slice A1 (digs 18446744073709551616 (val 18446744073709551616 a / 2 ^ n)).length c1) ∧
  OB w' w.heap.size A1 c1 (digs 18446744073709551616 (val 18446744073709551616 a / 2 ^ n)) ∧ Below w.heap.size w w' := by
 have ta := Lib.hid (trim_any P A c a w h)
 have la := digs_length_le (B := 18446744073709551616) (by omega) h.2.1
 replace h := h.trim
 generalize val 18446744073709551616 a = x at *
 have hx := val_digs (B := 18446744073709551616) (by omega) x
 generalize digs 18446744073709551616 x = l at *
 have la' : l.length < 100000 := by omega
 have Hx := Lib.hid hx
 obtain ⟨h1, h2, h3⟩ := h.cap
 obtain ⟨s, k, hk, hnk⟩ : ∃ s k, k < 64 ∧ n = 64 * s + k := ⟨n / 64, n % 64, by omega, by omega⟩
 have e1 : (n : Int) / 64 = (s : Int) := by omega
 have e2 : (n : Int) % 64 = (k : Int) := by omega
 have e4 : IntKind.i64.wrap ((n : Int) / 64) = (s : Int) := by rw [e1]; exact IntWalk.i64_in _ (by omega)
 have hsb : (s : Int) ≤ 144115188075855871 := by omega
 by_cases hs : s < l.length
 · obtain ⟨m, hm⟩ : ∃ m, l.length = m + s := ⟨l.length - s, by omega⟩
   have em : (l.length : Int) - (s : Int) = (m : Int) := by omega
   have hmk := run_make_row' (P := Tryz.prog) 23 34 (.int .u64 0) 8 Tryz.underlying23 info64 rfl .i64 .i64 m (by omega) (by omega)
   have hk1 : (k : Int) < 64 := by omega
   have hs' : (s : Int) < (l.length : Int) := by omega
   have hs2 : ¬ (l.length : Int) ≤ (s : Int) := by omega
   have Hnk := Lib.hid hnk
   have Hm := Lib.hid hm
   have hmb : m ≤ 100000 := by omega
   clear hl hx la hnk hn hm hsb hs
   go_enter Tryz.func68, Tryz.ntmps68
   go_wp2_with fail
   refine ta.out.mono ?_
   rintro e w1 ⟨rfl, rfl⟩
   go_wp2
   go_loopw [32] (fun iv wr => ∃ (i : Nat) (o : List Nat), iv = .int .i64 (i : Int) ∧ i ≤ m ∧ ShrAt l o s k i ∧ Hid (o.length = m) ∧ Lim o ∧ Blk wr w.heap.size o ∧ Below w.heap.size w wr) (fun iv _ => m - (intOf iv).toNat)
   case atStart => exact ⟨0, List.replicate m 0, rfl, by omega, fun j hj => by omega, Lib.hid (by simp), ⟨by simp, by simp; omega⟩, Blk.made w _, (Below.refl _ w).alloc (Nat.le_refl _) _⟩
   case round =>
    obtain ⟨i, o, rfl, hi, hS, Ho, hLo, hblk, hB⟩ := hrel
    have hol := Ho.out
    have hml := Hm.out
    by_cases hlt : i < m
    · obtain ⟨ad, rfl, had, q1⟩ := (h.below hB hP).at_ (i := i + s) (by omega)
      obtain ⟨t, p1, p2, p3, p4⟩ := shr_digit hk i s rfl h.2.1
      obtain ⟨z, hz⟩ : ∃ z, t * 2 ^ (64 - k) = z := ⟨_, rfl⟩
      obtain ⟨y1, hy1⟩ : ∃ y1, dg l (i + s) / 2 ^ k = y1 := ⟨_, rfl⟩
      obtain ⟨y, hy⟩ : ∃ y, y1 + z = y := ⟨_, rfl⟩
      have hor : (y1 ||| z) = y := by rw [Nat.or_comm, ← hz, or_shift _ _ _ (by rw [← hy1]; exact p2), hz, ← hy, Nat.add_comm]
      rw [hz] at p1 p3 p4
      rw [hy1] at p2 p3 p4
      rw [hy] at p3 p4
      have f1 : (dg l (i + s) : Int) / 2 ^ k = (y1 : Int) := by rw [← hy1]; simp
      have hS' : ShrAt l (o.set i y) s k (i + 1) := fun j hj => by
       rcases Nat.lt_or_ge j i with h | h
       · rw [getD_set_ne (by omega)]; exact hS j h
       · obtain rfl : j = i := by omega
         rw [getD_set_eq (by omega)]; exact p4.symm
      have q3 := hblk.cell (i := i) (by omega)
      have q4 := hblk.free i
      have hblk1 := hblk.set i y1
      have hy1l : y1 < 18446744073709551616 := by omega
      have k1 : (i : Int) + (s : Int) < (l.length : Int) := by omega
      by_cases h2 : i + s + 1 < l.length
      · have hB1 := hB.setCell (p := ⟨w.heap.size, i, none⟩) (Nat.le_refl _) (.int .u64 (y1 : Int))
        have q2 := (h.below hB1 hP).cells (i + s + 1) h2
        rw [add_succ] at q2
        have f2 : IntKind.u64.wrap ((dg l (i + s + 1) : Int) * 2 ^ (64 - k)) = (z : Int) := by
         rw [← p1]
         simp [IntKind.wrap, IntKind.bits, IntKind.signed]
        have hzl : z < 18446744073709551616 := by omega
        have f3 : bits .or .u64 (y1 : Int) (z : Int) = (y : Int) := by rw [bits_or_u64_nat _ _ hy1l hzl, hor]
        have q5 := hblk1.cell (i := i) (by simp; omega)
        rw [getD_set_eq (by omega)] at q5
        have q6 := hblk1.free i
        have hblk2 := hblk1.set i y
        rw [List.set_set] at hblk2
        have hLo' := hLo.set i y p3
        have hB2 := hB1.setCell (p := ⟨w.heap.size, i, none⟩) (Nat.le_refl _) (.int .u64 (y : Int))
        have Ho' : Hid ((o.set i y).length = m) := Lib.hid (by simpa using Ho.out)
        have k2 : (i : Int) + (s : Int) + 1 < (l.length : Int) := by omega
        clear hS hLo hblk hB hblk1 hol p1 p2 p3 p4 hz hy1 hy hor hy1l hzl hml hB1
        go_wp2
        go_region
        all_goals
         go_wp2
         go_roundw
         case rel => exact ⟨i + 1, o.set i y, by go_num, by omega, hS', Ho', hLo', hblk2, below_drewN hB2 1⟩
         case measure => simp [intOf]; omega
      · have hzz : z = 0 := by
         rw [dg_none (by omega : l.length ≤ i + s + 1), Nat.zero_mul, Nat.zero_mod] at p1
         exact p1.symm
        have hyy : y1 = y := by omega
        subst hyy
        have hLo' := hLo.set i y1 p3
        have hB2 := hB.setCell (p := ⟨w.heap.size, i, none⟩) (Nat.le_refl _) (.int .u64 (y1 : Int))
        have Ho' : Hid ((o.set i y1).length = m) := Lib.hid (by simpa using Ho.out)
        have k2 : ¬ (i : Int) + (s : Int) + 1 < (l.length : Int) := by omega
        clear hS hLo hblk hB hol p1 p2 p3 p4 hz hy1 hy hor hy1l hml hzz
        go_wp2
        go_roundw
        case rel => exact ⟨i + 1, o.set i y1, by go_num, by omega, hS', Ho', hLo', hblk1, hB2⟩
        case measure => simp [intOf]; omega
    · obtain rfl : i = m := by omega
      have hfin := ShrAt.fin (by rw [hol]; exact hS) h.2.1 (by rw [hol]; exact hml)
      rw [Hx.out, ← Hnk.out] at hfin
      have hOB : OB wr w.heap.size (some ⟨w.heap.size, 0, none⟩) i o := OB.of_blk hblk (Nat.le_refl _) hLo (by omega) (by unfold maxLen; omega)
      have ht := trim_any _ _ _ _ _ hOB.rn
      have hOB' := hOB.trim
      rw [hfin, hol] at ht
      rw [hfin] at hOB'
      have Ht := Lib.hid ht
      clear hblk hLo ht hfin hOB hS hol hml
      go_wp2_with fail
      refine Ht.out.mono ?_
      rintro e w1 ⟨rfl, rfl⟩
      go_wp2
      go_ret
      exact ⟨_, _, rfl, hOB', hB⟩
 · have hz : x / 2 ^ n = 0 := by
    apply Nat.div_eq_of_lt
    have h4 := val_lt h.2.1
    rw [hx] at h4
    refine Nat.lt_of_lt_of_le h4 ?_
    rw [show (18446744073709551616 : Nat) = 2 ^ 64 by decide, ← Nat.pow_mul]
    exact Nat.pow_le_pow_right (by omega) (by omega)
   rw [hz, digs_zero]
   have hs' : ¬ (s : Int) < (l.length : Int) := by omega
   have hs2 : (l.length : Int) ≤ (s : Int) := by omega
   clear hl hx la hnk hn hz hs
   go_enter Tryz.func68, Tryz.ntmps68
   go_wp2_with fail
   refine ta.out.mono ?_
   rintro e w1 ⟨rfl, rfl⟩
   go_wp2
   go_ret
   exact ⟨none, 0, rfl, OB.nil_ _ _, Below.refl _ _⟩
end Go.Proofs.YtlaphnlolgokiaaGreatDoor

namespace Go.Proofs.YtlaphnlolgokiaaGreatDoor
open Go.RowKit

theorem own_of_blk {w : World} {base g n c : Nat} {o l : List Nat} (h : Blk w g o) (hg : base ≤ g) (hc : o.length = c) (hc' : c ≤ maxLen) (hn : n ≤ c) (hl : l = o.take n) (hlen : l.length = n) :
 w.ownsRow base 34 1 (.slice (some ⟨g, 0, none⟩) n c) n (nts l) :=
 ⟨by simp [nts, hlen], .inr ⟨g, c, (nts o).toArray, rfl, hg, h, hn, hc', by simp [nts, hc], by simp [nts, hl]⟩⟩
theorem quo_setup {y : Nat} (hy : 18446744073709551616 ≤ y) : ∃ n2 s top, (digs 18446744073709551616 y).length = n2 + 2 ∧ dg (digs 18446744073709551616 y) (n2 + 1) = top ∧ top < 18446744073709551616 ∧ s < 64 ∧ Lib.bitLen top = 64 - s ∧
 (digs 18446744073709551616 (y * 2 ^ s)).length = n2 + 2 ∧ 18446744073709551616 ≤ 2 * dg (digs 18446744073709551616 (y * 2 ^ s)) (n2 + 1) ∧ 18446744073709551616 ^ (n2 + 2) ≤ 2 * (y * 2 ^ s) := by
 have hB : (2 : Nat) ≤ 18446744073709551616 := by omega
 have hlt := digs_lt hB y
 have hl : 1 < (digs 18446744073709551616 y).length := by
  rcases Nat.lt_or_ge 1 (digs 18446744073709551616 y).length with h | h
  · exact h
  · have h1 := lt_pow_digs hB y
    have h2 : 18446744073709551616 ^ (digs 18446744073709551616 y).length ≤ 18446744073709551616 ^ 1 := Nat.pow_le_pow_right (by omega) h
    omega
 obtain ⟨n2, hn⟩ : ∃ n2, (digs 18446744073709551616 y).length = n2 + 2 := ⟨(digs 18446744073709551616 y).length - 2, by omega⟩
 obtain ⟨top, ht⟩ : ∃ top, dg (digs 18446744073709551616 y) (n2 + 1) = top := ⟨_, rfl⟩
 have htl : top < 18446744073709551616 := by rw [← ht]; exact getD_lt (by omega) hlt _
 have h0 : top ≠ 0 := by
  rintro rfl
  have h1 := pow_digs_le hB (v := y) (by omega)
  rw [hn] at h1
  have h2 : y = val 18446744073709551616 ((digs 18446744073709551616 y).take (n2 + 1)) := by
   have := val_take_getD 18446744073709551616 (digs 18446744073709551616 y) (n2 + 1)
   rw [ht, Nat.mul_zero, Nat.add_zero, ← hn, List.take_length, val_digs hB] at this
   exact this
  have h3 := val_lt (B := 18446744073709551616) (l := (digs 18446744073709551616 y).take (n2 + 1)) fun x hx => hlt x (List.mem_of_mem_take hx)
  rw [← h2, List.length_take, Nat.min_eq_left (by omega)] at h3
  exact absurd h3 (Nat.not_lt.2 h1)
 obtain ⟨s, hs, hbl, g1, g2⟩ := shift_of h0 htl
 have e64 : (18446744073709551616 : Nat) = 2 ^ (64 - s) * 2 ^ s := by rw [← Nat.pow_add, show 64 - s + s = 64 by omega]
 obtain ⟨k1, k2, k3⟩ := norm_d hB (by decide) e64 hn ht (by omega) g2
 exact ⟨n2, s, top, hn, ht, htl, hs, hbl, k1, k2, k3⟩

theorem guess_ge {L lD : List Nat} {j n n1 n2 : Nat} (hn : n2 + 2 = n) (hn1 : n2 + 1 = n1) (hL : ∀ x ∈ L, x < 18446744073709551616) (hD : ∀ x ∈ lD, x < 18446744073709551616) (hlD : lD.length = n) (hlen : j + n < L.length)
 (htop : 18446744073709551616 ≤ 2 * dg lD n1) (hV : val 18446744073709551616 L < 18446744073709551616 ^ (j + 1) * val 18446744073709551616 lD) :
 (∀ i, j + n + 1 ≤ i → dg L i = 0) ∧ val 18446744073709551616 L / (18446744073709551616 ^ j * val 18446744073709551616 lD) ≤ guessF (dg L (j + n)) (dg L (j + n1)) (dg L (j + n2)) (dg lD n1) (dg lD n2) ∧
  guessF (dg L (j + n)) (dg L (j + n1)) (dg L (j + n2)) (dg lD n1) (dg lD n2) < 18446744073709551616 := by
 subst hn hn1
 have hdl := val_lt hD
 rw [hlD] at hdl
 have hz : ∀ i, j + (n2 + 2) + 1 ≤ i → dg L i = 0 := fun i hi => zero_of_val_lt hL (m := j + (n2 + 2) + 1) (Nat.lt_trans hV (by
  rw [show j + (n2 + 2) + 1 = (j + 1) + (n2 + 2) by omega, Nat.pow_add _ (j + 1)]
  exact Nat.mul_lt_mul_of_pos_left hdl (Nat.pow_pos (by omega)))) hi
 obtain ⟨k1, k2⟩ := guessF_ok (x2 := dg L (j + (n2 + 2))) (getD_lt (by omega) hL (j + (n2 + 1))) (getD_lt (by omega) hL (j + n2)) (getD_lt (by omega) hD (n2 + 1)) (getD_lt (by omega) hD n2) htop
 refine ⟨hz, k2 _ ?_ ?_, k1⟩
 · apply Nat.div_lt_of_lt_mul
   rw [Nat.pow_succ, Nat.mul_right_comm] at hV
   exact hV
 · obtain ⟨rv, hrv, hv⟩ := val_three (t := j + n2) hL (by omega) (fun i hi => hz i (by omega))
   obtain ⟨rd, hd⟩ := val_two (B := 18446744073709551616) (L := lD) (t := n2) (by omega)
   refine quo_three (B := 18446744073709551616) (t := j + n2) (DB := 18446744073709551616 ^ j * val 18446744073709551616 lD) (rd := 18446744073709551616 ^ j * rd) (Nat.div_mul_le_self _ _) ?_ hv hrv
   rw [hd, Nat.mul_add, ← Nat.mul_assoc, ← Nat.pow_add]
theorem Row.alloc_ {w : World} {g : Nat} {l : List Nat} (h : Row w g l) (o : Obj) : Row (w.alloc o) g l := h.of_heap (Below.heap_alloc w o g h.lt)
theorem RN.alloc_ {w : World} {P : Nat → Prop} {A : Option Addr} {c : Nat} {l : List Nat} (h : RN w P A c l) (hP : ∀ b, P b → b < w.heap.size) (o : Obj) : RN (w.alloc o) P A c l := h.below ((Below.refl w.heap.size w).alloc (Nat.le_refl _) o) hP
theorem shl_len (x : Nat) {s : Nat} (hs : s < 64) : (digs 18446744073709551616 (x * 2 ^ s)).length ≤ (digs 18446744073709551616 x).length + 1 := by
 apply digs_length_of_lt (by omega)
 have h1 := lt_pow_digs (B := 18446744073709551616) (by omega) x
 have h2 : 2 ^ s ≤ 2 ^ 64 := Nat.pow_le_pow_right (by omega) (by omega)
 rw [show (2 : Nat) ^ 64 = 18446744073709551616 by decide] at h2
 rw [Nat.pow_succ]
 exact Nat.lt_of_le_of_lt (Nat.mul_le_mul_left _ h2) (Nat.mul_lt_mul_of_pos_right h1 (by omega))

set_option maxRecDepth 100000 in
set_option maxHeartbeats 1000000 in
theorem quo_big (P P' : Nat → Prop) (A A' : Option Addr) (c c' : Nat) (a b : List Nat) (w : World) (h : RN w P A c a) (h' : RN w P' A' c' b) (hP : ∀ b, P b → b < w.heap.size) (hP' : ∀ b, P' b → b < w.heap.size) (hl : a.length < 90000) (hl' : b.length < 90000)
 (hge : val 18446744073709551616 b ≤ val 18446744073709551616 a) (hbig : 18446744073709551616 ≤ val 18446744073709551616 b) :
 Calls Tryz.prog 48 #[.slice A a.length c, .slice A' b.length c'] w fun e w' => ∃ A1 c1 A2 c2, e = .returned (.tuple #[.slice A1 (digs 18446744073709551616 (val 18446744073709551616 a / val 18446744073709551616 b)).length c1, .slice A2 (digs 18446744073709551616 (val 18446744073709551616 a % val 18446744073709551616 b)).length c2, .bool true]) ∧
  OB w' w.heap.size A1 c1 (digs 18446744073709551616 (val 18446744073709551616 a / val 18446744073709551616 b)) ∧ OB w' w.heap.size A2 c2 (digs 18446744073709551616 (val 18446744073709551616 a % val 18446744073709551616 b)) ∧ Below w.heap.size w w' := by
 have ta := Lib.hid (trim_any P A c a w h)
 have tb := trim_any P' A' c' b w h'
 have tc := cmp_any P P' A A' c c' _ _ w h.trim h'.trim
 have la := digs_length_le (B := 18446744073709551616) (by omega) h.2.1
 have lb := digs_length_le (B := 18446744073709551616) (by omega) h'.2.1
 rw [val_digs (by omega), val_digs (by omega)] at tc
 replace h := h.trim
 replace h' := h'.trim
 generalize val 18446744073709551616 a = x at *
 generalize val 18446744073709551616 b = y at *
 have hcv : 0 ≤ cmpV x y := by rcases cmpV_cases x y with h | h | h <;> omega
 generalize cmpV x y = v at tc hcv
 obtain ⟨i0, hi, hz0, hz1, hz2⟩ := info_parts info64
 obtain ⟨n2, s, top, hn, htop, htl, hs, hbl, hDn, hDt, hDp⟩ := quo_setup hbig
 have hxv := val_digs (B := 18446744073709551616) (by omega) x
 have hyv := val_digs (B := 18446744073709551616) (by omega) y
 have hmono : (digs 18446744073709551616 x).length ≤ (digs 18446744073709551616 (x * 2 ^ s)).length := digs_length_mono (by omega) (Nat.le_mul_of_pos_right _ (Nat.pow_pos (by omega)))
 have hmono2 : (digs 18446744073709551616 y).length ≤ (digs 18446744073709551616 x).length := digs_length_mono (by omega) hge
 have hshl := shl_len x hs
 have hX0 : 0 < x := by omega
 have hY0 : 0 < y := by omega
 generalize digs 18446744073709551616 x = l at *
 generalize digs 18446744073709551616 y = m at *
 have T1 := Lib.hid fun W (hW : RN W P A c l) (hp : ∀ b, P b → b < W.heap.size) => shl_yes P A c l s W hW hp (by omega) (by omega) (by rw [hxv]; exact hX0)
 have T2 := Lib.hid fun W (hW : RN W P' A' c' m) (hp : ∀ b, P' b → b < W.heap.size) => shl_yes P' A' c' m s W hW hp (by omega) (by omega) (by rw [hyv]; exact hY0)
 rw [hxv] at T1
 rw [hyv, hDn, hn] at T2
 rw [hn] at tb tc
 have hXD := norm_x (B := 18446744073709551616) (x := x * 2 ^ s) (D := y * 2 ^ s) (n := n2 + 2) (by omega) (by omega) hDp
 have hDlt := lt_pow_digs (B := 18446744073709551616) (by omega) (y * 2 ^ s)
 rw [hDn] at hDlt
 have hDd := digs_lt (B := 18446744073709551616) (by omega) (y * 2 ^ s)
 have hDv := val_digs (B := 18446744073709551616) (by omega) (y * 2 ^ s)
 have hXv := val_digs (B := 18446744073709551616) (by omega) (x * 2 ^ s)
 have hD0 : 0 < y * 2 ^ s := Nat.mul_pos hY0 (Nat.pow_pos (by omega))
 have hqx : (x * 2 ^ s) / (y * 2 ^ s) = x / y := Nat.mul_div_mul_right _ _ (Nat.pow_pos (by omega))
 have hrx : (x * 2 ^ s) % (y * 2 ^ s) / 2 ^ s = x % y := by
  rw [Nat.mul_mod_mul_right]
  exact Nat.mul_div_cancel _ (Nat.pow_pos (by omega))
 generalize y * 2 ^ s = D at *
 generalize x * 2 ^ s = X at *
 generalize digs 18446744073709551616 D = lD at *
 generalize digs 18446744073709551616 X = lX at *
 obtain ⟨n, hn'⟩ : ∃ n, n2 + 2 = n := ⟨_, rfl⟩
 obtain ⟨n1, hn1⟩ : ∃ n1, n2 + 1 = n1 := ⟨_, rfl⟩
 rw [hn'] at hn hDn hDlt hXD tb tc T2
 have HlD := Lib.hid hDn
 rw [hn1] at htop hDt
 obtain ⟨kX, hkX⟩ : ∃ kX, lX.length = kX := ⟨_, rfl⟩
 have hLX : Lim lX → True := fun _ => trivial
 clear hLX
 rw [hkX] at hmono T1 hXD hshl
 obtain ⟨t, htt⟩ : ∃ t, kX + 1 - n = t := ⟨_, rfl⟩
 rw [htt] at hXD
 have hlz := fun w => Tryz.bits_LeadingZeros64 (top : Int) w (by omega) (by omega)
 rw [Int.toNat_natCast, hbl, show (64 - ((64 - s : Nat) : Int)) = (s : Int) by omega] at hlz
 have hge0 : ((n : Int) == 0) = false := eqB (by omega)
 have hge1 : ((n : Int) == 1) = false := eqB (by omega)
 have i1 : (n : Int) - 1 = (n1 : Int) := by omega
 have i2 : n1 < n := by omega
 have i3 : ¬ kX < l.length := by omega
 have i4 : (kX : Int) + 1 - (n : Int) = (t : Int) := by omega
 have hcv' : ¬ v < 0 := by omega
 have hnb : n < 90000 := by omega
 have hlb : l.length < 90000 := by omega
 have hkb : kX ≤ 90001 := by omega
 obtain ⟨ad', rfl, hPad, q1⟩ := h'.at_ (i := n1) (by omega)
 rw [htop] at q1
 have Htb := Lib.hid tb
 have Htc := Lib.hid tc
 have Hlz := Lib.hid hlz
 have Hn2 := Lib.hid hn'
 have Hn1 := Lib.hid hn1
 have HkX := Lib.hid hkX
 have HXD := Lib.hid hXD
 have Htt := Lib.hid htt
 have Hqx := Lib.hid hqx
 have Hrx := Lib.hid hrx
 have HDv := Lib.hid hDv
 have HXv := Lib.hid hXv
 have HDlt := Lib.hid hDlt
 have HDt := Lib.hid hDt
 have Hla := Lib.hid la
 have Hl := Lib.hid hl
 clear tb tc hlz hn' hn1 hkX hXD htt hqx hrx hDv hXv hDlt hDt la hl hbig hge hxv hyv hmono2 hX0 hY0 hDp lb hl' hbl htl htop hcv hDn hmono hshl
 go_enter Tryz.func48, Tryz.ntmps48
 go_wp2_with fail
 refine ta.out.mono ?_
 rintro e w1 ⟨rfl, rfl⟩
 go_wp2_with fail
 refine Htb.out.mono ?_
 rintro e w1 ⟨rfl, rfl⟩
 go_wp2_with fail
 refine Htc.out.mono ?_
 rintro e w1 ⟨rfl, nd, rfl⟩
 obtain ⟨W, hW⟩ : ∃ W, W = w.drewN nd := ⟨_, rfl⟩
 have q2 : W.cell? (ad'.add n1) = some (.int .u64 (top : Int)) := by rw [hW]; exact q1
 have hsz : W.heap.size = w.heap.size := by rw [hW]; rfl
 have hB0 : Below w.heap.size w W := by rw [hW]; exact below_drewN (Below.refl _ _) _
 have hRa : RN W P A c l := by rw [hW]; exact h.drewN _
 have hRb : RN W P' (some ad') c' m := by rw [hW]; exact h'.drewN _
 rw [← hW]
 have T1' := Lib.hid (T1.out W hRa (by rw [hsz]; exact hP))
 have Hsz := Lib.hid hsz
 clear hW q1 T1 hRa h h' hsz
 go_wp2_with fail
 refine (Hlz.out _).mono ?_
 rintro e w1 ⟨rfl, hw1⟩
 obtain rfl : W = w1 := hw1.symm
 go_wp2_with fail
 refine T1'.out.mono ?_
 rintro e w2 ⟨A1, c1, rfl, hO1, hc1, ⟨o, rfl, hblk, ho, hpre⟩, hB1⟩
 have hown := own_of_blk hblk (Nat.le_refl _) ho (by unfold maxLen; have := hO1.cap; omega) (by have := hO1.cap; have := HkX.out; omega) hpre HkX.out
 have hLX := hO1.1
 have hB1s := hB1.size
 clear hblk hpre ho
 go_wp2_with (at_builtin; refine wpList_append_rs _ rfl _ _ 23 rfl W.heap.size 34 i0 (.int .u64 0) 1 8 Tryz.underlying23 hi hz0 hz1 hz2 rfl (by decide) _ kX (nts lX) rfl (hown.alloc _) (In w2.heap.size (w2.heap.size + 1)) (some ⟨w2.heap.size, 0, none⟩) 1 1 [.int .u64 0] rfl (RS.fresh #[.int .u64 0] 34 1 1 rfl (by unfold maxLen; omega) ⟨Nat.le_refl _, by omega⟩) (by simp [Value.oneCell']) (kX + 1) rfl (by unfold maxLen; omega) (by omega) (by simp; omega) ?_)
 intro A2 c2 w3 hown3 hg3 _
 have hlen : (lX ++ [0]).length = kX + 1 := by rw [List.length_append, HkX.out]; rfl
 have hown4 : w3.ownsRow W.heap.size 34 1 (.slice A2 (lX ++ [0]).length c2) (lX ++ [0]).length (nts (lX ++ [0])) := by
  rw [hlen]
  have : nts (lX ++ [0]) = nts lX ++ [.int .u64 0] := by simp [nts]
  rw [this]
  exact hown3
 have hLr : Lim (lX ++ [0]) := ⟨fun x hx => by
  rcases List.mem_append.1 hx with h | h
  · exact hLX.1 x h
  · rw [List.mem_singleton.1 h]; omega, by rw [hlen]; omega⟩
 have hOr := OB.of_own hown4 hLr
 obtain ⟨g, rfl, hg, hrow⟩ := hOr.row (by omega)
 have hcr := hOr.cap
 rw [hlen] at hcr
 have hgl := hrow.lt
 have hB3 : Below W.heap.size W w3 := (hB1.alloc hB1s _).grown hg3 (by simp; omega) (by intro j hj; exact own_block_le hown hj)
 have hvr : val 18446744073709551616 (lX ++ [0]) = X := by rw [val_append, HXv.out]; simp
 generalize lX ++ [0] = R at *
 obtain ⟨p, hp⟩ : ∃ p : Addr, p = ⟨g, 0, none⟩ := ⟨_, rfl⟩
 rw [← hp]
 have Hp := Lib.hid hp
 have T3 := Lib.hid (T2.out w3 (hRb.below hB3 (by rw [Hsz.out]; exact hP')) (by have := hB3.size; have := Hsz.out; intro b hb; have := hP' b hb; omega))
 have hcr2 : kX + 1 ≤ c2 := hcr.1
 have hcr3 : c2 ≤ 9223372036854775807 := hcr.2.1
 clear hp hown hown3 hown4 hO1 hB1 hB1s hcr T2 hRb q2 hg3 hOr
 go_wp2_with fail
 go_loopw [11] (fun rv wr => rv = .slice (some p) (kX + 1) c2 ∧ w3 = wr) (fun _ _ => 0)
 case atStart => exact ⟨rfl, rfl⟩
 case round =>
  obtain ⟨rfl, rfl⟩ := hrel
  go_wp2_with fail
  refine T3.out.mono ?_
  rintro e w4 ⟨A3, c3, rfl, hO3, hc3, ⟨o3, hA3, hu1, hu2, hu3⟩, hB4⟩
  clear hu1 hu2 hu3
  have hAd := hO3.row (by rw [HlD.out]; omega)
  have hRd := hO3.rn
  have hB4s := hB4.size
  have hgq : g < w4.heap.size := by omega
  have hrow4 := hrow.below hB4 hgl
  have hB34 : Below W.heap.size W w4 := hB3.trans (hB4.mono (by have := hB3.size; omega))
  have hB4a := hB34.alloc (by omega) (.cells (madeCells #[.int .u64 0] t) 34)
  have hblkq := Blk.made w4 t
  have hmk := run_make_row' (P := Tryz.prog) 23 34 (.int .u64 0) 8 Tryz.underlying23 info64 rfl .i64 .i64 t (by omega) (by omega)
  have Hs := Lib.hid (Below1.start t)
  clear hO3 hB4 hB34 hrow T3 hA3
  go_wp2_with fail
  go_loopw [14] (fun iv wr => ∃ (k : Nat) (z : Int) (L qs : List Nat), iv = .int .i64 z ∧ Below1 k z ∧ k ≤ t ∧ QuoAt 18446744073709551616 X D L qs k ∧ Hid (L.length = kX + 1) ∧ Hid (qs.length = t) ∧ Lim L ∧ Lim qs ∧ Row wr g L ∧ Blk wr w4.heap.size qs ∧ RN wr (In w3.heap.size w4.heap.size) A3 c3 lD ∧ Below w.heap.size w wr) (fun iv _ => (intOf iv + 1).toNat)
  case atStart => exact ⟨t, _, R, List.replicate t 0, rfl, Hs.out, by omega, by rw [← hvr]; exact QuoAt.start (by simp) (by rw [hvr]; exact HXD.out), Lib.hid hlen, Lib.hid (by simp), hLr, ⟨by simp, by simp; omega⟩, hrow4.alloc_ _, hblkq, hRd.alloc_ (fun b hb => hb.2) _, (hB0.trans (hB4a.mono (by rw [Hsz.out]; exact Nat.le_refl _)))⟩
  case round =>
   obtain ⟨k, z, L, qs, rfl, hz, hk, hQ, HL, Hqs, hLL, hLq, hrw, hbq, hRD, hB⟩ := hrel
   clear hrow4 hblkq hRd hB4a hlen hLr hvr hAd
   rcases hz with ⟨rfl, rfl⟩ | ⟨j, rfl, rfl⟩
   · obtain ⟨v1, v2⟩ := hQ.fin
     rw [Hqx.out] at v1
     have hws := hB.size
     have hWs := Hsz.out
     have hOq : OB wr w.heap.size (some ⟨w4.heap.size, 0, none⟩) t qs := OB.of_blk hbq (by omega) hLq (by have := Hqs.out; omega) (by unfold maxLen; omega)
     have hOr := hrw.ob (base := w.heap.size) (c := c2) (by omega) hLL (by have := HL.out; omega) (by unfold maxLen; omega)
     have tq := trim_any _ _ _ _ _ hOq.rn
     have hOq' := hOq.trim
     rw [v1] at hOq'
     rw [v1, Hqs.out] at tq
     have tr := shr_any _ _ _ _ s wr hOr.rn (fun b hb => hb.2) (by have := HL.out; omega) (by omega)
     rw [v2, Hrx.out, HL.out, ← Hp.out] at tr
     have Tq := Lib.hid tq
     have Tr := Lib.hid tr
     clear hQ hLL hLq hrw hbq hRD hOr hOq tq tr
     go_wp2_with fail
     refine Tq.out.mono ?_
     rintro e w5 ⟨rfl, rfl⟩
     go_wp2_with fail
     refine Tr.out.mono ?_
     rintro e w6 ⟨A6, c6, rfl, hO6, hB6⟩
     go_wp2
     go_ret3
     exact ⟨_, _, _, _, rfl, hOq'.below hB6 (Nat.le_refl _), hO6.mono hws, hB.trans (hB6.mono hws)⟩
   · have hLl := HL.out
     have hlD := HlD.out
     have e2 := Hn2.out
     have e1 := Hn1.out
     have hjt := Htt.out
     obtain ⟨hz0, hge, hgB⟩ := guess_ge (j := j) e2 e1 hLL.1 hDd hlD (by omega) HDt.out (by rw [HDv.out]; exact hQ.2)
     obtain ⟨ad, rfl, had, d1⟩ := hRD.at_ (i := n1) (by omega)
     have d2 := hRD.cells n2 (by omega)
     obtain ⟨y0, hy0⟩ : ∃ y0, j + n = y0 := ⟨_, rfl⟩
     obtain ⟨y1, hy1⟩ : ∃ y1, j + n1 = y1 := ⟨_, rfl⟩
     obtain ⟨y2, hy2⟩ : ∃ y2, j + n2 = y2 := ⟨_, rfl⟩
     rw [hy0, hy1, hy2] at hge hgB
     rw [HDv.out] at hge
     have r0 := hrw.cell Hp.out (j := y0) (by omega)
     have r1 := hrw.cell Hp.out (j := y1) (by omega)
     have r2 := hrw.cell Hp.out (j := y2) (by omega)
     rw [Nat.zero_add] at r0 r1 r2
     have hgs := guess_any (dg L y0) (dg L y1) (dg L y2) (dg lD n1) (dg lD n2)
     have hgs2 := fun w => hgs w (hLL.dgLt y1) (hLL.dgLt y2) (getD_lt (by omega) hDd n1) (getD_lt (by omega) hDd n2) HDt.out
     obtain ⟨G, hG⟩ : ∃ G, guessF (dg L y0) (dg L y1) (dg L y2) (dg lD n1) (dg lD n2) = G := ⟨_, rfl⟩
     rw [hG] at hge hgB hgs2
     have Hgs := Lib.hid hgs2
     have c0 : (j : Int) + (n : Int) = (y0 : Int) := by omega
     have c1' : (y0 : Int) - 1 = (y1 : Int) := by omega
     have c2' : (y0 : Int) - 2 = (y2 : Int) := by omega
     have c3' : (n : Int) - 2 = (n2 : Int) := by omega
     have c4 : y0 + 1 - j = n + 1 := by omega
     have hpj : p.add j = ⟨g, j, none⟩ := by rw [Hp.out, add_off, Nat.zero_add]
     have Hpj := Lib.hid hpj
     have b0 : (y0 : Int) < (kX : Int) + 1 := by omega
     have b1 : (y1 : Int) < (kX : Int) + 1 := by omega
     have b2 : (y2 : Int) < (kX : Int) + 1 := by omega
     have b3 : n2 < n := by omega
     have b4 : j ≤ y0 + 1 := by omega
     have b5 : (y0 : Int) + 1 ≤ (c2 : Int) := by omega
     have b6 : y0 ≤ 90001 := by omega
     clear hgs hgs2 hG e1 e2 hLl hpj
     have Hjt := Lib.hid hjt
     have Hlen : Hid (j + n < L.length) := Lib.hid (by have := HL.out; omega)
     have HlDn := Lib.hid hlD
     have hPg : ∀ b, In w3.heap.size w4.heap.size b → b ≠ g := fun b hb => by have := hb.1; omega
     have hgq' : w4.heap.size ≠ g := by omega
     have hwg : w.heap.size ≤ g := by have := Hsz.out; omega
     clear hjt hlD
     go_wp2_with fail
     go_quiet ((go_at_call 75; exact Calls.quiet_of (Hgs.out _)))
     go_wp2_with fail
     refine (takes_any g j (p.add j) Hpj.out (In w3.heap.size w4.heap.size) (some ad) c3 (c2 - j) n G L lD _ (hrw.drewN _) hLL (hRD.drewN _) hPg HlDn.out Hlen.out hgB).mono ?_
     rintro e w5 ⟨L1, bb, rfl, hrw1, hLL1, ho1, hl1, hv1, hz1⟩
     have hF1 := FixAt.start (n := n) (D := D) hge hgB hz1 hz0 (by rw [HDv.out] at hv1; exact hv1) hLL1.1 (by omega) HDlt.out
     have hbq1 : Blk w5 w4.heap.size qs := (ho1.block _ hgq').trans hbq
     have hRD1 := (hRD.drewN nq).only ho1 hPg
     have hB1' := (below_drewN hB nq).trans (ho1.below hwg)
     have hl1' := Lib.hid (hl1.trans HL.out)
     clear hrw hLL hbq hRD hB ho1 hv1 hz1 hl1 hge hgB r0 r1 r2 d1 d2 hz0
     go_wp2_with fail
     go_loopw [15, 17] (fun gv tv wr => ∃ (G : Nat) (too : Bool) (L' : List Nat), gv = .int .u64 (G : Int) ∧ tv = .bool too ∧ FixAt 18446744073709551616 (val 18446744073709551616 L) j n D L' G too ∧ Hid (L'.length = kX + 1) ∧ Lim L' ∧ Row wr g L' ∧ Blk wr w4.heap.size qs ∧ RN wr (In w3.heap.size w4.heap.size) (some ad) c3 lD ∧ Below w.heap.size w wr) (fun gv _ _ => (intOf gv).toNat)
     case atStart => exact ⟨G, _, L1, rfl, rfl, hF1, hl1', hLL1, hrw1, hbq1, hRD1, hB1'⟩
     case round =>
      clear hF1 hl1' hLL1 hrw1 hbq1 hRD1 hB1'
      obtain ⟨G, too, L', rfl, rfl, hF, HL', hLL, hrw, hbq, hRD, hB⟩ := hrel
      rcases too with _ | _
      · obtain ⟨f1, f2⟩ := hF.fin (by omega) hD0
        have hjq : j < qs.length := by have := Hqs.out; omega
        have hQ' := hQ.step hjq f1 f2
        have q3 := hbq.cell hjq
        have q4 := hbq.free j
        have hbq' := hbq.set j G
        have hLq' := hLq.set j G hF.2.1
        have hB' := hB.setCell (p := ⟨w4.heap.size, j, none⟩) (by show w.heap.size ≤ w4.heap.size; omega) (.int .u64 (G : Int))
        have hRD' : RN (World.setCell _ ⟨w4.heap.size, j, none⟩ (.int .u64 (G : Int))) (In w3.heap.size w4.heap.size) (some ad) c3 lD := hRD.keep fun q hq => World.cell?_of_block (w := _) (Below.heap_setCell _ _ _ q.block (by have := hq.2; show q.block ≠ w4.heap.size; omega))
        have hrw' := hrw.of_heap (Below.heap_setCell _ ⟨w4.heap.size, j, none⟩ (.int .u64 (G : Int)) g (by show g ≠ w4.heap.size; omega))
        have Hqs' : Hid ((qs.set j G).length = t) := Lib.hid (by simpa using Hqs.out)
        have k1 : j < t := by omega
        have Hs' := Lib.hid (Below1.start j)
        clear hF f1 f2 hQ hbq hLq hB hRD hrw
        go_wp2
        go_roundw
        case rel => exact ⟨j, _, L', qs.set j G, rfl, Hs'.out, by omega, hQ', HL', Hqs', hLL, hLq', hrw', hbq', hRD', hB'⟩
        case measure => simp [intOf]
      · have hpos := hF.pos hLL.1 (by omega)
        have hpos' := Nat.lt_of_le_of_lt (Nat.zero_le _) hpos
        clear hpos
        obtain ⟨G, rfl⟩ : ∃ k, G = k + 1 := ⟨G - 1, by omega⟩
        have hgB := hF.2.1
        have hGi : (G : Int) < 18446744073709551616 := by omega
        clear hpos' hgB
        go_wp2_with fail
        refine (gives_any g j (p.add j) Hpj.out (In w3.heap.size w4.heap.size) (some ad) c3 (c2 - j) n L' lD _ hrw hLL hRD hPg HlDn.out (by rw [HL'.out, ← HL.out]; exact Hlen.out)).mono ?_
        rintro e w6 ⟨L2, bb2, rfl, hrw2, hLL2, ho2, hl2, hv2, hz2⟩
        rw [HDv.out] at hv2
        have hF2 := hF.step hLL.1 hLL2.1 (by omega) hD0 HDlt.out hv2 hz2
        have hbq2 : Blk w6 w4.heap.size qs := (ho2.block _ hgq').trans hbq
        have hRD2 := hRD.only ho2 hPg
        have hB2 := hB.trans (ho2.below hwg)
        have r4 := hrw2.cell Hpj.out (j := n) (by rw [hl2, HL'.out, ← HL.out]; exact Hlen.out)
        have HL2 := Lib.hid (hl2.trans HL'.out)
        have k2 : (n : Int) < (n : Int) + 1 := by omega
        clear hF hLL hrw hbq hRD hB ho2 hl2 hv2 hz2
        by_cases hd0 : dg L2 (j + n) = 0
        · rw [hd0] at r4 hF2
          clear hd0
          go_wp2
          go_roundw
          case rel => exact ⟨G, false, L2, by go_num, rfl, by simpa using hF2, HL2, hLL2, hrw2, hbq2, hRD2, hB2⟩
          case measure => simp [intOf]
        · have hdn : ((dg L2 (j + n) : Int) != 0) = true := neB (by omega)
          have hF2' : FixAt 18446744073709551616 (val 18446744073709551616 L) j n D L2 G true := by simpa [hd0] using hF2
          clear hF2
          go_wp2
          go_roundw
          case rel => exact ⟨G, true, L2, by go_num, congrArg Value.bool (by first | exact hdn | (rw [← hy0]; exact hdn)), hF2', HL2, hLL2, hrw2, hbq2, hRD2, hB2⟩
          case measure => simp [intOf]

theorem quo_any (P P' : Nat → Prop) (A A' : Option Addr) (c c' : Nat) (a b : List Nat) (w : World) (h : RN w P A c a) (h' : RN w P' A' c' b) (hP : ∀ b, P b → b < w.heap.size) (hP' : ∀ b, P' b → b < w.heap.size) (hl : a.length < 90000) (hl' : b.length < 90000) (h0 : 0 < val 18446744073709551616 b) :
 Calls Tryz.prog 48 #[.slice A a.length c, .slice A' b.length c'] w fun e w' => ∃ A1 c1 A2 c2, e = .returned (.tuple #[.slice A1 (digs 18446744073709551616 (val 18446744073709551616 a / val 18446744073709551616 b)).length c1, .slice A2 (digs 18446744073709551616 (val 18446744073709551616 a % val 18446744073709551616 b)).length c2, .bool true]) ∧
  OB w' w.heap.size A1 c1 (digs 18446744073709551616 (val 18446744073709551616 a / val 18446744073709551616 b)) ∧ OB w' w.heap.size A2 c2 (digs 18446744073709551616 (val 18446744073709551616 a % val 18446744073709551616 b)) ∧ Below w.heap.size w w' := by
 rcases Nat.lt_or_ge (val 18446744073709551616 a) (val 18446744073709551616 b) with hlt | hge
 · have hq := quo_lt P P' A A' c c' a b w h h' hlt
   rw [Nat.div_eq_of_lt hlt, Nat.mod_eq_of_lt hlt, digs_zero]
   refine hq.mono ?_
   rintro e w' ⟨A1, c1, rfl, hO, hB⟩
   exact ⟨none, 0, A1, c1, rfl, OB.nil_ _ _, hO, hB⟩
 · rcases Nat.lt_or_ge (val 18446744073709551616 b) 18446744073709551616 with h1 | h1
   · exact quo_one P P' A A' c c' a b w h h' hP (by omega) hge h0 h1
   · exact quo_big P P' A A' c c' a b w h h' hP hP' hl hl' hge h1
end Go.Proofs.YtlaphnlolgokiaaGreatDoor

namespace Go.Proofs.YtlaphnlolgokiaaGreatDoor
open Go.RowKit
open Sha

theorem run_nozero (w : World) (n : Nat) (hn : n ≤ 281474976710656) : ∃ cs, (callFunc 62 #[.int .i64 (n : Int)]).run Tryz.prog w = .ok (.value (.slice (some ⟨w.heap.size, 0, none⟩) n cs.size)) ((w.drew.drew).alloc (.cells cs 5)) ∧ n ≤ cs.size ∧ cs.size ≤ maxLen := by
 obtain ⟨cs, h1, h2, h3⟩ := Lib.run_makeNoZero (P := Tryz.prog) w #[3] 62 5 Tryz.underlying62 n hn
 refine ⟨cs, ?_, h2, h3 (by unfold maxLen; omega)⟩
 rw [run_callFunc_extern (e := Extern.BytealgMakeNoZero.makeNoZero #[3] #[62]) Tryz.func62 (by kernel_rfl) (by kernel_rfl) (by kernel_rfl) (by kernel_rfl), h1]
 rfl
theorem mul_one_any (w : World) : Calls Tryz.prog 61 #[.int .u64 1, .int .u64 32] w fun e w' => e = .returned (.tuple #[.int .u64 0, .int .u64 32]) ∧ w' = w := by
 have H := Lib.hid (mul64_at 1 32 0 32 (by omega) (by omega) (by omega) (by omega))
 go_enter Tryz.func61, Tryz.ntmps61
 go_wp2_with fail
 refine (H.out w).mono ?_
 rintro e w1 ⟨rfl, rfl⟩
 go_wp2
 go_ret2
 exact ⟨rfl, rfl⟩
theorem ones_copy {w : World} {g p k dl dc sl sc : Nat} {a : Addr} {cur : Array Value} (hb : w.heap[g]? = some (.cells cur 5 (0, 0))) (ho : ∀ j, j < p → cur[j]? = some (.int .u8 1)) (hs : ∀ j, j < k → w.cell? (a.add j) = some (.int .u8 1)) (hk : k = min sl dl) (hle : p + k ≤ cur.size) :
 ∃ W' cur', (Builtin.copy_ #[62, 62] 3 #[.slice (some ⟨g, p, none⟩) dl dc, .slice (some a) sl sc]).run Tryz.prog w = .ok (.int .i64 (k : Int)) W' ∧ W'.heap[g]? = some (.cells cur' 5 (0, 0)) ∧ cur'.size = cur.size ∧ (∀ j, j < p + k → cur'[j]? = some (.int .u8 1)) ∧ Just g w W' := by
 have hcl : (List.replicate k (Value.int .u8 1)).length = k := List.length_replicate
 have hr := run_copy_row (P := Tryz.prog) w 62 62 3 5 g p dl dc a sl sc cur 5 (List.replicate k (.int .u8 1)) Tryz.underlying62 (by kernel_rfl) hb (by rw [hcl]; exact hk) (fun j v hv => by
  obtain ⟨h1, h2⟩ := List.getElem?_eq_some_iff.1 hv
  rw [hcl] at h1
  rw [hs j h1, ← h2, List.getElem_replicate]) (by rw [hcl]; exact hle) (by intro v hv; rw [(List.mem_replicate.1 hv).2]; rfl)
 rw [hcl] at hr
 refine ⟨_, _, hr, Go.setRow_heap w g _ _ 5 _ hb, ?_, ?_, ⟨rfl, rfl, rfl, by simp [World.setRow], fun k _ hk => Go.setRow_other w g k _ hk⟩⟩
 · simp; omega
 · intro j hj
   have hpl : (cur.toList.take p).length = p := by simp; omega
   rw [List.getElem?_toArray, List.append_assoc]
   by_cases h : j < p
   · rw [List.getElem?_append_left (by omega), List.getElem?_take_of_lt h]
     simpa using ho j h
   · rw [List.getElem?_append_right (by omega), hpl, List.getElem?_append_left (by rw [hcl]; omega), List.getElem?_replicate_of_lt (by omega)]
set_option maxRecDepth 100000 in
set_option maxHeartbeats 8000000 in
theorem repeat_one {g : Nat} (w : World) (hg : w.heap[g]? = some (.cells #[.int .u8 1] 5 (0, 0))) :
 Calls Tryz.prog 38 #[.slice (some ⟨g, 0, none⟩) 1 1, .int .i64 32] w fun e w' => ∃ A, e = .returned (.slice A 32 32) ∧ RB w' (fun k => k < w'.heap.size) A 32 (List.replicate 32 1) ∧ Ext w w' := by
 obtain ⟨cs, hrun, hcs, hcm⟩ := run_nozero w 32 (by omega)
 rw [show ((32 : Nat) : Int) = 32 from rfl] at hrun
 obtain ⟨W1, hW1⟩ : ∃ W, (w.drew.drew).alloc (.cells cs 5) = W := ⟨_, rfl⟩
 have hb : W1.heap[w.heap.size]? = some (.cells cs 5 (0, 0)) := by rw [← hW1]; exact heap_alloc_new w.drew.drew _
 have hE : Ext w W1 := by rw [← hW1]; exact ((Ext.drew w).trans (Ext.drew _)).trans (Ext.alloc _ _)
 rw [hW1] at hrun
 have c32 : (32 : Int) ≤ (cs.size : Int) := by omega
 obtain ⟨W2, cs2, hcp, hb2, hz2, hon, hj2⟩ := ones_copy (p := 0) (k := 1) (dl := 32) (dc := 32) (sl := 1) (sc := 1) (a := ⟨g, 0, none⟩) hb (by omega) (by
  intro j hj
  obtain rfl : j = 0 := by omega
  exact blk_cell (hE.at_ hg) 0) rfl (by omega)
 have Hb2 := Lib.hid hb2
 have Hon := Lib.hid hon
 have HE2 := Lib.hid (hj2.ext hE (Nat.le_refl _))
 have hz := Lib.hid (show 32 ≤ cs2.size by omega)
 clear hb hE hW1 hg hb2 hon hj2 hz2 hcm
 go_enter Tryz.func38, Tryz.ntmps38
 go_upto_region 6 with (go_at_call 61; refine (mul_one_any _).mono ?_; rintro e w1 ⟨rfl, rfl⟩)
 go_upto_region 18 with fail
 clear hrun hcp
 go_loopw [10] (fun iv wr => ∃ (p : Nat) (cur : Array Value), iv = .int .i64 (p : Int) ∧ (p = 1 ∨ p = 2 ∨ p = 4 ∨ p = 8 ∨ p = 16 ∨ p = 32) ∧ Hid (wr.heap[w1.heap.size]? = some (.cells cur 5 (0, 0))) ∧ Hid (∀ j, j < p → cur[j]? = some (.int .u8 1)) ∧ Hid (32 ≤ cur.size) ∧ Hid (Ext w1 wr)) (fun iv _ => (32 - intOf iv).toNat)
 case atStart => exact ⟨1, cs2, rfl, .inl rfl, Hb2, Hon, hz, HE2⟩
 case round =>
  clear Hb2 Hon hz HE2
  obtain ⟨p, cur, rfl, hp, HB, HO, HZ, HE⟩ := hrel
  rcases hp with rfl | rfl | rfl | rfl | rfl | rfl
  · obtain ⟨X, cur', hc, hbx, hzx, hox, hjx⟩ := ones_copy (w := wr.drew) (p := 1) (k := 1) (dl := 31) (dc := 31) (sl := 1) (sc := 32) (a := ⟨w1.heap.size, 0, none⟩) (show wr.drew.heap[w1.heap.size]? = some (.cells cur 5 (0, 0)) from HB.out) HO.out (by
     intro j hj
     rw [show Addr.add ⟨w1.heap.size, 0, none⟩ j = ⟨w1.heap.size, j, none⟩ by unfold Addr.add; split <;> simp_all, blk_cell (show wr.drew.heap[w1.heap.size]? = some (.cells cur 5 (0, 0)) from HB.out) j]
     exact HO.out j hj) rfl (by have := HZ.out; omega)
    rw [show ((1 : Nat) : Int) = 1 from rfl] at hc ⊢
    have HBn := Lib.hid hbx
    have HOn := Lib.hid (show ∀ j, j < 2 → cur'[j]? = some (.int .u8 1) from hox)
    have HEn := Lib.hid (hjx.ext (HE.out.trans (Ext.drew _)) (Nat.le_refl _))
    have HZn := Lib.hid (show 32 ≤ cur'.size by have := HZ.out; omega)
    clear hbx hzx hox hjx HB HO HE HZ
    go_upto_region 20 with fail
    rw [show min (1 : Int) 32 = 1 from by decide]
    go_region_with fail
    all_goals
     go_roundw
     case rel =>
      have hR : ∃ (p : Nat) (cur : Array Value), Value.int .i64 2 = .int .i64 (p : Int) ∧ (p = 1 ∨ p = 2 ∨ p = 4 ∨ p = 8 ∨ p = 16 ∨ p = 32) ∧ Hid (X.heap[w1.heap.size]? = some (.cells cur 5 (0, 0))) ∧ Hid (∀ j, j < p → cur[j]? = some (.int .u8 1)) ∧ Hid (32 ≤ cur.size) ∧ Hid (Ext w1 X) := ⟨2, cur', rfl, by omega, HBn, HOn, HZn, HEn⟩
      first | exact ⟨_, _, _, _, _, _, _, _, _, _, _, _, _, _, _, hR, rfl⟩ | exact ⟨_, _, _, _, _, _, _, _, _, _, _, _, _, _, _, _, hR, rfl⟩ | exact ⟨_, _, _, _, _, _, _, _, _, _, _, _, _, _, _, _, _, hR, rfl⟩ | exact ⟨_, _, _, _, _, _, _, _, _, _, _, _, _, _, _, _, _, _, hR, rfl⟩ | exact ⟨_, _, _, _, _, _, _, _, _, _, _, _, _, _, _, _, _, _, _, hR, rfl⟩ | exact ⟨_, _, _, _, _, _, _, _, _, _, _, _, _, _, _, _, _, _, _, _, hR, rfl⟩ | exact ⟨_, _, _, _, _, _, _, _, _, _, _, _, _, _, _, _, _, _, _, _, _, hR, rfl⟩ | exact ⟨_, _, _, _, _, _, _, _, _, _, _, _, _, _, _, _, _, _, _, _, _, _, hR, rfl⟩ | exact ⟨_, _, _, _, _, _, _, _, _, _, _, _, _, _, _, _, _, _, _, _, _, _, _, hR, rfl⟩
     case measure => change (32 - (2 : Int)).toNat < (32 - (1 : Int)).toNat; decide
  · obtain ⟨X, cur', hc, hbx, hzx, hox, hjx⟩ := ones_copy (w := wr.drew) (p := 2) (k := 2) (dl := 30) (dc := 30) (sl := 2) (sc := 32) (a := ⟨w1.heap.size, 0, none⟩) (show wr.drew.heap[w1.heap.size]? = some (.cells cur 5 (0, 0)) from HB.out) HO.out (by
     intro j hj
     rw [show Addr.add ⟨w1.heap.size, 0, none⟩ j = ⟨w1.heap.size, j, none⟩ by unfold Addr.add; split <;> simp_all, blk_cell (show wr.drew.heap[w1.heap.size]? = some (.cells cur 5 (0, 0)) from HB.out) j]
     exact HO.out j hj) rfl (by have := HZ.out; omega)
    rw [show ((2 : Nat) : Int) = 2 from rfl] at hc ⊢
    have HBn := Lib.hid hbx
    have HOn := Lib.hid (show ∀ j, j < 4 → cur'[j]? = some (.int .u8 1) from hox)
    have HEn := Lib.hid (hjx.ext (HE.out.trans (Ext.drew _)) (Nat.le_refl _))
    have HZn := Lib.hid (show 32 ≤ cur'.size by have := HZ.out; omega)
    clear hbx hzx hox hjx HB HO HE HZ
    go_upto_region 20 with fail
    rw [show min (2 : Int) 32 = 2 from by decide]
    go_region_with fail
    all_goals
     go_roundw
     case rel =>
      have hR : ∃ (p : Nat) (cur : Array Value), Value.int .i64 4 = .int .i64 (p : Int) ∧ (p = 1 ∨ p = 2 ∨ p = 4 ∨ p = 8 ∨ p = 16 ∨ p = 32) ∧ Hid (X.heap[w1.heap.size]? = some (.cells cur 5 (0, 0))) ∧ Hid (∀ j, j < p → cur[j]? = some (.int .u8 1)) ∧ Hid (32 ≤ cur.size) ∧ Hid (Ext w1 X) := ⟨4, cur', rfl, by omega, HBn, HOn, HZn, HEn⟩
      first | exact ⟨_, _, _, _, _, _, _, _, _, _, _, _, _, _, _, hR, rfl⟩ | exact ⟨_, _, _, _, _, _, _, _, _, _, _, _, _, _, _, _, hR, rfl⟩ | exact ⟨_, _, _, _, _, _, _, _, _, _, _, _, _, _, _, _, _, hR, rfl⟩ | exact ⟨_, _, _, _, _, _, _, _, _, _, _, _, _, _, _, _, _, _, hR, rfl⟩ | exact ⟨_, _, _, _, _, _, _, _, _, _, _, _, _, _, _, _, _, _, _, hR, rfl⟩ | exact ⟨_, _, _, _, _, _, _, _, _, _, _, _, _, _, _, _, _, _, _, _, hR, rfl⟩ | exact ⟨_, _, _, _, _, _, _, _, _, _, _, _, _, _, _, _, _, _, _, _, _, hR, rfl⟩ | exact ⟨_, _, _, _, _, _, _, _, _, _, _, _, _, _, _, _, _, _, _, _, _, _, hR, rfl⟩ | exact ⟨_, _, _, _, _, _, _, _, _, _, _, _, _, _, _, _, _, _, _, _, _, _, _, hR, rfl⟩
     case measure => change (32 - (4 : Int)).toNat < (32 - (2 : Int)).toNat; decide
  · obtain ⟨X, cur', hc, hbx, hzx, hox, hjx⟩ := ones_copy (w := wr.drew) (p := 4) (k := 4) (dl := 28) (dc := 28) (sl := 4) (sc := 32) (a := ⟨w1.heap.size, 0, none⟩) (show wr.drew.heap[w1.heap.size]? = some (.cells cur 5 (0, 0)) from HB.out) HO.out (by
     intro j hj
     rw [show Addr.add ⟨w1.heap.size, 0, none⟩ j = ⟨w1.heap.size, j, none⟩ by unfold Addr.add; split <;> simp_all, blk_cell (show wr.drew.heap[w1.heap.size]? = some (.cells cur 5 (0, 0)) from HB.out) j]
     exact HO.out j hj) rfl (by have := HZ.out; omega)
    rw [show ((4 : Nat) : Int) = 4 from rfl] at hc ⊢
    have HBn := Lib.hid hbx
    have HOn := Lib.hid (show ∀ j, j < 8 → cur'[j]? = some (.int .u8 1) from hox)
    have HEn := Lib.hid (hjx.ext (HE.out.trans (Ext.drew _)) (Nat.le_refl _))
    have HZn := Lib.hid (show 32 ≤ cur'.size by have := HZ.out; omega)
    clear hbx hzx hox hjx HB HO HE HZ
    go_upto_region 20 with fail
    rw [show min (4 : Int) 32 = 4 from by decide]
    go_region_with fail
    all_goals
     go_roundw
     case rel =>
      have hR : ∃ (p : Nat) (cur : Array Value), Value.int .i64 8 = .int .i64 (p : Int) ∧ (p = 1 ∨ p = 2 ∨ p = 4 ∨ p = 8 ∨ p = 16 ∨ p = 32) ∧ Hid (X.heap[w1.heap.size]? = some (.cells cur 5 (0, 0))) ∧ Hid (∀ j, j < p → cur[j]? = some (.int .u8 1)) ∧ Hid (32 ≤ cur.size) ∧ Hid (Ext w1 X) := ⟨8, cur', rfl, by omega, HBn, HOn, HZn, HEn⟩
      first | exact ⟨_, _, _, _, _, _, _, _, _, _, _, _, _, _, _, hR, rfl⟩ | exact ⟨_, _, _, _, _, _, _, _, _, _, _, _, _, _, _, _, hR, rfl⟩ | exact ⟨_, _, _, _, _, _, _, _, _, _, _, _, _, _, _, _, _, hR, rfl⟩ | exact ⟨_, _, _, _, _, _, _, _, _, _, _, _, _, _, _, _, _, _, hR, rfl⟩ | exact ⟨_, _, _, _, _, _, _, _, _, _, _, _, _, _, _, _, _, _, _, hR, rfl⟩ | exact ⟨_, _, _, _, _, _, _, _, _, _, _, _, _, _, _, _, _, _, _, _, hR, rfl⟩ | exact ⟨_, _, _, _, _, _, _, _, _, _, _, _, _, _, _, _, _, _, _, _, _, hR, rfl⟩ | exact ⟨_, _, _, _, _, _, _, _, _, _, _, _, _, _, _, _, _, _, _, _, _, _, hR, rfl⟩ | exact ⟨_, _, _, _, _, _, _, _, _, _, _, _, _, _, _, _, _, _, _, _, _, _, _, hR, rfl⟩
     case measure => change (32 - (8 : Int)).toNat < (32 - (4 : Int)).toNat; decide
  · obtain ⟨X, cur', hc, hbx, hzx, hox, hjx⟩ := ones_copy (w := wr.drew) (p := 8) (k := 8) (dl := 24) (dc := 24) (sl := 8) (sc := 32) (a := ⟨w1.heap.size, 0, none⟩) (show wr.drew.heap[w1.heap.size]? = some (.cells cur 5 (0, 0)) from HB.out) HO.out (by
     intro j hj
     rw [show Addr.add ⟨w1.heap.size, 0, none⟩ j = ⟨w1.heap.size, j, none⟩ by unfold Addr.add; split <;> simp_all, blk_cell (show wr.drew.heap[w1.heap.size]? = some (.cells cur 5 (0, 0)) from HB.out) j]
     exact HO.out j hj) rfl (by have := HZ.out; omega)
    rw [show ((8 : Nat) : Int) = 8 from rfl] at hc ⊢
    have HBn := Lib.hid hbx
    have HOn := Lib.hid (show ∀ j, j < 16 → cur'[j]? = some (.int .u8 1) from hox)
    have HEn := Lib.hid (hjx.ext (HE.out.trans (Ext.drew _)) (Nat.le_refl _))
    have HZn := Lib.hid (show 32 ≤ cur'.size by have := HZ.out; omega)
    clear hbx hzx hox hjx HB HO HE HZ
    go_upto_region 20 with fail
    rw [show min (8 : Int) 32 = 8 from by decide]
    go_region_with fail
    all_goals
     go_roundw
     case rel =>
      have hR : ∃ (p : Nat) (cur : Array Value), Value.int .i64 16 = .int .i64 (p : Int) ∧ (p = 1 ∨ p = 2 ∨ p = 4 ∨ p = 8 ∨ p = 16 ∨ p = 32) ∧ Hid (X.heap[w1.heap.size]? = some (.cells cur 5 (0, 0))) ∧ Hid (∀ j, j < p → cur[j]? = some (.int .u8 1)) ∧ Hid (32 ≤ cur.size) ∧ Hid (Ext w1 X) := ⟨16, cur', rfl, by omega, HBn, HOn, HZn, HEn⟩
      first | exact ⟨_, _, _, _, _, _, _, _, _, _, _, _, _, _, _, hR, rfl⟩ | exact ⟨_, _, _, _, _, _, _, _, _, _, _, _, _, _, _, _, hR, rfl⟩ | exact ⟨_, _, _, _, _, _, _, _, _, _, _, _, _, _, _, _, _, hR, rfl⟩ | exact ⟨_, _, _, _, _, _, _, _, _, _, _, _, _, _, _, _, _, _, hR, rfl⟩ | exact ⟨_, _, _, _, _, _, _, _, _, _, _, _, _, _, _, _, _, _, _, hR, rfl⟩ | exact ⟨_, _, _, _, _, _, _, _, _, _, _, _, _, _, _, _, _, _, _, _, hR, rfl⟩ | exact ⟨_, _, _, _, _, _, _, _, _, _, _, _, _, _, _, _, _, _, _, _, _, hR, rfl⟩ | exact ⟨_, _, _, _, _, _, _, _, _, _, _, _, _, _, _, _, _, _, _, _, _, _, hR, rfl⟩ | exact ⟨_, _, _, _, _, _, _, _, _, _, _, _, _, _, _, _, _, _, _, _, _, _, _, hR, rfl⟩
     case measure => change (32 - (16 : Int)).toNat < (32 - (8 : Int)).toNat; decide
  · obtain ⟨X, cur', hc, hbx, hzx, hox, hjx⟩ := ones_copy (w := wr.drew) (p := 16) (k := 16) (dl := 16) (dc := 16) (sl := 16) (sc := 32) (a := ⟨w1.heap.size, 0, none⟩) (show wr.drew.heap[w1.heap.size]? = some (.cells cur 5 (0, 0)) from HB.out) HO.out (by
     intro j hj
     rw [show Addr.add ⟨w1.heap.size, 0, none⟩ j = ⟨w1.heap.size, j, none⟩ by unfold Addr.add; split <;> simp_all, blk_cell (show wr.drew.heap[w1.heap.size]? = some (.cells cur 5 (0, 0)) from HB.out) j]
     exact HO.out j hj) rfl (by have := HZ.out; omega)
    rw [show ((16 : Nat) : Int) = 16 from rfl] at hc ⊢
    have HBn := Lib.hid hbx
    have HOn := Lib.hid (show ∀ j, j < 32 → cur'[j]? = some (.int .u8 1) from hox)
    have HEn := Lib.hid (hjx.ext (HE.out.trans (Ext.drew _)) (Nat.le_refl _))
    have HZn := Lib.hid (show 32 ≤ cur'.size by have := HZ.out; omega)
    clear hbx hzx hox hjx HB HO HE HZ
    go_upto_region 20 with fail
    rw [show min (16 : Int) 32 = 16 from by decide]
    go_region_with fail
    all_goals
     go_roundw
     case rel =>
      have hR : ∃ (p : Nat) (cur : Array Value), Value.int .i64 32 = .int .i64 (p : Int) ∧ (p = 1 ∨ p = 2 ∨ p = 4 ∨ p = 8 ∨ p = 16 ∨ p = 32) ∧ Hid (X.heap[w1.heap.size]? = some (.cells cur 5 (0, 0))) ∧ Hid (∀ j, j < p → cur[j]? = some (.int .u8 1)) ∧ Hid (32 ≤ cur.size) ∧ Hid (Ext w1 X) := ⟨32, cur', rfl, by omega, HBn, HOn, HZn, HEn⟩
      first | exact ⟨_, _, _, _, _, _, _, _, _, _, _, _, _, _, _, hR, rfl⟩ | exact ⟨_, _, _, _, _, _, _, _, _, _, _, _, _, _, _, _, hR, rfl⟩ | exact ⟨_, _, _, _, _, _, _, _, _, _, _, _, _, _, _, _, _, hR, rfl⟩ | exact ⟨_, _, _, _, _, _, _, _, _, _, _, _, _, _, _, _, _, _, hR, rfl⟩ | exact ⟨_, _, _, _, _, _, _, _, _, _, _, _, _, _, _, _, _, _, _, hR, rfl⟩ | exact ⟨_, _, _, _, _, _, _, _, _, _, _, _, _, _, _, _, _, _, _, _, hR, rfl⟩ | exact ⟨_, _, _, _, _, _, _, _, _, _, _, _, _, _, _, _, _, _, _, _, _, hR, rfl⟩ | exact ⟨_, _, _, _, _, _, _, _, _, _, _, _, _, _, _, _, _, _, _, _, _, _, hR, rfl⟩ | exact ⟨_, _, _, _, _, _, _, _, _, _, _, _, _, _, _, _, _, _, _, _, _, _, _, hR, rfl⟩
     case measure => change (32 - (32 : Int)).toNat < (32 - (16 : Int)).toNat; decide
  · rw [show ((32 : Nat) : Int) = 32 from rfl]
    have hones : bys (List.replicate 32 1) = List.replicate 32 (Value.int .u8 1) := by simp [bys]
    have hRB : RB wr (fun k => k < wr.heap.size) (some ⟨w1.heap.size, 0, none⟩) 32 (List.replicate 32 1) := by
     refine ⟨⟨by simp, by unfold maxLen; omega, by simp [bys], fun _ => ⟨⟨w1.heap.size, 0, none⟩, rfl, blk_lt HB.out, fun j u hu => ?_⟩⟩, fun x hx => by rw [(List.mem_replicate.1 hx).2]; omega, by simp⟩
     rw [hones] at hu
     obtain ⟨h1, h2⟩ := List.getElem?_eq_some_iff.1 hu
     rw [List.length_replicate] at h1
     rw [List.getElem_replicate] at h2
     rw [show Addr.add ⟨w1.heap.size, 0, none⟩ j = ⟨w1.heap.size, j, none⟩ by unfold Addr.add; split <;> simp_all, blk_cell HB.out j, HO.out j h1, h2]
    have HRB := Lib.hid hRB
    clear hRB hones
    go_wp2_with fail
    go_ret
    exact ⟨_, rfl, HRB.out, HE.out⟩
end Go.Proofs.YtlaphnlolgokiaaGreatDoor

namespace Go.Proofs.YtlaphnlolgokiaaGreatDoor
open Go.RowKit
open Sha

theorem made32 (w : World) : RB (w.alloc (.cells (madeCells #[.int .u8 0] 32) 5)) (fun k => k < (w.alloc (.cells (madeCells #[.int .u8 0] 32) 5)).heap.size) (some ⟨w.heap.size, 0, none⟩) 32 (List.replicate 32 0) := by
 have := (Blk8.made w 32).rb (P := fun k => k < (w.alloc (.cells (madeCells #[.int .u8 0] 32) 5)).heap.size) (by rw [World.size_alloc]; omega) (by simp) (by simp)
 rwa [List.length_replicate] at this
def news (d : List Nat) : List Nat × List Nat := upd2 (List.replicate 32 0) (List.replicate 32 1) d
set_option maxRecDepth 100000 in
set_option maxHeartbeats 8000000 in
theorem new_any {P : Nat → Prop} {A : Option Addr} {c : Nat} {d : List Nat} (w : World) (hk : KW w) (hp : RB w P A c d) (hP : ∀ k, P k → k < w.heap.size) (hl : d.length ≤ 200000) :
 Calls Tryz.prog 12 #[.slice A d.length c] w fun e w' => ∃ b, e = .returned (.pointer (some ⟨b, 0, none⟩)) ∧ w.heap.size ≤ b ∧ DR w' b (news d).1 (news d).2 0 ∧ Ext w w' := by
 have HK := Lib.hid hk
 have HP := Lib.hid hp
 have HPP := Lib.hid hP
 clear hk hp hP
 go_enter Tryz.func12, Tryz.ntmps12
 go_upto_region 1 with fail
 refine Par.region_ext (by kernel_rfl) 6 [0, 0, 2, 7, 15, 31] [] (fun j f X => match j with
  | 0 => ∃ g, f 0 = .slice (some ⟨g, 0, none⟩) 32 32 ∧ RB X (fun k => k < X.heap.size) (some ⟨g, 0, none⟩) 32 (List.replicate 32 0)
  | 1 => ∃ g, f 1 = .slice (some ⟨g, 0, none⟩) 1 1 ∧ X.heap[g]? = some (.cells #[.int .u8 1] 5 (0, 0))
  | 2 => ∃ A, f 2 = .slice A 32 32 ∧ RB X (fun k => k < X.heap.size) A 32 (List.replicate 32 1)
  | 3 => ∃ g A, f 3 = .agg #[.slice (some ⟨g, 0, none⟩) 32 32, .slice A 32 32, .int .i64 0] ∧ RB X (fun k => k < X.heap.size) (some ⟨g, 0, none⟩) 32 (List.replicate 32 0) ∧ RB X (fun k => k < X.heap.size) A 32 (List.replicate 32 1)
  | 4 => ∃ b, f 4 = .pointer (some ⟨b, 0, none⟩) ∧ w.heap.size ≤ b ∧ DR X b (List.replicate 32 0) (List.replicate 32 1) 0
  | 5 => ∃ b, f 5 = .pointer (some ⟨b, 0, none⟩) ∧ w.heap.size ≤ b ∧ DR X b (List.replicate 32 0) (List.replicate 32 1) 0
  | _ => True) (by kernel_rfl) [(4, 0), (5, 1), (6, 2), (7, 3), (8, 4), (3, 5)] (by kernel_rfl) ?_
 refine Par.S 1 5 [(5, 1), (6, 2)] (fun f X hX hR K hK => ?_) ?_
 · have hmk := run_make_row' (P := Tryz.prog) 62 5 (.int .u8 0) 1 Tryz.underlying62 info8 rfl .i64 .i64 32 (by omega) (by omega)
   simp only [Int.cast_ofNat_Int] at hmk
   simp only [yA, yB, yC, yD, yE]
   refine ⟨?_⟩
   go_simp
   exact hK.out _ _ _ (by simp only [yA, yB, yC, yD, yE]) (Ext.alloc _ _) trivial (fun Y hY => ⟨_, rfl, (made32 X).upE hY⟩)
 refine Par.S 2 4 [(4, 0)] (fun f X hX hR K hK => ?_) ?_
 · simp only [yA, yB, yC, yD, yE]
   refine ⟨?_⟩
   go_simp
   exact hK.out _ _ _ (by simp only [yA, yB, yC, yD, yE]) (Ext.alloc _ _) trivial (fun Y hY => ⟨_, rfl, hY.at_ (heap_alloc_new _ _)⟩)
 refine Par.c0 3 3 (fun f => #[f 1, Value.int IntKind.i64 32]) (F' := 38) (fun f X hX hR => ?_) ?_
 · obtain ⟨g1, (e1 : f 1 = _), r1⟩ := hR.out 1 rfl
   simp only [e1]
   refine (repeat_one X r1).mono ?_
   rintro e w2 ⟨A2, rfl, hr, hE⟩
   exact ⟨_, rfl, hE, fun Y hY => ⟨A2, rfl, hr.upE hY⟩⟩
 refine Par.S 4 2 [(4, 0), (5, 1), (6, 2)] (fun f X hX hR K hK => ?_) ?_
 · obtain ⟨g0, (e0 : f 0 = _), r0⟩ := hR.out 0 rfl
   obtain ⟨A2, (e2 : f 2 = _), r2⟩ := hR.out 2 rfl
   simp only [yA, yB, yC, yD, yE, e0, e2]
   refine ⟨?_⟩
   go_simp
   exact hK.out _ _ _ (by simp only [yA, yB, yC, yD, yE, e0, e2]) (Ext.refl _) trivial (fun Y hY => ⟨_, _, rfl, r0.upE hY, r2.upE hY⟩)
 refine Par.S 5 1 [(4, 0), (5, 1), (6, 2), (7, 3)] (fun f X hX hR K hK => ?_) ?_
 · obtain ⟨g3, A3, (e3 : f 3 = _), r3, s3⟩ := hR.out 3 rfl
   simp only [yA, yB, yC, yD, yE, e3]
   refine ⟨?_⟩
   go_simp
   exact hK.out _ _ _ (by simp only [yA, yB, yC, yD, yE, e3]) (Ext.alloc _ _) trivial (fun Y hY => ⟨_, rfl, hX.bsize, DR.ext ⟨_, _, _, _, heap_alloc_new _ _, r3.upE (Ext.alloc _ _), s3.upE (Ext.alloc _ _), by simp, by simp⟩ hY⟩)
 refine Par.S 6 0 [(4, 0), (5, 1), (6, 2), (7, 3), (8, 4)] (fun f X hX hR K hK => ?_) ?_
 · obtain ⟨b4, (e4 : f 4 = _), l4, d4⟩ := hR.out 4 rfl
   simp only [yA, yB, yC, yD, yE, e4]
   refine ⟨?_⟩
   go_simp
   exact hK.out _ _ _ (by simp only [yA, yB, yC, yD, yE, e4]) (Ext.refl _) trivial (fun Y hY => ⟨_, rfl, l4, d4.ext hY⟩)
 refine Par.AllOps.fin ⟨fun f X hX hR hal hap => ?_⟩
 obtain ⟨g0, (e0 : f 0 = _), r0⟩ := hR 0 (by decide)
 obtain ⟨g1, (e1 : f 1 = _), r1⟩ := hR 1 (by decide)
 obtain ⟨A2, (e2 : f 2 = _), r2⟩ := hR 2 (by decide)
 obtain ⟨g3, A3, (e3 : f 3 = _), r3, s3⟩ := hR 3 (by decide)
 obtain ⟨b4, (e4 : f 4 = _), l4, d4⟩ := hR 4 (by decide)
 obtain ⟨b, (e5 : f 5 = _), lb, db⟩ := hR 5 (by decide)
 simp only [yA, yB, yD, yE, e0, e1, e2, e3, e4, e5]
 clear hR hal hap e0 e1 e2 e3 e4 e5
 refine Par.Chain.done ?_
 have H := Lib.hid (update_any X (HK.out.ext hX) db (HP.out.below hX HPP.out) (fun k hk => Nat.lt_of_lt_of_le (HPP.out k hk) hX.bsize) hl)
 clear r0 r1 r2 r3 s3 l4 d4 db HP HPP
 have HX := Lib.hid hX
 clear hX
 go_wp2_with fail
 refine H.out.mono ?_
 rintro e w1 ⟨rfl, hd, hf⟩
 have HD := Lib.hid hd
 have HF := Lib.hid (hf.ext' HX.out lb HX.out.bsize)
 clear hd hf H
 go_wp2_with fail
 go_ret
 exact ⟨b, rfl, lb, HD.out, HF.out⟩
end Go.Proofs.YtlaphnlolgokiaaGreatDoor
