/- A list of attributes in memory of the call's own; what Short and Cut compute. -/
import Derived.Test.YtpikikaoelnheaaMatch
import Derived.Deep.RegionHeld3
import Derived.Deep.CutRange
import Derived.Deep.DeepCutAuto
import Derived.Deep.DeepMust
namespace Go.Proofs.Ytpikikaoelnheaa
open Go.RowKit

/-- A list of attributes in memory of the call's own, from block base on: its row has the cells cs; the values lie in other blocks. -/
def OA (w : World) (base : Nat) (A : Option Addr) (c : Nat) (l : List (Int × List Nat)) (cs : List Value) : Prop :=
  w.ownsRow base 48 2 (.slice A l.length c) l.length cs ∧ ∀ j x, l[j]? = some x → cs[j * 2]? = some (.int .i64 x.1) ∧
    ∃ A' c', cs[j * 2 + 1]? = some (.slice A' x.2.length c') ∧ RB w (fun b => base ≤ b ∧ b < w.heap.size ∧ (Value.slice A l.length c).ownBlock ≠ some b) A' c' x.2

theorem OA.ra {w : World} {base : Nat} {A : Option Addr} {c : Nat} {l : List (Int × List Nat)} {cs : List Value} (h : OA w base A c l cs) : RA w (In base w.heap.size) A c l :=
  ⟨cs, RS.of_own h.1, fun j x hx => by
    obtain ⟨h1, A', c', h2, h3⟩ := h.2 j x hx
    exact ⟨h1, A', c', h2, h3.mono fun b hb => ⟨hb.1, hb.2.1⟩⟩⟩
theorem OA.nil_ (w : World) (base : Nat) : OA w base none 0 [] [] := ⟨World.ownsRow_nil _ _ _ _, by simp⟩
theorem OA.below {w w' : World} {base : Nat} {A : Option Addr} {c : Nat} {l : List (Int × List Nat)} {cs : List Value} (h : OA w base A c l cs) (hb : Below w.heap.size w w') : OA w' base A c l cs := by
  refine ⟨h.1.kept ⟨hb.os, hb.tape, hb.output, hb.size, fun k hk _ => hb.block k hk⟩ (row := none) ?_, fun j x hx => ?_⟩
  · cases (Value.slice A l.length c).ownBlock <;> simp
  · obtain ⟨h1, A', c', h2, h3⟩ := h.2 j x hx
    have := hb.size
    exact ⟨h1, A', c', h2, (h3.below hb fun b hb => hb.2.1).mono fun b hb => ⟨hb.1, by omega, hb.2.2⟩⟩
theorem OA.drewN {w : World} {base : Nat} {A : Option Addr} {c : Nat} {l : List (Int × List Nat)} {cs : List Value} (h : OA w base A c l cs) (n : Nat) : OA (w.drewN n) base A c l cs := h

/-- Behind an append of one attribute. -/
theorem OA.snoc {wr W2 W3 : World} {base : Nat} {A A' : Option Addr} {c c' : Nat} {l : List (Int × List Nat)} {cs : List Value} {m : Nat} (h : OA wr base A c l cs) (hm : l.length = m) (hb : Below wr.heap.size wr W2) {x : Int × List Nat} {Au : Option Addr} {cu : Nat}
    (hu : RB W2 (In wr.heap.size W2.heap.size) Au cu x.2) (hbase : base ≤ wr.heap.size)
    (hown : W3.ownsRow base 48 2 (.slice A' (m + 1) c') (m + 1) (cs ++ [.int .i64 x.1, .slice Au x.2.length cu])) (hg : W2.grownBy W3 (Value.slice A m c).ownBlock)
    (hor : (Value.slice A' (m + 1) c').ownBlock = (Value.slice A m c).ownBlock ∨ (Value.slice A' (m + 1) c').ownBlock = some W2.heap.size) :
    OA W3 base A' c' (l ++ [x]) (cs ++ [.int .i64 x.1, .slice Au x.2.length cu]) := by
  subst hm
  have hl := h.1.1
  have hlt := h.1.lt
  have hs := hb.size
  have hs' := hg.size
  have eown : (Value.slice A' (l.length + 1) c').ownBlock = (Value.slice A' (l ++ [x]).length c').ownBlock := by cases A' <;> rfl
  rw [eown] at hor
  have kept : ∀ (b : Nat), b < W2.heap.size → (Value.slice A l.length c).ownBlock ≠ some b → W3.heap[b]? = W2.heap[b]? := fun b h1 h2 => hg.block b h1 (fun e => h2 e.symm)
  refine ⟨by simpa using hown, fun j y hy => ?_⟩
  rcases Nat.lt_or_ge j l.length with hj | hj
  · rw [List.getElem?_append_left hj] at hy
    obtain ⟨h1, A1, c1, h2, h3⟩ := h.2 j y hy
    rw [List.getElem?_append_left (by omega), List.getElem?_append_left (by omega)]
    refine ⟨h1, A1, c1, h2, ((h3.below hb fun b hb => hb.2.1).keep fun p hp => ?_).mono fun b hp => ?_⟩
    · exact World.cell?_of_block (kept _ (by omega) hp.2.2)
    · refine ⟨hp.1, by omega, ?_⟩
      rcases hor with e | e
      · rw [e]; exact hp.2.2
      · rw [e]; intro e'; injection e' with e'; omega
  · have hjl : j = l.length := by
      have := (List.getElem?_eq_some_iff.1 hy).1
      simp at this
      omega
    subst hjl
    simp at hy
    subst hy
    rw [List.getElem?_append_right (by omega), List.getElem?_append_right (by omega), hl]
    refine ⟨by simp, Au, cu, by simp, (hu.keep fun p hp => ?_).mono fun b hp => ?_⟩
    · refine World.cell?_of_block (kept _ hp.2 fun e => ?_)
      have := (hlt _ e).2
      have := hp.1
      omega
    · have h1 := hp.1
      have h2 := hp.2
      refine ⟨by omega, by omega, ?_⟩
      rcases hor with e | e
      · rw [e]; intro e'; have := (hlt _ e').2; omega
      · rw [e]; intro e'; injection e' with e'; omega

theorem RB.take {w : World} {P : Nat → Prop} {A : Option Addr} {c : Nat} {bs : List Nat} (h : RB w P A c bs) (n : Nat) : RB w P A c (bs.take n) := by
  have h1 := h.1.pre (m := (bs.take n).length) (by simp; omega)
  have e : (bys bs).take ((bs.take n).length * 1) = bys (bs.take n) := by
    simp [bys, List.map_take]
  rw [e] at h1
  exact ⟨h1, fun b hb => h.2.1 b (List.mem_of_mem_take hb), by have := h.2.2; simp; omega⟩

set_option maxHeartbeats 400000 in
theorem short_any (P : Nat → Prop) (A : Option Addr) (c n : Nat) (bs : List Nat) (w : World) (h : RB w P A c bs) (hn : n ≤ 4611686018427387904) :
    Calls Try.prog 41 #[.slice A bs.length c, .int .i64 n] w fun e w' => e = .returned (.slice A (bs.take n).length c) ∧ w = w' := by
  obtain ⟨h1, h2, h3⟩ := h.cap
  by_cases hlt : n < bs.length
  · have e : (bs.take n).length = n := by simp; omega
    rw [e]
    clear e
    go_enter Try.func41, Try.ntmps41
    go_wp2
    go_ret
    exact ⟨rfl, rfl⟩
  · have e : (bs.take n).length = bs.length := by simp; omega
    rw [e]
    clear e
    go_enter Try.func41, Try.ntmps41
    go_wp2
    go_ret
    exact ⟨rfl, rfl⟩

theorem info48 : (Try.prog.info? 48).map (fun i => (i.zero, i.size, i.bytes)) = some (some (.agg #[.int .i64 0, .slice none 0 0]), 2, 32) := by kernel_rfl

/-- What Cut gives. -/
def cutOf (l : List (Int × List Nat)) (n b : Nat) : List (Int × List Nat) := (l.take n).map fun x => (x.1, x.2.take b)
theorem cutOf_succ {l : List (Int × List Nat)} {k b : Nat} (hk : k < l.length) : cutOf l (k + 1) b = cutOf l k b ++ [(l[k].1, l[k].2.take b)] := by
  rw [cutOf, List.take_succ_eq_append_getElem hk, List.map_append]; rfl
theorem cutOf_length (l : List (Int × List Nat)) (n b : Nat) : (cutOf l n b).length = min n l.length := by simp [cutOf]

set_option maxRecDepth 100000 in
set_option maxHeartbeats 1600000 in
theorem cut_any (P : Nat → Prop) (A : Option Addr) (c : Nat) (l : List (Int × List Nat)) (n b : Nat) (w : World) (hv : RA w P A c l) (hP : ∀ b, P b → b < w.heap.size) (hn : n ≤ 1000000) (hb : b ≤ 1000000) :
    Calls Try.prog 12 #[.slice A l.length c, .int .i64 n, .int .i64 b] w fun e w' => ∃ A' c' cs, e = .returned (.slice A' (cutOf l n b).length c') ∧ OA w' w.heap.size A' c' (cutOf l n b) cs ∧ Below w.heap.size w w' := by
  obtain ⟨hlc, hc⟩ := hv.cap
  obtain ⟨i0, hi, hz0, hz1, hz2⟩ := info_parts info5
  obtain ⟨i1, hj, hy0, hy1, hy2⟩ := info_parts info48
  go_enter Try.func12, Try.ntmps12
  go_wp2
  go_loopw [7, 8] (fun v i wr => ∃ (k : Nat) (A' : Option Addr) (c' : Nat) (cs : List Value), k ≤ l.length ∧ k ≤ n ∧ i = .int .i64 k ∧ v = .slice A' (cutOf l k b).length c' ∧ OA wr w.heap.size A' c' (cutOf l k b) cs ∧ Below w.heap.size w wr) (fun _ i _ => l.length - (intOf i).toNat)
  case atStart => exact ⟨0, none, 0, [], Nat.zero_le _, Nat.zero_le _, rfl, rfl, OA.nil_ _ _, Below.refl _ _⟩
  case round =>
    obtain ⟨k, A', c', cs, hk, hkn, rfl, rfl, hO, hB⟩ := hrel
    have hs := hB.size
    by_cases hlt : k < l.length
    · by_cases hltn : k < n
      · obtain ⟨ad, Au, cu, rfl, hb, hc1, hc2, hu⟩ := (hv.below hB hP).at_ hlt
        have hP1 : ∀ b, P b → b < wr.heap.size := fun b hb => Nat.lt_of_lt_of_le (hP b hb) hs
        obtain ⟨bs, hbs⟩ : ∃ bs, l[k].2.take b = bs := ⟨_, rfl⟩
        obtain ⟨x, hx⟩ : ∃ x, l[k].1 = x := ⟨_, rfl⟩
        have hub : RB wr P Au cu bs := hbs ▸ hu.take b
        have hsucc := Lib.hid (cutOf_succ (b := b) hlt)
        rw [hx, hbs] at hsucc
        have hcall : ∀ W, RB W P Au cu l[k].2 → Calls Try.prog 41 #[.slice Au l[k].2.length cu, .int .i64 b] W fun e w' => e = .returned (.slice Au bs.length cu) ∧ W = w' := fun W h => hbs ▸ short_any P Au cu b _ W h (by omega)
        have Hcall := Lib.hid hcall
        have hn1 : (cutOf l k b).length ≤ 1000000 := by rw [cutOf_length]; omega
        obtain ⟨m, hm⟩ : ∃ m, (cutOf l k b).length = m := ⟨_, rfl⟩
        have hbs256 := hub.2.1
        have hbsl : bs.length ≤ 1000000 := by rw [← hbs]; simp; omega
        have hsz : (l[k].2.length : Int) ≤ 9223372036854775807 := by have := hu.cap; omega
        have hne : (Value.slice A' m c').ownBlock ≠ some ad.block := by
          intro e
          have := hO.1.lt _ (by rw [hm]; exact e)
          have := hP _ hb
          omega
        have hadlt := hP1 _ hb
        have HO := Lib.hid hO
        have Hm := Lib.hid hm
        have hown : wr.ownsRow w.heap.size 48 2 (.slice A' m c') m cs := hm ▸ hO.1
        rw [hx] at hc1
        rw [hm] at hn1
        rw [hm]
        clear hcall hbs hx hO hm
        go_wp2_with fail
        go_region_held3 (fun w' => w'.cell? (ad.add (k * 2)) = some (.int .i64 x) ∧ w'.cell? ⟨(ad.add (k * 2)).block, (ad.add (k * 2)).off + 1, none⟩ = some (.slice Au l[k].2.length cu))
          (first
            | go_keep
            | ((try dsimp only); refine ⟨?_, ?_⟩ <;> (first | go_keep | (rw [hg1.cell_far _ (by simp [block_of_add]; omega) (by simp [Value.ownBlock])]; assumption) | (go_split_ands; rw [hg2.cell_far _ (by have := hg1.size; simp [block_of_add] at this ⊢; omega) (fun e => hne (by simpa [block_of_add] using e.symm))]; go_keep))))
          (first
            | (go_at_call 41; refine (Hcall.out _ (by exact hu)).mono ?_; rintro e w' ⟨rfl, rfl⟩)
            | (refine step_append_rs _ (by rfl) _ _ _ (by rfl) wr.heap.size 5 i0 _ 1 1 Try.underlying46 hi hz0 hz1 hz2 rfl (by omega) (.slice none 0 0) 0 [] (by rfl) (World.ownsRow_nil _ _ _ _) P Au bs.length cu (bys bs) (by rfl) hub.1 (oneCell_bys _) bs.length (by omega) (by unfold maxLen; omega) (by omega) (by simp) ?_; intro A1 c1 w1 hown1 hg1 hor1)
            | (have _t := hg1; go_must (refine step_append_rs _ (by rfl) _ _ _ (by rfl) w.heap.size 48 i1 _ 2 32 Try.underlying24 hj hy0 hy1 hy2 rfl (by omega) (.slice A' m c') m cs (by rfl) ((own_kept (w := wr.drew) hown hg1).alloc _) (fun _ => True) (some ⟨w1.heap.size, 0, none⟩) 1 1 [.int .i64 x, .slice A1 bs.length c1] (by rfl) (RS.fresh #[.int .i64 x, .slice A1 bs.length c1] 48 2 1 rfl (by unfold maxLen; omega) trivial) (by simp [Value.oneCell']) (m + 1) rfl (by unfold maxLen; omega) (by omega) (by have := hg1.size; simp at this ⊢; omega) ?_; intro A2 c2 w2 hown2 hg2 hor2)))
        have hb1 : Below wr.heap.size wr w1 := (Below.refl wr.heap.size wr).drew.grown hg1 (Nat.le_refl _) (by simp [Value.ownBlock])
        have hb2 := hb1.alloc hb1.size (.cells #[.int .i64 x, .slice A1 bs.length c1] 48)
        have hu1 : RB w1 (In wr.heap.size w1.heap.size) A1 c1 bs := RB.of_own (by simpa using hown1) hbs256 (by omega)
        have hO' := Lib.hid (OA.snoc (x := (x, bs)) HO.out Hm.out hb2 ((hu1.keep fun p hp => World.cell?_alloc_lt w1 _ p hp.2).mono fun b hb => ⟨hb.1, by have := hb.2; simp; omega⟩) hs hown2 hg2 hor2)
        have hB' := (hB.trans (hb2.mono hs)).grown hg2 (by have := hb1.size; simp; omega) (fun g hg => by rw [← Hm.out] at hg; exact (HO.out.1.lt g hg).1)
        rw [← hsucc.out] at hO'
        have hlen := Lib.hid (show (cutOf l (k + 1) b).length = m + 1 by rw [hsucc.out, List.length_append, Hm.out]; rfl)
        clear hg1 hor1 hg2 hor2 hown1 hown2 hb1 hb2 hu1 _t
        go_wp2
        go_roundw
        case rel => exact ⟨k + 1, A2, c2, _, by omega, by omega, by go_num, by rw [hlen.out], hO'.out, hB'⟩
        case measure => simp [intOf]; omega
      · obtain rfl : k = n := by omega
        go_wp2
        go_ret
        exact ⟨A', c', cs, rfl, hO, hB⟩
    · have e : cutOf l k b = cutOf l n b := by
        have : k = l.length := by omega
        subst this
        unfold cutOf
        rw [List.take_of_length_le (Nat.le_refl _), List.take_of_length_le (by omega)]
      have he := Lib.hid e
      clear e
      by_cases hltn : k < n
      all_goals
        go_wp2
        go_ret
        exact ⟨A', c', cs, by rw [← he.out]; rfl, by rw [← he.out]; exact hO, hB⟩
end Go.Proofs.Ytpikikaoelnheaa
