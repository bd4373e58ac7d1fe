/- The laws' own iterators: numbers, and objects that are counted. -/
import Derived.Test.YtpikikaoelnheaaMatch
import Derived.Test.YtpikikaoelnheaaIter
import Derived.TacticsInMore
import Derived.LoopNIn
import Derived.LoopIn
import Derived.ControlIn
import Derived.Shelf.Abstract
import Derived.Deep.RegionHeld3
import Derived.Stop.RegionWithIn
namespace Go.Proofs.Ytpikikaoelnheaa
open Go.RowKit Go.Shelf

attribute [local go_sem] Oper.semAt_some

/-- Numbers as cells. -/
def its (l : List Int) : List Value := l.map fun x => .int .i64 x
/-- The slice reads as the numbers l. -/
def RI (w : World) (P : Nat → Prop) (A : Option Addr) (c : Nat) (l : List Int) : Prop := RS w P 1 A l.length c (its l) ∧ l.length ≤ 17592186044416
section
variable {w w' : World} {P P' : Nat → Prop} {A : Option Addr} {c : Nat} {l : List Int}
theorem RI.keep (h : RI w P A c l) (hk : ∀ p : Addr, P p.block → w'.cell? p = w.cell? p) : RI w' P A c l := ⟨h.1.keep hk, h.2⟩
theorem RI.mono (h : RI w P A c l) (hp : ∀ b, P b → P' b) : RI w P' A c l := ⟨h.1.mono hp, h.2⟩
theorem RI.below {B : Nat} (h : RI w P A c l) (hb : Below B w w') (hB : ∀ b, P b → b < B) : RI w' P A c l := ⟨h.1.below hb hB, h.2⟩
theorem RI.cap (h : RI w P A c l) : l.length ≤ c ∧ c ≤ 9223372036854775807 := ⟨h.1.1, h.1.2.1⟩
theorem RI.at_ (h : RI w P A c l) {i : Nat} (hi' : i < l.length) : ∃ ad, A = some ad ∧ P ad.block ∧ w.cell? (ad.add i) = some (.int .i64 (l.getD i 0)) := by
  obtain ⟨⟨h1, h2, h3, h4⟩, _⟩ := h
  obtain ⟨ad, rfl, hb, hc⟩ := h4 (by omega)
  exact ⟨ad, rfl, hb, hc _ _ (by simp [its, List.getD_eq_getElem?_getD, List.getElem?_eq_getElem hi'])⟩
end

set_option maxRecDepth 100000 in
set_option maxHeartbeats 1000000 in
theorem numbers_any (A : Option Addr) (c n : Nat) (w : World) :
    Calls Try.prog 19 #[.slice A n c] w fun e w' => e = .returned (.func (.func 49) #[] #[.pointer (some ⟨w.heap.size, 0, none⟩)]) ∧ w' = w.alloc (.cells #[.slice A n c] 22) := by
  go_enter Try.func19, Try.ntmps19
  go_wp2
  go_ret
  exact ⟨rfl, rfl⟩

set_option maxRecDepth 100000 in
set_option maxHeartbeats 1000000 in
theorem numbers_seq (Bs n₀ : Nat) (P : Nat → Prop) (A : Option Addr) (c : Nat) (l : List Int) (w : World) (hP : ∀ b, P b → b < n₀) (hBs : Bs < n₀) (hn₀ : n₀ ≤ w.heap.size) (hc : w.cell? ⟨Bs, 0, none⟩ = some (.slice A l.length c)) (hR : RI w P A c l) :
    SeqAt Try.prog 49 #[.pointer (some ⟨Bs, 0, none⟩)] (fun k => #[.int .i64 (l.getD k 0)]) NoNeed TPlain (Below n₀) 0 l.length true w := by
  intro n l' J J' Jx W _ hW _ _ _ _ _ hT _ hY h0
  have hcW := (hW.cell (p := ⟨Bs, 0, none⟩) (Nat.lt_of_lt_of_le hBs hn₀)).trans hc
  have hRW := hR.below hW fun b hb => Nat.lt_of_lt_of_le (hP b hb) hn₀
  have HT := Lib.hid hT
  have HY := Lib.hid hY
  have hcap := hRW.cap
  clear hT hY hc hR
  refine callsIn_of_wp Try.func49 rfl trivial ?_ rfl
  simp only [Try.ntmps49, List.size_toArray, List.length_cons, List.length_nil, Nat.reduceAdd, Nat.reduceSub, Array.replicate_succ, Array.replicate_zero, List.push_toArray, List.append_toArray, List.nil_append, List.cons_append]
  gi_wp2
  gi_loopw [3] (fun i wr => ∃ k : Nat, k ≤ l.length ∧ i = .int .i64 (k : Int) ∧ J k wr ∧ Below n₀ W wr) (fun i _ => l.length - (intOf i).toNat)
  case atStart => exact ⟨0, by omega, rfl, h0, Below.refl _ _⟩
  case round =>
    obtain ⟨k, hk, rfl, hj, hB⟩ := hrel
    have hcx := (hB.cell (p := ⟨Bs, 0, none⟩) hBs).trans hcW
    by_cases hlt : k < l.length
    · obtain ⟨ad, rfl, hb, hx⟩ := (hRW.below hB hP).at_ hlt
      obtain ⟨fn, tmps, assign, body, hy, hRo⟩ := HY.out k wr (HT.out _ _ _ hk hj (World.grownBy.refl wr none)) hlt hB.size
      generalize l.getD k 0 = x at *
      gi_wp2
      refine hRo.mono ?_
      rintro e W3 (⟨rfl, hJ3, hk3, _⟩ | ⟨rfl, hJx3, _⟩)
      · gi_wp2
        go_roundw
        case rel => exact ⟨k + 1, by omega, by go_num, hJ3, hB.trans hk3⟩
        case measure => simp [intOf]; omega
      · gi_wp2
        refine bodyPost_ret (results_none rfl _ _ _) rfl ?_
        exact ⟨⟨_, rfl⟩, .inr ⟨k + 1, by omega, by omega, hJx3⟩⟩
    · obtain rfl : k = l.length := by omega
      have hj' := HT.out _ _ _ (Nat.le_refl _) hj (World.grownBy.refl wr none)
      gi_wp2
      go_end0
      exact ⟨⟨_, rfl⟩, .inl hj'⟩

/-- The slice reads as lists of attributes, one behind the other; cs: the cells. -/
def RAA (w : World) (P : Nat → Prop) (A : Option Addr) (c : Nat) (ls : List (List (Int × List Nat))) (cs : List Value) : Prop :=
  RS w P 1 A ls.length c cs ∧ ∀ (j : Nat) x, ls[j]? = some x → ∃ A' c', cs[j]? = some (.slice A' x.length c') ∧ RA w P A' c' x
section
variable {w w' : World} {P P' : Nat → Prop} {A : Option Addr} {c : Nat} {ls : List (List (Int × List Nat))} {cs : List Value}
theorem RAA.keep (h : RAA w P A c ls cs) (hk : ∀ p : Addr, P p.block → w'.cell? p = w.cell? p) : RAA w' P A c ls cs :=
  ⟨h.1.keep hk, fun j x hx => by obtain ⟨A', c', h1, h2⟩ := h.2 j x hx; exact ⟨A', c', h1, h2.keep hk⟩⟩
theorem RAA.mono (h : RAA w P A c ls cs) (hp : ∀ b, P b → P' b) : RAA w P' A c ls cs :=
  ⟨h.1.mono hp, fun j x hx => by obtain ⟨A', c', h1, h2⟩ := h.2 j x hx; exact ⟨A', c', h1, h2.mono hp⟩⟩
theorem RAA.below {B : Nat} (h : RAA w P A c ls cs) (hb : Below B w w') (hB : ∀ b, P b → b < B) : RAA w' P A c ls cs := h.keep fun _ hp => hb.cell (hB _ hp)
theorem RAA.cap (h : RAA w P A c ls cs) : ls.length ≤ c ∧ c ≤ 9223372036854775807 := ⟨h.1.1, h.1.2.1⟩
theorem RAA.at_ (h : RAA w P A c ls cs) {i : Nat} (hi' : i < ls.length) : ∃ ad A' c', A = some ad ∧ P ad.block ∧ w.cell? (ad.add i) = some (.slice A' ls[i].length c') ∧ cs.getD i undef = .slice A' ls[i].length c' ∧ RA w P A' c' ls[i] := by
  obtain ⟨⟨h1, h2, h3, h4⟩, h5⟩ := h
  obtain ⟨ad, rfl, hb, hc⟩ := h4 (by omega)
  obtain ⟨A', c', h6, h7⟩ := h5 i _ (List.getElem?_eq_getElem hi')
  exact ⟨ad, A', c', rfl, hb, hc _ _ h6, by rw [List.getD_eq_getElem?_getD, h6]; rfl, h7⟩
end

/-- Below n₀ all lies as it lay, but for block cb. -/
structure BelowBut (n₀ cb : Nat) (w w' : World) : Prop where
  os : w'.os = w.os
  tape : w'.tape = w.tape
  output : w'.output = w.output
  size : w.heap.size ≤ w'.heap.size
  block : ∀ b, b < n₀ → b ≠ cb → w'.heap[b]? = w.heap[b]?
theorem BelowBut.refl (n₀ cb : Nat) (w : World) : BelowBut n₀ cb w w := ⟨rfl, rfl, rfl, Nat.le_refl _, fun _ _ _ => rfl⟩
theorem BelowBut.trans {n₀ cb : Nat} {a b c : World} (h : BelowBut n₀ cb a b) (k : BelowBut n₀ cb b c) : BelowBut n₀ cb a c :=
  ⟨k.os.trans h.os, k.tape.trans h.tape, k.output.trans h.output, Nat.le_trans h.size k.size, fun i hi hn => (k.block i hi hn).trans (h.block i hi hn)⟩
theorem below_but {n₀ : Nat} {w w' : World} (h : Below n₀ w w') (cb : Nat) : BelowBut n₀ cb w w' := ⟨h.os, h.tape, h.output, h.size, fun b hb _ => h.block b hb⟩
theorem BelowBut.set {n₀ cb : Nat} {a b : World} (h : BelowBut n₀ cb a b) (v : Value) : BelowBut n₀ cb a (b.setCell ⟨cb, 0, none⟩ v) :=
  ⟨h.os, h.tape, h.output, by simpa [World.setCell] using h.size, fun i hi hn => (Below.heap_setCell _ _ _ _ (by exact hn)).trans (h.block i hi hn)⟩
theorem BelowBut.cell {n₀ cb : Nat} {w w' : World} (h : BelowBut n₀ cb w w') {p : Addr} (hp : p.block < n₀) (hn : p.block ≠ cb) : w'.cell? p = w.cell? p := World.cell?_of_block (h.block _ hp hn)
/-- The count stands at k. -/
def Counted (cb k : Nat) (w : World) : Prop := w.heap[cb]? = some (.cells #[.int .i64 (k : Int)] 3 (0, 0))
/-- One more is counted, if there is one more. -/
def TCount (cb N : Nat) (_B k : Nat) (W W' : World) : Prop := Counted cb k W ∧ (k < N → W' = W.setCell ⟨cb, 0, none⟩ (.int .i64 ((k : Int) + 1))) ∧ (¬ k < N → W' = W)

set_option maxRecDepth 100000 in
set_option maxHeartbeats 1000000 in
theorem given_any (A A' : Option Addr) (c c' n n' : Nat) (p : Option Addr) (w : World) :
    Calls Try.prog 17 #[.slice A n c, .slice A' n' c', .pointer p] w fun e w' => e = .returned (.func (.func 48) #[] #[.pointer (some ⟨w.heap.size, 0, none⟩), .pointer (some ⟨w.heap.size + 1, 0, none⟩), .pointer (some ⟨w.heap.size + 1 + 1, 0, none⟩)]) ∧
      w' = ((w.alloc (.cells #[.slice A n c] 22)).alloc (.cells #[.slice A' n' c'] 23)).alloc (.cells #[.pointer p] 36) := by
  go_enter Try.func17, Try.ntmps17
  go_wp2
  go_ret
  exact ⟨rfl, rfl⟩

theorem grownBy_drew (w : World) : w.grownBy w.drew none := ⟨rfl, rfl, rfl, Nat.le_refl _, fun _ _ _ => rfl⟩

set_option maxRecDepth 100000 in
set_option maxHeartbeats 2000000 in
theorem given_seq (Bs n₀ cb : Nat) (P : Nat → Prop) (A A' : Option Addr) (c c' : Nat) (hs : List Int) (ls : List (List (Int × List Nat))) (cs : List Value) (w : World)
    (hP : ∀ b, P b → b < n₀) (hPc : ¬ P cb) (hBs : Bs + 1 + 1 < n₀) (hcb : cb < Bs) (hn₀ : n₀ ≤ w.heap.size) (h1 : w.cell? ⟨Bs, 0, none⟩ = some (.slice A hs.length c)) (h2 : w.cell? ⟨Bs + 1, 0, none⟩ = some (.slice A' ls.length c')) (h3 : w.cell? ⟨Bs + 1 + 1, 0, none⟩ = some (.pointer (some ⟨cb, 0, none⟩)))
    (hR : RI w P A c hs) (hR' : RAA w P A' c' ls cs) :
    SeqAt Try.prog 48 #[.pointer (some ⟨Bs, 0, none⟩), .pointer (some ⟨Bs + 1, 0, none⟩), .pointer (some ⟨Bs + 1 + 1, 0, none⟩)] (fun k => #[.int .i64 (hs.getD k 0), cs.getD k undef])
      (Counted cb) (TCount cb (min hs.length ls.length)) (BelowBut n₀ cb) 0 (min hs.length ls.length) true w := by
  intro n l' J J' Jx W _ hW _ hOJ hOJ' hOx hNd hT _ hY h0
  have k1 := (hW.cell (p := ⟨Bs, 0, none⟩) (by show Bs < _; omega)).trans h1
  have k2 := (hW.cell (p := ⟨Bs + 1, 0, none⟩) (by show Bs + 1 < _; omega)).trans h2
  have k3 := (hW.cell (p := ⟨Bs + 1 + 1, 0, none⟩) (by show Bs + 1 + 1 < _; omega)).trans h3
  have r1 := hR.below hW fun b hb => Nat.lt_of_lt_of_le (hP b hb) hn₀
  have r2 := hR'.below hW fun b hb => Nat.lt_of_lt_of_le (hP b hb) hn₀
  have hc1 := r1.cap
  have hc2 := r2.cap
  obtain ⟨N, hN⟩ : ∃ N, min hs.length ls.length = N := ⟨_, rfl⟩
  have hN1 : N ≤ hs.length := by omega
  have hN2 : N ≤ ls.length := by omega
  have hN3 : N < hs.length → ¬ N < ls.length := by omega
  rw [hN] at hT hY hNd ⊢
  have HN3 := Lib.hid hN3
  have HT := Lib.hid hT
  have HY := Lib.hid hY
  have HNd := Lib.hid hNd
  have HO := Lib.hid hOJ'
  clear hT hY hNd hN hR hR' h1 h2 h3 hN3 hOJ hOJ' hOx
  refine callsIn_of_wp Try.func48 rfl trivial ?_ rfl
  simp only [Try.ntmps48, List.size_toArray, List.length_cons, List.length_nil, Nat.reduceAdd, Nat.reduceSub, Array.replicate_succ, Array.replicate_zero, List.push_toArray, List.append_toArray, List.nil_append, List.cons_append]
  gi_wp2
  gi_loopw [5] (fun i wr => ∃ k : Nat, k ≤ N ∧ i = .int .i64 (k : Int) ∧ J k wr ∧ BelowBut n₀ cb W wr) (fun i _ => N - (intOf i).toNat)
  case atStart => exact ⟨0, by omega, rfl, h0, BelowBut.refl _ _ _⟩
  case round =>
    obtain ⟨k, hk, rfl, hj, hB⟩ := hrel
    have q1 := (hB.cell (p := ⟨Bs, 0, none⟩) (by show Bs < _; omega) (by show Bs ≠ _; omega)).trans k1
    have q2 := (hB.cell (p := ⟨Bs + 1, 0, none⟩) (by show Bs + 1 < _; omega) (by show Bs + 1 ≠ _; omega)).trans k2
    have q3 := (hB.cell (p := ⟨Bs + 1 + 1, 0, none⟩) (by show Bs + 1 + 1 < _; omega) (by show Bs + 1 + 1 ≠ _; omega)).trans k3
    by_cases hlt : k < N
    · have hcn := HNd.out k wr hk hj
      have p0 := blk_cell hcn 0
      have p1 := blk_free hcn 0
      simp only [List.getElem?_toArray, List.getElem?_cons_zero] at p0
      have hj1 := HT.out k wr _ hk hj ⟨hcn, fun _ => rfl, fun h => absurd hlt h⟩
      have hj2 := HO.out k _ _ none hj1 (grownBy_drew _) (fun r e => by cases e)
      obtain ⟨fn, tmps, assign, body, hy, hRo⟩ := HY.out k _ hj2 hlt (by have := hB.size; simpa [World.setCell] using this)
      have hRo' : RoundIn Fence.wide (n - 1) Try.prog l' fn tmps assign body (wr.setCell ⟨cb, 0, none⟩ (.int .i64 ((k : Int) + 1))).drew fun e W' => ∃ b : Bool, e = .returned (.bool b) ∧ ((b = true ∧ J (k + 1) W' ∧ BelowBut n₀ cb wr W') ∨ (b = false ∧ Jx (k + 1) W')) := by
        refine hRo.mono ?_
        rintro e W' (⟨rfl, h1, h2, _⟩ | ⟨rfl, h1, _⟩)
        · refine ⟨true, rfl, .inl ⟨rfl, h1, ?_⟩⟩
          exact (((BelowBut.refl n₀ cb wr).set (.int .i64 ((k : Int) + 1))).trans (c := (wr.setCell ⟨cb, 0, none⟩ (.int .i64 ((k : Int) + 1))).drew) ⟨rfl, rfl, rfl, Nat.le_refl _, fun _ _ _ => rfl⟩).trans h2
        · exact ⟨false, rfl, .inr ⟨rfl, h1⟩⟩
      have rB : BelowBut n₀ cb W (wr.setCell ⟨cb, 0, none⟩ (.int .i64 ((k : Int) + 1))).drew := (hB.set _).trans ⟨rfl, rfl, rfl, Nat.le_refl _, fun _ _ _ => rfl⟩
      obtain ⟨ad, rfl, hb, hx⟩ := (r1.keep fun p hp => rB.cell (hP _ hp) (fun e => hPc (e ▸ hp))).at_ (show k < hs.length by omega)
      obtain ⟨ad', Ao, co, rfl, hb', hx', hcs, _⟩ := (r2.keep fun p hp => rB.cell (hP _ hp) (fun e => hPc (e ▸ hp))).at_ (show k < ls.length by omega)
      rw [hcs] at hy
      have q1' := (rB.cell (p := ⟨Bs, 0, none⟩) (by show Bs < _; omega) (by show Bs ≠ _; omega)).trans k1
      have q2' := (rB.cell (p := ⟨Bs + 1, 0, none⟩) (by show Bs + 1 < _; omega) (by show Bs + 1 ≠ _; omega)).trans k2
      have Hro := Lib.hid hRo'
      have HB := Lib.hid hB
      clear hRo hRo' hj1 hj2 hcn rB hB
      generalize hs.getD k 0 = x at *
      have z1 : k < hs.length := by omega
      have z2 : k < ls.length := by omega
      gi_wp2
      first | (gi_region_with (refine Hro.out.mono ?_; rintro e W3 ⟨b, rfl, hW3⟩)) | fail
      all_goals
        rcases hW3 with ⟨rfl, hJ3, hB3⟩ | ⟨rfl, hJx3⟩
        · gi_wp2
          go_roundw
          case rel => exact ⟨k + 1, by omega, by go_num, hJ3, HB.out.trans hB3⟩
          case measure => simp [intOf]; omega
        · gi_wp2
          refine bodyPost_ret (results_none rfl _ _ _) rfl ?_
          exact ⟨⟨_, rfl⟩, .inr ⟨k + 1, by omega, by omega, hJx3⟩⟩
    · obtain rfl : k = N := by omega
      have hj' := HT.out _ _ wr (Nat.le_refl _) hj ⟨HNd.out _ wr (Nat.le_refl _) hj, fun h => absurd h (by omega), fun _ => rfl⟩
      by_cases z1 : k < hs.length
      · have z2 := HN3.out z1
        gi_wp2
        go_end0
        exact ⟨⟨_, rfl⟩, .inl hj'⟩
      · gi_wp2
        go_end0
        exact ⟨⟨_, rfl⟩, .inl hj'⟩
end Go.Proofs.Ytpikikaoelnheaa
