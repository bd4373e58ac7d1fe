/- What FindAll keeps beside the search: lists of its own, the hits and where they stood. -/
import Derived.Test.YtpikikaoelnheaaFindBegun
import Derived.Test.YtpikikaoelnheaaOpenF
namespace Go.Proofs.Ytpikikaoelnheaa
open Go.RowKit Go.Shelf

def atsOf (p : Nat → Bool) (N : Nat) : List Int := (selTo p N).map fun (i : Nat) => (i : Int) + 1
section
variable {p : Nat → Bool} {hs : List Int}
theorem hitsOf_yes {n : Nat} (h : p n = true) : hitsOf p (n + 1) hs = hitsOf p n hs ++ [hs.getD n 0] := by simp [hitsOf, selTo_succ, h]
theorem hitsOf_no {n : Nat} (h : p n = false) : hitsOf p (n + 1) hs = hitsOf p n hs := by simp [hitsOf, selTo_succ, h]
theorem atsOf_yes {n : Nat} (h : p n = true) : atsOf p (n + 1) = atsOf p n ++ [(n : Int) + 1] := by simp [atsOf, selTo_succ, h]
theorem atsOf_no {n : Nat} (h : p n = false) : atsOf p (n + 1) = atsOf p n := by simp [atsOf, selTo_succ, h]
theorem atsOf_length (p : Nat → Bool) (N : Nat) : (atsOf p N).length = sc p N := by simp [atsOf, sc]
theorem sc_le (p : Nat → Bool) (N : Nat) : sc p N ≤ N := by
  have := List.length_filter_le p (List.range N)
  simpa [sc, selTo] using this
theorem atsOf_get {N k : Nat} (h : k < sc p N) : (atsOf p N).getD k 0 = (toHit p N k : Int) := by
  have h' : k < (selTo p N).length := h
  rw [toHit, if_pos h]
  simp [atsOf, List.getD_eq_getElem?_getD, List.getElem?_eq_getElem h']
theorem hitsOf_zero (p : Nat → Bool) (hs : List Int) : hitsOf p 0 hs = [] := by simp [hitsOf, selTo]
theorem atsOf_zero (p : Nat → Bool) : atsOf p 0 = [] := by simp [atsOf, selTo]
end

def cutsOf (ls : List (List (Int × List Nat))) (n : Nat) : List (List (Int × List Nat)) := (ls.take n).map fun x => cutOf x 10 20
theorem cutsOf_length (ls : List (List (Int × List Nat))) (n : Nat) : (cutsOf ls n).length = min n ls.length := by simp [cutsOf]
theorem cutsOf_succ {ls : List (List (Int × List Nat))} {k : Nat} (h : k < ls.length) : cutsOf ls (k + 1) = cutsOf ls k ++ [cutOf ls[k] 10 20] := by
  rw [cutsOf, List.take_succ_eq_append_getElem h, List.map_append]; rfl

theorem info24 : (Try.prog.info? 24).map (fun i => (i.zero, i.size, i.bytes)) = some (some (.slice none 0 0), 1, 24) := by kernel_rfl

/-- A list of lists of attributes in memory of the call's own, from block base on. -/
def OL (w : World) (base : Nat) (A : Option Addr) (c : Nat) (ls : List (List (Int × List Nat))) (cs : List Value) : Prop :=
  w.ownsRow base 24 1 (.slice A ls.length c) ls.length cs ∧ ∀ (j : Nat) x, ls[j]? = some x → ∃ A' c', cs[j]? = some (.slice A' x.length c') ∧
    RA w (fun b => base ≤ b ∧ b < w.heap.size ∧ (Value.slice A ls.length c).ownBlock ≠ some b) A' c' x
theorem OL.raa {w : World} {base : Nat} {A : Option Addr} {c : Nat} {ls : List (List (Int × List Nat))} {cs : List Value} (h : OL w base A c ls cs) : RAA w (In base w.heap.size) A c ls cs :=
  ⟨RS.of_own h.1, fun j x hx => by
    obtain ⟨A', c', h2, h3⟩ := h.2 j x hx
    exact ⟨A', c', h2, h3.mono fun b hb => ⟨hb.1, hb.2.1⟩⟩⟩
theorem OL.nil_ (w : World) (base : Nat) : OL w base none 0 [] [] := ⟨World.ownsRow_nil _ _ _ _, by simp⟩
theorem OL.snoc {wr W2 W3 : World} {base : Nat} {A A' : Option Addr} {c c' : Nat} {ls : List (List (Int × List Nat))} {cs : List Value} {m : Nat} (h : OL wr base A c ls cs) (hm : ls.length = m) (hb : Below wr.heap.size wr W2) {x : List (Int × List Nat)} {Au : Option Addr} {cu : Nat}
    (hu : RA W2 (In wr.heap.size W2.heap.size) Au cu x) (hbase : base ≤ wr.heap.size)
    (hown : W3.ownsRow base 24 1 (.slice A' (m + 1) c') (m + 1) (cs ++ [.slice Au x.length cu])) (hg : W2.grownBy W3 (Value.slice A m c).ownBlock)
    (hor : (Value.slice A' (m + 1) c').ownBlock = (Value.slice A m c).ownBlock ∨ (Value.slice A' (m + 1) c').ownBlock = some W2.heap.size) :
    OL W3 base A' c' (ls ++ [x]) (cs ++ [.slice Au x.length cu]) := by
  subst hm
  have hl := h.1.1
  have hlt := h.1.lt
  have hs := hb.size
  have hs' := hg.size
  have eown : (Value.slice A' (ls.length + 1) c').ownBlock = (Value.slice A' (ls ++ [x]).length c').ownBlock := by cases A' <;> rfl
  rw [eown] at hor
  have kept : ∀ (b : Nat), b < W2.heap.size → (Value.slice A ls.length c).ownBlock ≠ some b → W3.heap[b]? = W2.heap[b]? := fun b h1 h2 => hg.block b h1 (fun e => h2 e.symm)
  refine ⟨by simpa using hown, fun j y hy => ?_⟩
  rcases Nat.lt_or_ge j ls.length with hj | hj
  · rw [List.getElem?_append_left hj] at hy
    obtain ⟨A1, c1, h2, h3⟩ := h.2 j y hy
    rw [List.getElem?_append_left (by omega)]
    refine ⟨A1, c1, h2, ((h3.below hb fun b hb => hb.2.1).keep fun p hp => ?_).mono fun b hp => ?_⟩
    · exact World.cell?_of_block (kept _ (by omega) hp.2.2)
    · refine ⟨hp.1, by omega, ?_⟩
      rcases hor with e | e
      · rw [e]; exact hp.2.2
      · rw [e]; intro e'; injection e' with e'; omega
  · have hjl : j = ls.length := by
      have := (List.getElem?_eq_some_iff.1 hy).1
      simp at this
      omega
    subst hjl
    simp at hy
    subst hy
    rw [List.getElem?_append_right (by omega), hl]
    refine ⟨Au, cu, by simp, (hu.keep fun p hp => ?_).mono fun b hp => ?_⟩
    · refine World.cell?_of_block (kept _ hp.2 fun e => ?_)
      have := (hlt _ e).2
      have := hp.1
      omega
    · have h1 := hp.1
      have h2 := hp.2
      refine ⟨by omega, by omega, ?_⟩
      rcases hor with e | e
      · rw [e]; intro e'; have := (hlt _ e').2; omega
      · rw [e]; intro e'; injection e' with e'; omega

/-- A list of numbers that lies in a variable's cell, its row the call's own. -/
structure Kept (w : World) (Bc base : Nat) (A : Option Addr) (c : Nat) (l : List Int) : Prop where
  cell : w.heap[Bc]? = some (.cells #[.slice A l.length c] 22 (0, 0))
  own : w.ownsRow base 3 1 (.slice A l.length c) l.length (its l)
theorem Kept.grown {w w' : World} {Bc base : Nat} {A : Option Addr} {c : Nat} {l : List Int} (h : Kept w Bc base A c l) {row : Option Nat} (hg : w.grownBy w' row) (h1 : row ≠ some Bc) (h2 : ∀ r, row = some r → (Value.slice A l.length c).ownBlock ≠ some r) : Kept w' Bc base A c l :=
  ⟨(hg.block Bc (blk_lt h.cell) (fun e => h1 e.symm)).trans h.cell, by
    refine h.own.kept hg ?_
    cases hr : row with
    | none => cases (Value.slice A l.length c).ownBlock <;> simp
    | some r => exact .inr (fun e => h2 r hr e)⟩
theorem Kept.below {w w' : World} {Bc base : Nat} {A : Option Addr} {c : Nat} {l : List Int} (h : Kept w Bc base A c l) (hb : Below w.heap.size w w') : Kept w' Bc base A c l :=
  h.grown (row := none) ⟨hb.os, hb.tape, hb.output, hb.size, fun k hk _ => hb.block k hk⟩ (by simp) (fun r e => by cases e)
theorem Kept.put {w : World} {Bc base B' : Nat} {A : Option Addr} {c : Nat} {l : List Int} (h : Kept w Bc base A c l) (v : Value) (h1 : B' ≠ Bc) (h2 : (Value.slice A l.length c).ownBlock ≠ some B') : Kept (w.setCell ⟨B', 0, none⟩ v) Bc base A c l := by
  refine ⟨(Below.heap_setCell w ⟨B', 0, none⟩ v Bc (Ne.symm h1)).trans h.cell, ?_⟩
  obtain ⟨h3, h4⟩ := h.own
  refine ⟨h3, ?_⟩
  rcases h4 with h4 | ⟨g', cap, cur, e1, h4, h5, h6⟩
  · exact .inl h4
  · refine .inr ⟨g', cap, cur, e1, h4, (Below.heap_setCell w ⟨B', 0, none⟩ v g' (fun e => h2 ?_)).trans h5, h6⟩
    rw [e1, ← show g' = B' from e]; rfl
/-- What a variable's cell holds behind an append. -/
theorem Kept.snoc {w W2 W3 : World} {Bc base : Nat} {A A' : Option Addr} {c c' : Nat} {l : List Int} {x : Int} {m : Nat} (h : Kept w Bc base A c l) (hm : l.length = m) (hb : Below w.heap.size w W2) (hbase : Bc < base)
    (hown : W3.ownsRow base 3 1 (.slice A' (m + 1) c') (m + 1) (its l ++ [.int .i64 x])) (hg : W2.grownBy W3 (Value.slice A m c).ownBlock) :
    Kept (W3.setCell ⟨Bc, 0, none⟩ (.slice A' (m + 1) c')) Bc base A' c' (l ++ [x]) := by
  subst hm
  have hlt := h.own.lt
  have z1 := blk_lt h.cell
  have z2 := hb.size
  have hc : W3.heap[Bc]? = some (.cells #[.slice A l.length c] 22 (0, 0)) := (hg.block Bc (by omega) (fun e => by have := (hlt Bc e.symm).1; omega)).trans ((hb.block Bc z1).trans h.cell)
  have hn : ((Value.slice A' (l.length + 1) c').ownBlock) ≠ some Bc := fun e => by have := (hown.lt Bc e).1; omega
  refine ⟨by simpa using blk_set hc 0 (.slice A' (l.length + 1) c'), ?_⟩
  have e1 : its l ++ [Value.int .i64 x] = its (l ++ [x]) := by simp [its]
  rw [e1] at hown
  rw [List.length_append, List.length_singleton]
  obtain ⟨h3, h4⟩ := hown
  refine ⟨h3, ?_⟩
  rcases h4 with h4 | ⟨g', cap, cur, e1, h4, h5, h6⟩
  · exact .inl h4
  · refine .inr ⟨g', cap, cur, e1, h4, (Below.heap_setCell _ ⟨Bc, 0, none⟩ _ g' (fun e => hn ?_)).trans h5, h6⟩
    rw [e1, ← show g' = Bc from e]; rfl
theorem Kept.ri {w : World} {Bc base : Nat} {A : Option Addr} {c : Nat} {l : List Int} (h : Kept w Bc base A c l) (hl : l.length ≤ 1000000) : RI w (In base w.heap.size) A c l := ⟨RS.of_own h.own, by omega⟩
theorem Kept.nil_ {w : World} {Bc : Nat} (base : Nat) (h : w.heap[Bc]? = some (.cells #[.slice none 0 0] 22 (0, 0))) : Kept w Bc base none 0 [] := ⟨h, by simpa [its] using World.ownsRow_nil w base 3 1⟩
/-- Two lists of numbers in two variables' cells, s and s + 1; their rows are the call's own and apart. -/
structure Two (W0 w : World) (s : Nat) (A A' : Option Addr) (c c' : Nat) (l l' : List Int) : Prop where
  want : Kept w s (s + 2) A c l
  at_ : Kept w (s + 1) (s + 2) A' c' l'
  apart : ∀ g, (Value.slice A l.length c).ownBlock = some g → (Value.slice A' l'.length c').ownBlock ≠ some g
  below : Below s W0 w
theorem Two.later {W0 w w' : World} {s : Nat} {A A' : Option Addr} {c c' : Nat} {l l' : List Int} (h : Two W0 w s A A' c c' l l') (hb : Below w.heap.size w w') : Two W0 w' s A A' c c' l l' :=
  ⟨h.want.below hb, h.at_.below hb, h.apart, h.below.trans (hb.mono (by have := blk_lt h.want.cell; omega))⟩
theorem ownBlock_len (A : Option Addr) (n n' c : Nat) : (Value.slice A n c).ownBlock = (Value.slice A n' c).ownBlock := by cases A <;> rfl
theorem Two.put {W0 w W2 W3 : World} {s : Nat} {A A' A1 : Option Addr} {c c' c1 : Nat} {l l' : List Int} {x : Int} {m : Nat} (h : Two W0 w s A A' c c' l l') (hm : l.length = m) (hb : Below w.heap.size w W2)
    (hown : W3.ownsRow (s + 2) 3 1 (.slice A1 (m + 1) c1) (m + 1) (its l ++ [.int .i64 x])) (hg : W2.grownBy W3 (Value.slice A m c).ownBlock)
    (hor : (Value.slice A1 (m + 1) c1).ownBlock = (Value.slice A m c).ownBlock ∨ (Value.slice A1 (m + 1) c1).ownBlock = some W2.heap.size) :
    Two W0 (W3.setCell ⟨s, 0, none⟩ (.slice A1 (m + 1) c1)) s A1 A' c1 c' (l ++ [x]) l' := by
  have hw := h.want.snoc hm hb (by omega) hown hg
  subst hm
  have l1 := h.want.own.lt
  have l2 := h.at_.own.lt
  have z := hb.size
  refine ⟨hw, ?_, ?_, ?_⟩
  · refine ((h.at_.below hb).grown hg (fun e => by have := (l1 _ e).1; omega) (fun r e => h.apart r e)).put _ (by omega) (fun e => by have := (l2 _ e).1; omega)
  · intro g e e'
    rw [ownBlock_len A1 _ (l.length + 1) c1] at e
    rcases hor with e1 | e1
    · exact h.apart g (e1 ▸ e) e'
    · rw [e1] at e; cases e; have := (l2 _ e').2; omega
  · exact ((h.below.trans (hb.mono (by have := blk_lt h.want.cell; omega))).grown hg (by have := blk_lt h.want.cell; omega) (fun g e => by have := (l1 g e).1; omega)).setCell (p := ⟨s, 0, none⟩) (Nat.le_refl _) _
theorem Two.put2 {W0 w W2 W3 : World} {s : Nat} {A A' A1 : Option Addr} {c c' c1 : Nat} {l l' : List Int} {x : Int} {m : Nat} (h : Two W0 w s A A' c c' l l') (hm : l'.length = m) (hb : Below w.heap.size w W2)
    (hown : W3.ownsRow (s + 2) 3 1 (.slice A1 (m + 1) c1) (m + 1) (its l' ++ [.int .i64 x])) (hg : W2.grownBy W3 (Value.slice A' m c').ownBlock)
    (hor : (Value.slice A1 (m + 1) c1).ownBlock = (Value.slice A' m c').ownBlock ∨ (Value.slice A1 (m + 1) c1).ownBlock = some W2.heap.size) :
    Two W0 (W3.setCell ⟨s + 1, 0, none⟩ (.slice A1 (m + 1) c1)) s A A1 c c1 l (l' ++ [x]) := by
  have hw := h.at_.snoc hm hb (by omega) hown hg
  subst hm
  have l1 := h.at_.own.lt
  have l2 := h.want.own.lt
  have z := hb.size
  refine ⟨?_, hw, ?_, ?_⟩
  · refine ((h.want.below hb).grown hg (fun e => by have := (l1 _ e).1; omega) (fun r e e' => h.apart r e' e)).put _ (by omega) (fun e => by have := (l2 _ e).1; omega)
  · intro g e e'
    rw [ownBlock_len A1 _ (l'.length + 1) c1] at e'
    rcases hor with e1 | e1
    · exact h.apart g e (e1 ▸ e')
    · rw [e1] at e'; cases e'; have := (l2 _ e).2; omega
  · exact ((h.below.trans (hb.mono (by have := blk_lt h.want.cell; omega))).grown hg (by have := blk_lt h.want.cell; omega) (fun g e => by have := (l1 g e).1; omega)).setCell (p := ⟨s + 1, 0, none⟩) (by show s ≤ s + 1; omega) _
theorem Two.step {W0 w : World} {s : Nat} {A A' : Option Addr} {c c' : Nat} {l l' : List Int} (h : Two W0 w s A A' c c' l l') (x : Int) (hl : l.length ≤ 100) :
    ∃ A1 c1 X, Sem.run Try.prog (Shut #[22, 22] 22 #[.slice A l.length c, .slice (some ⟨w.heap.size, 0, none⟩) 1 1]) ((w.alloc (.cells #[.int .i64 x] 3)).drew) = .ok (.slice A1 (l.length + 1) c1) X ∧
      X.heap[s]? = some (.cells #[.slice A l.length c] 22 (0, 0)) ∧ Two W0 (X.setCell ⟨s, 0, none⟩ (.slice A1 (l.length + 1) c1)) s A1 A' c1 c' (l ++ [x]) l' := by
  obtain ⟨i1, hj, hy0, hy1, hy2⟩ := info_parts info3
  have z := blk_lt h.want.cell
  have z2 := blk_lt h.at_.cell
  have hb : Below w.heap.size w ((w.alloc (.cells #[.int .i64 x] 3)).drew) := ((Below.refl _ w).alloc (Nat.le_refl _) _).drew
  have hown' : ((w.alloc (.cells #[.int .i64 x] 3)).drew).ownsRow (s + 2) 3 1 (.slice A l.length c) l.length (its l) := h.want.own.alloc _
  have hfr : RS ((w.alloc (.cells #[.int .i64 x] 3)).drew) (fun _ => True) 1 (some ⟨w.heap.size, 0, none⟩) 1 1 [.int .i64 x] := RS.drewN (RS.fresh (w := w) (P := fun _ => True) #[.int .i64 x] 3 1 1 rfl (by unfold maxLen; omega) trivial) 1
  obtain ⟨A2, c2, X2, hrun, hown2, hgr, hor⟩ := run_append_rs (P := Try.prog) ((w.alloc (.cells #[.int .i64 x] 3)).drew) (s + 2) 22 22 3 i1 _ 1 8 Try.underlying22 hj hy0 hy1 hy2 rfl (by omega) (.slice A l.length c) l.length _ hown' (fun _ => True) _ 1 1 [.int .i64 x] hfr (by simp [Value.oneCell']) (by unfold maxLen; omega) (by omega) (by simp; omega)
  exact ⟨A2, c2, X2, hrun, (hgr.block s (by simp; omega) (fun e => by have := (hown'.lt s e.symm).1; omega)).trans ((hb.block s z).trans h.want.cell), h.put rfl hb hown2 hgr hor⟩
theorem Two.step2 {W0 w : World} {s : Nat} {A A' : Option Addr} {c c' : Nat} {l l' : List Int} (h : Two W0 w s A A' c c' l l') (x : Int) (hl : l'.length ≤ 100) :
    ∃ A1 c1 X, Sem.run Try.prog (Shut #[22, 22] 22 #[.slice A' l'.length c', .slice (some ⟨w.heap.size, 0, none⟩) 1 1]) (w.alloc (.cells #[.int .i64 x] 3)) = .ok (.slice A1 (l'.length + 1) c1) X ∧
      X.heap[s + 1]? = some (.cells #[.slice A' l'.length c'] 22 (0, 0)) ∧ Two W0 (X.setCell ⟨s + 1, 0, none⟩ (.slice A1 (l'.length + 1) c1)) s A A1 c c1 l (l' ++ [x]) := by
  obtain ⟨i1, hj, hy0, hy1, hy2⟩ := info_parts info3
  have z := blk_lt h.want.cell
  have z2 := blk_lt h.at_.cell
  have hb : Below w.heap.size w (w.alloc (.cells #[.int .i64 x] 3)) := (Below.refl _ w).alloc (Nat.le_refl _) _
  have hown' : (w.alloc (.cells #[.int .i64 x] 3)).ownsRow (s + 2) 3 1 (.slice A' l'.length c') l'.length (its l') := h.at_.own.alloc _
  have hfr : RS (w.alloc (.cells #[.int .i64 x] 3)) (fun _ => True) 1 (some ⟨w.heap.size, 0, none⟩) 1 1 [.int .i64 x] := RS.fresh (w := w) (P := fun _ => True) #[.int .i64 x] 3 1 1 rfl (by unfold maxLen; omega) trivial
  obtain ⟨A2, c2, X2, hrun, hown2, hgr, hor⟩ := run_append_rs (P := Try.prog) (w.alloc (.cells #[.int .i64 x] 3)) (s + 2) 22 22 3 i1 _ 1 8 Try.underlying22 hj hy0 hy1 hy2 rfl (by omega) (.slice A' l'.length c') l'.length _ hown' (fun _ => True) _ 1 1 [.int .i64 x] hfr (by simp [Value.oneCell']) (by unfold maxLen; omega) (by omega) (by simp; omega)
  exact ⟨A2, c2, X2, hrun, (hgr.block (s + 1) (by simp; omega) (fun e => by have := (hown'.lt _ e.symm).1; omega)).trans ((hb.block _ z2).trans h.at_.cell), h.put2 rfl hb hown2 hgr hor⟩
theorem alloc2 (w : World) (o1 o2 : Obj) : ((w.alloc o1).alloc o2).heap[w.heap.size]? = some o1 ∧ ((w.alloc o1).alloc o2).heap[w.heap.size + 1]? = some o2 ∧ ((w.alloc o1).alloc o2).heap.size = w.heap.size + 2 ∧ Below w.heap.size w ((w.alloc o1).alloc o2) := by
  refine ⟨?_, ?_, by simp, ((Below.refl _ w).alloc (Nat.le_refl _) _).alloc (by simp) _⟩
  · exact (Below.heap_alloc _ _ _ (by simp)).trans (heap_alloc_new w o1)
  · have := heap_alloc_new (w.alloc o1) o2
    rwa [World.size_alloc] at this
theorem Two.nil_ {W0 w : World} {s : Nat} (h1 : w.heap[s]? = some (.cells #[.slice none 0 0] 22 (0, 0))) (h2 : w.heap[s + 1]? = some (.cells #[.slice none 0 0] 22 (0, 0))) (hb : Below s W0 w) : Two W0 w s none none 0 0 [] [] :=
  ⟨Kept.nil_ _ h1, Kept.nil_ _ h2, fun g e => by simp [Value.ownBlock] at e, hb⟩
end Go.Proofs.Ytpikikaoelnheaa
