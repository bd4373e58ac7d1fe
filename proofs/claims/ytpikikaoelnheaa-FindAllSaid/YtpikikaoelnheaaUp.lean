/- Small laws on worlds, used where a region draws its order. -/
import Derived.Test.YtpikikaoelnheaaListsLaw
namespace Go.Proofs.Ytpikikaoelnheaa
open Go.RowKit

theorem blk_set {w : World} {g : Nat} {t : TypeId} {cs : Array Value} (h : w.heap[g]? = some (.cells cs t (0, 0))) (i : Nat) (u : Value) : (w.setCell ⟨g, i, none⟩ u).heap[g]? = some (.cells (cs.setIfInBounds i u) t (0, 0)) := by
  simp [World.setCell, Array.getElem?_modify, h]

/-- All of a's memory stands in w as it stood. -/
def Up (a w : World) : Prop := Below a.heap.size a w

theorem Up.refl (a : World) : Up a a := Below.refl _ a

theorem Up.alloc {a w : World} (h : Up a w) (o : Obj) : Up a (w.alloc o) := Below.alloc h h.size o

theorem Up.drew {a w : World} (h : Up a w) : Up a w.drew := ⟨h.os, h.tape, h.output, h.size, h.block⟩

theorem Up.drewN {a w : World} (h : Up a w) (n : Nat) : Up a (w.drewN n) := below_drewN h n

theorem Up.set {a w : World} (h : Up a w) (p : Addr) (v : Value) (hp : a.heap.size ≤ p.block) : Up a (w.setCell p v) := Below.setCell h hp v

theorem Up.call {a w w' : World} (h : Up a w) (hB : Below w.heap.size w w') : Up a w' := Below.trans h (hB.mono h.size)

theorem Up.cell {a w : World} (h : Up a w) {p : Addr} (hp : p.block < a.heap.size) {u : Value} (hc : a.cell? p = some u) : w.cell? p = some u := (Below.cell h hp).trans hc

theorem region_via {P : Program} {id : Nat} {ops : Array Oper} {b : Bool} {Q : Exit → Act → World → Prop} {a : Act} {w : World} (R : Act → Act → World → Prop)
    (h1 : (Code.region id ops b).wp P (fun e a' w' => match e with | .normal => R a a' w' | _ => False) a w) (h2 : ∀ a' w', R a a' w' → Q .normal a' w') : (Code.region id ops b).wp P Q a w :=
  Code.wp_mono (fun e a w h => by cases e <;> first | exact h2 _ _ h | exact (h : False).elim) h1

theorem blk_alloc {w : World} {o o' : Obj} {g : Nat} (h : w.heap[g]? = some o) : (w.alloc o').heap[g]? = some o :=
  (Below.heap_alloc w o' g (by have := Array.getElem?_eq_some_iff.mp h; exact this.1)).trans h

theorem blk_below {w w' : World} {o : Obj} {g : Nat} (hB : Below w.heap.size w w') (h : w.heap[g]? = some o) : w'.heap[g]? = some o :=
  (hB.block g (by have := Array.getElem?_eq_some_iff.mp h; exact this.1)).trans h

theorem RB.alloc_ {w : World} {P : Nat → Prop} {A : Option Addr} {c : Nat} {bs : List Nat} (h : RB w P A c bs) (hP : ∀ b, P b → b < w.heap.size) (o : Obj) : RB (w.alloc o) P A c bs :=
  h.below ((Below.refl _ w).alloc (Nat.le_refl _) o) hP

theorem cell_some {B : Nat} {w X : World} (h : Below B w X) {b o : Nat} (hb : b < B) {u : Value} (hc : w.cell? ⟨b, o, none⟩ = some u) : X.cell? ⟨b, o, none⟩ = some u := (h.cell (p := ⟨b, o, none⟩) hb).trans hc

/-- The two boxes that a region has made and filled, whatever the order. -/
def Boxed2 (a V : World) (t : Int) (l1 l2 : List Nat) (p8 p9 : Nat) (A6 A7 : Option Addr) (c6 c7 : Nat) : Prop :=
  Up a V ∧ V.cell? ⟨p8, 0, none⟩ = some (.int .i64 t) ∧ V.cell? ⟨p8, 1, none⟩ = some (.slice A6 l1.length c6) ∧ V.cell? ⟨p9, 0, none⟩ = some (.int .i64 t) ∧ V.cell? ⟨p9, 1, none⟩ = some (.slice A7 l2.length c7) ∧
    ∃ P6 P7, RB V P6 A6 c6 l1 ∧ RB V P7 A7 c7 l2 ∧ (∀ b, P6 b → b < V.heap.size) ∧ (∀ b, P7 b → b < V.heap.size) ∧ p8 < V.heap.size ∧ p9 < V.heap.size

/-- The argument's box holds a value that is no longer than 20000. -/
def Boxed1 (w wx : World) (P : Nat → Prop) (A : Option Addr) (c : Nat) (t : Int) (bs' : List Nat) : Prop :=
  wx.heap[w.heap.size]? = some (.cells #[.int .i64 t, .slice A bs'.length c] 48 (0, 0)) ∧ RB wx P A c bs' ∧ Below w.heap.size w wx

end Go.Proofs.Ytpikikaoelnheaa
