/- A region that draws its order, in the body of a range over a function: reads first, then one tail in a forced order. Nothing here speaks of the program. -/
import Derived.StillTailTactics
import Derived.OrdersIn
import Derived.TacticsIn
import Derived.ControlIn
namespace Go.Proofs.Ytpikikaoelnheaa
open Go

section
variable {P : Program} {ops : Array Oper} {Q : Exit → Act → World → Prop} {md : Region.Mode} {l n : Nat}
/-- No operation is a defer statement. -/
def noDefer (o : Oper) : Bool := match o.op with | .defer _ => false | _ => true
theorem noDefer_spec {o : Oper} (h : noDefer o = true) (c : Call) : o.op ≠ .defer c := fun e => by simp [noDefer, e] at h

theorem oper_round {o : Oper} {a : Act} {w : World} {K : Act → World → Prop} (hd : noDefer o = true) (hh : o.wp P a w K Q) : o.wpIn (Fence.wide.inRound l) n P a w K Q := by
  refine ⟨fun _ _ => trivial, ?_⟩
  rw [Oper.semAt_eq _ _ _ (noDefer_spec hd)]
  unfold Oper.wp at hh
  generalize (execOp a.eval o).run P w = r at *
  cases r with
  | ok x w' =>
    cases x <;> simp only [Oper.upon, Oper.uponIn] at hh ⊢
    case enter f args => exact ⟨(fun h => by cases h), (callsIn_wide (n := n - 1)).2 hh⟩
    case row r args => exact ⟨(fun h => by cases h), fun c cs _ => let ⟨v, w'', r, s⟩ := hh c cs; ⟨v, w'', r, stepsIn_wide.2 s⟩⟩
    all_goals first | exact hh | exact hh.elim
  | halt x w' => cases x <;> simp only [Oper.upon, Oper.uponIn] at hh ⊢ <;> exact hh

theorem op_round (hd : ∀ (i : Nat) o, ops[i]? = some o → noDefer o = true) (hq : ¬ LetsOut Q) {i : Nat} {K K' : Act → World → Prop} (hK : ∀ a w, K a w → K' a w) {a : Act} {w : World} (hh : wpOp P ops Q i K a w) :
    wpOpIn (Fence.wide.inRound l) n P ops Q i K' a w := by
  unfold wpOp at hh
  unfold wpOpIn
  split
  · rename_i h
    simp only [h] at hh
    exact hK _ _ hh
  · rename_i o h
    simp only [h] at hh
    split
    · rename_i hw
      simp only [hw, if_true] at hh
      rcases hh with hh | hh
      · exact Oper.wpIn_mono hK (oper_round (hd _ _ h) hh)
      · exact absurd hh.2 hq
    · rename_i hw
      simp only [hw] at hh
      exact ⟨fun _ _ => trivial, hK _ _ hh⟩

theorem any_round (hd : ∀ (i : Nat) o, ops[i]? = some o → noDefer o = true) (hq : ¬ LetsOut Q) : ∀ (fuel : Nat) (listed : Array Bool) (a : Act) (w : World), wpAny P md ops Q fuel listed a w → wpAnyIn (Fence.wide.inRound l) n P md ops Q fuel listed a w
  | 0, _, _, _, h => h
  | fuel + 1, _, _, _, h => ⟨h.1, fun i hi => op_round hd hq (fun a' w' h' => any_round hd hq fuel _ a' w' h') (h.2 i hi)⟩
end

/-- The region's walk in a round's frame: reads and quiet calls first, in the text's order; then the tail. -/
theorem round_still_tail {P : Program} {id l m : Nat} {Q : Exit → Act → World → Prop} {a : Act} {w : World} {ops : List Oper} (n : Nat) (hm : P.follows .mixedOrders = true) (hB : Region.lexTailB .any ops.toArray n = true)
    (hd : ops.all noDefer = true) (hq : ¬ LetsOut Q)
    (h : wpStill P ops.toArray { w with drawn := w.drawn + 1 } (fun a' => wpList P ops.toArray Q (ops.drop n) a' { w with drawn := w.drawn + 1 }) (ops.take n) a) : (Code.region id ops.toArray true).wpIn (Fence.wide.inRound l) m P Q a w := by
  simp only [Region.lexTailB, Bool.and_eq_true, decide_eq_true_eq] at hB
  obtain ⟨⟨⟨⟨hsel, hn⟩, hs⟩, hc⟩, hlex⟩ := hB
  have hn' : n < ops.length := by simpa using hn
  have htl : (ops.take n).length = n := by simp; omega
  have hdl : (ops.drop n).length = ops.toArray.size - n := by simp
  have inv0 : HeadInv .any ops.toArray n (Array.replicate ops.toArray.size false) :=
    ⟨by simp, fun j oj _ hl => (by rw [getD_replicate_false] at hl; cases hl), fun t _ ht => getD_in (by simpa using ht) (getD_replicate_false _ _)⟩
  have H := wpAnyL_lex (md := .any) (g := ops.toArray.size - n) hsel hs hc hn (ops.take n) 0 _ a (fun j hj => by
    have hj' : j < n := by rw [htl] at hj; exact hj
    simp [hj']) (by simpa using htl) inv0 (by rw [htl]; exact hlex) h
  refine wpIn_region_any hm (any_round (fun i o ho => ?_) hq _ _ _ _ ?_)
  · rw [List.getElem?_toArray] at ho
    exact List.all_eq_true.1 hd o (List.mem_of_getElem? ho)
  · have := wpAny_of_head (Q' := Q) (g := ops.toArray.size - n) (fun listed a' hL => by
      have := wpAny_of_seq (md := .any) (Q' := Q) (ops.drop n) n listed a' { w with drawn := w.drawn + 1 } (fun j => by simp [List.getElem?_drop]) (by rw [hdl]; exact hL.1) hL.2
      rwa [hdl] at this) _ _ _ H
    rw [htl, show n + (ops.toArray.size - n) = ops.toArray.size by omega] at this
    exact this
end Go.Proofs.Ytpikikaoelnheaa
