/-
  No cell of these rows narrows 'for every input' (looked for: loops, veiled, ifaces, maps, wideKeys, modest, calm, conditions, laid).
  DERIVED. THE GIVEN ROWS OF THIS SEAT. 7 by the template 'for every input the law returns true; each argument reads behind the call as it read before'; 0 by the template 'total and deterministic' (their statements: YtldhmjfjbalakaaTotals.lean).
  GIVEN WITH THE SEED: the statements are not yours to turn. If you find one false, say at which input.
  Laid BY PROGRAM, IN A SANDBOX (cutbox-rows.mjs): the forced cells as the released guide's own fill.sh prints them over the translation 51bd063b85e771ee… (all of the seat's roots in one cut). By AI agents, Wed Nov 11 2026. No macro, syntax, notation, axiom, sorry.
-/
import Derived.Test.YtldhmjfjbalakaaChecked
import GoSem.Claim
import GoSem.ClaimJoined
import GoSem.ClaimMapViews
import Derived.JoinedTies
import Derived.KernelRfl
namespace Go.Proofs.Ytldhmjfjbalakaa
/- THE CELL 'sum', in the pinned program and in every row, IS THE sha256 OF THE DUMP (.gsa) THAT YtldhmjfjbalakaaProg.lean LOADS. Nothing in Lean hashes anything: it is a label: what it is worth is what the hold of that sum in a sandbox is worth. -/
noncomputable def Try.pinned : Pinned := { name := "ytldhmjfjbalakaa", sum := "51bd063b85e771ee821c4444ed59c00751ae63b9a8f6598bd08a0e4b944649f5", checked := Try.checked }
namespace Rows
def none {H : Type} : Left H := { results := [], args := [] }

/-- 'baileylaw9.CurveMul': WHATEVER THE INPUT: true; the input reads as it did. -/
def curveMulSpec : ChangeSpec := { name := "curveMul", fn := fun _ => fun
  | [d1, d2, d3, d4] => { results := [.lit (.bool true)], args := [d1, d2, d3, d4] }
  | _ => none }
def curveMulRow : OpenClaim := { program := "ytldhmjfjbalakaa", sum := "51bd063b85e771ee821c4444ed59c00751ae63b9a8f6598bd08a0e4b944649f5", func := "bailey/baileylaw9.CurveMul", spec := "curveMul", inPlace := ["math/bits.Add64", "math/bits.Sub64"], unfollowed := true, recurses := true, named := ["math/bits.divideError", "math/bits.overflowError"], apart := false }
def CurveMulSaid : Prop := curveMulRow.holds Try.pinned (OpenSpec.ofChange curveMulSpec)

/-- ITS FALSE NEIGHBOUR: 'it returns false'. Refute it at one input. -/
def curveMulWrong : ChangeSpec := { name := "curveMul", fn := fun _ => fun
  | [d1, d2, d3, d4] => { results := [.lit (.bool false)], args := [d1, d2, d3, d4] }
  | _ => none }
def CurveMulWrongFalsely : Prop := curveMulRow.holds Try.pinned (OpenSpec.ofChange curveMulWrong)

/-- 'baileylaw9.CurveSum': WHATEVER THE INPUT: true; the input reads as it did. -/
def curveSumSpec : ChangeSpec := { name := "curveSum", fn := fun _ => fun
  | [d1, d2, d3] => { results := [.lit (.bool true)], args := [d1, d2, d3] }
  | _ => none }
def curveSumRow : OpenClaim := { program := "ytldhmjfjbalakaa", sum := "51bd063b85e771ee821c4444ed59c00751ae63b9a8f6598bd08a0e4b944649f5", func := "bailey/baileylaw9.CurveSum", spec := "curveSum", inPlace := ["math/bits.Add64", "math/bits.Sub64"], unfollowed := true, recurses := true, named := ["math/bits.divideError", "math/bits.overflowError"], apart := false }
def CurveSumSaid : Prop := curveSumRow.holds Try.pinned (OpenSpec.ofChange curveSumSpec)

/-- ITS FALSE NEIGHBOUR: 'it returns false'. Refute it at one input. -/
def curveSumWrong : ChangeSpec := { name := "curveSum", fn := fun _ => fun
  | [d1, d2, d3] => { results := [.lit (.bool false)], args := [d1, d2, d3] }
  | _ => none }
def CurveSumWrongFalsely : Prop := curveSumRow.holds Try.pinned (OpenSpec.ofChange curveSumWrong)

/-- 'baileylaw9.CurveCode': WHATEVER THE INPUT: true; the input reads as it did. -/
def curveCodeSpec : ChangeSpec := { name := "curveCode", fn := fun _ => fun
  | [d1, d2, d3, d4] => { results := [.lit (.bool true)], args := [d1, d2, d3, d4] }
  | _ => none }
def curveCodeRow : OpenClaim := { program := "ytldhmjfjbalakaa", sum := "51bd063b85e771ee821c4444ed59c00751ae63b9a8f6598bd08a0e4b944649f5", func := "bailey/baileylaw9.CurveCode", spec := "curveCode", inPlace := ["math/bits.Add64", "math/bits.Sub64"], unfollowed := true, recurses := true, named := ["math/bits.divideError", "math/bits.overflowError"], apart := false }
def CurveCodeSaid : Prop := curveCodeRow.holds Try.pinned (OpenSpec.ofChange curveCodeSpec)

/-- ITS FALSE NEIGHBOUR: 'it returns false'. Refute it at one input. -/
def curveCodeWrong : ChangeSpec := { name := "curveCode", fn := fun _ => fun
  | [d1, d2, d3, d4] => { results := [.lit (.bool false)], args := [d1, d2, d3, d4] }
  | _ => none }
def CurveCodeWrongFalsely : Prop := curveCodeRow.holds Try.pinned (OpenSpec.ofChange curveCodeWrong)

/-- 'baileylaw9.CurveMultiples': WHATEVER THE INPUT: true; the input reads as it did. -/
def curveMultiplesSpec : ChangeSpec := { name := "curveMultiples", fn := fun _ => fun
  | [d1, d2, d3, d4] => { results := [.lit (.bool true)], args := [d1, d2, d3, d4] }
  | _ => none }
def curveMultiplesRow : OpenClaim := { program := "ytldhmjfjbalakaa", sum := "51bd063b85e771ee821c4444ed59c00751ae63b9a8f6598bd08a0e4b944649f5", func := "bailey/baileylaw9.CurveMultiples", spec := "curveMultiples", inPlace := ["math/bits.Add64", "math/bits.Sub64"], unfollowed := true, recurses := true, named := ["math/bits.divideError", "math/bits.overflowError"], apart := false }
def CurveMultiplesSaid : Prop := curveMultiplesRow.holds Try.pinned (OpenSpec.ofChange curveMultiplesSpec)

/-- ITS FALSE NEIGHBOUR: 'it returns false'. Refute it at one input. -/
def curveMultiplesWrong : ChangeSpec := { name := "curveMultiples", fn := fun _ => fun
  | [d1, d2, d3, d4] => { results := [.lit (.bool false)], args := [d1, d2, d3, d4] }
  | _ => none }
def CurveMultiplesWrongFalsely : Prop := curveMultiplesRow.holds Try.pinned (OpenSpec.ofChange curveMultiplesWrong)

/-- 'baileylaw9.CurveNumbers': WHATEVER THE INPUT: true; the input reads as it did. -/
def curveNumbersSpec : ChangeSpec := { name := "curveNumbers", fn := fun _ => fun
  | [d] => { results := [.lit (.bool true)], args := [d] }
  | _ => none }
def curveNumbersRow : OpenClaim := { program := "ytldhmjfjbalakaa", sum := "51bd063b85e771ee821c4444ed59c00751ae63b9a8f6598bd08a0e4b944649f5", func := "bailey/baileylaw9.CurveNumbers", spec := "curveNumbers", inPlace := ["math/bits.Add64", "math/bits.Sub64"], unfollowed := true, recurses := true, named := ["math/bits.divideError", "math/bits.overflowError"], apart := false }
def CurveNumbersSaid : Prop := curveNumbersRow.holds Try.pinned (OpenSpec.ofChange curveNumbersSpec)

/-- ITS FALSE NEIGHBOUR: 'it returns false'. Refute it at one input. -/
def curveNumbersWrong : ChangeSpec := { name := "curveNumbers", fn := fun _ => fun
  | [d] => { results := [.lit (.bool false)], args := [d] }
  | _ => none }
def CurveNumbersWrongFalsely : Prop := curveNumbersRow.holds Try.pinned (OpenSpec.ofChange curveNumbersWrong)

/-- 'baileylaw9.CurveAdd': WHATEVER THE INPUT: true; the input reads as it did. -/
def curveAddSpec : ChangeSpec := { name := "curveAdd", fn := fun _ => fun
  | [d1, d2, d3, d4, d5] => { results := [.lit (.bool true)], args := [d1, d2, d3, d4, d5] }
  | _ => none }
def curveAddRow : OpenClaim := { program := "ytldhmjfjbalakaa", sum := "51bd063b85e771ee821c4444ed59c00751ae63b9a8f6598bd08a0e4b944649f5", func := "bailey/baileylaw9.CurveAdd", spec := "curveAdd", inPlace := ["math/bits.Add64", "math/bits.Sub64"], unfollowed := true, recurses := true, named := ["math/bits.divideError", "math/bits.overflowError"], apart := false }
def CurveAddSaid : Prop := curveAddRow.holds Try.pinned (OpenSpec.ofChange curveAddSpec)

/-- ITS FALSE NEIGHBOUR: 'it returns false'. Refute it at one input. -/
def curveAddWrong : ChangeSpec := { name := "curveAdd", fn := fun _ => fun
  | [d1, d2, d3, d4, d5] => { results := [.lit (.bool false)], args := [d1, d2, d3, d4, d5] }
  | _ => none }
def CurveAddWrongFalsely : Prop := curveAddRow.holds Try.pinned (OpenSpec.ofChange curveAddWrong)

/-- 'baileylaw9.CurveOrder': WHATEVER THE INPUT: true; the input reads as it did. -/
def curveOrderSpec : ChangeSpec := { name := "curveOrder", fn := fun _ => fun
  | [d1, d2] => { results := [.lit (.bool true)], args := [d1, d2] }
  | _ => none }
def curveOrderRow : OpenClaim := { program := "ytldhmjfjbalakaa", sum := "51bd063b85e771ee821c4444ed59c00751ae63b9a8f6598bd08a0e4b944649f5", func := "bailey/baileylaw9.CurveOrder", spec := "curveOrder", inPlace := ["math/bits.Add64", "math/bits.Sub64"], unfollowed := true, recurses := true, named := ["math/bits.divideError", "math/bits.overflowError"], apart := false }
def CurveOrderSaid : Prop := curveOrderRow.holds Try.pinned (OpenSpec.ofChange curveOrderSpec)

/-- ITS FALSE NEIGHBOUR: 'it returns false'. Refute it at one input. -/
def curveOrderWrong : ChangeSpec := { name := "curveOrder", fn := fun _ => fun
  | [d1, d2] => { results := [.lit (.bool false)], args := [d1, d2] }
  | _ => none }
def CurveOrderWrongFalsely : Prop := curveOrderRow.holds Try.pinned (OpenSpec.ofChange curveOrderWrong)

/- THE SECOND FORM. 'bulk': how many values and letters a reading holds, each counted each time it is reached (what is shared counts as often as it is met; a slice's spare places count too). A statement '..UptoSaid' is the law's where the arguments, and the package variables that the reading takes, are together of bulk at most 1048576: NARROWER than '..Said'. Prove '..Said' where nothing that the law and all that it calls make is longer than what came in: it says more and counts as full. Else prove '..UptoSaid'. A law counts once. -/
mutual
def uptoBulk {H : Type} : DataW H → Nat
  | .lit (.string bytes) => bytes.length + 1
  | .lit _ => 1
  | .nil => 1
  | .ptr d => uptoBulk d + 1
  | .slice elems spare => uptoBulkAll elems + uptoBulkAll spare + 1
  | .agg parts => uptoBulkAll parts + 1
  | .iface _ d => uptoBulk d + 1
  | .map entries => uptoBulkEntries entries + 1
  | .held _ => 1
def uptoBulkAll {H : Type} : List (DataW H) → Nat
  | [] => 0
  | d :: r => uptoBulk d + uptoBulkAll r
def uptoBulkEntries {H : Type} : List (Lit × DataW H) → Nat
  | [] => 0
  | x :: r => uptoBulkEntry x + uptoBulkEntries r
def uptoBulkEntry {H : Type} : Lit × DataW H → Nat
  | (.string bytes, d) => bytes.length + uptoBulk d + 1
  | (_, d) => uptoBulk d + 1
 end
def uptoSmall : (H : Type) → List (DataW H) → Bool := fun _ ds => decide (uptoBulkAll ds ≤ 1048576)
def OpenSpec.upto (s : _root_.Go.ChangeSpec) : _root_.Go.OpenSpec := { _root_.Go.OpenSpec.ofChange s with cond := some uptoSmall }

/-- 'baileylaw9.CurveMul', WHERE WHAT IT READS IS OF BULK AT MOST 1048576: true; the input reads as it did. -/
def curveMulUptoRow : OpenClaim := { program := "ytldhmjfjbalakaa", sum := "51bd063b85e771ee821c4444ed59c00751ae63b9a8f6598bd08a0e4b944649f5", func := "bailey/baileylaw9.CurveMul", spec := "curveMul", inPlace := ["math/bits.Add64", "math/bits.Sub64"], unfollowed := true, recurses := true, named := ["math/bits.divideError", "math/bits.overflowError"], apart := false, narrowed := true }
def CurveMulUptoSaid : Prop := curveMulUptoRow.holds Try.pinned (OpenSpec.upto curveMulSpec)

/-- 'baileylaw9.CurveSum', WHERE WHAT IT READS IS OF BULK AT MOST 1048576: true; the input reads as it did. -/
def curveSumUptoRow : OpenClaim := { program := "ytldhmjfjbalakaa", sum := "51bd063b85e771ee821c4444ed59c00751ae63b9a8f6598bd08a0e4b944649f5", func := "bailey/baileylaw9.CurveSum", spec := "curveSum", inPlace := ["math/bits.Add64", "math/bits.Sub64"], unfollowed := true, recurses := true, named := ["math/bits.divideError", "math/bits.overflowError"], apart := false, narrowed := true }
def CurveSumUptoSaid : Prop := curveSumUptoRow.holds Try.pinned (OpenSpec.upto curveSumSpec)

/-- 'baileylaw9.CurveCode', WHERE WHAT IT READS IS OF BULK AT MOST 1048576: true; the input reads as it did. -/
def curveCodeUptoRow : OpenClaim := { program := "ytldhmjfjbalakaa", sum := "51bd063b85e771ee821c4444ed59c00751ae63b9a8f6598bd08a0e4b944649f5", func := "bailey/baileylaw9.CurveCode", spec := "curveCode", inPlace := ["math/bits.Add64", "math/bits.Sub64"], unfollowed := true, recurses := true, named := ["math/bits.divideError", "math/bits.overflowError"], apart := false, narrowed := true }
def CurveCodeUptoSaid : Prop := curveCodeUptoRow.holds Try.pinned (OpenSpec.upto curveCodeSpec)

/-- 'baileylaw9.CurveMultiples', WHERE WHAT IT READS IS OF BULK AT MOST 1048576: true; the input reads as it did. -/
def curveMultiplesUptoRow : OpenClaim := { program := "ytldhmjfjbalakaa", sum := "51bd063b85e771ee821c4444ed59c00751ae63b9a8f6598bd08a0e4b944649f5", func := "bailey/baileylaw9.CurveMultiples", spec := "curveMultiples", inPlace := ["math/bits.Add64", "math/bits.Sub64"], unfollowed := true, recurses := true, named := ["math/bits.divideError", "math/bits.overflowError"], apart := false, narrowed := true }
def CurveMultiplesUptoSaid : Prop := curveMultiplesUptoRow.holds Try.pinned (OpenSpec.upto curveMultiplesSpec)

/-- 'baileylaw9.CurveNumbers', WHERE WHAT IT READS IS OF BULK AT MOST 1048576: true; the input reads as it did. -/
def curveNumbersUptoRow : OpenClaim := { program := "ytldhmjfjbalakaa", sum := "51bd063b85e771ee821c4444ed59c00751ae63b9a8f6598bd08a0e4b944649f5", func := "bailey/baileylaw9.CurveNumbers", spec := "curveNumbers", inPlace := ["math/bits.Add64", "math/bits.Sub64"], unfollowed := true, recurses := true, named := ["math/bits.divideError", "math/bits.overflowError"], apart := false, narrowed := true }
def CurveNumbersUptoSaid : Prop := curveNumbersUptoRow.holds Try.pinned (OpenSpec.upto curveNumbersSpec)

/-- 'baileylaw9.CurveAdd', WHERE WHAT IT READS IS OF BULK AT MOST 1048576: true; the input reads as it did. -/
def curveAddUptoRow : OpenClaim := { program := "ytldhmjfjbalakaa", sum := "51bd063b85e771ee821c4444ed59c00751ae63b9a8f6598bd08a0e4b944649f5", func := "bailey/baileylaw9.CurveAdd", spec := "curveAdd", inPlace := ["math/bits.Add64", "math/bits.Sub64"], unfollowed := true, recurses := true, named := ["math/bits.divideError", "math/bits.overflowError"], apart := false, narrowed := true }
def CurveAddUptoSaid : Prop := curveAddUptoRow.holds Try.pinned (OpenSpec.upto curveAddSpec)

/-- 'baileylaw9.CurveOrder', WHERE WHAT IT READS IS OF BULK AT MOST 1048576: true; the input reads as it did. -/
def curveOrderUptoRow : OpenClaim := { program := "ytldhmjfjbalakaa", sum := "51bd063b85e771ee821c4444ed59c00751ae63b9a8f6598bd08a0e4b944649f5", func := "bailey/baileylaw9.CurveOrder", spec := "curveOrder", inPlace := ["math/bits.Add64", "math/bits.Sub64"], unfollowed := true, recurses := true, named := ["math/bits.divideError", "math/bits.overflowError"], apart := false, narrowed := true }
def CurveOrderUptoSaid : Prop := curveOrderUptoRow.holds Try.pinned (OpenSpec.upto curveOrderSpec)

end Rows
end Go.Proofs.Ytldhmjfjbalakaa
