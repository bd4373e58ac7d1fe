/-
  No cell of these rows narrows 'for every input' (looked for: loops, veiled, ifaces, maps, wideKeys, modest, calm, conditions, laid).
  DERIVED. THE GIVEN ROWS OF THIS SEAT. 6 by the template 'for every input the law returns true; each argument reads behind the call as it read before'; 0 by the template 'total and deterministic' (their statements: YtendnkpiidhogaaGreatTotals.lean).
  GIVEN WITH THE SEED: the statements are not yours to turn. If you find one false, say at which input.
  Laid BY PROGRAM, IN A SANDBOX (cutbox-rows.mjs): the forced cells as the released guide's own fill.sh prints them over the translation 7a9ac89384700e1a… (all of the seat's roots in one cut). By AI agents, Wed Nov 11 2026. No macro, syntax, notation, axiom, sorry.
-/
import Derived.Test.YtendnkpiidhogaaGreatChecked
import GoSem.Claim
import GoSem.ClaimJoined
import GoSem.ClaimMapViews
import Derived.JoinedTies
import Derived.KernelRfl
namespace Go.Proofs.YtendnkpiidhogaaGreat
/- THE CELL 'sum', in the pinned program and in every row, IS THE sha256 OF THE DUMP (.gsa) THAT YtendnkpiidhogaaGreatProg.lean LOADS. Nothing in Lean hashes anything: it is a label: what it is worth is what the hold of that sum in a sandbox is worth. -/
noncomputable def Tryz.pinned : Pinned := { name := "ytendnkpiidhogaagreat", sum := "7a9ac89384700e1ac56012391a455a218a9cc25397820d559650d4a18c2e9e2f", checked := Tryz.checked }
namespace Rows
def none {H : Type} : Left H := { results := [], args := [] }

/-- 'baileylaw18.RuleHas': WHATEVER THE INPUT: true; the input reads as it did. -/
def ruleHasSpec : ChangeSpec := { name := "ruleHas", fn := fun _ => fun
  | [d1, d2, d3] => { results := [.lit (.bool true)], args := [d1, d2, d3] }
  | _ => none }
def ruleHasRow : OpenClaim := { program := "ytendnkpiidhogaagreat", sum := "7a9ac89384700e1ac56012391a455a218a9cc25397820d559650d4a18c2e9e2f", func := "bailey/baileylaw18.RuleHas", spec := "ruleHas", inPlace := ["slices.overlaps[bailey/api.Attr]", "math/bits.Add64", "math/bits.Sub64"], unfollowed := true, recurses := true, named := ["math/bits.divideError", "math/bits.overflowError"], apart := false }
def RuleHasSaid : Prop := ruleHasRow.holds Tryz.pinned (OpenSpec.ofChange ruleHasSpec)

/-- ITS FALSE NEIGHBOUR: 'it returns false'. Refute it at one input. -/
def ruleHasWrong : ChangeSpec := { name := "ruleHas", fn := fun _ => fun
  | [d1, d2, d3] => { results := [.lit (.bool false)], args := [d1, d2, d3] }
  | _ => none }
def RuleHasWrongFalsely : Prop := ruleHasRow.holds Tryz.pinned (OpenSpec.ofChange ruleHasWrong)

/-- 'baileylaw18.RuleGet': WHATEVER THE INPUT: true; the input reads as it did. -/
def ruleGetSpec : ChangeSpec := { name := "ruleGet", fn := fun _ => fun
  | [d1, d2, d3] => { results := [.lit (.bool true)], args := [d1, d2, d3] }
  | _ => none }
def ruleGetRow : OpenClaim := { program := "ytendnkpiidhogaagreat", sum := "7a9ac89384700e1ac56012391a455a218a9cc25397820d559650d4a18c2e9e2f", func := "bailey/baileylaw18.RuleGet", spec := "ruleGet", inPlace := ["slices.overlaps[bailey/api.Attr]", "math/bits.Add64", "math/bits.Sub64"], unfollowed := true, recurses := true, named := ["math/bits.divideError", "math/bits.overflowError"], apart := false }
def RuleGetSaid : Prop := ruleGetRow.holds Tryz.pinned (OpenSpec.ofChange ruleGetSpec)

/-- ITS FALSE NEIGHBOUR: 'it returns false'. Refute it at one input. -/
def ruleGetWrong : ChangeSpec := { name := "ruleGet", fn := fun _ => fun
  | [d1, d2, d3] => { results := [.lit (.bool false)], args := [d1, d2, d3] }
  | _ => none }
def RuleGetWrongFalsely : Prop := ruleGetRow.holds Tryz.pinned (OpenSpec.ofChange ruleGetWrong)

/-- 'baileylaw18.RuleSecret': WHATEVER THE INPUT: true; the input reads as it did. -/
def ruleSecretSpec : ChangeSpec := { name := "ruleSecret", fn := fun _ => fun
  | [d1, d2, d3, d4] => { results := [.lit (.bool true)], args := [d1, d2, d3, d4] }
  | _ => none }
def ruleSecretRow : OpenClaim := { program := "ytendnkpiidhogaagreat", sum := "7a9ac89384700e1ac56012391a455a218a9cc25397820d559650d4a18c2e9e2f", func := "bailey/baileylaw18.RuleSecret", spec := "ruleSecret", inPlace := ["slices.overlaps[bailey/api.Attr]", "math/bits.Add64", "math/bits.Sub64"], unfollowed := true, recurses := true, named := ["math/bits.divideError", "math/bits.overflowError"], apart := false }
def RuleSecretSaid : Prop := ruleSecretRow.holds Tryz.pinned (OpenSpec.ofChange ruleSecretSpec)

/-- ITS FALSE NEIGHBOUR: 'it returns false'. Refute it at one input. -/
def ruleSecretWrong : ChangeSpec := { name := "ruleSecret", fn := fun _ => fun
  | [d1, d2, d3, d4] => { results := [.lit (.bool false)], args := [d1, d2, d3, d4] }
  | _ => none }
def RuleSecretWrongFalsely : Prop := ruleSecretRow.holds Tryz.pinned (OpenSpec.ofChange ruleSecretWrong)

/-- 'baileylaw18.RuleChange': WHATEVER THE INPUT: true; the input reads as it did. -/
def ruleChangeSpec : ChangeSpec := { name := "ruleChange", fn := fun _ => fun
  | [d1, d2, d3] => { results := [.lit (.bool true)], args := [d1, d2, d3] }
  | _ => none }
def ruleChangeRow : OpenClaim := { program := "ytendnkpiidhogaagreat", sum := "7a9ac89384700e1ac56012391a455a218a9cc25397820d559650d4a18c2e9e2f", func := "bailey/baileylaw18.RuleChange", spec := "ruleChange", inPlace := ["slices.overlaps[bailey/api.Attr]", "math/bits.Add64", "math/bits.Sub64"], unfollowed := true, recurses := true, named := ["math/bits.divideError", "math/bits.overflowError"], apart := false }
def RuleChangeSaid : Prop := ruleChangeRow.holds Tryz.pinned (OpenSpec.ofChange ruleChangeSpec)

/-- ITS FALSE NEIGHBOUR: 'it returns false'. Refute it at one input. -/
def ruleChangeWrong : ChangeSpec := { name := "ruleChange", fn := fun _ => fun
  | [d1, d2, d3] => { results := [.lit (.bool false)], args := [d1, d2, d3] }
  | _ => none }
def RuleChangeWrongFalsely : Prop := ruleChangeRow.holds Tryz.pinned (OpenSpec.ofChange ruleChangeWrong)

/-- 'baileylaw18.RuleRatchet': WHATEVER THE INPUT: true; the input reads as it did. -/
def ruleRatchetSpec : ChangeSpec := { name := "ruleRatchet", fn := fun _ => fun
  | [d1, d2, d3] => { results := [.lit (.bool true)], args := [d1, d2, d3] }
  | _ => none }
def ruleRatchetRow : OpenClaim := { program := "ytendnkpiidhogaagreat", sum := "7a9ac89384700e1ac56012391a455a218a9cc25397820d559650d4a18c2e9e2f", func := "bailey/baileylaw18.RuleRatchet", spec := "ruleRatchet", inPlace := ["slices.overlaps[bailey/api.Attr]", "math/bits.Add64", "math/bits.Sub64"], unfollowed := true, recurses := true, named := ["math/bits.divideError", "math/bits.overflowError"], apart := false }
def RuleRatchetSaid : Prop := ruleRatchetRow.holds Tryz.pinned (OpenSpec.ofChange ruleRatchetSpec)

/-- ITS FALSE NEIGHBOUR: 'it returns false'. Refute it at one input. -/
def ruleRatchetWrong : ChangeSpec := { name := "ruleRatchet", fn := fun _ => fun
  | [d1, d2, d3] => { results := [.lit (.bool false)], args := [d1, d2, d3] }
  | _ => none }
def RuleRatchetWrongFalsely : Prop := ruleRatchetRow.holds Tryz.pinned (OpenSpec.ofChange ruleRatchetWrong)

/-- 'baileylaw19.MechMay': WHATEVER THE INPUT: true; the input reads as it did. -/
def mechMaySpec : ChangeSpec := { name := "mechMay", fn := fun _ => fun
  | [d1, d2, d3, d4] => { results := [.lit (.bool true)], args := [d1, d2, d3, d4] }
  | _ => none }
def mechMayRow : OpenClaim := { program := "ytendnkpiidhogaagreat", sum := "7a9ac89384700e1ac56012391a455a218a9cc25397820d559650d4a18c2e9e2f", func := "bailey/baileylaw19.MechMay", spec := "mechMay", inPlace := ["math/bits.Add64", "math/bits.Sub64"], unfollowed := true, recurses := true, named := ["math/bits.divideError", "math/bits.overflowError"], apart := false }
def MechMaySaid : Prop := mechMayRow.holds Tryz.pinned (OpenSpec.ofChange mechMaySpec)

/-- ITS FALSE NEIGHBOUR: 'it returns false'. Refute it at one input. -/
def mechMayWrong : ChangeSpec := { name := "mechMay", fn := fun _ => fun
  | [d1, d2, d3, d4] => { results := [.lit (.bool false)], args := [d1, d2, d3, d4] }
  | _ => none }
def MechMayWrongFalsely : Prop := mechMayRow.holds Tryz.pinned (OpenSpec.ofChange mechMayWrong)

/- THE SECOND FORM. 'bulk': how many values and letters a reading holds, each counted each time it is reached (what is shared counts as often as it is met; a slice's spare places count too). A statement '..UptoSaid' is the law's where the arguments, and the package variables that the reading takes, are together of bulk at most 1048576: NARROWER than '..Said'. Prove '..Said' where nothing that the law and all that it calls make is longer than what came in: it says more and counts as full. Else prove '..UptoSaid'. A law counts once. -/
mutual
def uptoBulk {H : Type} : DataW H → Nat
  | .lit (.string bytes) => bytes.length + 1
  | .lit _ => 1
  | .nil => 1
  | .ptr d => uptoBulk d + 1
  | .slice elems spare => uptoBulkAll elems + uptoBulkAll spare + 1
  | .agg parts => uptoBulkAll parts + 1
  | .iface _ d => uptoBulk d + 1
  | .map entries => uptoBulkEntries entries + 1
  | .held _ => 1
def uptoBulkAll {H : Type} : List (DataW H) → Nat
  | [] => 0
  | d :: r => uptoBulk d + uptoBulkAll r
def uptoBulkEntries {H : Type} : List (Lit × DataW H) → Nat
  | [] => 0
  | x :: r => uptoBulkEntry x + uptoBulkEntries r
def uptoBulkEntry {H : Type} : Lit × DataW H → Nat
  | (.string bytes, d) => bytes.length + uptoBulk d + 1
  | (_, d) => uptoBulk d + 1
 end
def uptoSmall : (H : Type) → List (DataW H) → Bool := fun _ ds => decide (uptoBulkAll ds ≤ 1048576)
def OpenSpec.upto (s : _root_.Go.ChangeSpec) : _root_.Go.OpenSpec := { _root_.Go.OpenSpec.ofChange s with cond := some uptoSmall }

/-- 'baileylaw18.RuleHas', WHERE WHAT IT READS IS OF BULK AT MOST 1048576: true; the input reads as it did. -/
def ruleHasUptoRow : OpenClaim := { program := "ytendnkpiidhogaagreat", sum := "7a9ac89384700e1ac56012391a455a218a9cc25397820d559650d4a18c2e9e2f", func := "bailey/baileylaw18.RuleHas", spec := "ruleHas", inPlace := ["slices.overlaps[bailey/api.Attr]", "math/bits.Add64", "math/bits.Sub64"], unfollowed := true, recurses := true, named := ["math/bits.divideError", "math/bits.overflowError"], apart := false, narrowed := true }
def RuleHasUptoSaid : Prop := ruleHasUptoRow.holds Tryz.pinned (OpenSpec.upto ruleHasSpec)

/-- 'baileylaw18.RuleGet', WHERE WHAT IT READS IS OF BULK AT MOST 1048576: true; the input reads as it did. -/
def ruleGetUptoRow : OpenClaim := { program := "ytendnkpiidhogaagreat", sum := "7a9ac89384700e1ac56012391a455a218a9cc25397820d559650d4a18c2e9e2f", func := "bailey/baileylaw18.RuleGet", spec := "ruleGet", inPlace := ["slices.overlaps[bailey/api.Attr]", "math/bits.Add64", "math/bits.Sub64"], unfollowed := true, recurses := true, named := ["math/bits.divideError", "math/bits.overflowError"], apart := false, narrowed := true }
def RuleGetUptoSaid : Prop := ruleGetUptoRow.holds Tryz.pinned (OpenSpec.upto ruleGetSpec)

/-- 'baileylaw18.RuleSecret', WHERE WHAT IT READS IS OF BULK AT MOST 1048576: true; the input reads as it did. -/
def ruleSecretUptoRow : OpenClaim := { program := "ytendnkpiidhogaagreat", sum := "7a9ac89384700e1ac56012391a455a218a9cc25397820d559650d4a18c2e9e2f", func := "bailey/baileylaw18.RuleSecret", spec := "ruleSecret", inPlace := ["slices.overlaps[bailey/api.Attr]", "math/bits.Add64", "math/bits.Sub64"], unfollowed := true, recurses := true, named := ["math/bits.divideError", "math/bits.overflowError"], apart := false, narrowed := true }
def RuleSecretUptoSaid : Prop := ruleSecretUptoRow.holds Tryz.pinned (OpenSpec.upto ruleSecretSpec)

/-- 'baileylaw18.RuleChange', WHERE WHAT IT READS IS OF BULK AT MOST 1048576: true; the input reads as it did. -/
def ruleChangeUptoRow : OpenClaim := { program := "ytendnkpiidhogaagreat", sum := "7a9ac89384700e1ac56012391a455a218a9cc25397820d559650d4a18c2e9e2f", func := "bailey/baileylaw18.RuleChange", spec := "ruleChange", inPlace := ["slices.overlaps[bailey/api.Attr]", "math/bits.Add64", "math/bits.Sub64"], unfollowed := true, recurses := true, named := ["math/bits.divideError", "math/bits.overflowError"], apart := false, narrowed := true }
def RuleChangeUptoSaid : Prop := ruleChangeUptoRow.holds Tryz.pinned (OpenSpec.upto ruleChangeSpec)

/-- 'baileylaw18.RuleRatchet', WHERE WHAT IT READS IS OF BULK AT MOST 1048576: true; the input reads as it did. -/
def ruleRatchetUptoRow : OpenClaim := { program := "ytendnkpiidhogaagreat", sum := "7a9ac89384700e1ac56012391a455a218a9cc25397820d559650d4a18c2e9e2f", func := "bailey/baileylaw18.RuleRatchet", spec := "ruleRatchet", inPlace := ["slices.overlaps[bailey/api.Attr]", "math/bits.Add64", "math/bits.Sub64"], unfollowed := true, recurses := true, named := ["math/bits.divideError", "math/bits.overflowError"], apart := false, narrowed := true }
def RuleRatchetUptoSaid : Prop := ruleRatchetUptoRow.holds Tryz.pinned (OpenSpec.upto ruleRatchetSpec)

/-- 'baileylaw19.MechMay', WHERE WHAT IT READS IS OF BULK AT MOST 1048576: true; the input reads as it did. -/
def mechMayUptoRow : OpenClaim := { program := "ytendnkpiidhogaagreat", sum := "7a9ac89384700e1ac56012391a455a218a9cc25397820d559650d4a18c2e9e2f", func := "bailey/baileylaw19.MechMay", spec := "mechMay", inPlace := ["math/bits.Add64", "math/bits.Sub64"], unfollowed := true, recurses := true, named := ["math/bits.divideError", "math/bits.overflowError"], apart := false, narrowed := true }
def MechMayUptoSaid : Prop := mechMayUptoRow.holds Tryz.pinned (OpenSpec.upto mechMaySpec)

end Rows
end Go.Proofs.YtendnkpiidhogaaGreat
