/-
  No cell of these rows narrows 'for every input' (looked for: loops, veiled, ifaces, maps, wideKeys, modest, calm, conditions, laid).
  DERIVED. THE GIVEN ROWS OF THIS SEAT. 3 by the template 'for every input the law returns true; each argument reads behind the call as it read before'; 0 by the template 'total and deterministic' (their statements: YtmlbicgpehchhaaGreatTotals.lean).
  GIVEN WITH THE SEED: the statements are not yours to turn. If you find one false, say at which input.
  Laid BY PROGRAM, IN A SANDBOX (cutbox-rows.mjs): the forced cells as the released guide's own fill.sh prints them over the translation 40e49033e5beaa23… (all of the seat's roots in one cut). By AI agents, Wed Nov 11 2026. No macro, syntax, notation, axiom, sorry.
-/
import Derived.Test.YtmlbicgpehchhaaGreatChecked
import GoSem.Claim
import GoSem.ClaimJoined
import GoSem.ClaimMapViews
import Derived.JoinedTies
import Derived.KernelRfl
namespace Go.Proofs.YtmlbicgpehchhaaGreat
/- THE CELL 'sum', in the pinned program and in every row, IS THE sha256 OF THE DUMP (.gsa) THAT YtmlbicgpehchhaaGreatProg.lean LOADS. Nothing in Lean hashes anything: it is a label: what it is worth is what the hold of that sum in a sandbox is worth. -/
noncomputable def Tryz.pinned : Pinned := { name := "ytmlbicgpehchhaagreat", sum := "40e49033e5beaa23cee45436e910fb61ced7add641289b5c2916127926ed3748", checked := Tryz.checked }
namespace Rows
def none {H : Type} : Left H := { results := [], args := [] }

/-- 'baileylaw12.FmtEC': WHATEVER THE INPUT: true; the input reads as it did. -/
def fmtECSpec : ChangeSpec := { name := "fmtEC", fn := fun _ => fun
  | [d1, d2, d3, d4] => { results := [.lit (.bool true)], args := [d1, d2, d3, d4] }
  | _ => none }
def fmtECRow : OpenClaim := { program := "ytmlbicgpehchhaagreat", sum := "40e49033e5beaa23cee45436e910fb61ced7add641289b5c2916127926ed3748", func := "bailey/baileylaw12.FmtEC", spec := "fmtEC", inPlace := ["math/bits.Add64", "math/bits.Sub64"], unfollowed := true, recurses := true, named := ["math/bits.divideError", "math/bits.overflowError"], apart := false }
def FmtECSaid : Prop := fmtECRow.holds Tryz.pinned (OpenSpec.ofChange fmtECSpec)

/-- ITS FALSE NEIGHBOUR: 'it returns false'. Refute it at one input. -/
def fmtECWrong : ChangeSpec := { name := "fmtEC", fn := fun _ => fun
  | [d1, d2, d3, d4] => { results := [.lit (.bool false)], args := [d1, d2, d3, d4] }
  | _ => none }
def FmtECWrongFalsely : Prop := fmtECRow.holds Tryz.pinned (OpenSpec.ofChange fmtECWrong)

/-- 'baileylaw12.FmtRSA': WHATEVER THE INPUT: true; the input reads as it did. -/
def fmtRSASpec : ChangeSpec := { name := "fmtRSA", fn := fun _ => fun
  | [d] => { results := [.lit (.bool true)], args := [d] }
  | _ => none }
def fmtRSARow : OpenClaim := { program := "ytmlbicgpehchhaagreat", sum := "40e49033e5beaa23cee45436e910fb61ced7add641289b5c2916127926ed3748", func := "bailey/baileylaw12.FmtRSA", spec := "fmtRSA", inPlace := ["math/bits.Add64", "math/bits.Sub64"], unfollowed := true, recurses := true, named := ["math/bits.divideError", "math/bits.overflowError"], apart := false }
def FmtRSASaid : Prop := fmtRSARow.holds Tryz.pinned (OpenSpec.ofChange fmtRSASpec)

/-- ITS FALSE NEIGHBOUR: 'it returns false'. Refute it at one input. -/
def fmtRSAWrong : ChangeSpec := { name := "fmtRSA", fn := fun _ => fun
  | [d] => { results := [.lit (.bool false)], args := [d] }
  | _ => none }
def FmtRSAWrongFalsely : Prop := fmtRSARow.holds Tryz.pinned (OpenSpec.ofChange fmtRSAWrong)

/-- 'baileylaw12.FmtRead': WHATEVER THE INPUT: true; the input reads as it did. -/
def fmtReadSpec : ChangeSpec := { name := "fmtRead", fn := fun _ => fun
  | [d] => { results := [.lit (.bool true)], args := [d] }
  | _ => none }
def fmtReadRow : OpenClaim := { program := "ytmlbicgpehchhaagreat", sum := "40e49033e5beaa23cee45436e910fb61ced7add641289b5c2916127926ed3748", func := "bailey/baileylaw12.FmtRead", spec := "fmtRead", inPlace := ["math/bits.Add64", "math/bits.Sub64"], unfollowed := true, recurses := true, named := ["math/bits.divideError", "math/bits.overflowError"], apart := false }
def FmtReadSaid : Prop := fmtReadRow.holds Tryz.pinned (OpenSpec.ofChange fmtReadSpec)

/-- ITS FALSE NEIGHBOUR: 'it returns false'. Refute it at one input. -/
def fmtReadWrong : ChangeSpec := { name := "fmtRead", fn := fun _ => fun
  | [d] => { results := [.lit (.bool false)], args := [d] }
  | _ => none }
def FmtReadWrongFalsely : Prop := fmtReadRow.holds Tryz.pinned (OpenSpec.ofChange fmtReadWrong)

/- THE SECOND FORM. 'bulk': how many values and letters a reading holds, each counted each time it is reached (what is shared counts as often as it is met; a slice's spare places count too). A statement '..UptoSaid' is the law's where the arguments, and the package variables that the reading takes, are together of bulk at most 1048576: NARROWER than '..Said'. Prove '..Said' where nothing that the law and all that it calls make is longer than what came in: it says more and counts as full. Else prove '..UptoSaid'. A law counts once. -/
mutual
def uptoBulk {H : Type} : DataW H → Nat
  | .lit (.string bytes) => bytes.length + 1
  | .lit _ => 1
  | .nil => 1
  | .ptr d => uptoBulk d + 1
  | .slice elems spare => uptoBulkAll elems + uptoBulkAll spare + 1
  | .agg parts => uptoBulkAll parts + 1
  | .iface _ d => uptoBulk d + 1
  | .map entries => uptoBulkEntries entries + 1
  | .held _ => 1
def uptoBulkAll {H : Type} : List (DataW H) → Nat
  | [] => 0
  | d :: r => uptoBulk d + uptoBulkAll r
def uptoBulkEntries {H : Type} : List (Lit × DataW H) → Nat
  | [] => 0
  | x :: r => uptoBulkEntry x + uptoBulkEntries r
def uptoBulkEntry {H : Type} : Lit × DataW H → Nat
  | (.string bytes, d) => bytes.length + uptoBulk d + 1
  | (_, d) => uptoBulk d + 1
 end
def uptoSmall : (H : Type) → List (DataW H) → Bool := fun _ ds => decide (uptoBulkAll ds ≤ 1048576)
def OpenSpec.upto (s : _root_.Go.ChangeSpec) : _root_.Go.OpenSpec := { _root_.Go.OpenSpec.ofChange s with cond := some uptoSmall }

/-- 'baileylaw12.FmtEC', WHERE WHAT IT READS IS OF BULK AT MOST 1048576: true; the input reads as it did. -/
def fmtECUptoRow : OpenClaim := { program := "ytmlbicgpehchhaagreat", sum := "40e49033e5beaa23cee45436e910fb61ced7add641289b5c2916127926ed3748", func := "bailey/baileylaw12.FmtEC", spec := "fmtEC", inPlace := ["math/bits.Add64", "math/bits.Sub64"], unfollowed := true, recurses := true, named := ["math/bits.divideError", "math/bits.overflowError"], apart := false, narrowed := true }
def FmtECUptoSaid : Prop := fmtECUptoRow.holds Tryz.pinned (OpenSpec.upto fmtECSpec)

/-- 'baileylaw12.FmtRSA', WHERE WHAT IT READS IS OF BULK AT MOST 1048576: true; the input reads as it did. -/
def fmtRSAUptoRow : OpenClaim := { program := "ytmlbicgpehchhaagreat", sum := "40e49033e5beaa23cee45436e910fb61ced7add641289b5c2916127926ed3748", func := "bailey/baileylaw12.FmtRSA", spec := "fmtRSA", inPlace := ["math/bits.Add64", "math/bits.Sub64"], unfollowed := true, recurses := true, named := ["math/bits.divideError", "math/bits.overflowError"], apart := false, narrowed := true }
def FmtRSAUptoSaid : Prop := fmtRSAUptoRow.holds Tryz.pinned (OpenSpec.upto fmtRSASpec)

/-- 'baileylaw12.FmtRead', WHERE WHAT IT READS IS OF BULK AT MOST 1048576: true; the input reads as it did. -/
def fmtReadUptoRow : OpenClaim := { program := "ytmlbicgpehchhaagreat", sum := "40e49033e5beaa23cee45436e910fb61ced7add641289b5c2916127926ed3748", func := "bailey/baileylaw12.FmtRead", spec := "fmtRead", inPlace := ["math/bits.Add64", "math/bits.Sub64"], unfollowed := true, recurses := true, named := ["math/bits.divideError", "math/bits.overflowError"], apart := false, narrowed := true }
def FmtReadUptoSaid : Prop := fmtReadUptoRow.holds Tryz.pinned (OpenSpec.upto fmtReadSpec)

end Rows
end Go.Proofs.YtmlbicgpehchhaaGreat
