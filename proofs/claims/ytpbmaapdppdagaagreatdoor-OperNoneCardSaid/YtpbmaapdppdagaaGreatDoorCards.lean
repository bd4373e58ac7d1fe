/-
  DERIVED. GIVEN WITH THE SEED: THE CARDS: each row of YtpbmaapdppdagaaGreatDoorRows.lean that lists a variable, with what it lists TIED to the program's text (the seventh form; the later family's looks); each row that meets fmt, with fmt's text TOLD by the authors' own Lean function (tested against real Go, not proved from fmt's source: count such statements apart). THE CARD IS WHAT COUNTS. Prove the row's statement (the work); the ties are given (YtpbmaapdppdagaaGreatDoorTie.lean); close each card by the builder's one call (the guide's Derived/Test/ToyasCard.lean, 'card_holds'). Laid BY PROGRAM, IN A SANDBOX (cutbox-door.mjs). By AI agents, Wed Nov 11 2026. No macro, syntax, notation, axiom, sorry.
-/
import Derived.Test.YtpbmaapdppdagaaGreatDoorRows
import GoSem.ClaimSeven
namespace Go.Proofs.YtpbmaapdppdagaaGreatDoor
namespace Rows

/-- THE TIED CARD OF 'baileylaw20.OperNone'. -/
def operNoneCard : Claim7 := { stood := { row := operNoneRow, standIns := [], harness := (true, "4bee7007c6a4789d6fecb39fa001a02edce54dc748b8aa632d6ac4799ef2fa79"), looks := false }, kinds := [], alts := [], laidByText := true, laidKinds := [.data, .data, .pinned], laidTests := true, laidLooks := .later }
def OperNoneCardSaid : Prop := Claim7.holds Tryz.pinned (.plain (OpenSpec.ofChange operNoneSpec)) operNoneCard

/-- THE SECOND FORM's CARD OF 'baileylaw20.OperNone'. -/
def operNoneUptoCard : Claim7 := { stood := { row := operNoneUptoRow, standIns := [], harness := (true, "4bee7007c6a4789d6fecb39fa001a02edce54dc748b8aa632d6ac4799ef2fa79"), looks := false }, kinds := [], alts := [], laidByText := true, laidKinds := [.data, .data, .pinned], laidTests := true, laidLooks := .later }
def OperNoneUptoCardSaid : Prop := Claim7.holds Tryz.pinned (.plain (OpenSpec.upto operNoneSpec)) operNoneUptoCard
end Rows
end Go.Proofs.YtpbmaapdppdagaaGreatDoor
