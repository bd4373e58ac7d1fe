/-
  DERIVED. GIVEN WITH THE SEED: THE CARDS: each row of YtaemogcomplhiaaGreatDoorRows.lean that lists a variable, with what it lists TIED to the program's text (the seventh form; the later family's looks); each row that meets fmt, with fmt's text TOLD by the authors' own Lean function (tested against real Go, not proved from fmt's source: count such statements apart). THE CARD IS WHAT COUNTS. Prove the row's statement (the work); the ties are given (YtaemogcomplhiaaGreatDoorTie.lean); close each card by the builder's one call (the guide's Derived/Test/ToyasCard.lean, 'card_holds'). Laid BY PROGRAM, IN A SANDBOX (cutbox-door.mjs). By AI agents, Wed Nov 11 2026. No macro, syntax, notation, axiom, sorry.
-/
import Derived.Test.YtaemogcomplhiaaGreatDoorRows
import GoSem.ClaimSeven
namespace Go.Proofs.YtaemogcomplhiaaGreatDoor
namespace Rows

/-- THE TIED CARD OF 'baileylaw10.EcdsaGenerate'. -/
def ecdsaGenerateCard : Claim7 := { stood := { row := ecdsaGenerateRow, standIns := [], harness := (true, "2cc479aca2d1c54a50a894e31983f67afc0930d5eb9c22e5e88b2be8849c30a5"), looks := false }, kinds := [], alts := [], laidByText := true, laidKinds := [.data], laidTests := true, laidLooks := .later }
def EcdsaGenerateCardSaid : Prop := Claim7.holds Tryz.pinned (.plain (OpenSpec.ofChange ecdsaGenerateSpec)) ecdsaGenerateCard

/-- THE TIED CARD OF 'baileylaw10.EcdsaStrange'. -/
def ecdsaStrangeCard : Claim7 := { stood := { row := ecdsaStrangeRow, standIns := [], harness := (true, "2cc479aca2d1c54a50a894e31983f67afc0930d5eb9c22e5e88b2be8849c30a5"), looks := false }, kinds := [], alts := [], laidByText := true, laidKinds := [.data], laidTests := true, laidLooks := .later }
def EcdsaStrangeCardSaid : Prop := Claim7.holds Tryz.pinned (.plain (OpenSpec.ofChange ecdsaStrangeSpec)) ecdsaStrangeCard

/-- THE TIED CARD OF 'baileylaw10.EcdsaShared'. -/
def ecdsaSharedCard : Claim7 := { stood := { row := ecdsaSharedRow, standIns := [], harness := (true, "2cc479aca2d1c54a50a894e31983f67afc0930d5eb9c22e5e88b2be8849c30a5"), looks := false }, kinds := [], alts := [], laidByText := true, laidKinds := [.data], laidTests := true, laidLooks := .later }
def EcdsaSharedCardSaid : Prop := Claim7.holds Tryz.pinned (.plain (OpenSpec.ofChange ecdsaSharedSpec)) ecdsaSharedCard

/-- THE SECOND FORM's CARD OF 'baileylaw10.EcdsaGenerate'. -/
def ecdsaGenerateUptoCard : Claim7 := { stood := { row := ecdsaGenerateUptoRow, standIns := [], harness := (true, "2cc479aca2d1c54a50a894e31983f67afc0930d5eb9c22e5e88b2be8849c30a5"), looks := false }, kinds := [], alts := [], laidByText := true, laidKinds := [.data], laidTests := true, laidLooks := .later }
def EcdsaGenerateUptoCardSaid : Prop := Claim7.holds Tryz.pinned (.plain (OpenSpec.upto ecdsaGenerateSpec)) ecdsaGenerateUptoCard

/-- THE SECOND FORM's CARD OF 'baileylaw10.EcdsaStrange'. -/
def ecdsaStrangeUptoCard : Claim7 := { stood := { row := ecdsaStrangeUptoRow, standIns := [], harness := (true, "2cc479aca2d1c54a50a894e31983f67afc0930d5eb9c22e5e88b2be8849c30a5"), looks := false }, kinds := [], alts := [], laidByText := true, laidKinds := [.data], laidTests := true, laidLooks := .later }
def EcdsaStrangeUptoCardSaid : Prop := Claim7.holds Tryz.pinned (.plain (OpenSpec.upto ecdsaStrangeSpec)) ecdsaStrangeUptoCard

/-- THE SECOND FORM's CARD OF 'baileylaw10.EcdsaShared'. -/
def ecdsaSharedUptoCard : Claim7 := { stood := { row := ecdsaSharedUptoRow, standIns := [], harness := (true, "2cc479aca2d1c54a50a894e31983f67afc0930d5eb9c22e5e88b2be8849c30a5"), looks := false }, kinds := [], alts := [], laidByText := true, laidKinds := [.data], laidTests := true, laidLooks := .later }
def EcdsaSharedUptoCardSaid : Prop := Claim7.holds Tryz.pinned (.plain (OpenSpec.upto ecdsaSharedSpec)) ecdsaSharedUptoCard
end Rows
end Go.Proofs.YtaemogcomplhiaaGreatDoor
