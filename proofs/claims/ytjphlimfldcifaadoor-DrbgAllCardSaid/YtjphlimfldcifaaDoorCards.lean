/-
  DERIVED. GIVEN WITH THE SEED: THE CARDS: each row of YtjphlimfldcifaaDoorRows.lean that lists a variable, with what it lists TIED to the program's text (the seventh form; the later family's looks); each row that meets fmt, with fmt's text TOLD by the authors' own Lean function (tested against real Go, not proved from fmt's source: count such statements apart). THE CARD IS WHAT COUNTS. Prove the row's statement (the work); the ties are given (YtjphlimfldcifaaDoorTie.lean); close each card by the builder's one call (the guide's Derived/Test/ToyasCard.lean, 'card_holds'). Laid BY PROGRAM, IN A SANDBOX (cutbox-door.mjs). By AI agents, Wed Nov 11 2026. No macro, syntax, notation, axiom, sorry.
-/
import Derived.Test.YtjphlimfldcifaaDoorRows
import GoSem.ClaimSeven
namespace Go.Proofs.YtjphlimfldcifaaDoor
namespace Rows

/-- THE TIED CARD OF 'baileylaw4.DrbgIter'. -/
def drbgIterCard : Claim7 := { stood := { row := drbgIterRow, standIns := [], harness := (true, "3a377e8ca52d66c03c4166ec134ee19690ca3a488116915b06703020fb15e33e"), looks := false }, kinds := [], alts := [], laidByText := true, laidKinds := [.data], laidTests := true, laidLooks := .later }
def DrbgIterCardSaid : Prop := Claim7.holds Tryd.pinned (.plain (OpenSpec.ofChange drbgIterSpec)) drbgIterCard

/-- THE TIED CARD OF 'baileylaw4.DrbgTwo'. -/
def drbgTwoCard : Claim7 := { stood := { row := drbgTwoRow, standIns := [], harness := (true, "3a377e8ca52d66c03c4166ec134ee19690ca3a488116915b06703020fb15e33e"), looks := false }, kinds := [], alts := [], laidByText := true, laidKinds := [.data], laidTests := true, laidLooks := .later }
def DrbgTwoCardSaid : Prop := Claim7.holds Tryd.pinned (.plain (OpenSpec.ofChange drbgTwoSpec)) drbgTwoCard

/-- THE TIED CARD OF 'baileylaw4.DrbgAll'. -/
def drbgAllCard : Claim7 := { stood := { row := drbgAllRow, standIns := [], harness := (true, "3a377e8ca52d66c03c4166ec134ee19690ca3a488116915b06703020fb15e33e"), looks := false }, kinds := [], alts := [], laidByText := true, laidKinds := [.data], laidTests := true, laidLooks := .later }
def DrbgAllCardSaid : Prop := Claim7.holds Tryd.pinned (.plain (OpenSpec.ofChange drbgAllSpec)) drbgAllCard

/-- THE TIED CARD OF 'baileylaw4.DrbgNone'. -/
def drbgNoneCard : Claim7 := { stood := { row := drbgNoneRow, standIns := [], harness := (true, "3a377e8ca52d66c03c4166ec134ee19690ca3a488116915b06703020fb15e33e"), looks := false }, kinds := [], alts := [], laidByText := true, laidKinds := [.data], laidTests := true, laidLooks := .later }
def DrbgNoneCardSaid : Prop := Claim7.holds Tryd.pinned (.plain (OpenSpec.ofChange drbgNoneSpec)) drbgNoneCard

/-- THE SECOND FORM's CARD OF 'baileylaw4.DrbgIter'. -/
def drbgIterUptoCard : Claim7 := { stood := { row := drbgIterUptoRow, standIns := [], harness := (true, "3a377e8ca52d66c03c4166ec134ee19690ca3a488116915b06703020fb15e33e"), looks := false }, kinds := [], alts := [], laidByText := true, laidKinds := [.data], laidTests := true, laidLooks := .later }
def DrbgIterUptoCardSaid : Prop := Claim7.holds Tryd.pinned (.plain (OpenSpec.upto drbgIterSpec)) drbgIterUptoCard

/-- THE SECOND FORM's CARD OF 'baileylaw4.DrbgTwo'. -/
def drbgTwoUptoCard : Claim7 := { stood := { row := drbgTwoUptoRow, standIns := [], harness := (true, "3a377e8ca52d66c03c4166ec134ee19690ca3a488116915b06703020fb15e33e"), looks := false }, kinds := [], alts := [], laidByText := true, laidKinds := [.data], laidTests := true, laidLooks := .later }
def DrbgTwoUptoCardSaid : Prop := Claim7.holds Tryd.pinned (.plain (OpenSpec.upto drbgTwoSpec)) drbgTwoUptoCard

/-- THE SECOND FORM's CARD OF 'baileylaw4.DrbgAll'. -/
def drbgAllUptoCard : Claim7 := { stood := { row := drbgAllUptoRow, standIns := [], harness := (true, "3a377e8ca52d66c03c4166ec134ee19690ca3a488116915b06703020fb15e33e"), looks := false }, kinds := [], alts := [], laidByText := true, laidKinds := [.data], laidTests := true, laidLooks := .later }
def DrbgAllUptoCardSaid : Prop := Claim7.holds Tryd.pinned (.plain (OpenSpec.upto drbgAllSpec)) drbgAllUptoCard

/-- THE SECOND FORM's CARD OF 'baileylaw4.DrbgNone'. -/
def drbgNoneUptoCard : Claim7 := { stood := { row := drbgNoneUptoRow, standIns := [], harness := (true, "3a377e8ca52d66c03c4166ec134ee19690ca3a488116915b06703020fb15e33e"), looks := false }, kinds := [], alts := [], laidByText := true, laidKinds := [.data], laidTests := true, laidLooks := .later }
def DrbgNoneUptoCardSaid : Prop := Claim7.holds Tryd.pinned (.plain (OpenSpec.upto drbgNoneSpec)) drbgNoneUptoCard
end Rows
end Go.Proofs.YtjphlimfldcifaaDoor
