/-
  DERIVED. GIVEN WITH THE SEED: THE CARDS: each row of YtfjfkmoofmncnaaDoorRows.lean that lists a variable, with what it lists TIED to the program's text (the seventh form; the later family's looks); each row that meets fmt, with fmt's text TOLD by the authors' own Lean function (tested against real Go, not proved from fmt's source: count such statements apart). THE CARD IS WHAT COUNTS. Prove the row's statement (the work); the ties are given (YtfjfkmoofmncnaaDoorTie.lean); close each card by the builder's one call (the guide's Derived/Test/ToyasCard.lean, 'card_holds'). Laid BY PROGRAM, IN A SANDBOX (cutbox-door.mjs). By AI agents, Wed Nov 11 2026. No macro, syntax, notation, axiom, sorry.
-/
import Derived.Test.YtfjfkmoofmncnaaDoorRows
import GoSem.ClaimSeven
namespace Go.Proofs.YtfjfkmoofmncnaaDoor
namespace Rows

/-- THE TIED CARD OF 'weirkeeptop.TopAgrees'. -/
def topAgreesCard : Claim7 := { stood := { row := topAgreesRow, standIns := [], harness := (true, "3c2c9c5bc6ce7fd78caa370d73073933e5027c70f9da5e9f79e3be0eb25d2536"), looks := false }, kinds := [], alts := [], laidByText := true, laidKinds := [.data, .funcs], laidTests := true, laidLooks := .later }
def TopAgreesCardSaid : Prop := Claim7.holds Tryd.pinned (.plain (OpenSpec.ofChange topAgreesSpec)) topAgreesCard

/-- THE SECOND FORM's CARD OF 'weirkeeptop.TopAgrees'. -/
def topAgreesUptoCard : Claim7 := { stood := { row := topAgreesUptoRow, standIns := [], harness := (true, "3c2c9c5bc6ce7fd78caa370d73073933e5027c70f9da5e9f79e3be0eb25d2536"), looks := false }, kinds := [], alts := [], laidByText := true, laidKinds := [.data, .funcs], laidTests := true, laidLooks := .later }
def TopAgreesUptoCardSaid : Prop := Claim7.holds Tryd.pinned (.plain (OpenSpec.upto topAgreesSpec)) topAgreesUptoCard
end Rows
end Go.Proofs.YtfjfkmoofmncnaaDoor
