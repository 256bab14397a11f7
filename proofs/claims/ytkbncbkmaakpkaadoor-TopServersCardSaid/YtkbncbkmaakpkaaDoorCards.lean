/-
  DERIVED. GIVEN WITH THE SEED: THE CARDS: each row of YtkbncbkmaakpkaaDoorRows.lean that lists a variable, with what it lists TIED to the program's text (the seventh form; the later family's looks); each row that meets fmt, with fmt's text TOLD by the authors' own Lean function (tested against real Go, not proved from fmt's source: count such statements apart). THE CARD IS WHAT COUNTS. Prove the row's statement (the work); the ties are given (YtkbncbkmaakpkaaDoorTie.lean); close each card by the builder's one call (the guide's Derived/Test/ToyasCard.lean, 'card_holds'). Laid BY PROGRAM, IN A SANDBOX (cutbox-door.mjs). By AI agents, Wed Nov 11 2026. No macro, syntax, notation, axiom, sorry.
-/
import Derived.Test.YtkbncbkmaakpkaaDoorRows
import GoSem.ClaimSeven
namespace Go.Proofs.YtkbncbkmaakpkaaDoor
namespace Rows

/-- THE TIED CARD OF 'weirkeeptop.TopBallots'. -/
def topBallotsCard : Claim7 := { stood := { row := topBallotsRow, standIns := [], harness := (true, "0c2488b25c9009aba7ecd31847171139ec83f414625395822d9aa79b84e7bb66"), looks := true }, kinds := [], alts := [], laidByText := true, laidKinds := [.data, .handle], laidTests := true, laidLooks := .later }
def TopBallotsCardSaid : Prop := Claim7.holds Tryd.pinned (.plain (OpenSpec.ofChange topBallotsSpec)) topBallotsCard

/-- THE TIED CARD OF 'weirkeeptop.TopMessages'. -/
def topMessagesCard : Claim7 := { stood := { row := topMessagesRow, standIns := [], harness := (true, "0c2488b25c9009aba7ecd31847171139ec83f414625395822d9aa79b84e7bb66"), looks := true }, kinds := [], alts := [], laidByText := true, laidKinds := [.data, .handle], laidTests := true, laidLooks := .later }
def TopMessagesCardSaid : Prop := Claim7.holds Tryd.pinned (.plain (OpenSpec.ofChange topMessagesSpec)) topMessagesCard

/-- THE TIED CARD OF 'weirkeeptop.TopAgrees'. -/
def topAgreesCard : Claim7 := { stood := { row := topAgreesRow, standIns := [], harness := (true, "0c2488b25c9009aba7ecd31847171139ec83f414625395822d9aa79b84e7bb66"), looks := true }, kinds := [], alts := [], laidByText := true, laidKinds := [.data, .funcs], laidTests := true, laidLooks := .later }
def TopAgreesCardSaid : Prop := Claim7.holds Tryd.pinned (.plain (OpenSpec.ofChange topAgreesSpec)) topAgreesCard

/-- THE TIED CARD OF 'weirkeeptop.TopServers'. -/
def topServersCard : Claim7 := { stood := { row := topServersRow, standIns := [], harness := (true, "0c2488b25c9009aba7ecd31847171139ec83f414625395822d9aa79b84e7bb66"), looks := true }, kinds := [], alts := [], laidByText := true, laidKinds := [.data, .handle], laidTests := true, laidLooks := .later }
def TopServersCardSaid : Prop := Claim7.holds Tryd.pinned (.plain (OpenSpec.ofChange topServersSpec)) topServersCard

/-- THE SECOND FORM's CARD OF 'weirkeeptop.TopBallots'. -/
def topBallotsUptoCard : Claim7 := { stood := { row := topBallotsUptoRow, standIns := [], harness := (true, "0c2488b25c9009aba7ecd31847171139ec83f414625395822d9aa79b84e7bb66"), looks := true }, kinds := [], alts := [], laidByText := true, laidKinds := [.data, .handle], laidTests := true, laidLooks := .later }
def TopBallotsUptoCardSaid : Prop := Claim7.holds Tryd.pinned (.plain (OpenSpec.upto topBallotsSpec)) topBallotsUptoCard

/-- THE SECOND FORM's CARD OF 'weirkeeptop.TopMessages'. -/
def topMessagesUptoCard : Claim7 := { stood := { row := topMessagesUptoRow, standIns := [], harness := (true, "0c2488b25c9009aba7ecd31847171139ec83f414625395822d9aa79b84e7bb66"), looks := true }, kinds := [], alts := [], laidByText := true, laidKinds := [.data, .handle], laidTests := true, laidLooks := .later }
def TopMessagesUptoCardSaid : Prop := Claim7.holds Tryd.pinned (.plain (OpenSpec.upto topMessagesSpec)) topMessagesUptoCard

/-- THE SECOND FORM's CARD OF 'weirkeeptop.TopAgrees'. -/
def topAgreesUptoCard : Claim7 := { stood := { row := topAgreesUptoRow, standIns := [], harness := (true, "0c2488b25c9009aba7ecd31847171139ec83f414625395822d9aa79b84e7bb66"), looks := true }, kinds := [], alts := [], laidByText := true, laidKinds := [.data, .funcs], laidTests := true, laidLooks := .later }
def TopAgreesUptoCardSaid : Prop := Claim7.holds Tryd.pinned (.plain (OpenSpec.upto topAgreesSpec)) topAgreesUptoCard

/-- THE SECOND FORM's CARD OF 'weirkeeptop.TopServers'. -/
def topServersUptoCard : Claim7 := { stood := { row := topServersUptoRow, standIns := [], harness := (true, "0c2488b25c9009aba7ecd31847171139ec83f414625395822d9aa79b84e7bb66"), looks := true }, kinds := [], alts := [], laidByText := true, laidKinds := [.data, .handle], laidTests := true, laidLooks := .later }
def TopServersUptoCardSaid : Prop := Claim7.holds Tryd.pinned (.plain (OpenSpec.upto topServersSpec)) topServersUptoCard
end Rows
end Go.Proofs.YtkbncbkmaakpkaaDoor
