/-
  DERIVED. GIVEN WITH THE SEED: THE PROGRAM's TIES (one call each: nine closed facts by the kernel) AND EACH ROW's TIE, after the 31st guide's Derived/Test/Toyas{Tie, Card}.lean. No idea stands in it: it is a product of the set-up. Laid BY PROGRAM, IN A SANDBOX (cutbox-door.mjs). By AI agents, Wed Nov 11 2026. No macro, syntax, notation, axiom, sorry.
-/
import Derived.Test.YtfjfkmoofmncnaaDoorRows
import Derived.LaidByTextLater
import Derived.SevenTiedAt
import Derived.LaidSub
import Derived.LaidOnce
namespace Go.Proofs.YtfjfkmoofmncnaaDoor
open Go
set_option maxRecDepth 100000
theorem seatTie1 : Tryd.prog.laidByTextLater [("weirkeep/span.whole", Rows.laid_weirkeep_span_whole), ("weirkeep/grant.kinds", Rows.laid_weirkeep_grant_kinds)] [.data, .funcs] true :=
  Program.laidByTextLater_by_one 19 8 3 (by kernel_rfl) (by kernel_rfl) (by kernel_rfl) (by kernel_rfl) (by kernel_rfl) (by kernel_rfl) (fun _ _ => by kernel_rfl)
theorem noOwnUnsafe : Tryd.pinned.checked.prog.headLifts.contains "ownunsafe" = false := by kernel_rfl
theorem tie : Tryd.prog.laidByTextLater [("weirkeep/span.whole", Rows.laid_weirkeep_span_whole), ("weirkeep/grant.kinds", Rows.laid_weirkeep_grant_kinds)] [.data, .funcs] true :=
  Program.laidByTextLater.sub seatTie1 ["weirkeep/span.whole", "weirkeep/grant.kinds"] (by kernel_rfl) (by kernel_rfl)
theorem topAgrees_row_tie : Rows.topAgreesRow.laidByTextAt .later Tryd.pinned [.data, .funcs] true :=
  OpenClaim.laidByTextAt_later rfl rfl tie noOwnUnsafe
theorem topAgreesUpto_row_tie : Rows.topAgreesUptoRow.laidByTextAt .later Tryd.pinned [.data, .funcs] true :=
  OpenClaim.laidByTextAt_later rfl rfl tie noOwnUnsafe
end Go.Proofs.YtfjfkmoofmncnaaDoor
