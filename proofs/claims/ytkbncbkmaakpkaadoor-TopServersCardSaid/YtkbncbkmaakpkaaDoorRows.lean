/-
  NARROWER THAN 'FOR EVERY INPUT', by the rows' own cells (each row's printed sentence says how): TopBallots: laid · TopMessages: laid · TopAgrees: laid · TopServers: laid.
  DERIVED. THE GIVEN ROWS OF THIS SEAT. 4 by the template 'for every input the law returns true; each argument reads behind the call as it read before'; 0 by the template 'total and deterministic' (their statements: YtkbncbkmaakpkaaDoorTotals.lean).
  GIVEN WITH THE SEED: the statements are not yours to turn. If you find one false, say at which input.
  Laid BY PROGRAM, IN A SANDBOX (cutbox-rows.mjs): the forced cells as the released guide's own fill.sh prints them over the translation b52461a8979ab7d9… (all of the seat's roots in one cut). By AI agents, Wed Nov 11 2026. No macro, syntax, notation, axiom, sorry.
-/
import Derived.Test.YtkbncbkmaakpkaaDoorChecked
import GoSem.Claim
import GoSem.ClaimJoined
import GoSem.ClaimMapViews
import Derived.JoinedTies
import Derived.KernelRfl
namespace Go.Proofs.YtkbncbkmaakpkaaDoor
/- THE CELL 'sum', in the pinned program and in every row, IS THE sha256 OF THE DUMP (.gsa) THAT YtkbncbkmaakpkaaDoorProg.lean LOADS. Nothing in Lean hashes anything: it is a label: what it is worth is what the hold of that sum in a sandbox is worth. -/
noncomputable def Tryd.pinned : Pinned := { name := "ytkbncbkmaakpkaadoor", sum := "b52461a8979ab7d91bba4b083cba7bec021b65dacfba99493c16b8800193df51", checked := Tryd.checked }
namespace Rows
def none {H : Type} : Left H := { results := [], args := [] }

/- WHAT THE LISTED PACKAGE-LEVEL VARIABLES READ AS WHEN THE CALL BEGINS. Each datum BY PROGRAM (the guide's laid-datum.mjs) off the statement by which the dump's own 'gosem.cut.vars' lays the variable. In a bare row this is a premise. The card (YtkbncbkmaakpkaaDoorCards.lean) ties it to the program's text. -/
def laid_weirkeep_check_steps {H : Type} : DataW H := .agg [.lit (.int .u32 0), .lit (.int .u32 498536548), .lit (.int .u32 997073096), .lit (.int .u32 651767980), .lit (.int .u32 1994146192), .lit (.int .u32 1802195444), .lit (.int .u32 1303535960), .lit (.int .u32 1342533948), .lit (.int .u32 3988292384), .lit (.int .u32 4027552580), .lit (.int .u32 3604390888), .lit (.int .u32 3412177804), .lit (.int .u32 2607071920), .lit (.int .u32 2262029012), .lit (.int .u32 2685067896), .lit (.int .u32 3183342108)]
def laid_errors_errorType {H : Type} : DataW H := .iface "internal/reflectlite.rtype" (.agg [.ptr (.lit (.string [101, 114, 114, 111, 114]))])
def laid_weirkeep_span_whole {H : Type} : DataW H := .agg [.lit (.int .i64 0), .lit (.int .i64 256)]
def laid_weirkeep_grant_kinds {H : Type} : DataW H := .iface "func table" (.agg [.nil, .iface "func" (.lit (.string [40, 42, 119, 101, 105, 114, 107, 101, 101, 112, 47, 103, 114, 97, 110, 116, 46, 83, 101, 114, 118, 105, 99, 101, 41, 46, 97, 115, 107])), .iface "func" (.lit (.string [40, 42, 119, 101, 105, 114, 107, 101, 101, 112, 47, 103, 114, 97, 110, 116, 46, 83, 101, 114, 118, 105, 99, 101, 41, 46, 114, 101, 108, 101, 97, 115, 101])), .iface "func" (.lit (.string [40, 42, 119, 101, 105, 114, 107, 101, 101, 112, 47, 103, 114, 97, 110, 116, 46, 83, 101, 114, 118, 105, 99, 101, 41, 46, 119, 101, 97, 107, 101, 110])), .iface "func" (.lit (.string [40, 42, 119, 101, 105, 114, 107, 101, 101, 112, 47, 103, 114, 97, 110, 116, 46, 83, 101, 114, 118, 105, 99, 101, 41, 46, 114, 101, 110, 101, 119])), .iface "func" (.lit (.string [40, 42, 119, 101, 105, 114, 107, 101, 101, 112, 47, 103, 114, 97, 110, 116, 46, 83, 101, 114, 118, 105, 99, 101, 41, 46, 115, 119, 101, 101, 112])), .iface "func" (.lit (.string [40, 42, 119, 101, 105, 114, 107, 101, 101, 112, 47, 103, 114, 97, 110, 116, 46, 83, 101, 114, 118, 105, 99, 101, 41, 46, 114, 101, 99, 111, 118, 101, 114])), .iface "func" (.lit (.string [40, 42, 119, 101, 105, 114, 107, 101, 101, 112, 47, 103, 114, 97, 110, 116, 46, 83, 101, 114, 118, 105, 99, 101, 41, 46, 100, 111, 110, 101])), .iface "func" (.lit (.string [40, 42, 119, 101, 105, 114, 107, 101, 101, 112, 47, 103, 114, 97, 110, 116, 46, 83, 101, 114, 118, 105, 99, 101, 41, 46, 99, 97, 110, 99, 101, 108]))])

/-- 'weirkeeptop.TopBallots': WHATEVER THE INPUT: true; the input reads as it did. -/
def topBallotsSpec : ChangeSpec := { name := "topBallots", fn := fun _ => fun
  | [d1, d2, d3, d4] => { results := [.lit (.bool true)], args := [d1, d2, d3, d4] }
  | _ => none }
def topBallotsRow : OpenClaim := { program := "ytkbncbkmaakpkaadoor", sum := "b52461a8979ab7d91bba4b083cba7bec021b65dacfba99493c16b8800193df51", func := "weirkeep/weirkeeptop.TopBallots", spec := "topBallots", inPlace := ["internal/reflectlite.ValueOf", "(internal/reflectlite.Value).Type", "(internal/reflectlite.Value).IsNil", "internal/reflectlite.TypeOf", "(internal/reflectlite.Value).Elem", "(internal/reflectlite.Value).Set"], unfollowed := true, recurses := true, named := ["weirkeep/check.steps", "errors.errorType"], plainKeys := false, apart := false, laid := [("weirkeep/check.steps", laid_weirkeep_check_steps), ("errors.errorType", laid_errors_errorType)] }
def TopBallotsSaid : Prop := topBallotsRow.holds Tryd.pinned (OpenSpec.ofChange topBallotsSpec)

/-- ITS FALSE NEIGHBOUR: 'it returns false'. Refute it at one input. -/
def topBallotsWrong : ChangeSpec := { name := "topBallots", fn := fun _ => fun
  | [d1, d2, d3, d4] => { results := [.lit (.bool false)], args := [d1, d2, d3, d4] }
  | _ => none }
def TopBallotsWrongFalsely : Prop := topBallotsRow.holds Tryd.pinned (OpenSpec.ofChange topBallotsWrong)

/-- 'weirkeeptop.TopMessages': WHATEVER THE INPUT: true; the input reads as it did. -/
def topMessagesSpec : ChangeSpec := { name := "topMessages", fn := fun _ => fun
  | [d1, d2, d3] => { results := [.lit (.bool true)], args := [d1, d2, d3] }
  | _ => none }
def topMessagesRow : OpenClaim := { program := "ytkbncbkmaakpkaadoor", sum := "b52461a8979ab7d91bba4b083cba7bec021b65dacfba99493c16b8800193df51", func := "weirkeep/weirkeeptop.TopMessages", spec := "topMessages", inPlace := ["internal/reflectlite.ValueOf", "(internal/reflectlite.Value).Type", "(internal/reflectlite.Value).IsNil", "internal/reflectlite.TypeOf", "(internal/reflectlite.Value).Elem", "(internal/reflectlite.Value).Set"], unfollowed := true, recurses := true, named := ["errors.errorType", "weirkeep/check.steps"], plainKeys := false, apart := false, laid := [("weirkeep/check.steps", laid_weirkeep_check_steps), ("errors.errorType", laid_errors_errorType)] }
def TopMessagesSaid : Prop := topMessagesRow.holds Tryd.pinned (OpenSpec.ofChange topMessagesSpec)

/-- ITS FALSE NEIGHBOUR: 'it returns false'. Refute it at one input. -/
def topMessagesWrong : ChangeSpec := { name := "topMessages", fn := fun _ => fun
  | [d1, d2, d3] => { results := [.lit (.bool false)], args := [d1, d2, d3] }
  | _ => none }
def TopMessagesWrongFalsely : Prop := topMessagesRow.holds Tryd.pinned (OpenSpec.ofChange topMessagesWrong)

/-- 'weirkeeptop.TopAgrees': WHATEVER THE INPUT: true; the input reads as it did. -/
def topAgreesSpec : ChangeSpec := { name := "topAgrees", fn := fun _ => fun
  | [d1, d2, d3] => { results := [.lit (.bool true)], args := [d1, d2, d3] }
  | _ => none }
def topAgreesRow : OpenClaim := { program := "ytkbncbkmaakpkaadoor", sum := "b52461a8979ab7d91bba4b083cba7bec021b65dacfba99493c16b8800193df51", func := "weirkeep/weirkeeptop.TopAgrees", spec := "topAgrees", unfollowed := true, recurses := true, named := ["weirkeep/grant.kinds", "weirkeep/span.whole"], plainKeys := false, apart := false, laid := [("weirkeep/span.whole", laid_weirkeep_span_whole), ("weirkeep/grant.kinds", laid_weirkeep_grant_kinds)] }
def TopAgreesSaid : Prop := topAgreesRow.holds Tryd.pinned (OpenSpec.ofChange topAgreesSpec)

/-- ITS FALSE NEIGHBOUR: 'it returns false'. Refute it at one input. -/
def topAgreesWrong : ChangeSpec := { name := "topAgrees", fn := fun _ => fun
  | [d1, d2, d3] => { results := [.lit (.bool false)], args := [d1, d2, d3] }
  | _ => none }
def TopAgreesWrongFalsely : Prop := topAgreesRow.holds Tryd.pinned (OpenSpec.ofChange topAgreesWrong)

/-- 'weirkeeptop.TopServers': WHATEVER THE INPUT: true; the input reads as it did. -/
def topServersSpec : ChangeSpec := { name := "topServers", fn := fun _ => fun
  | [d1, d2, d3, d4, d5] => { results := [.lit (.bool true)], args := [d1, d2, d3, d4, d5] }
  | _ => none }
def topServersRow : OpenClaim := { program := "ytkbncbkmaakpkaadoor", sum := "b52461a8979ab7d91bba4b083cba7bec021b65dacfba99493c16b8800193df51", func := "weirkeep/weirkeeptop.TopServers", spec := "topServers", inPlace := ["internal/reflectlite.TypeOf", "internal/reflectlite.ValueOf", "(internal/reflectlite.Value).Type", "(internal/reflectlite.Value).IsNil", "(internal/reflectlite.Value).Elem", "(internal/reflectlite.Value).Set"], unfollowed := true, recurses := true, named := ["weirkeep/check.steps", "errors.errorType"], plainKeys := false, apart := false, laid := [("weirkeep/check.steps", laid_weirkeep_check_steps), ("errors.errorType", laid_errors_errorType)] }
def TopServersSaid : Prop := topServersRow.holds Tryd.pinned (OpenSpec.ofChange topServersSpec)

/-- ITS FALSE NEIGHBOUR: 'it returns false'. Refute it at one input. -/
def topServersWrong : ChangeSpec := { name := "topServers", fn := fun _ => fun
  | [d1, d2, d3, d4, d5] => { results := [.lit (.bool false)], args := [d1, d2, d3, d4, d5] }
  | _ => none }
def TopServersWrongFalsely : Prop := topServersRow.holds Tryd.pinned (OpenSpec.ofChange topServersWrong)

/- THE SECOND FORM. 'bulk': how many values and letters a reading holds, each counted each time it is reached (what is shared counts as often as it is met; a slice's spare places count too). A statement '..UptoSaid' is the law's where the arguments, and the package variables that the reading takes, are together of bulk at most 1048576: NARROWER than '..Said'. Prove '..Said' where nothing that the law and all that it calls make is longer than what came in: it says more and counts as full. Else prove '..UptoSaid'. A law counts once. -/
mutual
def uptoBulk {H : Type} : DataW H → Nat
  | .lit (.string bytes) => bytes.length + 1
  | .lit _ => 1
  | .nil => 1
  | .ptr d => uptoBulk d + 1
  | .slice elems spare => uptoBulkAll elems + uptoBulkAll spare + 1
  | .agg parts => uptoBulkAll parts + 1
  | .iface _ d => uptoBulk d + 1
  | .map entries => uptoBulkEntries entries + 1
  | .held _ => 1
def uptoBulkAll {H : Type} : List (DataW H) → Nat
  | [] => 0
  | d :: r => uptoBulk d + uptoBulkAll r
def uptoBulkEntries {H : Type} : List (Lit × DataW H) → Nat
  | [] => 0
  | x :: r => uptoBulkEntry x + uptoBulkEntries r
def uptoBulkEntry {H : Type} : Lit × DataW H → Nat
  | (.string bytes, d) => bytes.length + uptoBulk d + 1
  | (_, d) => uptoBulk d + 1
 end
def uptoSmall : (H : Type) → List (DataW H) → Bool := fun _ ds => decide (uptoBulkAll ds ≤ 1048576)
def OpenSpec.upto (s : _root_.Go.ChangeSpec) : _root_.Go.OpenSpec := { _root_.Go.OpenSpec.ofChange s with cond := some uptoSmall }

/-- 'weirkeeptop.TopBallots', WHERE WHAT IT READS IS OF BULK AT MOST 1048576: true; the input reads as it did. -/
def topBallotsUptoRow : OpenClaim := { program := "ytkbncbkmaakpkaadoor", sum := "b52461a8979ab7d91bba4b083cba7bec021b65dacfba99493c16b8800193df51", func := "weirkeep/weirkeeptop.TopBallots", spec := "topBallots", inPlace := ["internal/reflectlite.ValueOf", "(internal/reflectlite.Value).Type", "(internal/reflectlite.Value).IsNil", "internal/reflectlite.TypeOf", "(internal/reflectlite.Value).Elem", "(internal/reflectlite.Value).Set"], unfollowed := true, recurses := true, named := ["weirkeep/check.steps", "errors.errorType"], plainKeys := false, apart := false, laid := [("weirkeep/check.steps", laid_weirkeep_check_steps), ("errors.errorType", laid_errors_errorType)], narrowed := true }
def TopBallotsUptoSaid : Prop := topBallotsUptoRow.holds Tryd.pinned (OpenSpec.upto topBallotsSpec)

/-- 'weirkeeptop.TopMessages', WHERE WHAT IT READS IS OF BULK AT MOST 1048576: true; the input reads as it did. -/
def topMessagesUptoRow : OpenClaim := { program := "ytkbncbkmaakpkaadoor", sum := "b52461a8979ab7d91bba4b083cba7bec021b65dacfba99493c16b8800193df51", func := "weirkeep/weirkeeptop.TopMessages", spec := "topMessages", inPlace := ["internal/reflectlite.ValueOf", "(internal/reflectlite.Value).Type", "(internal/reflectlite.Value).IsNil", "internal/reflectlite.TypeOf", "(internal/reflectlite.Value).Elem", "(internal/reflectlite.Value).Set"], unfollowed := true, recurses := true, named := ["errors.errorType", "weirkeep/check.steps"], plainKeys := false, apart := false, laid := [("weirkeep/check.steps", laid_weirkeep_check_steps), ("errors.errorType", laid_errors_errorType)], narrowed := true }
def TopMessagesUptoSaid : Prop := topMessagesUptoRow.holds Tryd.pinned (OpenSpec.upto topMessagesSpec)

/-- 'weirkeeptop.TopAgrees', WHERE WHAT IT READS IS OF BULK AT MOST 1048576: true; the input reads as it did. -/
def topAgreesUptoRow : OpenClaim := { program := "ytkbncbkmaakpkaadoor", sum := "b52461a8979ab7d91bba4b083cba7bec021b65dacfba99493c16b8800193df51", func := "weirkeep/weirkeeptop.TopAgrees", spec := "topAgrees", unfollowed := true, recurses := true, named := ["weirkeep/grant.kinds", "weirkeep/span.whole"], plainKeys := false, apart := false, laid := [("weirkeep/span.whole", laid_weirkeep_span_whole), ("weirkeep/grant.kinds", laid_weirkeep_grant_kinds)], narrowed := true }
def TopAgreesUptoSaid : Prop := topAgreesUptoRow.holds Tryd.pinned (OpenSpec.upto topAgreesSpec)

/-- 'weirkeeptop.TopServers', WHERE WHAT IT READS IS OF BULK AT MOST 1048576: true; the input reads as it did. -/
def topServersUptoRow : OpenClaim := { program := "ytkbncbkmaakpkaadoor", sum := "b52461a8979ab7d91bba4b083cba7bec021b65dacfba99493c16b8800193df51", func := "weirkeep/weirkeeptop.TopServers", spec := "topServers", inPlace := ["internal/reflectlite.TypeOf", "internal/reflectlite.ValueOf", "(internal/reflectlite.Value).Type", "(internal/reflectlite.Value).IsNil", "(internal/reflectlite.Value).Elem", "(internal/reflectlite.Value).Set"], unfollowed := true, recurses := true, named := ["weirkeep/check.steps", "errors.errorType"], plainKeys := false, apart := false, laid := [("weirkeep/check.steps", laid_weirkeep_check_steps), ("errors.errorType", laid_errors_errorType)], narrowed := true }
def TopServersUptoSaid : Prop := topServersUptoRow.holds Tryd.pinned (OpenSpec.upto topServersSpec)

end Rows
end Go.Proofs.YtkbncbkmaakpkaaDoor
