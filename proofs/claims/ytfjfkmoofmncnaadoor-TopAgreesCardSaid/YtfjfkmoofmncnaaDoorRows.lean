/-
  NARROWER THAN 'FOR EVERY INPUT', by the rows' own cells (each row's printed sentence says how): TopAgrees: laid.
  DERIVED. THE GIVEN ROWS OF THIS SEAT. 1 by the template 'for every input the law returns true; each argument reads behind the call as it read before'; 0 by the template 'total and deterministic' (their statements: YtfjfkmoofmncnaaDoorTotals.lean).
  GIVEN WITH THE SEED: the statements are not yours to turn. If you find one false, say at which input.
  Laid BY PROGRAM, IN A SANDBOX (cutbox-rows.mjs): the forced cells as the released guide's own fill.sh prints them over the translation 4cbbb9c0acd32140… (all of the seat's roots in one cut). By AI agents, Wed Nov 11 2026. No macro, syntax, notation, axiom, sorry.
-/
import Derived.Test.YtfjfkmoofmncnaaDoorChecked
import GoSem.Claim
import GoSem.ClaimJoined
import GoSem.ClaimMapViews
import Derived.JoinedTies
import Derived.KernelRfl
namespace Go.Proofs.YtfjfkmoofmncnaaDoor
/- THE CELL 'sum', in the pinned program and in every row, IS THE sha256 OF THE DUMP (.gsa) THAT YtfjfkmoofmncnaaDoorProg.lean LOADS. Nothing in Lean hashes anything: it is a label: what it is worth is what the hold of that sum in a sandbox is worth. -/
noncomputable def Tryd.pinned : Pinned := { name := "ytfjfkmoofmncnaadoor", sum := "4cbbb9c0acd3214021a12d4d378f0ed73c21471bc817e254791ffbc0326dd9d1", checked := Tryd.checked }
namespace Rows
def none {H : Type} : Left H := { results := [], args := [] }

/- WHAT THE LISTED PACKAGE-LEVEL VARIABLES READ AS WHEN THE CALL BEGINS. Each datum BY PROGRAM (the guide's laid-datum.mjs) off the statement by which the dump's own 'gosem.cut.vars' lays the variable. In a bare row this is a premise. The card (YtfjfkmoofmncnaaDoorCards.lean) ties it to the program's text. -/
def laid_weirkeep_span_whole {H : Type} : DataW H := .agg [.lit (.int .i64 0), .lit (.int .i64 256)]
def laid_weirkeep_grant_kinds {H : Type} : DataW H := .iface "func table" (.agg [.nil, .iface "func" (.lit (.string [40, 42, 119, 101, 105, 114, 107, 101, 101, 112, 47, 103, 114, 97, 110, 116, 46, 83, 101, 114, 118, 105, 99, 101, 41, 46, 97, 115, 107])), .iface "func" (.lit (.string [40, 42, 119, 101, 105, 114, 107, 101, 101, 112, 47, 103, 114, 97, 110, 116, 46, 83, 101, 114, 118, 105, 99, 101, 41, 46, 114, 101, 108, 101, 97, 115, 101])), .iface "func" (.lit (.string [40, 42, 119, 101, 105, 114, 107, 101, 101, 112, 47, 103, 114, 97, 110, 116, 46, 83, 101, 114, 118, 105, 99, 101, 41, 46, 119, 101, 97, 107, 101, 110])), .iface "func" (.lit (.string [40, 42, 119, 101, 105, 114, 107, 101, 101, 112, 47, 103, 114, 97, 110, 116, 46, 83, 101, 114, 118, 105, 99, 101, 41, 46, 114, 101, 110, 101, 119])), .iface "func" (.lit (.string [40, 42, 119, 101, 105, 114, 107, 101, 101, 112, 47, 103, 114, 97, 110, 116, 46, 83, 101, 114, 118, 105, 99, 101, 41, 46, 115, 119, 101, 101, 112])), .iface "func" (.lit (.string [40, 42, 119, 101, 105, 114, 107, 101, 101, 112, 47, 103, 114, 97, 110, 116, 46, 83, 101, 114, 118, 105, 99, 101, 41, 46, 114, 101, 99, 111, 118, 101, 114])), .iface "func" (.lit (.string [40, 42, 119, 101, 105, 114, 107, 101, 101, 112, 47, 103, 114, 97, 110, 116, 46, 83, 101, 114, 118, 105, 99, 101, 41, 46, 100, 111, 110, 101])), .iface "func" (.lit (.string [40, 42, 119, 101, 105, 114, 107, 101, 101, 112, 47, 103, 114, 97, 110, 116, 46, 83, 101, 114, 118, 105, 99, 101, 41, 46, 99, 97, 110, 99, 101, 108]))])

/-- 'weirkeeptop.TopAgrees': WHATEVER THE INPUT: true; the input reads as it did. -/
def topAgreesSpec : ChangeSpec := { name := "topAgrees", fn := fun _ => fun
  | [d1, d2, d3] => { results := [.lit (.bool true)], args := [d1, d2, d3] }
  | _ => none }
def topAgreesRow : OpenClaim := { program := "ytfjfkmoofmncnaadoor", sum := "4cbbb9c0acd3214021a12d4d378f0ed73c21471bc817e254791ffbc0326dd9d1", func := "weirkeep/weirkeeptop.TopAgrees", spec := "topAgrees", unfollowed := true, recurses := true, named := ["weirkeep/grant.kinds", "weirkeep/span.whole"], plainKeys := false, apart := false, laid := [("weirkeep/span.whole", laid_weirkeep_span_whole), ("weirkeep/grant.kinds", laid_weirkeep_grant_kinds)] }
def TopAgreesSaid : Prop := topAgreesRow.holds Tryd.pinned (OpenSpec.ofChange topAgreesSpec)

/-- ITS FALSE NEIGHBOUR: 'it returns false'. Refute it at one input. -/
def topAgreesWrong : ChangeSpec := { name := "topAgrees", fn := fun _ => fun
  | [d1, d2, d3] => { results := [.lit (.bool false)], args := [d1, d2, d3] }
  | _ => none }
def TopAgreesWrongFalsely : Prop := topAgreesRow.holds Tryd.pinned (OpenSpec.ofChange topAgreesWrong)

/- THE SECOND FORM. 'bulk': how many values and letters a reading holds, each counted each time it is reached (what is shared counts as often as it is met; a slice's spare places count too). A statement '..UptoSaid' is the law's where the arguments, and the package variables that the reading takes, are together of bulk at most 1048576: NARROWER than '..Said'. Prove '..Said' where nothing that the law and all that it calls make is longer than what came in: it says more and counts as full. Else prove '..UptoSaid'. A law counts once. -/
mutual
def uptoBulk {H : Type} : DataW H → Nat
  | .lit (.string bytes) => bytes.length + 1
  | .lit _ => 1
  | .nil => 1
  | .ptr d => uptoBulk d + 1
  | .slice elems spare => uptoBulkAll elems + uptoBulkAll spare + 1
  | .agg parts => uptoBulkAll parts + 1
  | .iface _ d => uptoBulk d + 1
  | .map entries => uptoBulkEntries entries + 1
  | .held _ => 1
def uptoBulkAll {H : Type} : List (DataW H) → Nat
  | [] => 0
  | d :: r => uptoBulk d + uptoBulkAll r
def uptoBulkEntries {H : Type} : List (Lit × DataW H) → Nat
  | [] => 0
  | x :: r => uptoBulkEntry x + uptoBulkEntries r
def uptoBulkEntry {H : Type} : Lit × DataW H → Nat
  | (.string bytes, d) => bytes.length + uptoBulk d + 1
  | (_, d) => uptoBulk d + 1
 end
def uptoSmall : (H : Type) → List (DataW H) → Bool := fun _ ds => decide (uptoBulkAll ds ≤ 1048576)
def OpenSpec.upto (s : _root_.Go.ChangeSpec) : _root_.Go.OpenSpec := { _root_.Go.OpenSpec.ofChange s with cond := some uptoSmall }

/-- 'weirkeeptop.TopAgrees', WHERE WHAT IT READS IS OF BULK AT MOST 1048576: true; the input reads as it did. -/
def topAgreesUptoRow : OpenClaim := { program := "ytfjfkmoofmncnaadoor", sum := "4cbbb9c0acd3214021a12d4d378f0ed73c21471bc817e254791ffbc0326dd9d1", func := "weirkeep/weirkeeptop.TopAgrees", spec := "topAgrees", unfollowed := true, recurses := true, named := ["weirkeep/grant.kinds", "weirkeep/span.whole"], plainKeys := false, apart := false, laid := [("weirkeep/span.whole", laid_weirkeep_span_whole), ("weirkeep/grant.kinds", laid_weirkeep_grant_kinds)], narrowed := true }
def TopAgreesUptoSaid : Prop := topAgreesUptoRow.holds Tryd.pinned (OpenSpec.upto topAgreesSpec)

end Rows
end Go.Proofs.YtfjfkmoofmncnaaDoor
