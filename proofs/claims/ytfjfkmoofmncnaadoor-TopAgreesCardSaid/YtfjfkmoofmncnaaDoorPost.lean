/- The last step of a law's row, where of the world behind the call 'Below' is known. -/
import Derived.Test.YtfjfkmoofmncnaaDoorRows
import Derived.WalkKit
import Derived.ProofKit
import Derived.OpenShut
namespace Go.Proofs.YtfjfkmoofmncnaaDoor
open Go.ChangeShapes Go.WideShapes Go.ChangeAt Go.RowKit
variable {H : Type} {enc : TypeId × Value → H} {P : Program}
/-- A law without named variables: it answers r (that reads as the specification's result); its arguments read as before; below the heap's old size nothing has turned. -/
theorem post_law {f : Func} {s : ChangeSpec} {W W' : World} {args : Array Value} {v : Value} {ds : List (DataW H)} {before : List MemPlace}
    (hW : DataW.Whole enc P f.params.toList s.vars false W args.toList ds [] before)
    (hres : ∀ (b : Nat) (sp : Nat → Bool) (hd : Bool), DataW.TrodAll enc P W' b sp hd f.resultTypes.toList (v.resultList f.resultTypes.size) (s.fn H (ds ++ [])).results [])
    (hargs : DataW.TrodAll enc P W' 0 (fun b => decide (b < W.heap.size)) true f.params.toList args.toList (s.fn H (ds ++ [])).args before)
    (hvars : DataW.TrodVars enc P W' (fun b => decide (b < W.heap.size)) s.vars (s.fn H (ds ++ [])).vars [])
    (hb : Below W.heap.size W W') : s.post enc P f false true false false W args v W' :=
  ⟨ds, [], before, [], before, [], hW, hres _ _ _, hargs, hvars, World.keptBut_mono (fun _ hp => ⟨hp, .inr (.inl hp)⟩) (hb.frame (· ∈ before)), fun h => by cases h⟩
end Go.Proofs.YtfjfkmoofmncnaaDoor
