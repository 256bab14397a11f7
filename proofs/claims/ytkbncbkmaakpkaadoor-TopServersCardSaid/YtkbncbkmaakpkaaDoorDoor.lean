/- What the listed variables hold when a call begins, as cells; a world in which they do. -/
import Derived.Test.YtkbncbkmaakpkaaDoorCrc
import Derived.Test.YtkbncbkmaakpkaaDoorRows
import Derived.Lib.LaidTab
import Derived.ChangeSame
import Derived.ChangeVars
import Derived.JoinedOf
import Derived.RowKit
import Derived.RowKitTokens
import Derived.LaidLaws
import Derived.LaidHandle
import Derived.Stop.Joined
namespace Go.Proofs.YtkbncbkmaakpkaaDoor
open Go.ChangeShapes Go.WideShapes Go.RowKit
theorem Tryd.ct : Tryd.prog.globalNamed "weirkeep/check.steps" = some 3 := by kernel_rfl
theorem Tryd.et : Tryd.prog.globalNamed "errors.errorType" = some 2 := by kernel_rfl
theorem Tryd.rt : (Tryd.prog.cutTypes.find? (·.1 == "internal/reflectlite.rtype")).map (·.2) = some 327 := by kernel_rfl
theorem Tryd.oneRow : ((List.range Tryd.prog.types.size).filter fun t => Tryd.prog.rowNamed t [101, 114, 114, 111, 114]) = [45] := by kernel_rfl
/-- The handle of the type error lies at its place. -/
def ErrT (w : World) : Prop := w.cell? ⟨2, 0, none⟩ = some (.iface 327 (.agg #[.pointer (some ⟨4, 45, none⟩)]))
theorem ErrT.below {w w' : World} {B : Nat} (h : ErrT w) (hb : Below B w w') (hB : 2 < B) : ErrT w' := (World.cell?_of_block (a := ⟨2, 0, none⟩) (hb.block _ hB)).trans h
def laidL : List (String × DataW Unit) := [("weirkeep/check.steps", Rows.laid_weirkeep_check_steps), ("errors.errorType", Rows.laid_errors_errorType)]
theorem tabs_of_laid {W : World} (h : laidMetH Tryd.prog laidL W) : Tabs W := by
  have h' : laidMet Tryd.prog [("weirkeep/check.steps", Lib.tabData .u32 (tab.map fun (x : Nat) => (x : Int)))] W := h.1
  have ht := Lib.tabIs_of_head (k := .u32) (zs := tab.map fun (x : Nat) => (x : Int)) Tryd.ct (t := 345) (e := 282) (n := 16) (by kernel_rfl) Tryd.underlying345 Tryd.underlying282 (by kernel_rfl) (by kernel_rfl) h'
  intro i hi
  have := ht.cell Tryd.ct i (by simpa [tab] using hi)
  rw [this]
  congr 2
  unfold tabAt
  rw [List.getD_eq_getElem?_getD, List.getD_eq_getElem?_getD, List.getElem?_map]
  cases hx : tab[i]? with
  | none => rfl
  | some y => rfl
theorem errT_of_laid {W : World} (h : laidMetH Tryd.prog laidL W) : ErrT W := by
  have h' : handlesMet Tryd.prog [("errors.errorType", Rows.laid_errors_errorType)] W := h.2
  obtain ⟨name, u, ty, e1, e2, e3, e4, e5⟩ := h' _ (List.mem_singleton.2 rfl)
  have en : name = [101, 114, 114, 111, 114] := (Option.some.inj e1).symm
  subst en
  obtain rfl := Option.some.inj (Tryd.rt.symm.trans e2)
  have hm : ty ∈ (List.range Tryd.prog.types.size).filter fun t => Tryd.prog.rowNamed t [101, 114, 114, 111, 114] := List.mem_filter.2 ⟨List.mem_range.2 e3, e4⟩
  rw [Tryd.oneRow] at hm
  obtain rfl := List.mem_singleton.1 hm
  have hh : typeHandle Tryd.prog 45 = .pointer (some ⟨4, 45, none⟩) := by kernel_rfl
  rw [hh] at e5
  simpa [ErrT] using World.var?_cell Tryd.et e5 0
/-- A world that meets the condition: the settled one, the variables' cells laid. -/
noncomputable def laidWorld (os : Os) : World :=
  let w0 := World.holding Tryd.prog os ⟨#[], #[], []⟩
  { w0 with heap := (w0.heap.modify 2 fun
      | .cells _ t frozen => .cells #[.iface 327 (.agg #[.pointer (some ⟨4, 45, none⟩)])] t frozen
      | o => o).modify 3 fun
      | .cells _ t frozen => .cells (tab.map fun (x : Nat) => Value.int .u32 (x : Int)).toArray t frozen
      | o => o }
theorem laidWorld_met (os : Os) (args : Array Value) : laidMetH Tryd.prog laidL ((laidWorld os).forCall (fun _ _ => 0) ⟨#[], args, []⟩).memory :=
  laidMetH_of_parts (laidMet_of_run' 4 (by kernel_rfl) (by kernel_rfl)) (by kernel_rfl)
end Go.Proofs.YtkbncbkmaakpkaaDoor
