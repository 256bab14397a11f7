/- What the listed variables hold when a call begins, as cells; a world in which they do. Printed by gen_agd.py. -/
import Derived.Test.YtfjfkmoofmncnaaDoorGh
import Derived.Test.YtfjfkmoofmncnaaDoorRows
import Derived.WalkKit
import Derived.ProofKit
import Derived.OpenShut
import Derived.ChangeSame
import Derived.ChangeVars
import Derived.JoinedOf
import Derived.RowKit
import Derived.RowKitTokens
import Derived.LaidLaws
import Derived.LaidHandle
import Derived.LaidMore
import Derived.Stop.Joined
namespace Go.Proofs.YtfjfkmoofmncnaaDoor
open Go.ChangeShapes Go.WideShapes Go.ChangeAt Go.RowKit
theorem Tryd.gKinds : Tryd.prog.globalNamed "weirkeep/grant.kinds" = some 0 := by kernel_rfl
theorem Tryd.tKinds : (Tryd.prog.globals[0]?).map (·.type) = some 154 := by kernel_rfl
theorem Tryd.gWhole : Tryd.prog.globalNamed "weirkeep/span.whole" = some 1 := by kernel_rfl
theorem Tryd.tWhole : (Tryd.prog.globals[1]?).map (·.type) = some 34 := by kernel_rfl
def laidL : List (String × DataW Unit) := [("weirkeep/span.whole", Rows.laid_weirkeep_span_whole), ("weirkeep/grant.kinds", Rows.laid_weirkeep_grant_kinds)]
section
variable {H : Type} {enc : TypeId × Value → H} {P : Program} {W : World} {base : Nat} {spare : Nat → Bool} {held : Bool} {fuel : Nat} {t e : TypeId} {n : Nat} {cs : Array Value} {l : List (DataW H)} {p : List MemPlace}
theorem one_drop {α : Type} {l : List α} {i : Nat} {v : α} (h : l[i]? = some v) : (l.drop i).take 1 = [v] := by
  obtain ⟨hi, rfl⟩ := List.getElem?_eq_some_iff.1 h
  rw [List.drop_eq_getElem_cons hi]
  rfl
theorem array_at (ht : P.underlying t = some (.array n e)) (hce : P.cellsOf e = 1) (hct : P.cellsOf t = n) (h : DataW.trod enc P W base spare held fuel t cs.toList = some (.agg l, p)) {i : Nat} {d : DataW H} (hi : l[i]? = some d) :
    ∃ v m q, cs[i]? = some v ∧ DataW.trod enc P W base spare held m e [v] = some (d, q) := by
  obtain ⟨xs, m, _, hx, hlen, hxl, hat⟩ := DataW.trod_array ht h
  have hl : l = xs.map (·.1) := by
    have := congrArg Prod.fst hx
    simpa using this
  rw [hl, List.getElem?_map] at hi
  obtain ⟨y, hy, rfl⟩ := Option.map_eq_some_iff.1 hi
  have hin : i < n := by
    have := (List.getElem?_eq_some_iff.1 hy).1
    omega
  have hil : i < cs.toList.length := by omega
  have hg := List.getElem?_eq_getElem hil
  have hr := hat i hin
  rw [hce, Nat.mul_one, one_drop hg, hy] at hr
  exact ⟨_, m, _, by rw [← Array.getElem?_toList]; exact hg, hr⟩
theorem struct_at {fs : Array Field} (ht : P.underlying t = some (.struct fs)) (h : DataW.trod enc P W base spare held fuel t cs.toList = some (.agg l, p)) {i : Nat} {f : Field} (hf : fs[i]? = some f) (hce : P.cellsOf f.type = 1) (ho : f.offset < P.cellsOf t) {d : DataW H} (hi : l[i]? = some d) :
    ∃ v m q, cs[f.offset]? = some v ∧ DataW.trod enc P W base spare held m f.type [v] = some (d, q) := by
  obtain ⟨xs, m, _, hx, hlen, hxl, hat⟩ := DataW.trod_struct ht h
  have hl : l = xs.map (·.1) := by
    have := congrArg Prod.fst hx
    simpa using this
  rw [hl, List.getElem?_map] at hi
  obtain ⟨y, hy, rfl⟩ := Option.map_eq_some_iff.1 hi
  have hil : f.offset < cs.toList.length := by omega
  have hg := List.getElem?_eq_getElem hil
  have hr := hat i f hf
  rw [hce, one_drop hg, hy] at hr
  exact ⟨_, m, _, by rw [← Array.getElem?_toList]; exact hg, hr⟩
end
set_option maxRecDepth 100000 in
theorem kinds_of_laid {W : World} (h : laidMetH Tryd.prog laidL W) : Kinds W := by
  obtain ⟨g, t, cs, fuel, p, hg, ht, hv, hd⟩ := h.funcs (n := "weirkeep/grant.kinds") (List.mem_cons_of_mem _ (List.mem_singleton.2 rfl))
  obtain rfl := Option.some.inj (Tryd.gKinds.symm.trans hg)
  obtain rfl := Option.some.inj (Tryd.tKinds.symm.trans ht)
  have hd' : DataW.trod (funcToken Tryd.prog) Tryd.prog W 0 (fun _ => true) true fuel 154 cs.toList = some (.agg [.nil, .held [40, 42, 119, 101, 105, 114, 107, 101, 101, 112, 47, 103, 114, 97, 110, 116, 46, 83, 101, 114, 118, 105, 99, 101, 41, 46, 97, 115, 107], .held [40, 42, 119, 101, 105, 114, 107, 101, 101, 112, 47, 103, 114, 97, 110, 116, 46, 83, 101, 114, 118, 105, 99, 101, 41, 46, 114, 101, 108, 101, 97, 115, 101], .held [40, 42, 119, 101, 105, 114, 107, 101, 101, 112, 47, 103, 114, 97, 110, 116, 46, 83, 101, 114, 118, 105, 99, 101, 41, 46, 119, 101, 97, 107, 101, 110], .held [40, 42, 119, 101, 105, 114, 107, 101, 101, 112, 47, 103, 114, 97, 110, 116, 46, 83, 101, 114, 118, 105, 99, 101, 41, 46, 114, 101, 110, 101, 119], .held [40, 42, 119, 101, 105, 114, 107, 101, 101, 112, 47, 103, 114, 97, 110, 116, 46, 83, 101, 114, 118, 105, 99, 101, 41, 46, 115, 119, 101, 101, 112], .held [40, 42, 119, 101, 105, 114, 107, 101, 101, 112, 47, 103, 114, 97, 110, 116, 46, 83, 101, 114, 118, 105, 99, 101, 41, 46, 114, 101, 99, 111, 118, 101, 114], .held [40, 42, 119, 101, 105, 114, 107, 101, 101, 112, 47, 103, 114, 97, 110, 116, 46, 83, 101, 114, 118, 105, 99, 101, 41, 46, 100, 111, 110, 101], .held [40, 42, 119, 101, 105, 114, 107, 101, 101, 112, 47, 103, 114, 97, 110, 116, 46, 83, 101, 114, 118, 105, 99, 101, 41, 46, 99, 97, 110, 99, 101, 108]], p) := hd
  have hce : Tryd.prog.cellsOf 153 = 1 := by kernel_rfl
  have hct : Tryd.prog.cellsOf 154 = 9 := by kernel_rfl
  have at' : ∀ (i : Nat) (v : Value), cs[i]? = some v → W.cell? ⟨0, i, none⟩ = some v := fun i v hi => (World.var?_cell hg hv i).trans hi
  obtain ⟨v1, m1, q1, c1, r1⟩ := array_at Tryd.underlying154 hce hct hd' (i := 1) rfl
  obtain rfl := func_of_trod (f0 := 111) Tryd.underlying153 (by kernel_rfl) r1
  obtain ⟨v2, m2, q2, c2, r2⟩ := array_at Tryd.underlying154 hce hct hd' (i := 2) rfl
  obtain rfl := func_of_trod (f0 := 112) Tryd.underlying153 (by kernel_rfl) r2
  obtain ⟨v3, m3, q3, c3, r3⟩ := array_at Tryd.underlying154 hce hct hd' (i := 3) rfl
  obtain rfl := func_of_trod (f0 := 113) Tryd.underlying153 (by kernel_rfl) r3
  obtain ⟨v4, m4, q4, c4, r4⟩ := array_at Tryd.underlying154 hce hct hd' (i := 4) rfl
  obtain rfl := func_of_trod (f0 := 114) Tryd.underlying153 (by kernel_rfl) r4
  obtain ⟨v5, m5, q5, c5, r5⟩ := array_at Tryd.underlying154 hce hct hd' (i := 5) rfl
  obtain rfl := func_of_trod (f0 := 115) Tryd.underlying153 (by kernel_rfl) r5
  obtain ⟨v6, m6, q6, c6, r6⟩ := array_at Tryd.underlying154 hce hct hd' (i := 6) rfl
  obtain rfl := func_of_trod (f0 := 116) Tryd.underlying153 (by kernel_rfl) r6
  obtain ⟨v7, m7, q7, c7, r7⟩ := array_at Tryd.underlying154 hce hct hd' (i := 7) rfl
  obtain rfl := func_of_trod (f0 := 117) Tryd.underlying153 (by kernel_rfl) r7
  obtain ⟨v8, m8, q8, c8, r8⟩ := array_at Tryd.underlying154 hce hct hd' (i := 8) rfl
  obtain rfl := func_of_trod (f0 := 118) Tryd.underlying153 (by kernel_rfl) r8
  exact ⟨at' 1 _ c1, at' 2 _ c2, at' 3 _ c3, at' 4 _ c4, at' 5 _ c5, at' 6 _ c6, at' 7 _ c7, at' 8 _ c8⟩
set_option maxRecDepth 100000 in
theorem whole_of_laid {W : World} (h : laidMetH Tryd.prog laidL W) : Whole W := by
  have h' : laidMet Tryd.prog [("weirkeep/span.whole", .agg [.lit (.int .i64 0), .lit (.int .i64 256)])] W := h.1
  obtain ⟨ps, ⟨g, t, cs, fuel, p, q, hg, ht, hv, hd, _, _⟩, _⟩ := h'
  obtain rfl := Option.some.inj (Tryd.gWhole.symm.trans hg)
  obtain rfl := Option.some.inj (Tryd.tWhole.symm.trans ht)
  have hce : Tryd.prog.cellsOf 3 = 1 := by kernel_rfl
  have hct : Tryd.prog.cellsOf 34 = 2 := by kernel_rfl
  obtain ⟨v0, m0, q0, c0, r0⟩ := struct_at Tryd.underlying34 hd (i := 0) rfl hce (by rw [hct]; decide) rfl
  obtain ⟨v1, m1, q1, c1, r1⟩ := struct_at Tryd.underlying34 hd (i := 1) rfl hce (by rw [hct]; decide) rfl
  obtain ⟨z0, e0, f0, _⟩ := DataW.trod_int Tryd.underlying3 r0
  obtain ⟨z1, e1, f1, _⟩ := DataW.trod_int Tryd.underlying3 r1
  cases e0
  cases e1
  cases f0
  cases f1
  exact ⟨(World.var?_cell hg hv 0).trans c0, (World.var?_cell hg hv 1).trans c1⟩
/-- The door's own heap meets the condition. -/
theorem laidWorld_met (os : Os) (args : Array Value) : laidMetH Tryd.prog laidL ((World.doorLaid Tryd.prog 600 os).forCall (fun _ _ => 0) ⟨#[], args, []⟩).memory :=
  laidMetH_of_parts3 (fuel := 8) (laidMet_of_run' 8 (by kernel_rfl) (by kernel_rfl)) (by kernel_rfl) (by kernel_rfl)
end Go.Proofs.YtfjfkmoofmncnaaDoor
