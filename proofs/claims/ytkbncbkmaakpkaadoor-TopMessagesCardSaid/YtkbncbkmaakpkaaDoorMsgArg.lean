/- A message as an argument, by value. -/
import Derived.Test.YtkbncbkmaakpkaaDoorArgs
import Derived.Test.YtkbncbkmaakpkaaDoorMs
namespace Go.Proofs.YtkbncbkmaakpkaaDoor
open Go.ChangeShapes Go.WideShapes Go.ChangeAt Go.RowKit
set_option maxRecDepth 100000 in
theorem trod_msg {H : Type} {enc : TypeId × Value → H} {w : World} {n : Nat} {r : List Value} {x : DataW H × List MemPlace} (hlen : r.length = 8) (hx : DataW.trod enc Tryd.prog w 0 (fun _ => true) true n 51 r = some x) : ∃ m : Ms, m.fits ∧ r = m.cells := by
  obtain ⟨ys, n', _, _, _, hyl, hf⟩ := DataW.trod_struct Tryd.underlying51 hx
  match r, hlen with
  | [c0, c1, c2, c3, c4, c5, c6, c7], _ =>
    have g0 := hf 0 ⟨"Kind", 3, 0, false, "", "", 0⟩ rfl
    have g1 := hf 1 ⟨"From", 3, 1, false, "", "", 8⟩ rfl
    have g2 := hf 2 ⟨"To", 3, 2, false, "", "", 16⟩ rfl
    have g3 := hf 3 ⟨"Epoch", 3, 3, false, "", "", 24⟩ rfl
    have g4 := hf 4 ⟨"Seq", 3, 4, false, "", "", 32⟩ rfl
    have g5 := hf 5 ⟨"Off", 3, 5, false, "", "", 40⟩ rfl
    have g6 := hf 6 ⟨"Len", 3, 6, false, "", "", 48⟩ rfl
    have g7 := hf 7 ⟨"Data", 9, 7, false, "", "", 56⟩ rfl
    have k0 : Tryd.prog.cellsOf 3 = 1 := by kernel_rfl
    have k2 : Tryd.prog.cellsOf 9 = 1 := by kernel_rfl
    dsimp only at g0 g1 g2 g3 g4 g5 g6 g7
    simp only [k0, k2, List.drop_succ_cons, List.drop_zero, List.take_succ_cons, List.take_zero] at g0 g1 g2 g3 g4 g5 g6 g7
    rw [List.getElem?_eq_getElem (by rw [hyl]; decide)] at g0 g1 g2 g3 g4 g5 g6 g7
    obtain ⟨z0, e0, _, w0⟩ := DataW.trod_int Tryd.underlying3 g0
    obtain ⟨z1, e1, _, w1⟩ := DataW.trod_int Tryd.underlying3 g1
    obtain ⟨z2, e2, _, w2⟩ := DataW.trod_int Tryd.underlying3 g2
    obtain ⟨z3, e3, _, w3⟩ := DataW.trod_int Tryd.underlying3 g3
    obtain ⟨z4, e4, _, w4⟩ := DataW.trod_int Tryd.underlying3 g4
    obtain ⟨z5, e5, _, w5⟩ := DataW.trod_int Tryd.underlying3 g5
    obtain ⟨z6, e6, _, w6⟩ := DataW.trod_int Tryd.underlying3 g6
    obtain ⟨z7, e7, _, w7⟩ := DataW.trod_string Tryd.underlying9 g7
    simp only [List.cons.injEq, and_true] at e0 e1 e2 e3 e4 e5 e6 e7
    subst e0 e1 e2 e3 e4 e5 e6 e7
    exact ⟨⟨z0, z1, z2, z3, z4, z5, z6, z7⟩, ⟨bounds_i64 w0, bounds_i64 w1, bounds_i64 w2, bounds_i64 w3, bounds_i64 w4, bounds_i64 w5, bounds_i64 w6, w7⟩, rfl⟩
set_option maxRecDepth 100000 in
theorem open_msg {H : Type} {enc : TypeId × Value → H} {w : World} {r0 : Reach} {b0 : Nat} {v : Value} {d : DataW H} {ps : List MemPlace}
    (hval : Value.okWide Tryd.prog w r0 b0 51 v) (hd : DataW.Trod enc Tryd.prog w 0 (fun _ => true) true 51 v d ps) : ∃ m : Ms, v = m.val ∧ m.fits := by
  obtain ⟨cs, rfl, hsz⟩ := okWide_struct Tryd.underlying51 hval
  obtain ⟨n, hn⟩ := hd
  have h8 : Tryd.prog.cellsOf 51 = 8 := by kernel_rfl
  obtain ⟨m, hm, hc⟩ := trod_msg (r := cs.toList) (by rw [Array.length_toList, hsz, h8]) hn
  refine ⟨m, ?_, hm⟩
  rw [val_eq, ← hc]
end Go.Proofs.YtkbncbkmaakpkaaDoor
