/- A call of the bag's laws (Step) as plain data, as an argument; the bound of the laws (heavy). -/
import Derived.Test.YtibpkdaiaoccjaaMsgArg
import Derived.Test.YtibpkdaiaoccjaaBagMem
namespace Go.Proofs.Ytibpkdaiaoccjaa
open Go.ChangeShapes Go.WideShapes Go.ChangeAt Go.RowKit
structure Stp where
  kind : Int
  i : Int
  m : Ms
namespace Stp
def fits (s : Stp) : Prop := i64 s.kind ∧ i64 s.i ∧ s.m.fits
def cells (s : Stp) : List Value := [.int .i64 s.kind, .int .i64 s.i, .int .i64 s.m.kind, .int .i64 s.m.src, .int .i64 s.m.dst, .int .i64 s.m.epoch, .int .i64 s.m.seq, .int .i64 s.m.off, .int .i64 s.m.len, .string s.m.data]
def val (s : Stp) : Value := .agg #[.int .i64 s.kind, .int .i64 s.i, .int .i64 s.m.kind, .int .i64 s.m.src, .int .i64 s.m.dst, .int .i64 s.m.epoch, .int .i64 s.m.seq, .int .i64 s.m.off, .int .i64 s.m.len, .string s.m.data]
end Stp
theorem sval_eq (s : Stp) : s.val = .agg s.cells.toArray := rfl
theorem trod_step {H : Type} {enc : TypeId × Value → H} {w : World} {n : Nat} {r : List Value} {x : DataW H × List MemPlace} (hlen : r.length = 10) (hx : DataW.trod enc Try.prog w 0 (fun _ => true) true n 41 r = some x) : ∃ s : Stp, s.fits ∧ r = s.cells := by
  obtain ⟨ys, n', _, _, _, hyl, hf⟩ := DataW.trod_struct Try.underlying41 hx
  match r, hlen with
  | [c0, c1, c2, c3, c4, c5, c6, c7, c8, c9], _ =>
    have g0 := hf 0 ⟨"Kind", 3, 0, false, "", "", 0⟩ rfl
    have g1 := hf 1 ⟨"I", 3, 1, false, "", "", 8⟩ rfl
    have g2 := hf 2 ⟨"M", 23, 2, false, "", "", 16⟩ rfl
    have k0 : Try.prog.cellsOf 3 = 1 := by kernel_rfl
    have k2 : Try.prog.cellsOf 23 = 8 := by kernel_rfl
    dsimp only at g0 g1 g2
    simp only [k0, k2, List.drop_succ_cons, List.drop_zero, List.take_succ_cons, List.take_zero] at g0 g1 g2
    rw [List.getElem?_eq_getElem (by rw [hyl]; decide)] at g0 g1 g2
    obtain ⟨z0, e0, _, w0⟩ := DataW.trod_int Try.underlying3 g0
    obtain ⟨z1, e1, _, w1⟩ := DataW.trod_int Try.underlying3 g1
    obtain ⟨m, hm, e2⟩ := trod_msg rfl g2
    simp only [Ms.cells, List.cons.injEq, and_true] at e0 e1 e2
    obtain ⟨e20, e21, e22, e23, e24, e25, e26, e27⟩ := e2
    subst e0 e1 e20 e21 e22 e23 e24 e25 e26 e27
    exact ⟨⟨z0, z1, m⟩, ⟨bounds_i64 w0, bounds_i64 w1, hm⟩, rfl⟩
theorem open_step {H : Type} {enc : TypeId × Value → H} {w : World} {r0 : Reach} {b0 : Nat} {v : Value} {d : DataW H} {ps : List MemPlace}
    (hval : Value.okWide Try.prog w r0 b0 41 v) (hd : DataW.Trod enc Try.prog w 0 (fun _ => true) true 41 v d ps) : ∃ s : Stp, v = s.val ∧ s.fits := by
  obtain ⟨cs, rfl, hsz⟩ := okWide_struct Try.underlying41 hval
  obtain ⟨n, hn⟩ := hd
  have h8 : Try.prog.cellsOf 41 = 10 := by kernel_rfl
  obtain ⟨s, hs, hc⟩ := trod_step (r := cs.toList) (by rw [Array.length_toList, hsz, h8]) hn
  refine ⟨s, ?_, hs⟩
  rw [sval_eq, ← hc]
theorem open_steps {H : Type} {enc : TypeId × Value → H} {w : World} {r0 : Reach} {b0 : Nat} {v : Value} {d : DataW H} {ps : List MemPlace}
    (hval : Value.okWide Try.prog w r0 b0 38 v) (hd : DataW.Trod enc Try.prog w 0 (fun _ => true) true 38 v d ps) : ∃ l : List Stp, ArgRow w v 10 (l.map Stp.cells) ∧ ∀ s ∈ l, s.fits := by
  have h8 : Try.prog.cellsOf 41 = 10 := by kernel_rfl
  obtain ⟨rows, h1, h2⟩ := open_rows Try.underlying38 h8 (by decide) hval hd
  obtain ⟨l, rfl, hl⟩ := rows_map (Q := Stp.fits) (f := Stp.cells) rows (fun r hr => by
    obtain ⟨hlen, n, x, hx⟩ := h2 r hr
    obtain ⟨s, h3, h4⟩ := trod_step hlen hx
    exact ⟨s, h3, h4⟩)
  exact ⟨l, h1, hl⟩
theorem open_msgs {H : Type} {enc : TypeId × Value → H} {w : World} {r0 : Reach} {b0 : Nat} {v : Value} {d : DataW H} {ps : List MemPlace}
    (hval : Value.okWide Try.prog w r0 b0 27 v) (hd : DataW.Trod enc Try.prog w 0 (fun _ => true) true 27 v d ps) : ∃ l : List Ms, ArgRow w v 8 (l.map Ms.cells) ∧ ∀ m ∈ l, m.fits := by
  have h8 : Try.prog.cellsOf 23 = 8 := by kernel_rfl
  obtain ⟨rows, h1, h2⟩ := open_rows Try.underlying27 h8 (by decide) hval hd
  obtain ⟨l, rfl, hl⟩ := rows_map (Q := Ms.fits) (f := Ms.cells) rows (fun r hr => by
    obtain ⟨hlen, n, x, hx⟩ := h2 r hr
    obtain ⟨s, h3, h4⟩ := trod_msg hlen hx
    exact ⟨s, h3, h4⟩)
  exact ⟨l, h1, hl⟩
/-- An argument's row: its slice, and a call's cells. -/
theorem ArgRow.slice {w : World} {v : Value} {l : List Stp} (h : ArgRow w v 10 (l.map Stp.cells)) : ∃ base cap, v = .slice base l.length cap ∧ l.length ≤ maxLen := by
  obtain ⟨base, cap, hv, hm, _⟩ := h
  simp only [List.length_map] at hv hm
  exact ⟨base, cap, hv, hm⟩
theorem ArgRow.step {w : World} {v : Value} {l : List Stp} (h : ArgRow w v 10 (l.map Stp.cells)) {k : Nat} {s : Stp} (hk : l[k]? = some s) :
    ∃ b off cap, v = .slice (some ⟨b, off, none⟩) l.length cap ∧ b < w.heap.size ∧ ∀ j x, s.cells[j]? = some x → w.cell? ⟨b, off + k * 10 + j, none⟩ = some x := by
  obtain ⟨base, cap, hv, hm, hr⟩ := h
  obtain ⟨b, off, rfl, h2, h3⟩ := hr k s.cells (by rw [List.getElem?_map, hk]; rfl)
  exact ⟨b, off, cap, by rw [hv, List.length_map], h2, h3⟩
end Go.Proofs.Ytibpkdaiaoccjaa
