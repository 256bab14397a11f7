/- A call of the extent's laws (Step) as plain data, as an argument; a range as an argument; the laws' anchor; the map as a law's loop has it. -/
import Derived.Test.YtajbodfdohhhoaaArgs
import Derived.Test.YtajbodfdohhhoaaExtL
namespace Go.Proofs.Ytajbodfdohhhoaa
open Go.ChangeShapes Go.WideShapes Go.ChangeAt Go.RowKit
structure Stp where
  kind : Int
  k : Int
  r : Rg
namespace Stp
def fits (s : Stp) : Prop := i64 s.kind ∧ i64 s.k ∧ s.r.fits
def cells (s : Stp) : List Value := [.int .i64 s.kind, .int .i64 s.k, .int .i64 s.r.lo, .int .i64 s.r.hi]
end Stp
theorem trod_rng {H : Type} {enc : TypeId × Value → H} {w : World} {n : Nat} {r : List Value} {x : DataW H × List MemPlace} (hlen : r.length = 2) (hx : DataW.trod enc Try.prog w 0 (fun _ => true) true n 27 r = some x) : ∃ s : Rg, s.fits ∧ r = s.cells := by
  obtain ⟨ys, n', _, _, _, hyl, hf⟩ := DataW.trod_struct Try.underlying27 hx
  match r, hlen with
  | [c0, c1], _ =>
    have g0 := hf 0 ⟨"From", 3, 0, false, "", "", 0⟩ rfl
    have g1 := hf 1 ⟨"To", 3, 1, false, "", "", 8⟩ rfl
    have k0 : Try.prog.cellsOf 3 = 1 := by kernel_rfl
    dsimp only at g0 g1
    simp only [k0, List.drop_succ_cons, List.drop_zero, List.take_succ_cons, List.take_zero] at g0 g1
    rw [List.getElem?_eq_getElem (by rw [hyl]; decide)] at g0 g1
    obtain ⟨z0, e0, _, w0⟩ := DataW.trod_int Try.underlying3 g0
    obtain ⟨z1, e1, _, w1⟩ := DataW.trod_int Try.underlying3 g1
    simp only [List.cons.injEq, and_true] at e0 e1
    subst e0 e1
    exact ⟨⟨z0, z1⟩, ⟨bounds_i64 w0, bounds_i64 w1⟩, rfl⟩
theorem open_rng {H : Type} {enc : TypeId × Value → H} {w : World} {r0 : Reach} {b0 : Nat} {v : Value} {d : DataW H} {ps : List MemPlace}
    (hval : Value.okWide Try.prog w r0 b0 27 v) (hd : DataW.Trod enc Try.prog w 0 (fun _ => true) true 27 v d ps) : ∃ s : Rg, v = s.val ∧ s.fits := by
  obtain ⟨cs, rfl, hsz⟩ := okWide_struct Try.underlying27 hval
  obtain ⟨n, hn⟩ := hd
  have h8 : Try.prog.cellsOf 27 = 2 := by kernel_rfl
  obtain ⟨s, hs, hc⟩ := trod_rng (r := cs.toList) (by rw [Array.length_toList, hsz, h8]) hn
  refine ⟨s, ?_, hs⟩
  rw [rval_eq, ← hc]
theorem trod_step {H : Type} {enc : TypeId × Value → H} {w : World} {n : Nat} {r : List Value} {x : DataW H × List MemPlace} (hlen : r.length = 4) (hx : DataW.trod enc Try.prog w 0 (fun _ => true) true n 29 r = some x) : ∃ s : Stp, s.fits ∧ r = s.cells := by
  obtain ⟨ys, n', _, _, _, hyl, hf⟩ := DataW.trod_struct Try.underlying29 hx
  match r, hlen with
  | [c0, c1, c2, c3], _ =>
    have g0 := hf 0 ⟨"Kind", 3, 0, false, "", "", 0⟩ rfl
    have g1 := hf 1 ⟨"K", 3, 1, false, "", "", 8⟩ rfl
    have g2 := hf 2 ⟨"R", 27, 2, false, "", "", 16⟩ rfl
    have k0 : Try.prog.cellsOf 3 = 1 := by kernel_rfl
    have k2 : Try.prog.cellsOf 27 = 2 := by kernel_rfl
    dsimp only at g0 g1 g2
    simp only [k0, k2, List.drop_succ_cons, List.drop_zero, List.take_succ_cons, List.take_zero] at g0 g1 g2
    rw [List.getElem?_eq_getElem (by rw [hyl]; decide)] at g0 g1 g2
    obtain ⟨z0, e0, _, w0⟩ := DataW.trod_int Try.underlying3 g0
    obtain ⟨z1, e1, _, w1⟩ := DataW.trod_int Try.underlying3 g1
    obtain ⟨m, hm, e2⟩ := trod_rng rfl g2
    simp only [Rg.cells, List.cons.injEq, and_true] at e0 e1 e2
    obtain ⟨e20, e21⟩ := e2
    subst e0 e1 e20 e21
    exact ⟨⟨z0, z1, m⟩, ⟨bounds_i64 w0, bounds_i64 w1, hm⟩, rfl⟩
theorem open_steps {H : Type} {enc : TypeId × Value → H} {w : World} {r0 : Reach} {b0 : Nat} {v : Value} {d : DataW H} {ps : List MemPlace}
    (hval : Value.okWide Try.prog w r0 b0 22 v) (hd : DataW.Trod enc Try.prog w 0 (fun _ => true) true 22 v d ps) : ∃ l : List Stp, ArgRow w v 4 (l.map Stp.cells) ∧ ∀ s ∈ l, s.fits := by
  have h8 : Try.prog.cellsOf 29 = 4 := by kernel_rfl
  obtain ⟨rows, h1, h2⟩ := open_rows Try.underlying22 h8 (by decide) hval hd
  obtain ⟨l, rfl, hl⟩ := rows_map (Q := Stp.fits) (f := Stp.cells) rows (fun r hr => by
    obtain ⟨hlen, n, x, hx⟩ := h2 r hr
    obtain ⟨s, h3, h4⟩ := trod_step hlen hx
    exact ⟨s, h3, h4⟩)
  exact ⟨l, h1, hl⟩
/-- An argument's row: its slice, and a call's cells. -/
theorem ArgRow.slice {w : World} {v : Value} {l : List Stp} (h : ArgRow w v 4 (l.map Stp.cells)) : ∃ base cap, v = .slice base l.length cap ∧ l.length ≤ maxLen := by
  obtain ⟨base, cap, hv, hm, _⟩ := h
  simp only [List.length_map] at hv hm
  exact ⟨base, cap, hv, hm⟩
theorem ArgRow.step {w : World} {v : Value} {l : List Stp} (h : ArgRow w v 4 (l.map Stp.cells)) {k : Nat} {s : Stp} (hk : l[k]? = some s) :
    ∃ b off cap, v = .slice (some ⟨b, off, none⟩) l.length cap ∧ b < w.heap.size ∧ ∀ j x, s.cells[j]? = some x → w.cell? ⟨b, off + k * 4 + j, none⟩ = some x := by
  obtain ⟨base, cap, hv, hm, hr⟩ := h
  obtain ⟨b, off, rfl, h2, h3⟩ := hr k s.cells (by rw [List.getElem?_map, hk]; rfl)
  exact ⟨b, off, cap, by rw [hv, List.length_map], h2, h3⟩
/-- The map as a law's loop has it: what was there at w0 is as it was; of the blocks F none is the map's. -/
def MS (w0 : World) (F : Nat → Prop) (b : Nat) (n : Int) (wr : World) (L : List Rg) : Prop :=
  ∃ v, IsMap wr b n v L ∧ Below w0.heap.size w0 wr ∧ (∀ k, bfp b v k → w0.heap.size ≤ k ∧ ¬ F k) ∧ ∀ k, F k → k < wr.heap.size
section
variable {w0 wr : World} {F : Nat → Prop} {b : Nat} {n : Int} {L : List Rg}
theorem MS.below (h : MS w0 F b n wr L) : Below w0.heap.size w0 wr := h.choose_spec.2.1
theorem MS.map (h : MS w0 F b n wr L) : ∃ v, IsMap wr b n v L := ⟨_, h.choose_spec.1⟩
theorem MS.rise (h : MS w0 F b n wr L) : Rises n (-1) L := h.choose_spec.1.rise
theorem MS.n1 (h : MS w0 F b n wr L) : 1 ≤ n := h.choose_spec.1.n1
theorem MS.n2 (h : MS w0 F b n wr L) : n ≤ 4096 := h.choose_spec.1.n2
theorem MS.more {w' : World} (h : MS w0 F b n wr L) (hb : Below wr.heap.size wr w') : MS w0 F b n w' L := by
  obtain ⟨v, h1, h2, h3, h4⟩ := h
  exact ⟨v, h1.below hb, h2.trans (hb.mono h2.size), h3, fun k hk => Nat.lt_of_lt_of_le (h4 k hk) hb.size⟩
theorem MS.turn {v : Value} {w' : World} {L' : List Rg} (h2 : Below w0.heap.size w0 wr) (h3 : ∀ k, bfp b v k → w0.heap.size ≤ k ∧ ¬ F k) (h4 : ∀ k, F k → k < wr.heap.size) (hT : TurnedR wr b n v L' w') :
    MS w0 F b n w' L' ∧ ∀ k, F k → w'.heap[k]? = wr.heap[k]? := by
  obtain ⟨v', hI, hM, hv⟩ := hT
  refine ⟨⟨v', hI, h2.trans (hM.below h2.size fun k hk => (h3 k hk).1), fun k hk => ?_, fun k hk => Nat.lt_of_lt_of_le (h4 k hk) hM.size⟩, fun k hk => hM.block k (h4 k hk) fun hb => (h3 k hb).2 hk⟩
  rcases hv k hk with h | h
  · exact h3 k h
  · exact ⟨Nat.le_trans h2.size h, fun hf => by have := h4 k hf; omega⟩
theorem MS.take (h : MS w0 F b n wr L) (r : Rg) : Calls Try.prog 14 #[.pointer (some ⟨b, 0, none⟩), r.val] wr fun e w' => e = .returned (.int .i64 (takeE n L r)) ∧ MS w0 F b n w' (takeS n L r) ∧ ∀ k, F k → w'.heap[k]? = wr.heap[k]? := by
  obtain ⟨v, h1, h2, h3, h4⟩ := h
  refine (mtake_any h1 r).mono ?_
  rintro e w' ⟨rfl, hT⟩
  exact ⟨rfl, MS.turn h2 h3 h4 hT⟩
theorem MS.give (h : MS w0 F b n wr L) (r : Rg) : Calls Try.prog 11 #[.pointer (some ⟨b, 0, none⟩), r.val] wr fun e w' => e = .returned (.int .i64 (giveE n L r)) ∧ MS w0 F b n w' (giveS n L r) ∧ ∀ k, F k → w'.heap[k]? = wr.heap[k]? := by
  obtain ⟨v, h1, h2, h3, h4⟩ := h
  refine (mgive_any h1 r).mono ?_
  rintro e w' ⟨rfl, hT⟩
  exact ⟨rfl, MS.turn h2 h3 h4 hT⟩
theorem MS.alloc (h : MS w0 F b n wr L) (k : Int) : Calls Try.prog 10 #[.pointer (some ⟨b, 0, none⟩), .int .i64 k] wr fun e w' => e = .returned (.tuple #[(allocR k L).val, .int .i64 (allocE k L)]) ∧ MS w0 F b n w' (allocL k L) ∧ ∀ k, F k → w'.heap[k]? = wr.heap[k]? := by
  obtain ⟨v, h1, h2, h3, h4⟩ := h
  refine (malloc_any h1 k).mono ?_
  rintro e w' ⟨rfl, hT⟩
  exact ⟨rfl, MS.turn h2 h3 h4 hT⟩
theorem MS.is (h : MS w0 F b n wr L) (i : Int) : Calls Try.prog 15 #[.pointer (some ⟨b, 0, none⟩), .int .i64 i] wr fun e w' => e = .returned (.bool (isIn L i)) ∧ Below wr.heap.size wr w' := mis_any h.choose_spec.1 i
theorem MS.free (h : MS w0 F b n wr L) : Calls Try.prog 12 #[.pointer (some ⟨b, 0, none⟩)] wr fun e w' => e = .returned (.int .i64 (sumR L)) ∧ Below wr.heap.size wr w' := mfree_any h.choose_spec.1
theorem MS.list (h : MS w0 F b n wr L) : Calls Try.prog 16 #[.pointer (some ⟨b, 0, none⟩)] wr fun e w' => ∃ v', e = .returned v' ∧ w'.ownsRow wr.heap.size 27 2 v' L.length (rrows L) ∧ Below wr.heap.size wr w' := mlist_any h.choose_spec.1
/-- A new one. -/
theorem MS.new (w0 : World) (F : Nat → Prop) (hb : Below w0.heap.size w0 wr) (hF : ∀ k, F k → k < wr.heap.size) (n : Int) : Calls Try.prog 9 #[.int .i64 n] wr fun e w' => e = .returned (.pointer (some ⟨wr.heap.size + 1, 0, none⟩)) ∧ MS w0 F (wr.heap.size + 1) (nOf n) w' [⟨0, nOf n⟩] ∧ Below wr.heap.size wr w' := by
  refine (mnew_any (w := wr) n).mono ?_
  rintro e w' ⟨rfl, hI, hw⟩
  refine ⟨rfl, ⟨_, hI, hb.trans (hw.mono hb.size), fun k hk => ?_, fun k hk => Nat.lt_of_lt_of_le (hF k hk) hw.size⟩, hw⟩
  have hsz := hb.size
  rcases hk with rfl | hk
  · exact ⟨by omega, fun h => by have := hF _ h; omega⟩
  · obtain rfl : wr.heap.size = k := by cases hk; rfl
    exact ⟨hsz, fun h => by have := hF _ h; omega⟩
end
set_option maxRecDepth 100000 in
theorem shown_any {w : World} : Calls Try.prog 13 #[] w fun e w' => e = .returned (.bool true) ∧ Below w.heap.size w w' := by
  have hn := MS.new (wr := w) w (fun _ => False) (Below.refl _ _) (fun _ h => h.elim) 5
  have Hn := Lib.hid hn
  clear hn
  go_enter Try.func13, Try.ntmps13
  go_wp2_with fail
  refine Hn.out.mono ?_
  rintro e w1 ⟨rfl, hM, hb1⟩
  have hf := hM.free
  have Hf := Lib.hid hf
  have HB := Lib.hid hb1
  clear hf hM hb1
  go_wp2_with fail
  refine Hf.out.mono ?_
  rintro e w2 ⟨rfl, hb2⟩
  have e5 : sumR [⟨0, nOf 5⟩] = 5 := rfl
  have HB2 := Lib.hid (HB.out.trans (hb2.mono HB.out.size))
  rw [e5]
  clear hb2
  go_wp2_with fail
  go_ret
  exact ⟨rfl, HB2.out⟩
end Go.Proofs.Ytajbodfdohhhoaa
