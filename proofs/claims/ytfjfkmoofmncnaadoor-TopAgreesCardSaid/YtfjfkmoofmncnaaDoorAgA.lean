/- The law's arguments: commands, numbers. -/
import Derived.Test.YtfjfkmoofmncnaaDoorArgs
import Derived.Test.YtfjfkmoofmncnaaDoorEn
namespace Go.Proofs.YtfjfkmoofmncnaaDoor
open Go.ChangeShapes Go.WideShapes Go.ChangeAt Go.RowKit
theorem i64_of {n : Int} (h : (Lit.int .i64 n).wf = true) : i64 n := by
  have := bounds_i64 h
  unfold i64
  omega
set_option maxRecDepth 100000 in
theorem trod_cmd {H : Type} {enc : TypeId × Value → H} {w : World} {n : Nat} {r : List Value} {x : DataW H × List MemPlace} (hlen : r.length = 9) (hx : DataW.trod enc Tryd.prog w 0 (fun _ => true) true n 36 r = some x) : ∃ m : CI, m.wide ∧ r = m.cells := by
  obtain ⟨ys, n', _, _, _, hyl, hf⟩ := DataW.trod_struct Tryd.underlying36 hx
  match r, hlen with
  | [c0, c1, c2, c3, c4, c5, c6, c7, c8], _ =>
    have g0 := hf 0 ⟨"Kind", 3, 0, false, "", "", 0⟩ rfl
    have g1 := hf 1 ⟨"Client", 3, 1, false, "", "", 8⟩ rfl
    have g2 := hf 2 ⟨"Seq", 3, 2, false, "", "", 16⟩ rfl
    have g3 := hf 3 ⟨"Now", 3, 3, false, "", "", 24⟩ rfl
    have g4 := hf 4 ⟨"Length", 3, 4, false, "", "", 32⟩ rfl
    have g5 := hf 5 ⟨"R", 34, 5, false, "", "", 40⟩ rfl
    have g7 := hf 6 ⟨"Mode", 3, 7, false, "", "", 56⟩ rfl
    have g8 := hf 7 ⟨"Other", 3, 8, false, "", "", 64⟩ rfl
    have k0 : Tryd.prog.cellsOf 3 = 1 := by kernel_rfl
    have k2 : Tryd.prog.cellsOf 34 = 2 := by kernel_rfl
    dsimp only at g0 g1 g2 g3 g4 g5 g7 g8
    simp only [k0, k2, List.drop_succ_cons, List.drop_zero, List.take_succ_cons, List.take_zero] at g0 g1 g2 g3 g4 g5 g7 g8
    rw [List.getElem?_eq_getElem (by rw [hyl]; decide)] at g0 g1 g2 g3 g4 g5 g7 g8
    obtain ⟨zs, m', _, _, _, hzl, hr⟩ := DataW.trod_struct Tryd.underlying34 g5
    have h5 := hr 0 ⟨"From", 3, 0, false, "", "", 0⟩ rfl
    have h6 := hr 1 ⟨"To", 3, 1, false, "", "", 8⟩ rfl
    dsimp only at h5 h6
    simp only [k0, List.drop_succ_cons, List.drop_zero, List.take_succ_cons, List.take_zero] at h5 h6
    rw [List.getElem?_eq_getElem (by rw [hzl]; decide)] at h5 h6
    obtain ⟨z0, e0, _, w0⟩ := DataW.trod_int Tryd.underlying3 g0
    obtain ⟨z1, e1, _, w1⟩ := DataW.trod_int Tryd.underlying3 g1
    obtain ⟨z2, e2, _, w2⟩ := DataW.trod_int Tryd.underlying3 g2
    obtain ⟨z3, e3, _, w3⟩ := DataW.trod_int Tryd.underlying3 g3
    obtain ⟨z4, e4, _, w4⟩ := DataW.trod_int Tryd.underlying3 g4
    obtain ⟨z5, e5, _, w5⟩ := DataW.trod_int Tryd.underlying3 h5
    obtain ⟨z6, e6, _, w6⟩ := DataW.trod_int Tryd.underlying3 h6
    obtain ⟨z7, e7, _, w7⟩ := DataW.trod_int Tryd.underlying3 g7
    obtain ⟨z8, e8, _, w8⟩ := DataW.trod_int Tryd.underlying3 g8
    simp only [List.cons.injEq, and_true] at e0 e1 e2 e3 e4 e5 e6 e7 e8
    subst e0 e1 e2 e3 e4 e5 e6 e7 e8
    refine ⟨⟨z0, z1, z2, z3, z4, z5, z6, z7, z8⟩, fun p hp => ?_, rfl⟩
    simp only [CI.nums, List.mem_cons, List.not_mem_nil, or_false] at hp
    rcases hp with rfl | rfl | rfl | rfl | rfl | rfl | rfl | rfl | rfl
    · exact i64_of w0
    · exact i64_of w1
    · exact i64_of w2
    · exact i64_of w3
    · exact i64_of w4
    · exact i64_of w5
    · exact i64_of w6
    · exact i64_of w7
    · exact i64_of w8
set_option maxRecDepth 100000 in
theorem open_cmds {H : Type} {enc : TypeId × Value → H} {w : World} {r0 : Reach} {b0 : Nat} {v : Value} {d : DataW H} {ps : List MemPlace}
    (hval : Value.okWide Tryd.prog w r0 b0 22 v) (hd : DataW.Trod enc Tryd.prog w 0 (fun _ => true) true 22 v d ps) : ∃ l : List CI, ArgRow w v 9 (l.map CI.cells) ∧ ∀ m ∈ l, m.wide := by
  have h9 : Tryd.prog.cellsOf 36 = 9 := by kernel_rfl
  obtain ⟨rows, h1, h2⟩ := open_rows Tryd.underlying22 h9 (by decide) hval hd
  obtain ⟨l, rfl, hl⟩ := rows_map (Q := CI.wide) (f := CI.cells) rows (fun r hr => by
    obtain ⟨hlen, n, x, hx⟩ := h2 r hr
    obtain ⟨s, h3, h4⟩ := trod_cmd hlen hx
    exact ⟨s, h3, h4⟩)
  exact ⟨l, h1, hl⟩
def ucell (k : IntKind) (n : Nat) : List Value := [.int k (n : Int)]
set_option maxRecDepth 100000 in
theorem open_losses {H : Type} {enc : TypeId × Value → H} {w : World} {r0 : Reach} {b0 : Nat} {v : Value} {d : DataW H} {ps : List MemPlace}
    (hval : Value.okWide Tryd.prog w r0 b0 23 v) (hd : DataW.Trod enc Tryd.prog w 0 (fun _ => true) true 23 v d ps) : ∃ l : List Nat, ArgRow w v 1 (l.map (ucell .u64)) ∧ ∀ n ∈ l, n < 18446744073709551616 := by
  have h8 : Tryd.prog.cellsOf 39 = 1 := by kernel_rfl
  obtain ⟨rows, h1, h2⟩ := open_rows Tryd.underlying23 h8 (by decide) hval hd
  obtain ⟨l, rfl, hl⟩ := rows_map (Q := fun n : Nat => n < 18446744073709551616) (f := ucell .u64) rows (fun r hr => by
    obtain ⟨_, n, x, hx⟩ := h2 r hr
    obtain ⟨z, h3, _, h4⟩ := DataW.trod_int Tryd.underlying39 hx
    have hb := bounds_u64 h4
    obtain ⟨k, rfl⟩ := Int.eq_ofNat_of_zero_le hb.1
    exact ⟨k, by omega, h3⟩)
  exact ⟨l, h1, hl⟩
set_option maxRecDepth 100000 in
theorem open_nodes {H : Type} {enc : TypeId × Value → H} {w : World} {r0 : Reach} {b0 : Nat} {v : Value} {d : DataW H} {ps : List MemPlace}
    (hval : Value.okWide Tryd.prog w r0 b0 24 v) (hd : DataW.Trod enc Tryd.prog w 0 (fun _ => true) true 24 v d ps) : ∃ l : List Nat, ArgRow w v 1 (l.map (ucell .u8)) ∧ ∀ n ∈ l, n < 256 := by
  have h8 : Tryd.prog.cellsOf 5 = 1 := by kernel_rfl
  obtain ⟨rows, h1, h2⟩ := open_rows Tryd.underlying24 h8 (by decide) hval hd
  obtain ⟨l, rfl, hl⟩ := rows_map (Q := fun n : Nat => n < 256) (f := ucell .u8) rows (fun r hr => by
    obtain ⟨_, n, x, hx⟩ := h2 r hr
    obtain ⟨z, h3, _, h4⟩ := DataW.trod_int Tryd.underlying5 hx
    have hb := bounds_u8 h4
    obtain ⟨k, rfl⟩ := Int.eq_ofNat_of_zero_le hb.1
    exact ⟨k, by omega, h3⟩)
  exact ⟨l, h1, hl⟩
theorem ArgRow.aslice {α : Type} {f : α → List Value} {sz : Nat} {w : World} {v : Value} {l : List α} (h : ArgRow w v sz (l.map f)) : ∃ base cap, v = .slice base l.length cap ∧ l.length ≤ maxLen := by
  obtain ⟨base, cap, hv, hm, _⟩ := h
  simp only [List.length_map] at hv hm
  exact ⟨base, cap, hv, hm⟩
theorem ArgRow.aat {α : Type} {f : α → List Value} {sz : Nat} {w : World} {v : Value} {l : List α} (h : ArgRow w v sz (l.map f)) {k : Nat} {s : α} (hk : l[k]? = some s) :
    ∃ b off cap, v = .slice (some ⟨b, off, none⟩) l.length cap ∧ b < w.heap.size ∧ ∀ j x, (f s)[j]? = some x → w.cell? ⟨b, off + k * sz + j, none⟩ = some x := by
  obtain ⟨base, cap, hv, hm, hr⟩ := h
  obtain ⟨b, off, rfl, h2, h3⟩ := hr k (f s) (by rw [List.getElem?_map, hk]; rfl)
  exact ⟨b, off, cap, by rw [hv, List.length_map], h2, h3⟩
theorem ArgRow.oat {k : IntKind} {w : World} {v : Value} {l : List Nat} (h : ArgRow w v 1 (l.map (ucell k))) {i : Nat} {s : Nat} (hk : l[i]? = some s) :
    ∃ b off cap, v = .slice (some ⟨b, off, none⟩) l.length cap ∧ b < w.heap.size ∧ w.cell? ⟨b, off + i, none⟩ = some (.int k (s : Int)) := by
  obtain ⟨b, off, cap, h1, h2, h3⟩ := h.aat hk
  have := h3 0 _ rfl
  rw [Nat.mul_one, Nat.add_zero] at this
  exact ⟨b, off, cap, h1, h2, this⟩
end Go.Proofs.YtfjfkmoofmncnaaDoor
