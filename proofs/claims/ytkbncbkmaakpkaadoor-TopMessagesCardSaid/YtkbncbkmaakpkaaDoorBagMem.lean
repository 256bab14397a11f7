/- A bag's row of messages as it lies in memory: the program's bag and the reference's. -/
import Derived.Test.YtkbncbkmaakpkaaDoorChk
namespace Go.Proofs.YtkbncbkmaakpkaaDoor
open Go.RowKit
def mrows (l : List Ms) : List Value := l.flatMap Ms.cells
theorem mrows_at : ∀ (l : List Ms) (k : Nat) (m : Ms), l[k]? = some m → ∀ j v, m.cells[j]? = some v → (mrows l)[k * 8 + j]? = some v
  | [], k, m, h, _, _, _ => by simp at h
  | y :: r, 0, m, h, j, v, hv => by
    simp at h
    subst h
    have hj : j < y.cells.length := (List.getElem?_eq_some_iff.1 hv).1
    show (y.cells ++ mrows r)[0 * 8 + j]? = _
    rw [Nat.zero_mul, Nat.zero_add, List.getElem?_append_left hj]
    exact hv
  | y :: r, k + 1, m, h, j, v, hv => by
    have hy : y.cells.length = 8 := rfl
    show (y.cells ++ mrows r)[(k + 1) * 8 + j]? = _
    rw [List.getElem?_append_right (by omega), hy, show (k + 1) * 8 + j - 8 = k * 8 + j by omega]
    exact mrows_at r k m (by simpa using h) j v hv
theorem mrows_snoc (l : List Ms) (m : Ms) : mrows (l ++ [m]) = mrows l ++ m.cells := by simp [mrows]
theorem length_mrows (l : List Ms) : (mrows l).length = l.length * 8 := by
  induction l with
  | nil => rfl
  | cons x r ih => show (x.cells ++ mrows r).length = _; rw [List.length_append, ih, len_mcells]; simp; omega
theorem one_mrows (l : List Ms) : ∀ v ∈ mrows l, v.oneCell' = true := by
  intro v hv
  obtain ⟨m, _, h⟩ := List.mem_flatMap.1 hv
  exact one_mcells m v h
/-- Block b begins with a slice v that owns the messages l. -/
structure Has (w : World) (b : Nat) (v : Value) (l : List Ms) : Prop where
  c0 : w.cell? ⟨b, 0, none⟩ = some v
  own : w.ownsRow 0 51 8 v l.length (mrows l)
  fro : ∀ o, w.frozen? ⟨b, o, none⟩ = false
  ne : v.ownBlock ≠ some b
  fits : ∀ m ∈ l, m.fits
def bfp (b : Nat) (v : Value) (k : Nat) : Prop := k = b ∨ v.ownBlock = some k
section
variable {w : World} {b : Nat} {v : Value} {l : List Ms}
theorem Has.lt (h : Has w b v l) : ∀ k, bfp b v k → k < w.heap.size := by
  intro k hk
  rcases hk with rfl | hk
  · exact World.block_lt_of_cell? w _ h.c0
  · exact (h.own.lt k hk).2
theorem Has.keeps {w' : World} (h : Has w b v l) (hk : ∀ k, bfp b v k → w'.heap[k]? = w.heap[k]?) : Has w' b v l := by
  have hb := hk b (.inl rfl)
  exact ⟨(World.cell?_of_block (a := ⟨b, 0, none⟩) hb).trans h.c0, ownsRow_keep h.own fun k hv => hk k (.inr hv), fun o => (World.frozen?_of_block (a := ⟨b, o, none⟩) hb).trans (h.fro o), h.ne, h.fits⟩
theorem Has.moves {w' : World} {F : Nat → Prop} (h : Has w b v l) (hm : Moves F w w') (hd : ∀ k, bfp b v k → ¬ F k) : Has w' b v l := h.keeps fun k hk => hm.block k (h.lt k hk) (hd k hk)
theorem Has.below {w' : World} (h : Has w b v l) (hb : Below w.heap.size w w') : Has w' b v l := h.keeps fun k hk => hb.block k (h.lt k hk)
theorem Has.alloc (h : Has w b v l) (o : Obj) : Has (w.alloc o) b v l := h.keeps fun k hk => Below.heap_alloc _ _ _ (h.lt k hk)
theorem Has.drew (h : Has w b v l) : Has w.drew b v l := h.keeps fun _ _ => rfl
theorem Has.drewN (h : Has w b v l) (n : Nat) : Has (w.drewN n) b v l := h.keeps fun _ _ => rfl
/-- The row is told anew. -/
theorem Has.told {w1 : World} {v' : Value} {l' : List Ms} (h : Has w b v l) (hb : w1.heap[b]? = w.heap[b]?) (ho : w1.ownsRow 0 51 8 v' l'.length (mrows l')) (hne : v'.ownBlock ≠ some b) (hf : ∀ m ∈ l', m.fits) :
    Has (w1.setCell ⟨b, 0, none⟩ v') b v' l' :=
  ⟨World.cell?_setCell_same _ _ _ ((World.cell?_of_block (a := ⟨b, 0, none⟩) hb).trans h.c0), ownsRow_setCell ho _ _ hne, fun o => by rw [World.frozen?_setCell]; exact (World.frozen?_of_block (a := ⟨b, o, none⟩) hb).trans (h.fro o), hne, hf⟩
theorem Has.form (h : Has w b v l) : (v = .slice none 0 0 ∧ l = []) ∨ ∃ g cap, v = .slice (some ⟨g, 0, none⟩) l.length cap ∧ g < w.heap.size := by
  rcases ownsRow_form h.own with ⟨h0, h1⟩ | ⟨g, cap, h0, -, hg, _⟩
  · exact .inl ⟨h0, List.length_eq_zero_iff.1 h1.1⟩
  · exact .inr ⟨g, cap, h0, hg⟩
theorem Has.lens (h : Has w b v l) : ∃ a cap, v = .slice a l.length cap := by
  rcases h.form with ⟨rfl, rfl⟩ | ⟨g, cap, rfl, _⟩
  · exact ⟨_, _, rfl⟩
  · exact ⟨_, _, rfl⟩
/-- A message of the row. -/
theorem Has.at (h : Has w b v l) {k : Nat} {m : Ms} (hk : l[k]? = some m) : ∃ g cap, v = .slice (some ⟨g, 0, none⟩) l.length cap ∧ g < w.heap.size ∧ ∀ j x, m.cells[j]? = some x → w.cell? ⟨g, k * 8 + j, none⟩ = some x := by
  have hkl := (List.getElem?_eq_some_iff.1 hk).1
  rcases h.form with ⟨-, rfl⟩ | ⟨g, cap, rfl, hg⟩
  · simp at hk
  · refine ⟨g, cap, rfl, hg, fun j x hj => ?_⟩
    have hj8 : j < 8 := (List.getElem?_eq_some_iff.1 hj).1
    rw [h.own.cellAt (k * 8 + j) (by omega)]
    exact mrows_at l k m hk j x hj
end
/-- A call has turned the row at b into l': nothing else that was there has turned. -/
def Turned (w : World) (b : Nat) (v : Value) (l' : List Ms) (w' : World) : Prop := ∃ v', Has w' b v' l' ∧ Moves (fun k => bfp b v k) w w' ∧ (∀ k, bfp b v' k → bfp b v k ∨ w.heap.size ≤ k) ∧ ∀ o, o ≠ 0 → w'.cell? ⟨b, o, none⟩ = w.cell? ⟨b, o, none⟩
theorem Turned.refl {w : World} {b : Nat} {v : Value} {l : List Ms} (h : Has w b v l) : Turned w b v l w := ⟨v, h, Moves.refl _ _, fun _ hk => .inl hk, fun _ _ => rfl⟩
theorem Turned.quiet {w w' : World} {b : Nat} {v : Value} {l : List Ms} (h : Has w b v l) (hb : Below w.heap.size w w') : Turned w b v l w' :=
  ⟨v, h.below hb, Moves.of_below hb, fun _ hk => .inl hk, fun _ _ => World.cell?_of_block (hb.block b (h.lt b (.inl rfl)))⟩
theorem Turned.trans {w w1 w2 : World} {b : Nat} {v v1 : Value} {l2 : List Ms} (hm : Moves (fun k => bfp b v k) w w1) (hf : ∀ k, bfp b v1 k → bfp b v k ∨ w.heap.size ≤ k) (ho : ∀ o, o ≠ 0 → w1.cell? ⟨b, o, none⟩ = w.cell? ⟨b, o, none⟩) (h : Turned w1 b v1 l2 w2) : Turned w b v l2 w2 := by
  obtain ⟨x, h2, m2, f2, o2⟩ := h
  refine ⟨x, h2, hm.trans m2 hf, fun k hk => ?_, fun o ho0 => (o2 o ho0).trans (ho o ho0)⟩
  rcases f2 k hk with h3 | h3
  · exact hf k h3
  · exact .inr (Nat.le_trans hm.size h3)
/-- The program's bag, and how many it may hold. -/
structure IsBag (w : World) (b : Nat) (v : Value) (l : List Ms) : Prop where
  has : Has w b v l
  most : w.cell? ⟨b, 1, none⟩ = some (.int .i64 64)
end Go.Proofs.YtkbncbkmaakpkaaDoor
