/- A map of free ranges as it lies in memory. -/
import Derived.Test.YtajbodfdohhhoaaExtPlain
import Derived.Test.YtajbodfdohhhoaaBase
import Derived.Test.YtajbodfdohhhoaaProg
import Derived.WalkLawsBesides
import Derived.Lib.Hide
import Derived.Deep.AppendLies
import Derived.Deep.RegionLaw
import Derived.Deep.RegionHeld3
import Derived.Laws.OwnMore
import Derived.Laws.AppendOwnNone
import Derived.Maps.AppendAt
import Derived.BigQuiet
import Derived.Lib.BufferMore
namespace Go.Proofs.Ytajbodfdohhhoaa
open Go.RowKit
theorem Rises.len {n : Int} : ∀ {L : List Rg} {c : Int}, Rises n c L → c ≤ n → (L.length : Int) ≤ n - c
  | [], c, _, h => by simp; omega
  | r :: L, c, h, _ => by
    obtain ⟨h1, h2, h3, h4⟩ := h
    have := h4.len h3
    simp only [List.length_cons]; omega
def i64 (x : Int) : Prop := -9223372036854775808 ≤ x ∧ x ≤ 9223372036854775807
namespace Rg
def cells (r : Rg) : List Value := [.int .i64 r.lo, .int .i64 r.hi]
def val (r : Rg) : Value := .agg #[.int .i64 r.lo, .int .i64 r.hi]
def fits (r : Rg) : Prop := i64 r.lo ∧ i64 r.hi
def zero : Rg := ⟨0, 0⟩
end Rg
theorem rval_eq (r : Rg) : r.val = .agg r.cells.toArray := rfl
theorem len_rcells (r : Rg) : r.cells.length = 2 := rfl
theorem one_rcells (r : Rg) : ∀ v ∈ r.cells, v.oneCell' = true := by
  intro v hv
  simp only [Rg.cells, List.mem_cons, List.not_mem_nil, or_false] at hv
  rcases hv with rfl | rfl <;> rfl
def rrows (l : List Rg) : List Value := l.flatMap Rg.cells
theorem rrows_cons (r : Rg) (l : List Rg) : rrows (r :: l) = r.cells ++ rrows l := rfl
theorem rrows_app (a b : List Rg) : rrows (a ++ b) = rrows a ++ rrows b := by simp [rrows]
theorem length_rrows (l : List Rg) : (rrows l).length = l.length * 2 := by
  induction l with
  | nil => rfl
  | cons x r ih => rw [rrows_cons, List.length_append, ih, len_rcells]; simp; omega
theorem one_rrows (l : List Rg) : ∀ v ∈ rrows l, v.oneCell' = true := by
  intro v hv
  obtain ⟨m, _, h⟩ := List.mem_flatMap.1 hv
  exact one_rcells m v h
theorem rrows_take (l : List Rg) (n : Nat) : rrows (l.take n) = (rrows l).take (n * 2) := by
  induction l generalizing n with
  | nil => simp [rrows]
  | cons x r ih =>
    cases n with
    | zero => simp [rrows]
    | succ n =>
      rw [List.take_succ_cons, rrows_cons, rrows_cons, ih, List.take_append, len_rcells, List.take_of_length_le (l := x.cells) (by rw [len_rcells]; omega), show (n + 1) * 2 - 2 = n * 2 by omega]
theorem rrows_drop (l : List Rg) (n : Nat) : rrows (l.drop n) = (rrows l).drop (n * 2) := by
  induction l generalizing n with
  | nil => simp [rrows]
  | cons x r ih =>
    cases n with
    | zero => simp
    | succ n =>
      rw [List.drop_succ_cons, rrows_cons, ih, List.drop_append, len_rcells, show List.drop ((n + 1) * 2) x.cells = [] from List.drop_eq_nil_of_le (by rw [len_rcells]; omega), List.nil_append, show (n + 1) * 2 - 2 = n * 2 by omega]
theorem rrows_at (l : List Rg) (k : Nat) (r : Rg) (h : l[k]? = some r) (j : Nat) (v : Value) (hv : r.cells[j]? = some v) : (rrows l)[k * 2 + j]? = some v := by
  have hk := (List.getElem?_eq_some_iff.1 h).1
  have e : l.drop k = r :: l.drop (k + 1) := by rw [List.drop_eq_getElem_cons hk]; congr 1; exact (List.getElem?_eq_some_iff.1 h).2
  have hj : j < 2 := (List.getElem?_eq_some_iff.1 hv).1
  rw [← List.getElem?_drop, ← rrows_drop, e, rrows_cons, List.getElem?_append_left (by rw [len_rcells]; exact hj)]
  exact hv
theorem Try.infoRg : (Try.prog.info? 27).map (fun i => (i.zero, i.size, i.bytes)) = some (some (Rg.val Rg.zero), 2, 16) := by kernel_rfl
/-- A row of ranges. -/
def RowR (w : World) (v : Value) (L : List Rg) : Prop := w.ownsRow 0 27 2 v L.length (rrows L)
theorem RowR.keep {w w' : World} {v : Value} {L : List Rg} (h : RowR w v L) (hk : ∀ k, v.ownBlock = some k → w'.heap[k]? = w.heap[k]?) : RowR w' v L := ownsRow_keep h hk
theorem RowR.below {w w' : World} {v : Value} {L : List Rg} (h : RowR w v L) (hb : Below w.heap.size w w') : RowR w' v L := h.keep fun k hk => hb.block k (World.ownsRow.lt h k hk).2
theorem RowR.alloc {w : World} {v : Value} {L : List Rg} (h : RowR w v L) (o : Obj) : RowR (w.alloc o) v L := World.ownsRow.alloc h o
theorem RowR.lens {w : World} {v : Value} {L : List Rg} (h : RowR w v L) : ∃ a cap, v = .slice a L.length cap := by
  rcases ownsRow_form h with ⟨h0, h1⟩ | ⟨g, cap, h0, _⟩
  · exact ⟨none, 0, by rw [h0, h1.1]⟩
  · exact ⟨_, _, h0⟩
theorem RowR.nil_or {w : World} {v : Value} {L : List Rg} (h : RowR w v L) : (v = .slice none 0 0 ∧ L = []) ∨ ∃ g cap, v = .slice (some ⟨g, 0, none⟩) L.length cap ∧ g < w.heap.size ∧ L.length ≤ cap ∧ cap ≤ maxLen := by
  rcases ownsRow_form h with ⟨h0, h1⟩ | ⟨g, cap, h0, -, hg, hc, hm, _⟩
  · exact .inl ⟨h0, List.length_eq_zero_iff.1 h1.1⟩
  · exact .inr ⟨g, cap, h0, hg, hc, hm⟩
theorem RowR.at {w : World} {v : Value} {L : List Rg} (h : RowR w v L) {k : Nat} {r : Rg} (hk : L[k]? = some r) :
    ∃ g cap, v = .slice (some ⟨g, 0, none⟩) L.length cap ∧ g < w.heap.size ∧ L.length ≤ cap ∧ ∀ j x, r.cells[j]? = some x → w.cell? ⟨g, k * 2 + j, none⟩ = some x := by
  have hkl := (List.getElem?_eq_some_iff.1 hk).1
  rcases h.nil_or with ⟨-, rfl⟩ | ⟨g, cap, rfl, hg, hc, -⟩
  · simp at hk
  · refine ⟨g, cap, rfl, hg, hc, fun j x hj => ?_⟩
    have hj2 : j < 2 := (List.getElem?_eq_some_iff.1 hj).1
    rw [World.ownsRow.cellAt h (k * 2 + j) (by omega)]
    exact rrows_at L k r hk j x hj
theorem RowR.lt {w : World} {v : Value} {L : List Rg} (h : RowR w v L) {k : Nat} (hk : v.ownBlock = some k) : k < w.heap.size := (World.ownsRow.lt h k hk).2
def bfp (b : Nat) (v : Value) (k : Nat) : Prop := k = b ∨ v.ownBlock = some k
/-- The program's map. -/
structure IsMap (w : World) (b : Nat) (n : Int) (v : Value) (L : List Rg) : Prop where
  c0 : w.cell? ⟨b, 0, none⟩ = some (.int .i64 n)
  c1 : w.cell? ⟨b, 1, none⟩ = some v
  row : RowR w v L
  fro : ∀ o, w.frozen? ⟨b, o, none⟩ = false
  ne : v.ownBlock ≠ some b
  n1 : 1 ≤ n
  n2 : n ≤ 4096
  rise : Rises n (-1) L
section
variable {w : World} {b : Nat} {n : Int} {v : Value} {L : List Rg}
theorem IsMap.lt (h : IsMap w b n v L) : ∀ k, bfp b v k → k < w.heap.size := by
  intro k hk
  rcases hk with rfl | hk
  · exact World.block_lt_of_cell? w _ h.c0
  · exact h.row.lt hk
theorem IsMap.len (h : IsMap w b n v L) : L.length ≤ 5000 := by
  have := h.rise.len (by have := h.n1; omega)
  have := h.n2
  omega
theorem IsMap.keeps {w' : World} (h : IsMap w b n v L) (hk : ∀ k, bfp b v k → w'.heap[k]? = w.heap[k]?) : IsMap w' b n v L := by
  have hb := hk b (.inl rfl)
  exact ⟨(World.cell?_of_block (a := ⟨b, 0, none⟩) hb).trans h.c0, (World.cell?_of_block (a := ⟨b, 1, none⟩) hb).trans h.c1, h.row.keep fun k hv => hk k (.inr hv), fun o => (World.frozen?_of_block (a := ⟨b, o, none⟩) hb).trans (h.fro o), h.ne, h.n1, h.n2, h.rise⟩
theorem IsMap.moves {w' : World} {F : Nat → Prop} (h : IsMap w b n v L) (hm : Moves F w w') (hd : ∀ k, bfp b v k → ¬ F k) : IsMap w' b n v L := h.keeps fun k hk => hm.block k (h.lt k hk) (hd k hk)
theorem IsMap.below {w' : World} (h : IsMap w b n v L) (hb : Below w.heap.size w w') : IsMap w' b n v L := h.keeps fun k hk => hb.block k (h.lt k hk)
theorem IsMap.alloc (h : IsMap w b n v L) (o : Obj) : IsMap (w.alloc o) b n v L := h.keeps fun k hk => Below.heap_alloc _ _ _ (h.lt k hk)
theorem IsMap.drew (h : IsMap w b n v L) : IsMap w.drew b n v L := h.keeps fun _ _ => rfl
theorem IsMap.drewN (h : IsMap w b n v L) (k : Nat) : IsMap (w.drewN k) b n v L := h.keeps fun _ _ => rfl
end
/-- A call has turned the map at b into L': nothing else that was there has turned. -/
def TurnedR (w : World) (b : Nat) (n : Int) (v : Value) (L' : List Rg) (w' : World) : Prop := ∃ v', IsMap w' b n v' L' ∧ Moves (fun k => bfp b v k) w w' ∧ (∀ k, bfp b v' k → bfp b v k ∨ w.heap.size ≤ k)
section
variable {w : World} {b : Nat} {n : Int} {v : Value} {L : List Rg}
theorem TurnedR.refl (h : IsMap w b n v L) : TurnedR w b n v L w := ⟨v, h, Moves.refl _ _, fun _ hk => .inl hk⟩
theorem TurnedR.quiet {w' : World} (h : IsMap w b n v L) (hb : Below w.heap.size w w') : TurnedR w b n v L w' := ⟨v, h.below hb, Moves.of_below hb, fun _ hk => .inl hk⟩
theorem TurnedR.trans {w1 w2 : World} {v1 : Value} {L2 : List Rg} (hm : Moves (fun k => bfp b v k) w w1) (hf : ∀ k, bfp b v1 k → bfp b v k ∨ w.heap.size ≤ k) (h : TurnedR w1 b n v1 L2 w2) : TurnedR w b n v L2 w2 := by
  obtain ⟨x, h2, m2, f2⟩ := h
  refine ⟨x, h2, hm.trans m2 hf, fun k hk => ?_⟩
  rcases f2 k hk with h3 | h3
  · exact hf k h3
  · exact .inr (Nat.le_trans hm.size h3)
theorem TurnedR.after {w1 w2 : World} {L2 : List Rg} (hb : Below w.heap.size w w1) (hT : TurnedR w1 b n v L2 w2) : TurnedR w b n v L2 w2 := TurnedR.trans (Moves.of_below hb) (fun _ hk => .inl hk) hT
theorem TurnedR.more {w1 w2 : World} {L2 : List Rg} (hT : TurnedR w b n v L2 w1) (hb : Below w1.heap.size w1 w2) : TurnedR w b n v L2 w2 := by
  obtain ⟨v', hh, m, hf⟩ := hT
  exact ⟨v', hh.below hb, m.trans (Moves.of_below (F := fun _ => False) hb) (fun _ h => h.elim), hf⟩
theorem TurnedR.then_ {w1 : World} {L1 : List Rg} (hT : TurnedR w b n v L1 w1) : ∃ v1, IsMap w1 b n v1 L1 ∧ (∀ L2 w2, TurnedR w1 b n v1 L2 w2 → TurnedR w b n v L2 w2) ∧ w.heap.size ≤ w1.heap.size ∧ ∀ k, k < w.heap.size → ¬ bfp b v k → w1.heap[k]? = w.heap[k]? := by
  obtain ⟨v', hh, m, hf⟩ := hT
  exact ⟨v', hh, fun L2 w2 h2 => TurnedR.trans m hf h2, m.size, fun k hk hn => m.block k hk hn⟩
end
end Go.Proofs.Ytajbodfdohhhoaa
