/- A row of ranges by its block: what stores, copies and clears make of it. -/
import Derived.Test.YtajbodfdohhhoaaExtB
import Derived.Laws.IdiomCopy
import Derived.Lib.AppendZeros
import Derived.Lib.AppendZerosOnto
namespace Go.Proofs.Ytajbodfdohhhoaa
open Go.RowKit
/-- The cells of a block of ranges. -/
def Blk (w : World) (g cap : Nat) (cur : List Value) : Prop := w.heap[g]? = some (.cells cur.toArray 27 (0, 0)) ∧ cur.length = cap * 2 ∧ cap ≤ maxLen
/-- Cells told over others. -/
def over (cur : List Value) (o : Nat) (vs : List Value) : List Value := cur.take o ++ vs ++ cur.drop (o + vs.length)
theorem over_len (cur : List Value) (o : Nat) (vs : List Value) (h : o + vs.length ≤ cur.length) : (over cur o vs).length = cur.length := by
  unfold over; simp; omega
theorem over_get (cur : List Value) (o : Nat) (vs : List Value) (h : o + vs.length ≤ cur.length) (j : Nat) : (over cur o vs)[j]? = if j < o then cur[j]? else if j < o + vs.length then vs[j - o]? else cur[j]? := by
  unfold over
  have ht : (cur.take o).length = o := by simp; omega
  by_cases h1 : j < o
  · rw [if_pos h1, List.append_assoc, List.getElem?_append_left (by omega), List.getElem?_take, if_pos h1]
  · rw [if_neg h1]
    by_cases h2 : j < o + vs.length
    · rw [if_pos h2, List.getElem?_append_left (by simp; omega), List.getElem?_append_right (by omega), ht]
    · rw [if_neg h2, List.getElem?_append_right (by simp; omega), List.getElem?_drop]
      congr 1
      simp; omega
theorem heap_setCell_at {w : World} {g : Nat} {c : Array Value} {t : TypeId} {fr : Nat × Nat} (h : w.heap[g]? = some (.cells c t fr)) (j : Nat) (v : Value) : (w.setCell ⟨g, j, none⟩ v).heap[g]? = some (.cells (c.setIfInBounds j v) t fr) := by
  obtain ⟨hg, he⟩ := Array.getElem?_eq_some_iff.1 h
  unfold World.setCell
  simp only [Array.getElem?_modify, if_true, h]
  simp
theorem heap_setCells_at {g : Nat} {t : TypeId} {fr : Nat × Nat} : ∀ (vs : List Value) (o : Nat) (w : World) (c : List Value), w.heap[g]? = some (.cells c.toArray t fr) → o + vs.length ≤ c.length → (w.setCells g o vs).heap[g]? = some (.cells (over c o vs).toArray t fr)
  | [], o, w, c, h, _ => by
    have : over c o [] = c := by unfold over; simp
    rw [this]; exact h
  | v :: r, o, w, c, h, hl => by
    simp only [List.length_cons] at hl
    have h1 := heap_setCell_at h o v
    have e1 : (c.toArray.setIfInBounds o v) = (c.set o v).toArray := by simp
    rw [e1] at h1
    have h2 := heap_setCells_at r (o + 1) _ (c.set o v) h1 (by simp; omega)
    rw [World.setCells, h2]
    congr 2
    congr 1
    apply List.ext_getElem?
    intro j
    rw [over_get _ _ _ (by simp; omega), over_get _ _ _ (by simp; omega)]
    by_cases h3 : j < o
    · rw [if_pos (by omega), if_pos h3, List.getElem?_set_ne (by omega)]
    · rw [if_neg h3]
      by_cases h4 : j = o
      · subst h4
        rw [if_pos (by omega), if_pos (by simp), List.getElem?_set_self (by omega), Nat.sub_self]; rfl
      · rw [if_neg (by omega)]
        simp only [List.length_cons]
        by_cases h5 : j < o + 1 + r.length
        · rw [if_pos h5, if_pos (by omega), show j - o = (j - (o + 1)) + 1 by omega]; rfl
        · rw [if_neg h5, if_neg (by omega), List.getElem?_set_ne (by omega)]
section
variable {w : World} {g cap : Nat} {cur : List Value}
theorem Blk.cell (h : Blk w g cap cur) (j : Nat) : w.cell? ⟨g, j, none⟩ = cur[j]? := by
  rw [cell_of_row w g j cur.toArray 27 (0, 0) h.1]; simp
theorem Blk.frozen (h : Blk w g cap cur) (j : Nat) : w.frozen? ⟨g, j, none⟩ = false := frozen_of_row w g j cur.toArray 27 h.1
theorem Blk.some (h : Blk w g cap cur) {j : Nat} (hj : j < cap * 2) : (w.cell? ⟨g, j, none⟩).isSome = true := by
  rw [h.cell, List.getElem?_eq_getElem (by rw [h.2.1]; exact hj)]; rfl
theorem Blk.setCell (h : Blk w g cap cur) (j : Nat) (v : Value) : Blk (w.setCell ⟨g, j, none⟩ v) g cap (cur.set j v) := by
  refine ⟨?_, by simp [h.2.1], h.2.2⟩
  have := heap_setCell_at h.1 j v
  rw [this]; simp
theorem Blk.setCells (h : Blk w g cap cur) (o : Nat) (vs : List Value) (hl : o + vs.length ≤ cap * 2) : Blk (w.setCells g o vs) g cap (over cur o vs) :=
  ⟨heap_setCells_at vs o w cur h.1 (by rw [h.2.1]; exact hl), by rw [over_len _ _ _ (by rw [h.2.1]; exact hl)]; exact h.2.1, h.2.2⟩
theorem Blk.keep {w' : World} (h : Blk w g cap cur) (hk : w'.heap[g]? = w.heap[g]?) : Blk w' g cap cur := ⟨hk.trans h.1, h.2⟩
theorem Blk.lt (h : Blk w g cap cur) : g < w.heap.size := (Array.getElem?_eq_some_iff.1 h.1).1
/-- A row is its block's first cells. -/
theorem Blk.row (h : Blk w g cap cur) {L : List Rg} (hl : L.length ≤ cap) (hc : cur.take (L.length * 2) = rrows L) : RowR w (.slice (Option.some ⟨g, 0, none⟩) L.length cap) L :=
  ⟨length_rrows L, .inr ⟨g, cap, cur.toArray, rfl, Nat.zero_le _, h.1, hl, h.2.2, by simp [h.2.1], by simpa using hc⟩⟩
theorem RowR.blk {n : Nat} {L : List Rg} (h : RowR w (.slice (Option.some ⟨g, 0, none⟩) n cap) L) : n = L.length ∧ L.length ≤ cap ∧ ∃ cur, Blk w g cap cur ∧ cur.take (L.length * 2) = rrows L := by
  rcases h.2 with ⟨h0, _⟩ | ⟨g', cap', cur, h0, _, h1, h2, h3, h4, h5⟩
  · simp at h0
  · simp only [Value.slice.injEq, Option.some.injEq, Addr.mk.injEq, and_true] at h0
    obtain ⟨rfl, rfl, rfl⟩ := h0
    exact ⟨rfl, h2, cur.toList, ⟨by simpa using h1, by simpa using h4, h3⟩, by simpa using h5⟩
end
/-- n zero values. -/
def zrs (n : Nat) : List Value := (Builtin.zeroCells #[.int .i64 0, .int .i64 0] n).toList
theorem len_zrs (n : Nat) : (zrs n).length = n * 2 := by unfold zrs; rw [Array.length_toList, size_zeroCells]; rfl
theorem one_zrs (n : Nat) : ∀ v ∈ zrs n, v.oneCell' = true := by
  intro v hv
  unfold zrs Builtin.zeroCells at hv
  simp only [Array.toList_map, List.mem_map] at hv
  obtain ⟨j, _, rfl⟩ := hv
  have h2 : j % 2 = 0 ∨ j % 2 = 1 := by omega
  show ((#[Value.int .i64 0, Value.int .i64 0] : Array Value)[j % 2]!).oneCell' = true
  rcases h2 with h | h <;> rw [h] <;> rfl
theorem run_clear_rg {P : Program} (w : World) (t e ty : TypeId) (ht : P.underlying t = some (.slice e)) (hv : ∀ w, (zeroValue e).run P w = .ok (.agg #[.int .i64 0, .int .i64 0]) w) (b o n c : Nat) (hn : 0 < n)
    (hc : ∀ j, j < n * 2 → (w.cell? ⟨b, o + j, none⟩).isSome = true) (hf : ∀ j, j < n * 2 → w.frozen? ⟨b, o + j, none⟩ = false) :
    (Builtin.clear_ #[t] ty #[.slice (some ⟨b, o, none⟩) n c]).run P w = .ok (.tuple #[]) (w.setCells b o (zrs n)) := by
  have hst := run_storeCells_cells (P := P) b o (zrs n) 0 w (by rw [len_zrs]; simpa using hc) (by rw [len_zrs]; simpa using hf) (one_zrs n)
  simp only [Nat.add_zero] at hst
  unfold zrs at hst ⊢
  obtain ⟨m, rfl⟩ : ∃ m, n = m + 1 := ⟨n - 1, by omega⟩
  have hz : (Value.agg #[.int .i64 0, .int .i64 0]).cells = #[.int .i64 0, .int .i64 0] := rfl
  simp [Builtin.clear_, run_underlying ht, hv, hz, hst]
theorem run_copy_rg {P : Program} (w : World) (dT sT ty elem : TypeId) (b o dLen dCap : Nat) (a : Addr) (sLen sCap : Nat) (cs : List Value)
    (hu : P.underlying dT = some (.slice elem)) (hs : (P.info? elem).map (·.size) = some 2) (hn : cs.length = (Nat.min sLen dLen) * 2)
    (hsrc : ∀ j v, cs[j]? = some v → w.cell? (a.add j) = some v) (hc : ∀ j, j < cs.length → (w.cell? ⟨b, o + j, none⟩).isSome = true) (hf : ∀ j, j < cs.length → w.frozen? ⟨b, o + j, none⟩ = false) (h1 : ∀ v ∈ cs, v.oneCell' = true) :
    (Builtin.copy_ #[dT, sT] ty #[.slice (some ⟨b, o, none⟩) dLen dCap, .slice (some a) sLen sCap]).run P w = .ok (goInt (Nat.min sLen dLen)) (w.setCells b o cs) := by
  have hl := run_loadCells_list (P := P) w a cs hsrc
  have hst := run_storeCells_cells (P := P) b o cs 0 w (by simpa using hc) (by simpa using hf) h1
  cases hq : P.info? elem with
  | none => simp [hq] at hs
  | some i =>
    have hi : i.size = 2 := by simpa [hq] using hs
    simp [Builtin.copy_, run_underlying hu, Builtin.lenOf, Builtin.firstCells, sizeOf, typeInfo, hq, hi, ← hn, hl, hst]
end Go.Proofs.Ytajbodfdohhhoaa
