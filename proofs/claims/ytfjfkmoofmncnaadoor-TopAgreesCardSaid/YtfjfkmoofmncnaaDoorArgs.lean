/- Arguments that are slices: opened to rows of cells, and given back. -/
import Derived.WalkKit
import Derived.ProofKit
import Derived.OpenShut
import Derived.Deep.Slices
import Derived.Carry
namespace Go.Proofs.YtfjfkmoofmncnaaDoor
open Go.ChangeShapes Go.WideShapes Go.ChangeAt Go.RowKit Go.Deep
/-- A slice of another's: rows of sz cells, one behind the other. -/
def ArgRow (w : World) (v : Value) (sz : Nat) (rows : List (List Value)) : Prop :=
  ∃ base cap, v = .slice base rows.length cap ∧ rows.length ≤ maxLen ∧ ∀ i r, rows[i]? = some r → ∃ b off, base = some ⟨b, off, none⟩ ∧ b < w.heap.size ∧ ∀ j x, r[j]? = some x → w.cell? ⟨b, off + i * sz + j, none⟩ = some x
theorem ArgRow.below {w w' : World} {v : Value} {sz : Nat} {rows : List (List Value)} (h : ArgRow w v sz rows) (hb : Below w.heap.size w w') : ArgRow w' v sz rows := by
  obtain ⟨base, cap, hv, hm, hr⟩ := h
  refine ⟨base, cap, hv, hm, fun i r hir => ?_⟩
  obtain ⟨b, off, h1, h2, h3⟩ := hr i r hir
  exact ⟨b, off, h1, Nat.lt_of_lt_of_le h2 hb.size, fun j x hj => (World.cell?_of_block (a := ⟨b, off + i * sz + j, none⟩) (hb.block b h2)).trans (h3 j x hj)⟩
/-- The same where the heap is known to lie above B, and below B nothing has turned. -/
theorem ArgRow.below' {w w' : World} {B : Nat} {v : Value} {sz : Nat} {rows : List (List Value)} (h : ArgRow w v sz rows) (hB : w.heap.size = B) (hb : Below B w w') : ArgRow w' v sz rows := by
  subst hB; exact h.below hb
theorem rows_map {α β : Type} {Q : α → Prop} {f : α → β} : ∀ (rows : List β), (∀ r ∈ rows, ∃ a, Q a ∧ r = f a) → ∃ l : List α, rows = l.map f ∧ ∀ a ∈ l, Q a
  | [], _ => ⟨[], rfl, fun _ h => by simp at h⟩
  | r :: rs, h => by
    obtain ⟨a, ha, rfl⟩ := h r (by simp)
    obtain ⟨l, rfl, hl⟩ := rows_map rs fun r hr => h r (by simp [hr])
    exact ⟨a :: l, rfl, fun x hx => by
      rcases List.mem_cons.1 hx with rfl | hx
      · exact ha
      · exact hl x hx⟩
theorem spot_none {w : World} {a : Addr} {v : Value} (h : w.cell? a = some v) : a.spot = none := by
  cases hs : a.spot with
  | none => rfl
  | some x =>
    unfold World.cell? at h
    split at h
    · simp [hs] at h
    · cases h
section
variable {H : Type} {enc : TypeId × Value → H} {P : Program} {w : World}
theorem open_rows {r0 : Reach} {b0 : Nat} {t e : TypeId} {sz : Nat} {v : Value} {d : DataW H} {ps : List MemPlace} (ht : P.underlying t = some (.slice e)) (hC : P.cellsOf e = sz) (hsz : 0 < sz)
    (hval : Value.okWide P w r0 b0 t v) (hd : DataW.Trod enc P w 0 (fun _ => true) true t v d ps) :
    ∃ rows : List (List Value), ArgRow w v sz rows ∧ ∀ r ∈ rows, r.length = sz ∧ ∃ n x, DataW.trod enc P w 0 (fun _ => true) true n e r = some x := by
  obtain ⟨base, len, cap, rfl⟩ := okWide_slice ht hval
  obtain ⟨fuel, hf⟩ := hd
  rcases open_slice ht hf with ⟨h0, _⟩ | ⟨a, len', cap', m, n, D, Pl, h0, _, hl, hm, hmm, _, hx⟩
  · simp [Value.cells] at h0
    obtain ⟨rfl, rfl, rfl⟩ := h0
    exact ⟨[], ⟨none, 0, rfl, Nat.zero_le _, fun i r h => by simp at h⟩, fun r h => by simp at h⟩
  · simp [Value.cells] at h0
    obtain ⟨rfl, rfl, rfl⟩ := h0
    rw [if_pos rfl] at hmm
    subst hmm
    rw [hC] at hx
    obtain ⟨V, hV⟩ := choose_lt (α := List Value) (p := fun i cs' => w.cells? 0 (a.add (i * sz)) sz = some cs' ∧ DataW.trod enc P w 0 (fun _ => true) true n e cs' = some (D i, Pl i)) hx
    refine ⟨(List.range len).map V, ⟨some a, m, by simp, by simp; omega, fun i r hir => ?_⟩, fun r hr => ?_⟩
    · have hi : i < len := by have := (List.getElem?_eq_some_iff.1 hir).1; simpa using this
      have er : r = V i := by simpa [List.getElem?_map, List.getElem?_range hi] using hir.symm
      subst er
      obtain ⟨hc, _⟩ := hV i (by omega)
      obtain ⟨_, hlen, hat⟩ := World.cells?_some hc
      have hpos := hV 0 (by omega)
      obtain ⟨_, hlen0, hat0⟩ := World.cells?_some hpos.1
      have h00 := hat0 0 hsz
      obtain ⟨x0, hx0⟩ : ∃ x, (V 0)[0]? = some x := ⟨_, List.getElem?_eq_getElem (by omega)⟩
      rw [hx0] at h00
      have ea : (a.add (0 * sz)).add 0 = a := by simp [Addr.add]
      rw [ea] at h00
      have hs := spot_none h00
      refine ⟨a.block, a.off, by cases a; simp_all, World.block_lt_of_cell? w _ h00, fun j x hj => ?_⟩
      have hj' : j < sz := by have := (List.getElem?_eq_some_iff.1 hj).1; omega
      have := hat j hj'
      rw [hj, add_add] at this
      have e2 : a.add (i * sz + j) = ⟨a.block, a.off + i * sz + j, none⟩ := by
        unfold Addr.add
        split
        · rename_i h; rw [Nat.add_assoc, h, Nat.add_zero]; cases a; simp_all
        · rw [Nat.add_assoc]
      rwa [e2] at this
    · obtain ⟨i, hi, rfl⟩ := List.mem_map.1 hr
      obtain ⟨hc, ht'⟩ := hV i (by have := List.mem_range.1 hi; omega)
      exact ⟨(World.cells?_some hc).2.1, n, _, ht'⟩
/-- A slice of strings. -/
theorem open_strs {r0 : Reach} {b0 : Nat} {t e : TypeId} {v : Value} {d : DataW H} {ps : List MemPlace} (ht : P.underlying t = some (.slice e)) (he : P.underlying e = some .string) (hC : P.cellsOf e = 1)
    (hval : Value.okWide P w r0 b0 t v) (hd : DataW.Trod enc P w 0 (fun _ => true) true t v d ps) :
    ∃ l : List ByteArray, ArgRow w v 1 (l.map fun s => [.string s]) ∧ ∀ s ∈ l, s.size ≤ maxLen := by
  obtain ⟨rows, h1, h2⟩ := open_rows ht hC (by decide) hval hd
  obtain ⟨l, rfl, hl⟩ := rows_map (Q := fun s : ByteArray => s.size ≤ maxLen) (f := fun s => [Value.string s]) rows (fun r hr => by
    obtain ⟨_, n, x, hx⟩ := h2 r hr
    obtain ⟨s, h3, _, h4⟩ := DataW.trod_string he hx
    exact ⟨s, h4, h3⟩)
  exact ⟨l, h1, hl⟩
end
end Go.Proofs.YtfjfkmoofmncnaaDoor
