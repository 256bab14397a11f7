/- quorum: New(3). -/
import Derived.Test.YtfjfkmoofmncnaaDoorQj
import Derived.Deep.AppendLies
import Derived.Deep.RegionHeld3
namespace Go.Proofs.YtfjfkmoofmncnaaDoor
open Go.RowKit
theorem Tryd.infoNodeP : (Tryd.prog.info? 73).map (fun i => (i.zero, i.size, i.bytes)) = some (some (.pointer none), 1, 8) := by kernel_rfl
def px0 : PX ByteArray := ⟨fun _ => 0, fun _ _ => none, fun _ => [], fun _ => 0⟩
/-- In the midst of New: j nodes are made; their blocks go up. -/
structure NW (W1 W : World) (N : Nat) (v : Value) (nb ab : Nat → Nat) (j : Nat) : Prop where
  bl : Below (N + 1 + 1) W1 W
  sz : N + 1 + 1 + 1 ≤ W.heap.size
  c0 : W.cell? ⟨N + 1 + 1, 0, none⟩ = some v
  c1 : W.cell? ⟨N + 1 + 1, 1, none⟩ = some (.map (some N))
  c2 : W.cell? ⟨N + 1 + 1, 2, none⟩ = some (.map (some (N + 1)))
  fr : ∀ o, W.frozen? ⟨N + 1 + 1, o, none⟩ = false
  row : W.ownsRow (N + 1 + 1 + 1) 73 1 v j ((List.range j).map fun i => .pointer (some ⟨nb i, 0, none⟩))
  n0 : ∀ i, i < j → W.cell? ⟨nb i, 0, none⟩ = some (.bool true)
  n1 : ∀ i, i < j → W.cell? ⟨nb i, 1, none⟩ = some (.pointer (some ⟨ab i, 0, none⟩))
  n2 : ∀ i, i < j → W.cell? ⟨nb i, 2, none⟩ = some (.slice none 0 0)
  n3 : ∀ i, i < j → W.cell? ⟨nb i, 3, none⟩ = some (.int .i64 0)
  fn : ∀ i, i < j → ∀ o, W.frozen? ⟨nb i, o, none⟩ = false
  acc : ∀ i, i < j → ∀ X, Acc W X (ab i) 0 fun _ => none
  lt : ∀ i, i < j → N + 1 + 1 + 1 ≤ ab i ∧ ab i < nb i ∧ nb i < W.heap.size ∧ v.ownBlock ≠ some (ab i) ∧ v.ownBlock ≠ some (nb i) ∧ ∀ k, k < i → nb k < ab i
theorem NW.drew {W1 W : World} {N j : Nat} {v : Value} {nb ab : Nat → Nat} (h : NW W1 W N v nb ab j) : NW W1 W.drew N v nb ab j :=
  ⟨h.bl.trans (Below.refl _ W).drew, h.sz, h.c0, h.c1, h.c2, h.fr, ownsRow_keep h.row fun _ _ => rfl, h.n0, h.n1, h.n2, h.n3, h.fn, fun i hi X => (h.acc i hi X).below (Below.refl _ W).drew, h.lt⟩
theorem acc_every {W : World} {X Y : Nat → Prop} {b : Nat} (h : Acc W X b 0 fun _ => none) : Acc W Y b 0 fun _ => none := by
  obtain ⟨A, g, -⟩ := h
  exact ⟨A, g, fun i x hx => by cases hx⟩
def nodeObj (a : Nat) : Obj := .cells #[.bool true, .pointer (some ⟨a, 0, none⟩), .slice none 0 0, .int .i64 0] 77
def rowObj (k : Nat) : Obj := .cells #[.pointer (some ⟨k, 0, none⟩)] 73
def ptrs (nb : Nat → Nat) (j : Nat) : List Value := (List.range j).map fun i => .pointer (some ⟨nb i, 0, none⟩)
theorem ptrs_succ (nb : Nat → Nat) (j m : Nat) : ptrs (fun i => if i = j then m else nb i) (j + 1) = ptrs nb j ++ [.pointer (some ⟨m, 0, none⟩)] := by
  unfold ptrs
  rw [List.range_succ, List.map_append]
  congr 1
  · refine List.map_congr_left fun i hi => ?_
    have hij : i < j := by simpa using hi
    show Value.pointer (some ⟨if i = j then m else nb i, 0, none⟩) = _
    rw [if_neg (by omega)]
  · simp
theorem NW.made {W1 W W2 : World} {N j : Nat} {v : Value} {nb ab : Nat → Nat} {X : Nat → Prop} (h : NW W1 W N v nb ab j) (_ : Acc W2 X W.heap.size 0 fun _ => none) (hb : Below W.heap.size W W2) :
    (W2.cell? ⟨N + 1 + 1, 0, none⟩ = some v ∧ (W2.alloc (nodeObj W.heap.size)).cell? ⟨N + 1 + 1, 0, none⟩ = some v ∧ ((W2.alloc (nodeObj W.heap.size)).alloc (rowObj W2.heap.size)).cell? ⟨N + 1 + 1, 0, none⟩ = some v) ∧
    ((W2.alloc (nodeObj W.heap.size)).alloc (rowObj W2.heap.size)).ownsRow (N + 1 + 1 + 1) 73 1 v j (ptrs nb j) ∧
    (∀ (p : Nat) u, [Value.pointer (some ⟨W2.heap.size, 0, none⟩)][p]? = some u → ((W2.alloc (nodeObj W.heap.size)).alloc (rowObj W2.heap.size)).cell? ((⟨W2.heap.size + 1, 0, none⟩ : Addr).add p) = some u) ∧
    N + 1 + 1 + 1 ≤ ((W2.alloc (nodeObj W.heap.size)).alloc (rowObj W2.heap.size)).heap.size := by
  have hl := World.block_lt_of_cell? _ _ h.c0
  have e2 := cellA hb h.c0
  have hb3 : Below W2.heap.size W2 (W2.alloc (nodeObj W.heap.size)) := (Below.refl _ _).alloc (Nat.le_refl _) _
  have hb4 : Below (W2.alloc (nodeObj W.heap.size)).heap.size (W2.alloc (nodeObj W.heap.size)) ((W2.alloc (nodeObj W.heap.size)).alloc (rowObj W2.heap.size)) := (Below.refl _ _).alloc (Nat.le_refl _) _
  have hb24 := hb.trans ((hb3.trans (hb4.mono hb3.size)).mono hb.size)
  refine ⟨⟨e2, cellA hb3 e2, cellA hb4 (cellA hb3 e2)⟩, ownsRow_keep h.row fun k hk => hb24.block k (h.row.lt k hk).2, fun p u hp => ?_, Nat.le_trans h.sz hb24.size⟩
  rw [Addr.add_mid, Nat.zero_add, show W2.heap.size + 1 = (W2.alloc (nodeObj W.heap.size)).heap.size by simp]
  unfold rowObj
  rw [World.cell?_alloc_new]
  simpa using hp
theorem NW.step {W1 W W2 : World} {N j : Nat} {v : Value} {nb ab : Nat → Nat} {X : Nat → Prop} (h : NW W1 W N v nb ab j) (hac : Acc W2 X W.heap.size 0 fun _ => none) (hb : Below W.heap.size W W2) :
    ∀ (g cap : Nat) (w5 : World), w5.ownsRow (N + 1 + 1 + 1) 73 1 (.slice (some ⟨g, 0, none⟩) (j + 1) cap) (j + 1) (ptrs nb j ++ [.pointer (some ⟨W2.heap.size, 0, none⟩)]) → ((W2.alloc (nodeObj W.heap.size)).alloc (rowObj W2.heap.size)).grownBy w5 v.ownBlock →
      (v.ownBlock = some g ∨ g = ((W2.alloc (nodeObj W.heap.size)).alloc (rowObj W2.heap.size)).heap.size) →
      (w5.cell? ⟨N + 1 + 1, 0, none⟩ = some v ∧ w5.frozen? ⟨N + 1 + 1, 0, none⟩ = false) ∧ NW W1 (w5.setCell ⟨N + 1 + 1, 0, none⟩ (.slice (some ⟨g, 0, none⟩) (j + 1) cap)) N (.slice (some ⟨g, 0, none⟩) (j + 1) cap) (fun i => if i = j then W2.heap.size else nb i) (fun i => if i = j then W.heap.size else ab i) (j + 1) := by
  intro g cap w5 hown hgrow hat
  have hsz := h.sz
  have hs2 := hb.size
  have hal := hac.lt
  have hb3 : Below W2.heap.size W2 (W2.alloc (nodeObj W.heap.size)) := (Below.refl _ _).alloc (Nat.le_refl _) _
  have hb4 : Below (W2.alloc (nodeObj W.heap.size)).heap.size (W2.alloc (nodeObj W.heap.size)) ((W2.alloc (nodeObj W.heap.size)).alloc (rowObj W2.heap.size)) := (Below.refl _ _).alloc (Nat.le_refl _) _
  have hs3 : (W2.alloc (nodeObj W.heap.size)).heap.size = W2.heap.size + 1 := by simp
  have hs4 : ((W2.alloc (nodeObj W.heap.size)).alloc (rowObj W2.heap.size)).heap.size = W2.heap.size + 1 + 1 := by simp
  have hvl : ∀ k, v.ownBlock = some k → N + 1 + 1 + 1 ≤ k ∧ k < W.heap.size := fun k hk => h.row.lt k hk
  have k2 : ∀ k, k < W2.heap.size → v.ownBlock ≠ some k → w5.heap[k]? = W2.heap[k]? := fun k hk hn => (hgrow.block k (by omega) (fun e => hn e.symm)).trans ((hb4.block k (by omega)).trans (hb3.block k hk))
  have k1 : ∀ k, k < W.heap.size → v.ownBlock ≠ some k → w5.heap[k]? = W.heap[k]? := fun k hk hn => (k2 k (by omega) hn).trans (hb.block k hk)
  have hg0 : v.ownBlock ≠ some (N + 1 + 1) := fun e => by have := (hvl _ e).1; omega
  have hgb := k1 (N + 1 + 1) (by omega) hg0
  have c5 : w5.cell? ⟨N + 1 + 1, 0, none⟩ = some v := (World.cell?_of_block (a := ⟨N + 1 + 1, 0, none⟩) hgb).trans h.c0
  have f5 : ∀ o, w5.frozen? ⟨N + 1 + 1, o, none⟩ = false := fun o => (World.frozen?_of_block (a := ⟨N + 1 + 1, o, none⟩) hgb).trans (h.fr o)
  have hgN : N + 1 + 1 + 1 ≤ g := (hown.lt g rfl).1
  have hnode : w5.heap[W2.heap.size]? = (W2.alloc (nodeObj W.heap.size)).heap[W2.heap.size]? := (hgrow.block W2.heap.size (by omega) (fun e => by have := (hvl _ e.symm).2; omega)).trans (hb4.block _ (by omega))
  have ks : ∀ k, k ≠ N + 1 + 1 → (w5.setCell ⟨N + 1 + 1, 0, none⟩ (.slice (some ⟨g, 0, none⟩) (j + 1) cap)).heap[k]? = w5.heap[k]? := fun k hk => Below.heap_setCell _ _ _ _ hk
  refine ⟨⟨c5, f5 0⟩, ?_⟩
  have kc : ∀ k o x, k ≠ N + 1 + 1 → w5.cell? ⟨k, o, none⟩ = some x → (w5.setCell ⟨N + 1 + 1, 0, none⟩ (.slice (some ⟨g, 0, none⟩) (j + 1) cap)).cell? ⟨k, o, none⟩ = some x := fun k o x hk hx => (World.cell?_of_block (a := ⟨k, o, none⟩) (ks k hk)).trans hx
  have old : ∀ i, i < j → nb i ≠ N + 1 + 1 ∧ w5.heap[nb i]? = W.heap[nb i]? := fun i hi => by
    obtain ⟨l1, l2, l3, l4, l5, l6⟩ := h.lt i hi
    exact ⟨by omega, k1 _ l3 l5⟩
  have hn0 : ∀ o x, (W2.alloc (nodeObj W.heap.size)).cell? ⟨W2.heap.size, o, none⟩ = some x → w5.cell? ⟨W2.heap.size, o, none⟩ = some x := fun o x hx => (World.cell?_of_block (a := ⟨W2.heap.size, o, none⟩) hnode).trans hx
  have hnew : ∀ o x, (#[.bool true, .pointer (some ⟨W.heap.size, 0, none⟩), .slice none 0 0, .int .i64 0] : Array Value)[o]? = some x → (w5.setCell ⟨N + 1 + 1, 0, none⟩ (.slice (some ⟨g, 0, none⟩) (j + 1) cap)).cell? ⟨W2.heap.size, o, none⟩ = some x := fun o x hx => kc _ _ _ (by omega) (hn0 o x ((World.cell?_alloc_new _ _ _ o).trans hx))
  have pick : ∀ i, i < j + 1 → i = j ∨ (i ≠ j ∧ i < j) := fun i hi => by omega
  refine ⟨?_, ?_, World.cell?_setCell_same _ _ _ c5, ?_, ?_, fun o => by rw [World.frozen?_setCell]; exact f5 o, ?_, fun i hi => ?_, fun i hi => ?_, fun i hi => ?_, fun i hi => ?_, fun i hi o => ?_, fun i hi Y => ?_, fun i hi => ?_⟩
  · have hM := ((((Moves.of_below (F := fun k => v.ownBlock = some k ∨ k = N + 1 + 1) hb).alloc (nodeObj W.heap.size)).alloc (rowObj W2.heap.size)).grown hgrow fun k hk => .inl (.inl hk)).setCell ⟨N + 1 + 1, 0, none⟩ (.slice (some ⟨g, 0, none⟩) (j + 1) cap) (.inl (.inr rfl))
    refine h.bl.trans (hM.below (by omega) fun k hk => ?_)
    rcases hk with hk | hk
    · have := (hvl k hk).1; omega
    · omega
  · have := hgrow.size
    simp
    omega
  · rw [oth_cell _ _ _ (by omega)]
    exact (World.cell?_of_block (a := ⟨N + 1 + 1, 1, none⟩) hgb).trans h.c1
  · rw [oth_cell _ _ _ (by omega)]
    exact (World.cell?_of_block (a := ⟨N + 1 + 1, 2, none⟩) hgb).trans h.c2
  · rw [show ((List.range (j + 1)).map fun i => Value.pointer (some ⟨if i = j then W2.heap.size else nb i, 0, none⟩)) = ptrs nb j ++ [.pointer (some ⟨W2.heap.size, 0, none⟩)] from ptrs_succ nb j W2.heap.size]
    exact ownsRow_keep hown fun k hk => ks k (by have := (hown.lt k hk).1; omega)
  · rcases pick i hi with rfl | ⟨h1, h2⟩
    · rw [if_pos rfl]; exact hnew 0 _ rfl
    · rw [if_neg h1]; exact kc _ _ _ (old i h2).1 ((World.cell?_of_block (a := ⟨nb i, 0, none⟩) (old i h2).2).trans (h.n0 i h2))
  · rcases pick i hi with rfl | ⟨h1, h2⟩
    · rw [if_pos rfl, if_pos rfl]; exact hnew 1 _ rfl
    · rw [if_neg h1, if_neg h1]; exact kc _ _ _ (old i h2).1 ((World.cell?_of_block (a := ⟨nb i, 1, none⟩) (old i h2).2).trans (h.n1 i h2))
  · rcases pick i hi with rfl | ⟨h1, h2⟩
    · rw [if_pos rfl]; exact hnew 2 _ rfl
    · rw [if_neg h1]; exact kc _ _ _ (old i h2).1 ((World.cell?_of_block (a := ⟨nb i, 2, none⟩) (old i h2).2).trans (h.n2 i h2))
  · rcases pick i hi with rfl | ⟨h1, h2⟩
    · rw [if_pos rfl]; exact hnew 3 _ rfl
    · rw [if_neg h1]; exact kc _ _ _ (old i h2).1 ((World.cell?_of_block (a := ⟨nb i, 3, none⟩) (old i h2).2).trans (h.n3 i h2))
  · rw [World.frozen?_setCell]
    rcases pick i hi with rfl | ⟨h1, h2⟩
    · rw [if_pos rfl]; exact (World.frozen?_of_block (a := ⟨W2.heap.size, o, none⟩) hnode).trans (World.frozen?_alloc_new _ _ _ _)
    · rw [if_neg h1]; exact (World.frozen?_of_block (a := ⟨nb i, o, none⟩) (old i h2).2).trans (h.fn i h2 o)
  · rcases pick i hi with rfl | ⟨h1, h2⟩
    · rw [if_pos rfl]
      obtain ⟨A, g1, -⟩ := hac
      exact ⟨A, g1.keep ((ks _ (by omega)).trans (k2 _ hal fun e => by have := (hvl _ e).2; omega)) fun a x hx => (by cases hx), fun a x hx => (by cases hx)⟩
    · rw [if_neg h1]
      obtain ⟨A, g1, -⟩ := h.acc i h2 Y
      obtain ⟨l1, l2, l3, l4, l5, l6⟩ := h.lt i h2
      exact ⟨A, g1.keep ((ks _ (by omega)).trans (k1 _ (by omega) l4)) fun a x hx => (by cases hx), fun a x hx => (by cases hx)⟩
  · have hw5 := hgrow.size
    have hgg : g < W.heap.size ∨ g = W2.heap.size + 1 + 1 := by
      rcases hat with e | e
      · exact .inl (hvl g e).2
      · exact .inr (e.trans hs4)
    have hob : ∀ k, g ≠ k → (Value.slice (some ⟨g, 0, none⟩) (j + 1) cap).ownBlock ≠ some k := fun k hk e => hk (by simpa [Value.ownBlock] using e)
    rw [World.size_setCell]
    rcases pick i hi with rfl | ⟨h1, h2⟩
    · rw [if_pos rfl, if_pos rfl]
      refine ⟨by omega, hal, by omega, hob _ (by omega), hob _ (by omega), fun k hk => ?_⟩
      rw [if_neg (by omega)]
      exact (h.lt k hk).2.2.1
    · obtain ⟨l1, l2, l3, l4, l5, l6⟩ := h.lt i h2
      have hge : ∀ k, k < W.heap.size → v.ownBlock ≠ some k → g ≠ k := fun k hk hn e => by
        rcases hat with e2 | e2
        · exact hn (e ▸ e2)
        · omega
      rw [if_neg h1, if_neg h1]
      refine ⟨l1, l2, by omega, hob _ (hge _ (by omega) l4), hob _ (hge _ l3 l5), fun k hk => ?_⟩
      rw [if_neg (by omega)]
      exact l6 k hk
theorem pb0 (G : ByteArray → Prop) : PB G px0 0 := by
  refine ⟨⟨fun j k b x _ hv => (by cases hv), fun j k b x _ hv => (by cases hv), fun j k b x _ hv => (by cases hv), fun who k x _ hx => ?_⟩, fun i _ => Nat.le_refl _, fun i _ => ?_, fun i _ => Nat.le_refl _, fun i j b x _ hv => (by cases hv), fun i x _ hx => ?_⟩
  · simp [px0] at hx
  · show (0 : Int) ≤ _
    omega
  · simp [px0] at hx
theorem NW.end {W1 W : World} {N : Nat} {v : Value} {nb ab : Nat → Nat} {G : ByteArray → Prop} (h : NW W1 W N v nb ab 3) (hg : HasMap Tryd.prog 145 W1 N 0 fun _ => none) (hc : IMap Tryd.prog 3 W1 (N + 1) 0 fun _ => none) : QS G N 0 (N + 1 + 1) W := by
  rcases ownsRow_form h.row with ⟨h1, h2⟩ | ⟨g, cap, rfl, -⟩
  · exact absurd h2.1 (by decide)
  · obtain ⟨a1, a2, a3, a4, a5, -⟩ := h.lt 0 (by omega)
    obtain ⟨b1, b2, b3, b4, b5, b6⟩ := h.lt 1 (by omega)
    obtain ⟨c1, c2, c3, c4, c5, c6⟩ := h.lt 2 (by omega)
    have b60 := b6 0 (by omega)
    have c60 := c6 0 (by omega)
    have c61 := c6 1 (by omega)
    simp only [Value.ownBlock, ne_eq, Option.some.injEq] at a4 a5 b4 b5 c4 c5
    have hgl := h.row.lt g rfl
    have hsz := h.sz
    have i3 : ∀ i, i < 3 → i = 0 ∨ i = 1 ∨ i = 2 := fun i hi => by omega
    obtain ⟨q, hq⟩ : ∃ q : QP, q = ⟨N + 1 + 1, g, cap, N, N + 1, nb, ab, fun _ => .slice none 0 0⟩ := ⟨_, rfl⟩
    have hqe : ∀ k, QF q (fun _ => False) k → k = N + 1 + 1 ∨ k = g ∨ k = N ∨ k = N + 1 ∨ (∃ i, i < 3 ∧ k = nb i) ∨ ∃ i, i < 3 ∧ k = ab i := fun k hk => by
      subst hq
      rcases hk with hk | hk | hk | hk | ⟨i, -, hk⟩ | hk | hk | hk
      · exact .inl hk
      · exact .inr (.inl hk)
      · exact .inr (.inr (.inr (.inr (.inl hk))))
      · exact .inr (.inr (.inr (.inr (.inr hk))))
      · cases hk
      · exact .inr (.inr (.inl hk))
      · exact .inr (.inr (.inr (.inl hk)))
      · exact hk.elim
    have hkN := h.bl.block N (by omega)
    have hkM := h.bl.block (N + 1) (by omega)
    refine ⟨q, QF q fun _ => False, fun _ => False, fun _ => none, 0, px0, by rw [hq], ?_, fun k hk => ?_, Nat.le_refl _, pb0 G⟩
    · refine ⟨by rw [hq]; exact h.c0, fun i hi => ?_, fun i hi => by rw [hq]; exact h.n0 i hi, fun i hi => by rw [hq]; exact h.n1 i hi, fun i hi => by rw [hq]; exact h.n2 i hi, fun i hi => by rw [hq]; exact h.n3 i hi, fun i hi o => by rw [hq]; exact h.fn i hi o, fun i hi => by rw [hq]; exact h.acc i hi _, fun i hi => by rw [hq]; exact ⟨rfl, .inl ⟨rfl, rfl⟩⟩, ?_, fun k hk => hk, fun k hk => ?_, ?_⟩
      · rw [hq]
        have e := World.ownsRow.cellAt h.row i (by simpa using hi)
        exact e.trans (by rw [List.getElem?_map, List.getElem?_range hi]; rfl)
      · rw [hq]
        exact ⟨h.c1, h.c2, hg.keep hkN, fun kl v hv => (by cases hv), ⟨_, hc.keep hkM⟩, ⟨by show N ≠ N + 1; omega, by show N + 1 + 1 ≠ N; omega, by show N + 1 + 1 ≠ N + 1; omega⟩, fun k hk => hk.elim⟩
      · rcases hqe k hk with e | e | e | e | ⟨i, hi, e⟩ | ⟨i, hi, e⟩
        · omega
        · omega
        · omega
        · omega
        · have := (h.lt i hi).2.2.1; omega
        · have := (h.lt i hi).2.1; have := (h.lt i hi).2.2.1; omega
      · refine ⟨fun k => if k = N + 1 + 1 then 0 else if k = g then 1 else if k = N ∨ k = N + 1 then 2 else if k = nb 0 then 10 else if k = nb 1 then 11 else if k = nb 2 then 12 else if k = ab 0 then 20 else if k = ab 1 then 21 else 22, ?_⟩
        rw [hq]
        refine ⟨?_, ?_, ?_, ?_, fun k hk => hk.elim, fun i hi => ?_, fun i hi => ?_, fun i k _ hk => by simp [Value.ownBlock] at hk⟩
        · simp
        · show (if g = N + 1 + 1 then 0 else if g = g then 1 else _) = 1
          rw [if_neg (by omega), if_pos rfl]
        · show (if N = N + 1 + 1 then 0 else if N = g then 1 else if N = N ∨ N = N + 1 then 2 else _) = 2
          rw [if_neg (by omega), if_neg (by omega), if_pos (.inl rfl)]
        · show (if N + 1 = N + 1 + 1 then 0 else if N + 1 = g then 1 else if N + 1 = N ∨ N + 1 = N + 1 then 2 else _) = 2
          rw [if_neg (by omega), if_neg (by omega), if_pos (.inr rfl)]
        · dsimp only
          rcases i3 i hi with rfl | rfl | rfl
          · rw [if_neg (by omega), if_neg (by omega), if_neg (by omega), if_pos rfl]
          · rw [if_neg (by omega), if_neg (by omega), if_neg (by omega), if_neg (by omega), if_pos rfl]
          · rw [if_neg (by omega), if_neg (by omega), if_neg (by omega), if_neg (by omega), if_neg (by omega), if_pos rfl]
        · dsimp only
          rcases i3 i hi with rfl | rfl | rfl
          · rw [if_neg (by omega), if_neg (by omega), if_neg (by omega), if_neg (by omega), if_neg (by omega), if_neg (by omega), if_pos rfl]
          · rw [if_neg (by omega), if_neg (by omega), if_neg (by omega), if_neg (by omega), if_neg (by omega), if_neg (by omega), if_neg (by omega), if_pos rfl]
          · rw [if_neg (by omega), if_neg (by omega), if_neg (by omega), if_neg (by omega), if_neg (by omega), if_neg (by omega), if_neg (by omega), if_neg (by omega)]
    · rcases hqe k hk with e | e | e | e | ⟨i, hi, e⟩ | ⟨i, hi, e⟩
      · omega
      · omega
      · omega
      · omega
      · have := (h.lt i hi).1; have := (h.lt i hi).2.1; omega
      · have := (h.lt i hi).1; omega
def W3 (w : World) : World := ((w.alloc (.map #[] 0)).alloc (.map #[] 0)).alloc (.cells #[.slice none 0 0, .map (some w.heap.size), .map (some (w.heap.size + 1))] 72)
theorem w3_size (w : World) : ((w.alloc (.map #[] 0)).alloc (.map #[] 0)).heap.size = w.heap.size + 1 + 1 ∧ (W3 w).heap.size = w.heap.size + 1 + 1 + 1 := by
  unfold W3
  constructor <;> simp
theorem NW.start (w : World) : NW (W3 w) (W3 w) w.heap.size (.slice none 0 0) (fun _ => 0) (fun _ => 0) 0 := by
  obtain ⟨s1, s2⟩ := w3_size w
  have hc : ∀ o x, (#[.slice none 0 0, .map (some w.heap.size), .map (some (w.heap.size + 1))] : Array Value)[o]? = some x → (W3 w).cell? ⟨w.heap.size + 1 + 1, o, none⟩ = some x := fun o x hx => by
    rw [← s1]
    exact (World.cell?_alloc_new _ _ _ o).trans hx
  refine ⟨Below.refl _ _, by omega, hc 0 _ rfl, hc 1 _ rfl, hc 2 _ rfl, fun o => ?_, ⟨rfl, .inl ⟨rfl, rfl⟩⟩, fun i hi => by omega, fun i hi => by omega, fun i hi => by omega, fun i hi => by omega, fun i hi => by omega, fun i hi => by omega, fun i hi => by omega⟩
  rw [← s1]
  exact World.frozen?_alloc_new _ _ _ o
theorem w3_maps (w : World) : HasMap Tryd.prog 145 (W3 w) w.heap.size 0 (fun _ => none) ∧ IMap Tryd.prog 3 (W3 w) (w.heap.size + 1) 0 (fun _ => none) ∧ Below w.heap.size w (W3 w) := by
  have h1 : Below (w.alloc (.map #[] 0)).heap.size (w.alloc (.map #[] 0)) ((w.alloc (.map #[] 0)).alloc (.map #[] 0)) := (Below.refl _ _).alloc (Nat.le_refl _) _
  have h2 : Below ((w.alloc (.map #[] 0)).alloc (.map #[] 0)).heap.size ((w.alloc (.map #[] 0)).alloc (.map #[] 0)) (W3 w) := (Below.refl _ _).alloc (Nat.le_refl _) _
  have h0 : Below w.heap.size w (w.alloc (.map #[] 0)) := (Below.refl _ _).alloc (Nat.le_refl _) _
  have s1 : (w.alloc (.map #[] 0)).heap.size = w.heap.size + 1 := by simp
  have s2 := h0.size
  have s3 := h1.size
  refine ⟨((HasMap.made _ _ w).keep (h1.block _ (by omega))).keep (h2.block _ (by omega)), ?_, h0.trans ((h1.trans (h2.mono s3)).mono s2)⟩
  rw [← s1]
  exact (IMap.made _ _ _).keep (h2.block _ (by simp))
section
variable {w : World}
set_option maxRecDepth 100000 in
set_option maxHeartbeats 8000000 in
theorem qnew_any {G : ByteArray → Prop} : Calls Tryd.prog 5 #[.int .i64 3] w fun e w' => ∃ gb, e = .returned (.pointer (some ⟨gb, 0, none⟩)) ∧ QS G w.heap.size 0 gb w' ∧ Below w.heap.size w w' := by
  have hmm := @run_makeMap Tryd.prog
  have hmx : max (1 : Int) 3 = 3 := rfl
  go_enter Tryd.func5, Tryd.ntmps5
  obtain ⟨N, hN⟩ : ∃ N, N = w.heap.size := ⟨_, rfl⟩
  obtain ⟨W1, hW1⟩ : ∃ W1, W1 = ((w.alloc (.map #[] 0)).alloc (.map #[] 0)).alloc (.cells #[.slice none 0 0, .map (some w.heap.size), .map (some (w.heap.size + 1))] 72) := ⟨_, rfl⟩
  have HW := Lib.hid hW1
  clear hW1
  go_wp2_with fail
  rw [← HW.out]
  rw [← hN]
  have HN := Lib.hid hN
  clear hN
  go_loopw [11] (fun c wr => ∃ (j : Nat) (v : Value) (nb ab : Nat → Nat), c = .int .i64 (j : Int) ∧ j ≤ 3 ∧ NW W1 wr N v nb ab j) (fun c _ => 3 - (intOf c).toNat)
  case atStart =>
    rw [HN.out, HW.out]
    exact ⟨0, .slice none 0 0, fun _ => 0, fun _ => 0, rfl, by omega, NW.start w⟩
  case round =>
    obtain ⟨j, v, nb, ab, rfl, hj, hw⟩ := hrel
    rcases (by omega : j = 3 ∨ j < 3) with h3 | h3
    · subst h3
      go_wp2_with fail
      go_ret
      obtain ⟨m1, m2, m3⟩ := w3_maps w
      rw [HN.out, HW.out] at hw
      rw [HN.out]
      exact ⟨_, rfl, hw.end m1 m2, m3.trans (hw.bl.mono (by omega))⟩
    · have e1 : decide ((j : Int) < 3) = true := by simp; omega
      go_upto_region 4 with (fail)
      obtain ⟨i0, hi0, hz0, hz1, hz2⟩ := info_parts Tryd.infoNodeP
      have Hi := Lib.hid hi0
      have Hz := Lib.hid hz0
      have Hz1 := Lib.hid hz1
      have Hz2 := Lib.hid hz2
      have HNW := Lib.hid hw.drew
      have c0 := HNW.out.c0
      have hnew := newacc_any (w := wr.drew) (fun _ => False)
      clear hi0 hz0 hz1 hz2 hw
      refine wp_region_held_drew (S := fun _ => True) (by kernel_rfl) trivial (fun _ => ?_)
      refine wpAnyH_take (i := 0) (oi := ⟨_, _, _, _, _, _⟩) (v := .pointer (some ⟨N + 1 + 1, 0, none⟩)) rfl (by kernel_rfl) (by kernel_rfl) (by kernel_rfl) (fun _ _ _ h => h) (Or.inl ⟨by rfl, fun _ _ => by first | rfl | go_simp⟩) trivial ?_
      try simp only [Act.put, List.setIfInBounds_toArray, List.set_cons_zero, List.set_cons_succ]
      refine wpAnyH_take (i := 1) (oi := ⟨_, _, _, _, _, _⟩) (v := .pointer (some ⟨N + 1 + 1, 0, none⟩)) rfl (by kernel_rfl) (by kernel_rfl) (by kernel_rfl) (fun _ _ _ h => h) (Or.inl ⟨by rfl, fun _ _ => by first | rfl | go_simp⟩) trivial ?_
      try simp only [Act.put, List.setIfInBounds_toArray, List.set_cons_zero, List.set_cons_succ]
      refine wpAnyH_take (i := 2) (oi := ⟨_, _, _, _, _, _⟩) (v := .pointer (some ⟨N + 1 + 1, 0, none⟩)) rfl (by kernel_rfl) (by kernel_rfl) (by kernel_rfl) (fun _ _ _ h => h) (Or.inl ⟨by rfl, fun _ _ => by first | rfl | go_simp⟩) trivial ?_
      try simp only [Act.put, List.setIfInBounds_toArray, List.set_cons_zero, List.set_cons_succ]
      refine wpAnyH_take (i := 3) (oi := ⟨_, _, _, _, _, _⟩) (v := .pointer (some ⟨N + 1 + 1, 0, none⟩)) rfl (by kernel_rfl) (by kernel_rfl) (by kernel_rfl) (fun _ _ _ h => h) (Or.inl ⟨by rfl, fun _ _ => by first | rfl | go_simp⟩) trivial ?_
      try simp only [Act.put, List.setIfInBounds_toArray, List.set_cons_zero, List.set_cons_succ]
      refine wpAnyH_ready (rs := [4, 5]) (by kernel_rfl) (by simp) (AllReadyH.cons (o := ⟨_, _, _, _, _, _⟩) rfl (fun K hK => ?_) (AllReadyH.cons (o := ⟨_, _, _, _, _, _⟩) rfl (fun K hK => ?_) AllReadyH.nil))
      · rw [if_pos (by rfl)]
        go_simp
        refine hK.out _ _ trivial (fun _ => ?_)
        clear hK K
        try simp only [Act.put, List.setIfInBounds_toArray, List.set_cons_zero, List.set_cons_succ]
        refine wpAnyH_ready (rs := [5]) (by kernel_rfl) (by simp) (AllReadyH.cons (o := ⟨_, _, _, _, _, _⟩) rfl (fun K hK => ?_) AllReadyH.nil)
        rw [if_pos (by rfl)]
        go_simp
        refine hnew.mono ?_
        rintro e W2 ⟨rfl, hac, hb2⟩
        have HM := Lib.hid (NW.made (W := wr.drew) HNW.out hac hb2)
        have HST := Lib.hid (NW.step (W := wr.drew) HNW.out hac hb2)
        clear hac hb2
        obtain ⟨d2, d3', d4'⟩ := HM.out.1
        have d3 : (W2.alloc (.cells #[.bool true, .pointer (some ⟨wr.heap.size, 0, none⟩), .slice none 0 0, .int .i64 0] 77)).cell? ⟨N + 1 + 1, 0, none⟩ = some v := d3'
        have d4 : ((W2.alloc (.cells #[.bool true, .pointer (some ⟨wr.heap.size, 0, none⟩), .slice none 0 0, .int .i64 0] 77)).alloc (.cells #[.pointer (some ⟨W2.heap.size, 0, none⟩)] 73)).cell? ⟨N + 1 + 1, 0, none⟩ = some v := d4'
        clear d3' d4'
        refine hK.out _ _ trivial (fun _ => ?_)
        clear hK K
        try simp only [Act.put, List.setIfInBounds_toArray, List.set_cons_zero, List.set_cons_succ]
        refine wpAnyH_take (i := 6) (oi := ⟨_, _, _, _, _, _⟩) (v := .agg #[.bool true, .pointer (some ⟨wr.heap.size, 0, none⟩), .slice none 0 0, .int .i64 0]) rfl (by kernel_rfl) (by kernel_rfl) (by kernel_rfl) (fun _ _ _ h => h) (Or.inl ⟨by rfl, fun _ _ => by first | rfl | go_simp⟩) trivial ?_
        try simp only [Act.put, List.setIfInBounds_toArray, List.set_cons_zero, List.set_cons_succ]
        refine wpAnyH_ready (rs := [7]) (by kernel_rfl) (by simp) (AllReadyH.cons (o := ⟨_, _, _, _, _, _⟩) rfl (fun K hK => ?_) AllReadyH.nil)
        rw [if_pos (by rfl)]
        go_simp
        refine hK.out _ _ trivial (fun _ => ?_)
        clear hK K
        try simp only [Act.put, List.setIfInBounds_toArray, List.set_cons_zero, List.set_cons_succ]
        refine wpAnyH_ready (rs := [8]) (by kernel_rfl) (by simp) (AllReadyH.cons (o := ⟨_, _, _, _, _, _⟩) rfl (fun K hK => ?_) AllReadyH.nil)
        rw [if_pos (by rfl)]
        go_simp
        refine hK.out _ _ trivial (fun _ => ?_)
        clear hK K
        try simp only [Act.put, List.setIfInBounds_toArray, List.set_cons_zero, List.set_cons_succ]
        refine wpAnyH_ready (rs := [9]) (by kernel_rfl) (by simp) (AllReadyH.cons (o := ⟨_, _, _, _, _, _⟩) rfl (fun K hK => ?_) AllReadyH.nil)
        refine step_append_lies _ rfl (.tmp 17) (.tmp 21) 70 rfl (N + 1 + 1 + 1) 73 i0 _ 1 8 Tryd.underlying70 Hi.out Hz.out Hz1.out Hz2.out rfl (by decide) _ j (ptrs nb j) rfl HM.out.2.1 ⟨W2.heap.size + 1, 0, none⟩ 1 1 [.pointer (some ⟨W2.heap.size, 0, none⟩)] rfl rfl HM.out.2.2.1 (by simp [Value.oneCell']) (by decide) (by unfold maxLen; omega) (by omega) HM.out.2.2.2 _ rfl ?_
        intro g cap w5 hown5 hgrow hat hlt
        have HS5 := Lib.hid (HST.out g cap w5 hown5 hgrow hat)
        clear hown5 hgrow hat hlt
        obtain ⟨x0, xf⟩ := HS5.out.1
        refine hK.out _ _ trivial (fun _ => ?_)
        clear hK K
        try simp only [Act.put, List.setIfInBounds_toArray, List.set_cons_zero, List.set_cons_succ]
        refine wpAnyH_take (i := 10) (oi := ⟨_, _, _, _, _, _⟩) (v := .pointer (some ⟨N + 1 + 1, 0, none⟩)) rfl (by kernel_rfl) (by kernel_rfl) (by kernel_rfl) (fun _ _ _ h => h) (Or.inl ⟨by rfl, fun _ _ => by first | rfl | go_simp⟩) trivial ?_
        try simp only [Act.put, List.setIfInBounds_toArray, List.set_cons_zero, List.set_cons_succ]
        refine wpAnyH_take (i := 11) (oi := ⟨_, _, _, _, _, _⟩) (v := .pointer (some ⟨N + 1 + 1, 0, none⟩)) rfl (by kernel_rfl) (by kernel_rfl) (by kernel_rfl) (fun _ _ _ h => h) (Or.inl ⟨by rfl, fun _ _ => by first | rfl | go_simp⟩) trivial ?_
        try simp only [Act.put, List.setIfInBounds_toArray, List.set_cons_zero, List.set_cons_succ]
        refine wpAnyH_ready (rs := [12]) (by kernel_rfl) (by simp) (AllReadyH.cons (o := ⟨_, _, _, _, _, _⟩) rfl (fun K hK => ?_) AllReadyH.nil)
        rw [if_pos (by rfl)]
        go_simp
        refine hK.out _ _ trivial (fun _ => ?_)
        clear hK K
        try simp only [Act.put, List.setIfInBounds_toArray, List.set_cons_zero, List.set_cons_succ]
        refine wpAnyH_done (by kernel_rfl) ?_ _
        go_wp2_with fail
        go_roundw
        case rel => exact ⟨j + 1, _, _, _, by go_num, by omega, HS5.out.2⟩
        case measure => simp [intOf]; omega
      · rw [if_pos (by rfl)]
        go_simp
        refine hnew.mono ?_
        rintro e W2 ⟨rfl, hac, hb2⟩
        have HM := Lib.hid (NW.made (W := wr.drew) HNW.out hac hb2)
        have HST := Lib.hid (NW.step (W := wr.drew) HNW.out hac hb2)
        clear hac hb2
        obtain ⟨d2, d3', d4'⟩ := HM.out.1
        have d3 : (W2.alloc (.cells #[.bool true, .pointer (some ⟨wr.heap.size, 0, none⟩), .slice none 0 0, .int .i64 0] 77)).cell? ⟨N + 1 + 1, 0, none⟩ = some v := d3'
        have d4 : ((W2.alloc (.cells #[.bool true, .pointer (some ⟨wr.heap.size, 0, none⟩), .slice none 0 0, .int .i64 0] 77)).alloc (.cells #[.pointer (some ⟨W2.heap.size, 0, none⟩)] 73)).cell? ⟨N + 1 + 1, 0, none⟩ = some v := d4'
        clear d3' d4'
        refine hK.out _ _ trivial (fun _ => ?_)
        clear hK K
        try simp only [Act.put, List.setIfInBounds_toArray, List.set_cons_zero, List.set_cons_succ]
        refine wpAnyH_take (i := 6) (oi := ⟨_, _, _, _, _, _⟩) (v := .agg #[.bool true, .pointer (some ⟨wr.heap.size, 0, none⟩), .slice none 0 0, .int .i64 0]) rfl (by kernel_rfl) (by kernel_rfl) (by kernel_rfl) (fun _ _ _ h => h) (Or.inl ⟨by rfl, fun _ _ => by first | rfl | go_simp⟩) trivial ?_
        try simp only [Act.put, List.setIfInBounds_toArray, List.set_cons_zero, List.set_cons_succ]
        refine wpAnyH_ready (rs := [4, 7]) (by kernel_rfl) (by simp) (AllReadyH.cons (o := ⟨_, _, _, _, _, _⟩) rfl (fun K hK => ?_) (AllReadyH.cons (o := ⟨_, _, _, _, _, _⟩) rfl (fun K hK => ?_) AllReadyH.nil))
        · rw [if_pos (by rfl)]
          go_simp
          refine hK.out _ _ trivial (fun _ => ?_)
          clear hK K
          try simp only [Act.put, List.setIfInBounds_toArray, List.set_cons_zero, List.set_cons_succ]
          refine wpAnyH_ready (rs := [7]) (by kernel_rfl) (by simp) (AllReadyH.cons (o := ⟨_, _, _, _, _, _⟩) rfl (fun K hK => ?_) AllReadyH.nil)
          rw [if_pos (by rfl)]
          go_simp
          refine hK.out _ _ trivial (fun _ => ?_)
          clear hK K
          try simp only [Act.put, List.setIfInBounds_toArray, List.set_cons_zero, List.set_cons_succ]
          refine wpAnyH_ready (rs := [8]) (by kernel_rfl) (by simp) (AllReadyH.cons (o := ⟨_, _, _, _, _, _⟩) rfl (fun K hK => ?_) AllReadyH.nil)
          rw [if_pos (by rfl)]
          go_simp
          refine hK.out _ _ trivial (fun _ => ?_)
          clear hK K
          try simp only [Act.put, List.setIfInBounds_toArray, List.set_cons_zero, List.set_cons_succ]
          refine wpAnyH_ready (rs := [9]) (by kernel_rfl) (by simp) (AllReadyH.cons (o := ⟨_, _, _, _, _, _⟩) rfl (fun K hK => ?_) AllReadyH.nil)
          refine step_append_lies _ rfl (.tmp 17) (.tmp 21) 70 rfl (N + 1 + 1 + 1) 73 i0 _ 1 8 Tryd.underlying70 Hi.out Hz.out Hz1.out Hz2.out rfl (by decide) _ j (ptrs nb j) rfl HM.out.2.1 ⟨W2.heap.size + 1, 0, none⟩ 1 1 [.pointer (some ⟨W2.heap.size, 0, none⟩)] rfl rfl HM.out.2.2.1 (by simp [Value.oneCell']) (by decide) (by unfold maxLen; omega) (by omega) HM.out.2.2.2 _ rfl ?_
          intro g cap w5 hown5 hgrow hat hlt
          have HS5 := Lib.hid (HST.out g cap w5 hown5 hgrow hat)
          clear hown5 hgrow hat hlt
          obtain ⟨x0, xf⟩ := HS5.out.1
          refine hK.out _ _ trivial (fun _ => ?_)
          clear hK K
          try simp only [Act.put, List.setIfInBounds_toArray, List.set_cons_zero, List.set_cons_succ]
          refine wpAnyH_take (i := 10) (oi := ⟨_, _, _, _, _, _⟩) (v := .pointer (some ⟨N + 1 + 1, 0, none⟩)) rfl (by kernel_rfl) (by kernel_rfl) (by kernel_rfl) (fun _ _ _ h => h) (Or.inl ⟨by rfl, fun _ _ => by first | rfl | go_simp⟩) trivial ?_
          try simp only [Act.put, List.setIfInBounds_toArray, List.set_cons_zero, List.set_cons_succ]
          refine wpAnyH_take (i := 11) (oi := ⟨_, _, _, _, _, _⟩) (v := .pointer (some ⟨N + 1 + 1, 0, none⟩)) rfl (by kernel_rfl) (by kernel_rfl) (by kernel_rfl) (fun _ _ _ h => h) (Or.inl ⟨by rfl, fun _ _ => by first | rfl | go_simp⟩) trivial ?_
          try simp only [Act.put, List.setIfInBounds_toArray, List.set_cons_zero, List.set_cons_succ]
          refine wpAnyH_ready (rs := [12]) (by kernel_rfl) (by simp) (AllReadyH.cons (o := ⟨_, _, _, _, _, _⟩) rfl (fun K hK => ?_) AllReadyH.nil)
          rw [if_pos (by rfl)]
          go_simp
          refine hK.out _ _ trivial (fun _ => ?_)
          clear hK K
          try simp only [Act.put, List.setIfInBounds_toArray, List.set_cons_zero, List.set_cons_succ]
          refine wpAnyH_done (by kernel_rfl) ?_ _
          go_wp2_with fail
          go_roundw
          case rel => exact ⟨j + 1, _, _, _, by go_num, by omega, HS5.out.2⟩
          case measure => simp [intOf]; omega
        · rw [if_pos (by rfl)]
          go_simp
          refine hK.out _ _ trivial (fun _ => ?_)
          clear hK K
          try simp only [Act.put, List.setIfInBounds_toArray, List.set_cons_zero, List.set_cons_succ]
          refine wpAnyH_ready (rs := [4, 8]) (by kernel_rfl) (by simp) (AllReadyH.cons (o := ⟨_, _, _, _, _, _⟩) rfl (fun K hK => ?_) (AllReadyH.cons (o := ⟨_, _, _, _, _, _⟩) rfl (fun K hK => ?_) AllReadyH.nil))
          · rw [if_pos (by rfl)]
            go_simp
            refine hK.out _ _ trivial (fun _ => ?_)
            clear hK K
            try simp only [Act.put, List.setIfInBounds_toArray, List.set_cons_zero, List.set_cons_succ]
            refine wpAnyH_ready (rs := [8]) (by kernel_rfl) (by simp) (AllReadyH.cons (o := ⟨_, _, _, _, _, _⟩) rfl (fun K hK => ?_) AllReadyH.nil)
            rw [if_pos (by rfl)]
            go_simp
            refine hK.out _ _ trivial (fun _ => ?_)
            clear hK K
            try simp only [Act.put, List.setIfInBounds_toArray, List.set_cons_zero, List.set_cons_succ]
            refine wpAnyH_ready (rs := [9]) (by kernel_rfl) (by simp) (AllReadyH.cons (o := ⟨_, _, _, _, _, _⟩) rfl (fun K hK => ?_) AllReadyH.nil)
            refine step_append_lies _ rfl (.tmp 17) (.tmp 21) 70 rfl (N + 1 + 1 + 1) 73 i0 _ 1 8 Tryd.underlying70 Hi.out Hz.out Hz1.out Hz2.out rfl (by decide) _ j (ptrs nb j) rfl HM.out.2.1 ⟨W2.heap.size + 1, 0, none⟩ 1 1 [.pointer (some ⟨W2.heap.size, 0, none⟩)] rfl rfl HM.out.2.2.1 (by simp [Value.oneCell']) (by decide) (by unfold maxLen; omega) (by omega) HM.out.2.2.2 _ rfl ?_
            intro g cap w5 hown5 hgrow hat hlt
            have HS5 := Lib.hid (HST.out g cap w5 hown5 hgrow hat)
            clear hown5 hgrow hat hlt
            obtain ⟨x0, xf⟩ := HS5.out.1
            refine hK.out _ _ trivial (fun _ => ?_)
            clear hK K
            try simp only [Act.put, List.setIfInBounds_toArray, List.set_cons_zero, List.set_cons_succ]
            refine wpAnyH_take (i := 10) (oi := ⟨_, _, _, _, _, _⟩) (v := .pointer (some ⟨N + 1 + 1, 0, none⟩)) rfl (by kernel_rfl) (by kernel_rfl) (by kernel_rfl) (fun _ _ _ h => h) (Or.inl ⟨by rfl, fun _ _ => by first | rfl | go_simp⟩) trivial ?_
            try simp only [Act.put, List.setIfInBounds_toArray, List.set_cons_zero, List.set_cons_succ]
            refine wpAnyH_take (i := 11) (oi := ⟨_, _, _, _, _, _⟩) (v := .pointer (some ⟨N + 1 + 1, 0, none⟩)) rfl (by kernel_rfl) (by kernel_rfl) (by kernel_rfl) (fun _ _ _ h => h) (Or.inl ⟨by rfl, fun _ _ => by first | rfl | go_simp⟩) trivial ?_
            try simp only [Act.put, List.setIfInBounds_toArray, List.set_cons_zero, List.set_cons_succ]
            refine wpAnyH_ready (rs := [12]) (by kernel_rfl) (by simp) (AllReadyH.cons (o := ⟨_, _, _, _, _, _⟩) rfl (fun K hK => ?_) AllReadyH.nil)
            rw [if_pos (by rfl)]
            go_simp
            refine hK.out _ _ trivial (fun _ => ?_)
            clear hK K
            try simp only [Act.put, List.setIfInBounds_toArray, List.set_cons_zero, List.set_cons_succ]
            refine wpAnyH_done (by kernel_rfl) ?_ _
            go_wp2_with fail
            go_roundw
            case rel => exact ⟨j + 1, _, _, _, by go_num, by omega, HS5.out.2⟩
            case measure => simp [intOf]; omega
          · rw [if_pos (by rfl)]
            go_simp
            refine hK.out _ _ trivial (fun _ => ?_)
            clear hK K
            try simp only [Act.put, List.setIfInBounds_toArray, List.set_cons_zero, List.set_cons_succ]
            refine wpAnyH_ready (rs := [4]) (by kernel_rfl) (by simp) (AllReadyH.cons (o := ⟨_, _, _, _, _, _⟩) rfl (fun K hK => ?_) AllReadyH.nil)
            rw [if_pos (by rfl)]
            go_simp
            refine hK.out _ _ trivial (fun _ => ?_)
            clear hK K
            try simp only [Act.put, List.setIfInBounds_toArray, List.set_cons_zero, List.set_cons_succ]
            refine wpAnyH_ready (rs := [9]) (by kernel_rfl) (by simp) (AllReadyH.cons (o := ⟨_, _, _, _, _, _⟩) rfl (fun K hK => ?_) AllReadyH.nil)
            refine step_append_lies _ rfl (.tmp 17) (.tmp 21) 70 rfl (N + 1 + 1 + 1) 73 i0 _ 1 8 Tryd.underlying70 Hi.out Hz.out Hz1.out Hz2.out rfl (by decide) _ j (ptrs nb j) rfl HM.out.2.1 ⟨W2.heap.size + 1, 0, none⟩ 1 1 [.pointer (some ⟨W2.heap.size, 0, none⟩)] rfl rfl HM.out.2.2.1 (by simp [Value.oneCell']) (by decide) (by unfold maxLen; omega) (by omega) HM.out.2.2.2 _ rfl ?_
            intro g cap w5 hown5 hgrow hat hlt
            have HS5 := Lib.hid (HST.out g cap w5 hown5 hgrow hat)
            clear hown5 hgrow hat hlt
            obtain ⟨x0, xf⟩ := HS5.out.1
            refine hK.out _ _ trivial (fun _ => ?_)
            clear hK K
            try simp only [Act.put, List.setIfInBounds_toArray, List.set_cons_zero, List.set_cons_succ]
            refine wpAnyH_take (i := 10) (oi := ⟨_, _, _, _, _, _⟩) (v := .pointer (some ⟨N + 1 + 1, 0, none⟩)) rfl (by kernel_rfl) (by kernel_rfl) (by kernel_rfl) (fun _ _ _ h => h) (Or.inl ⟨by rfl, fun _ _ => by first | rfl | go_simp⟩) trivial ?_
            try simp only [Act.put, List.setIfInBounds_toArray, List.set_cons_zero, List.set_cons_succ]
            refine wpAnyH_take (i := 11) (oi := ⟨_, _, _, _, _, _⟩) (v := .pointer (some ⟨N + 1 + 1, 0, none⟩)) rfl (by kernel_rfl) (by kernel_rfl) (by kernel_rfl) (fun _ _ _ h => h) (Or.inl ⟨by rfl, fun _ _ => by first | rfl | go_simp⟩) trivial ?_
            try simp only [Act.put, List.setIfInBounds_toArray, List.set_cons_zero, List.set_cons_succ]
            refine wpAnyH_ready (rs := [12]) (by kernel_rfl) (by simp) (AllReadyH.cons (o := ⟨_, _, _, _, _, _⟩) rfl (fun K hK => ?_) AllReadyH.nil)
            rw [if_pos (by rfl)]
            go_simp
            refine hK.out _ _ trivial (fun _ => ?_)
            clear hK K
            try simp only [Act.put, List.setIfInBounds_toArray, List.set_cons_zero, List.set_cons_succ]
            refine wpAnyH_done (by kernel_rfl) ?_ _
            go_wp2_with fail
            go_roundw
            case rel => exact ⟨j + 1, _, _, _, by go_num, by omega, HS5.out.2⟩
            case measure => simp [intOf]; omega
end
end Go.Proofs.YtfjfkmoofmncnaaDoor
