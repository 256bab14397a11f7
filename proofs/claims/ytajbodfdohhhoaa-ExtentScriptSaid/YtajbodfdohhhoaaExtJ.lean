/- The map in the midst of a Give: its cells, and what may be told of its row. -/
import Derived.Test.YtajbodfdohhhoaaExtI
namespace Go.Proofs.Ytajbodfdohhhoaa
open Go.RowKit
/-- The map's cells: its row may be any. -/
structure MapC (w : World) (b : Nat) (n : Int) (v : Value) (L : List Rg) : Prop where
  c0 : w.cell? ⟨b, 0, none⟩ = some (.int .i64 n)
  c1 : w.cell? ⟨b, 1, none⟩ = some v
  row : RowR w v L
  fro : ∀ o, w.frozen? ⟨b, o, none⟩ = false
  ne : v.ownBlock ≠ some b
theorem rrows_set {L : List Rg} {j : Nat} {p : Rg} (h : L[j]? = some p) (x : Int) : rrows (L.set j ⟨p.lo, x⟩) = (rrows L).set (j * 2 + 1) (.int .i64 x) := by
  have hj := (List.getElem?_eq_some_iff.1 h).1
  have e := part_at h
  have h1 : (rrows (L.take j)).length = j * 2 := by rw [length_rrows, List.length_take]; omega
  have e2 : L.set j ⟨p.lo, x⟩ = L.take j ++ ⟨p.lo, x⟩ :: L.drop (j + 1) := by
    rw [List.set_eq_take_append_cons_drop, if_pos hj]
  rw [e2]
  conv => rhs; rw [e]
  rw [rrows_app, rrows_app, rrows_cons, rrows_cons, List.set_append_right _ _ (by omega), h1, show j * 2 + 1 - j * 2 = 1 by omega]
  rfl
theorem set_erase {L : List Rg} {j : Nat} (hj : j + 1 < L.length) (x : Rg) : (L.set j x).eraseIdx (j + 1) = L.take j ++ x :: L.drop (j + 2) := by
  rw [List.set_eq_take_append_cons_drop, if_pos (by omega), List.eraseIdx_append_of_length_le (by simp; omega), List.length_take, Nat.min_eq_left (by omega), show j + 1 - j = 1 by omega]
  congr 1
  rw [List.eraseIdx_cons_succ]
  congr 1
  have e : L.drop (j + 1) = L[j + 1] :: L.drop (j + 2) := List.drop_eq_getElem_cons hj
  rw [e]; rfl
section
variable {w : World} {b : Nat} {n : Int} {v : Value} {L : List Rg}
theorem IsMap.cells (h : IsMap w b n v L) : MapC w b n v L := ⟨h.c0, h.c1, h.row, h.fro, h.ne⟩
theorem MapC.lt (h : MapC w b n v L) : ∀ k, bfp b v k → k < w.heap.size := by
  intro k hk
  rcases hk with rfl | hk
  · exact World.block_lt_of_cell? w _ h.c0
  · exact h.row.lt hk
theorem MapC.keeps {w' : World} (h : MapC w b n v L) (hk : ∀ k, bfp b v k → w'.heap[k]? = w.heap[k]?) : MapC w' b n v L := by
  have hb := hk b (.inl rfl)
  exact ⟨(World.cell?_of_block (a := ⟨b, 0, none⟩) hb).trans h.c0, (World.cell?_of_block (a := ⟨b, 1, none⟩) hb).trans h.c1, h.row.keep fun k hv => hk k (.inr hv), fun o => (World.frozen?_of_block (a := ⟨b, o, none⟩) hb).trans (h.fro o), h.ne⟩
theorem MapC.below {w' : World} (h : MapC w b n v L) (hb : Below w.heap.size w w') : MapC w' b n v L := h.keeps fun k hk => hb.block k (h.lt k hk)
theorem MapC.told {w1 : World} {v' : Value} {L' : List Rg} (h : MapC w b n v L) (hb : w1.heap[b]? = w.heap[b]?) (ho : RowR w1 v' L') (hne : v'.ownBlock ≠ some b) : MapC (w1.setCell ⟨b, 1, none⟩ v') b n v' L' :=
  ⟨(World.cell?_setCell_other _ _ _ _ (by simp)).trans ((World.cell?_of_block (a := ⟨b, 0, none⟩) hb).trans h.c0), World.cell?_setCell_same _ _ _ ((World.cell?_of_block (a := ⟨b, 1, none⟩) hb).trans h.c1), ownsRow_setCell ho _ _ hne,
    fun o => by rw [World.frozen?_setCell]; exact (World.frozen?_of_block (a := ⟨b, o, none⟩) hb).trans (h.fro o), hne⟩
theorem RowR.setHi {g m cap : Nat} (h : RowR w (.slice (some ⟨g, 0, none⟩) m cap) L) {j : Nat} {p : Rg} (hj : L[j]? = some p) (x : Int) :
    RowR (w.setCell ⟨g, j * 2 + 1, none⟩ (.int .i64 x)) (.slice (some ⟨g, 0, none⟩) m cap) (L.set j ⟨p.lo, x⟩) := by
  obtain ⟨hm, hcl, cur, hB, hcur⟩ := h.blk
  subst hm
  have hjl := (List.getElem?_eq_some_iff.1 hj).1
  have hB2 := hB.setCell (j * 2 + 1) (.int .i64 x)
  have e : (L.set j ⟨p.lo, x⟩).length = L.length := by simp
  have := hB2.row (L := L.set j ⟨p.lo, x⟩) (by rw [e]; exact hcl) (by
    rw [e, rrows_set hj, ← hcur, List.take_set])
  rwa [e] at this
end
/-- In the midst of a Give that began at w0, with its range in a block of its own: the map has v and L. -/
structure GS (w0 : World) (b : Nat) (n : Int) (v0 : Value) (r : Rg) (W : World) (v : Value) (L : List Rg) : Prop where
  m : MapC W b n v L
  mv : Moves (fun k => bfp b v0 k) w0 W
  own : ∀ k, bfp b v k → bfp b v0 k ∨ w0.heap.size + 1 ≤ k
  old : ∀ k, bfp b v0 k → k < w0.heap.size
  box : RBox W w0.heap.size r
section
variable {w0 : World} {b : Nat} {n : Int} {v0 : Value} {r : Rg} {W : World} {v : Value} {L : List Rg}
theorem GS.below {W' : World} (h : GS w0 b n v0 r W v L) (hb : Below W.heap.size W W') : GS w0 b n v0 r W' v L :=
  ⟨h.m.below hb, h.mv.trans (Moves.of_below (F := fun _ => False) hb) fun _ hk => hk.elim, h.own, h.old, h.box.below hb⟩
theorem GS.drewN (h : GS w0 b n v0 r W v L) (k : Nat) : GS w0 b n v0 r (W.drewN k) v L := h.below ⟨rfl, rfl, rfl, Nat.le_refl _, fun _ _ => rfl⟩
theorem GS.drew (h : GS w0 b n v0 r W v L) : GS w0 b n v0 r W.drew v L := h.below ⟨rfl, rfl, rfl, Nat.le_refl _, fun _ _ => rfl⟩
/-- What turns the row's block alone, or makes a new one, and is then told. -/
theorem GS.tell {W' : World} {v' : Value} {L' : List Rg} (h : GS w0 b n v0 r W v L) (hr : RowR W' v' L') (hm : Moves (fun q => v.ownBlock = some q) W W') (hn : ∀ q, v'.ownBlock = some q → v.ownBlock = some q ∨ W.heap.size ≤ q) :
    GS w0 b n v0 r (W'.setCell ⟨b, 1, none⟩ v') v' L' := by
  have hbl := h.m.lt b (.inl rfl)
  have hul := h.box.1
  have hub : ¬ v.ownBlock = some w0.heap.size := fun hq => by
    rcases h.own _ (.inr hq) with h1 | h1
    · have := h.old _ h1; omega
    · omega
  have hbu : w0.heap.size ≠ b := fun e => by have := h.old b (.inl rfl); omega
  have hne : v'.ownBlock ≠ some b := fun e => by
    rcases hn b e with h1 | h1
    · exact h.m.ne h1
    · omega
  refine ⟨h.m.told (hm.block b hbl h.m.ne) hr hne, ?_, fun k hk => ?_, h.old, ?_⟩
  · refine Moves.setCell (h.mv.trans hm fun k hk => ?_) _ _ (.inl (.inl rfl))
    rcases h.own k (.inr hk) with h1 | h1
    · exact .inl h1
    · exact .inr (by omega)
  · rcases hk with rfl | hk
    · exact .inl (.inl rfl)
    · rcases hn k hk with h1 | h1
      · exact h.own k (.inr h1)
      · exact .inr (by omega)
  · refine h.box.keep ((Below.heap_setCell _ _ _ _ hbu).trans (hm.block _ hul hub)) (by have := hm.size; simpa using this)
theorem GS.setHi {g m cap : Nat} (h : GS w0 b n v0 r W (.slice (some ⟨g, 0, none⟩) m cap) L) {j : Nat} {p : Rg} (hj : L[j]? = some p) (x : Int) :
    GS w0 b n v0 r (W.setCell ⟨g, j * 2 + 1, none⟩ (.int .i64 x)) (.slice (some ⟨g, 0, none⟩) m cap) (L.set j ⟨p.lo, x⟩) := by
  have hgb : g ≠ b := fun e => h.m.ne (by rw [e]; rfl)
  have hug : g ≠ w0.heap.size := fun e => by
    rcases h.own g (.inr rfl) with h1 | h1
    · have := h.old _ h1; omega
    · omega
  have hb : (W.setCell ⟨g, j * 2 + 1, none⟩ (.int .i64 x)).heap[b]? = W.heap[b]? := Below.heap_setCell _ _ _ _ (Ne.symm hgb)
  refine ⟨⟨(World.cell?_of_block (a := ⟨b, 0, none⟩) hb).trans h.m.c0, (World.cell?_of_block (a := ⟨b, 1, none⟩) hb).trans h.m.c1, h.m.row.setHi hj x, fun o => (World.frozen?_of_block (a := ⟨b, o, none⟩) hb).trans (h.m.fro o), h.m.ne⟩, ?_, h.own, h.old, ?_⟩
  · refine Moves.setCell h.mv _ _ ?_
    rcases h.own g (.inr rfl) with h1 | h1
    · exact .inl h1
    · exact .inr (by show w0.heap.size ≤ g; omega)
  · exact h.box.keep (Below.heap_setCell _ _ _ _ (Ne.symm hug)) (by simp)
/-- At its end. -/
theorem GS.turned (h : GS w0 b n v0 r W v L) (h1 : 1 ≤ n) (h2 : n ≤ 4096) (hR : Rises n (-1) L) : TurnedR w0 b n v0 L W :=
  ⟨v, ⟨h.m.c0, h.m.c1, h.m.row, h.m.fro, h.m.ne, h1, h2, hR⟩, h.mv, fun k hk => by
    rcases h.own k hk with h3 | h3
    · exact .inl h3
    · exact .inr (by omega)⟩
end
/-- May the range be given back? -/
def okG (L : List Rg) (r : Rg) : Bool := match L[atR r.lo L]? with
  | some x => decide (r.hi ≤ x.lo)
  | none => true
def giveE (n : Int) (L : List Rg) (r : Rg) : Int := if mayE n r = 0 then (if okG L r then 0 else 3) else mayE n r
def giveS (n : Int) (L : List Rg) (r : Rg) : List Rg := if mayE n r = 0 ∧ okG L r = true then giveR L r.lo r.hi else L
theorem okG_iff {n : Int} {L : List Rg} {r : Rg} (h : Rises n (-1) L) (h0 : 0 ≤ r.lo) (h1 : r.lo < r.hi) : okG L r = true ↔ noneIn L r.lo r.hi := by
  unfold okG
  cases hx : L[atR r.lo L]? with
  | none => simp only [true_iff]; exact give_none h h0 h1 hx
  | some x => simp only [decide_eq_true_eq]; exact (give_test h h0 h1 hx).symm
/-- Give, as its steps are. -/
theorem give2_step {L : List Rg} {r : Rg} {k : Nat} (hk : atR r.lo L = k) :
    (∀ y, L[k]? = some y → y.lo = r.hi → give2 L r.lo r.hi = ((L.take k ++ r :: L.drop k).set k ⟨r.lo, y.hi⟩).eraseIdx (k + 1)) ∧ ((∀ y, L[k]? = some y → y.lo ≠ r.hi) → give2 L r.lo r.hi = L.take k ++ r :: L.drop k) := by
  have hal := atR_le r.lo L
  rw [hk] at hal
  have htl : (L.take k).length = k := by rw [List.length_take]; omega
  constructor
  · intro y hy hyr
    have hkl := (List.getElem?_eq_some_iff.1 hy).1
    have h1 : (L.take k ++ r :: L.drop k).take k = L.take k := by rw [List.take_append_of_le_length (by omega), List.take_of_length_le (by omega)]
    have h2 : (L.take k ++ r :: L.drop k).drop (k + 2) = L.drop (k + 1) := by
      rw [List.drop_append, htl, List.drop_eq_nil_of_le (by omega), List.nil_append, show k + 2 - k = 2 by omega, List.drop_succ_cons, List.drop_drop]
    rw [set_erase (by simp; omega), h1, h2, give2, hk, hy]
    simp only [if_pos hyr]
  · intro hn
    unfold give2
    rw [hk]
    cases hy : L[k]? with
    | none => simp only [give1, hk]
    | some y => simp only [if_neg (hn y hy), give1, hk]
theorem giveR_step {n : Int} {L : List Rg} {r : Rg} {k : Nat} (hk : atR r.lo L = k) (h : Rises n (-1) L) (h0 : 0 ≤ r.lo) (hab : r.lo < r.hi) (hbn : r.hi ≤ n) (hn : noneIn L r.lo r.hi) :
    (∃ q, (give2 L r.lo r.hi)[k]? = some q) ∧ (∀ j, j < k → (give2 L r.lo r.hi)[j]? = L[j]?) ∧ (k = 0 → giveR L r.lo r.hi = give2 L r.lo r.hi) ∧
    ∀ k' p q, k = k' + 1 → L[k']? = some p → (give2 L r.lo r.hi)[k]? = some q → giveR L r.lo r.hi = if p.hi = r.lo then ((give2 L r.lo r.hi).set k' ⟨p.lo, q.hi⟩).eraseIdx (k' + 1) else give2 L r.lo r.hi := by
  obtain ⟨e, T, hg, -⟩ := give2_form h h0 hab hbn hn
  rw [hk] at hg
  have hal := atR_le r.lo L
  rw [hk] at hal
  have htl : (L.take k).length = k := by rw [List.length_take]; omega
  have hq : (give2 L r.lo r.hi)[k]? = some ⟨r.lo, e⟩ := by rw [hg, List.getElem?_append_right (by omega), htl]; simp
  have hlen : k < (give2 L r.lo r.hi).length := (List.getElem?_eq_some_iff.1 hq).1
  refine ⟨⟨_, hq⟩, fun j hj => ?_, fun h1 => ?_, fun k' p q hk' hp hq' => ?_⟩
  · rw [hg, List.getElem?_append_left (by omega), List.getElem?_take, if_pos hj]
  · unfold giveR
    rw [hk, hq, h1]
  · subst hk'
    unfold giveR
    rw [hk, hq']
    simp only [hp]
    by_cases h2 : p.hi = r.lo
    · rw [if_pos h2, if_pos h2, set_erase (by omega)]
      congr 1
      rw [hg, List.take_append_of_le_length (by omega), List.take_take, Nat.min_eq_left (by omega)]
    · rw [if_neg h2, if_neg h2]
end Go.Proofs.Ytajbodfdohhhoaa
