/- The reference's plate as it lies in memory: the cells of block b, the row of what lasts, the row of what waits; what stays so. -/
import Derived.Test.YtahmnehfadiegaaBase
import Derived.Test.YtahmnehfadiegaaPs
namespace Go.Proofs.Ytahmnehfadiegaa
open Go.RowKit

/-- Bytes as a string. -/
def str (l : List UInt8) : Value := .string ⟨l.toArray⟩
def scells (l : List (List UInt8)) : List Value := l.map str
def rcell (x : Nat × List UInt8) : List Value := [.int .i64 (x.1 : Int), str x.2]
def rcells (l : List (Nat × List UInt8)) : List Value := l.flatMap rcell
theorem rcells_at : ∀ (l : List (Nat × List UInt8)) (k : Nat) (x : Nat × List UInt8), l[k]? = some x → ∀ j v, (rcell x)[j]? = some v → (rcells l)[k * 2 + j]? = some v
  | [], k, x, h, _, _, _ => by simp at h
  | y :: r, 0, x, h, j, v, hv => by
    simp at h
    subst h
    have hj : j < (rcell y).length := (List.getElem?_eq_some_iff.1 hv).1
    show (rcell y ++ rcells r)[0 * 2 + j]? = _
    rw [Nat.zero_mul, Nat.zero_add, List.getElem?_append_left hj]
    exact hv
  | y :: r, k + 1, x, h, j, v, hv => by
    have hy : (rcell y).length = 2 := rfl
    show (rcell y ++ rcells r)[(k + 1) * 2 + j]? = _
    rw [List.getElem?_append_right (by omega), hy, show (k + 1) * 2 + j - 2 = k * 2 + j by omega]
    exact rcells_at r k x (by simpa using h) j v hv
theorem rcells_snoc (l : List (Nat × List UInt8)) (x : Nat × List UInt8) : rcells (l ++ [x]) = rcells l ++ rcell x := by simp [rcells]
theorem length_rcells (l : List (Nat × List UInt8)) : (rcells l).length = l.length * 2 := by
  induction l with
  | nil => rfl
  | cons x r ih => show (rcell x ++ rcells r).length = _; rw [List.length_append, ih]; simp [rcell]; omega
theorem one_rcells : ∀ (l : List (Nat × List UInt8)), ∀ v ∈ rcells l, v.oneCell' = true := by
  intro l v hv
  simp [rcells, rcell] at hv
  obtain ⟨a, b, _, h⟩ := hv
  rcases h with h | h <;> subst h <;> rfl

/-- The reference's plate in block b; vi: the slice of what lasts, vw: of what waits. -/
structure IsRef (w : World) (b : Nat) (vi vw : Value) (st : PS) : Prop where
  ok : st.ok
  cvi : w.cell? ⟨b, 0, none⟩ = some vi
  is : w.ownsRow 0 9 1 vi st.is.length (scells st.is)
  cvw : w.cell? ⟨b, 1, none⟩ = some vw
  wait : w.ownsRow 0 64 2 vw st.wait.length (rcells st.wait)
  off : w.cell? ⟨b, 2, none⟩ = some (.bool st.off)
  left : w.cell? ⟨b, 3, none⟩ = some (.int .i64 (st.left : Int))
  keep : w.cell? ⟨b, 4, none⟩ = some (.int .u64 (st.keep : Int))
  calls : w.cell? ⟨b, 5, none⟩ = some (.int .i64 (st.calls : Int))
  fro : ∀ o, w.frozen? ⟨b, o, none⟩ = false
  ni : vi.ownBlock ≠ some b
  nw : vw.ownBlock ≠ some b
  iw : ∀ k, vi.ownBlock = some k → vw.ownBlock ≠ some k

def rfp (b : Nat) (vi vw : Value) (k : Nat) : Prop := k = b ∨ vi.ownBlock = some k ∨ vw.ownBlock = some k

section
variable {w : World} {b : Nat} {vi vw : Value} {st : PS}
theorem IsRef.lt (h : IsRef w b vi vw st) : ∀ k, rfp b vi vw k → k < w.heap.size := by
  intro k hk
  rcases hk with rfl | hk | hk
  · exact World.block_lt_of_cell? w _ h.cvi
  · exact (h.is.lt k hk).2
  · exact (h.wait.lt k hk).2
theorem IsRef.keeps {w' : World} (h : IsRef w b vi vw st) (hk : ∀ k, rfp b vi vw k → w'.heap[k]? = w.heap[k]?) : IsRef w' b vi vw st := by
  have hb := hk b (.inl rfl)
  have hc : ∀ o, w'.cell? ⟨b, o, none⟩ = w.cell? ⟨b, o, none⟩ := fun o => World.cell?_of_block (a := ⟨b, o, none⟩) hb
  exact ⟨h.ok, (hc _).trans h.cvi, ownsRow_keep h.is fun k hv => hk k (.inr (.inl hv)), (hc _).trans h.cvw, ownsRow_keep h.wait fun k hv => hk k (.inr (.inr hv)),
    (hc _).trans h.off, (hc _).trans h.left, (hc _).trans h.keep, (hc _).trans h.calls, fun o => (World.frozen?_of_block (a := ⟨b, o, none⟩) hb).trans (h.fro o), h.ni, h.nw, h.iw⟩
theorem IsRef.moves {w' : World} {F : Nat → Prop} (h : IsRef w b vi vw st) (hm : Moves F w w') (hd : ∀ k, rfp b vi vw k → ¬ F k) : IsRef w' b vi vw st :=
  h.keeps fun k hk => hm.block k (h.lt k hk) (hd k hk)
theorem IsRef.below {w' : World} (h : IsRef w b vi vw st) (hb : Below w.heap.size w w') : IsRef w' b vi vw st := h.keeps fun k hk => hb.block k (h.lt k hk)
theorem IsRef.alloc (h : IsRef w b vi vw st) (o : Obj) : IsRef (w.alloc o) b vi vw st :=
  h.keeps fun k hk => Below.heap_alloc _ _ _ (h.lt k hk)
theorem IsRef.drew (h : IsRef w b vi vw st) : IsRef w.drew b vi vw st := h.keeps fun _ _ => rfl
/-- One of the six cells is told anew; which one, and to what, is said by the last premise. -/
theorem IsRef.setField (h : IsRef w b vi vw st) (o : Nat) (u : Value) (st' : PS) (vi' vw' : Value) (hok : st'.ok) (his : st'.is = st.is) (hwt : (vw' = vw ∧ st'.wait = st.wait) ∨ (vw' = .slice none 0 0 ∧ st'.wait = [])) (hvi : vi' = vi)
    (h1 : (w.setCell ⟨b, o, none⟩ u).cell? ⟨b, 1, none⟩ = some vw') (h0 : o ≠ 0)
    (h2 : (w.setCell ⟨b, o, none⟩ u).cell? ⟨b, 2, none⟩ = some (.bool st'.off)) (h3 : (w.setCell ⟨b, o, none⟩ u).cell? ⟨b, 3, none⟩ = some (.int .i64 (st'.left : Int)))
    (h4 : (w.setCell ⟨b, o, none⟩ u).cell? ⟨b, 4, none⟩ = some (.int .u64 (st'.keep : Int))) (h5 : (w.setCell ⟨b, o, none⟩ u).cell? ⟨b, 5, none⟩ = some (.int .i64 (st'.calls : Int))) :
    IsRef (w.setCell ⟨b, o, none⟩ u) b vi' vw' st' := by
  subst hvi
  have hfr : ∀ o', (w.setCell ⟨b, o, none⟩ u).frozen? ⟨b, o', none⟩ = false := fun o' => by simp [h.fro]
  have hc0 : (w.setCell ⟨b, o, none⟩ u).cell? ⟨b, 0, none⟩ = some vi' := (World.cell?_setCell_other _ _ _ _ (by simp <;> exact h0)).trans h.cvi
  have hi : (w.setCell ⟨b, o, none⟩ u).ownsRow 0 9 1 vi' st'.is.length (scells st'.is) := by rw [his]; exact ownsRow_setCell h.is _ _ h.ni
  rcases hwt with ⟨rfl, hw⟩ | ⟨rfl, hw⟩
  · exact ⟨hok, hc0, hi, h1, by rw [hw]; exact ownsRow_setCell h.wait _ _ h.nw, h2, h3, h4, h5, hfr, h.ni, h.nw, h.iw⟩
  · exact ⟨hok, hc0, hi, h1, by rw [hw]; exact World.ownsRow_nil _ _ _ _, h2, h3, h4, h5, hfr, h.ni, by simp [Value.ownBlock], fun k _ => by simp [Value.ownBlock]⟩
theorem IsRef.other (_h : IsRef w b vi vw st) (o o' : Nat) (u : Value) (hne : o ≠ o') : (w.setCell ⟨b, o, none⟩ u).cell? ⟨b, o', none⟩ = w.cell? ⟨b, o', none⟩ := World.cell?_setCell_other _ _ _ _ (by simp <;> exact hne)
theorem IsRef.setOff (h : IsRef w b vi vw st) (x : Bool) : IsRef (w.setCell ⟨b, 2, none⟩ (.bool x)) b vi vw { st with off := x } :=
  h.setField 2 (.bool x) _ vi vw ⟨h.ok.lo, h.ok.hi, h.ok.len, h.ok.sec, h.ok.wt, h.ok.left, h.ok.keep⟩ rfl (.inl ⟨rfl, rfl⟩) rfl ((h.other _ _ _ (by decide)).trans h.cvw) (by decide) (World.cell?_setCell_same _ _ _ h.off)
    ((h.other _ _ _ (by decide)).trans h.left) ((h.other _ _ _ (by decide)).trans h.keep) ((h.other _ _ _ (by decide)).trans h.calls)
theorem IsRef.setLeft (h : IsRef w b vi vw st) (x : Nat) (hx : x ≤ 9223372036854775807) : IsRef (w.setCell ⟨b, 3, none⟩ (.int .i64 (x : Int))) b vi vw { st with left := x } :=
  h.setField 3 _ _ vi vw ⟨h.ok.lo, h.ok.hi, h.ok.len, h.ok.sec, h.ok.wt, hx, h.ok.keep⟩ rfl (.inl ⟨rfl, rfl⟩) rfl ((h.other _ _ _ (by decide)).trans h.cvw) (by decide) ((h.other _ _ _ (by decide)).trans h.off)
    (World.cell?_setCell_same _ _ _ h.left) ((h.other _ _ _ (by decide)).trans h.keep) ((h.other _ _ _ (by decide)).trans h.calls)
theorem IsRef.setKeep (h : IsRef w b vi vw st) (x : Nat) (hx : x < 18446744073709551616) : IsRef (w.setCell ⟨b, 4, none⟩ (.int .u64 (x : Int))) b vi vw { st with keep := x } :=
  h.setField 4 _ _ vi vw ⟨h.ok.lo, h.ok.hi, h.ok.len, h.ok.sec, h.ok.wt, h.ok.left, hx⟩ rfl (.inl ⟨rfl, rfl⟩) rfl ((h.other _ _ _ (by decide)).trans h.cvw) (by decide) ((h.other _ _ _ (by decide)).trans h.off)
    ((h.other _ _ _ (by decide)).trans h.left) (World.cell?_setCell_same _ _ _ h.keep) ((h.other _ _ _ (by decide)).trans h.calls)
theorem IsRef.setCalls (h : IsRef w b vi vw st) : IsRef (w.setCell ⟨b, 5, none⟩ (.int .i64 ((st.calls : Int) + 1))) b vi vw st.counts :=
  h.setField 5 _ st.counts vi vw h.ok.counts rfl (.inl ⟨rfl, rfl⟩) rfl ((h.other _ _ _ (by decide)).trans h.cvw) (by decide) ((h.other _ _ _ (by decide)).trans h.off)
    ((h.other _ _ _ (by decide)).trans h.left) ((h.other _ _ _ (by decide)).trans h.keep) (by rw [World.cell?_setCell_same _ _ _ h.calls]; simp [PS.counts])
theorem IsRef.setNil (h : IsRef w b vi vw st) : IsRef (w.setCell ⟨b, 1, none⟩ (.slice none 0 0)) b vi (.slice none 0 0) { st with wait := [] } :=
  h.setField 1 _ _ vi _ ⟨h.ok.lo, h.ok.hi, h.ok.len, h.ok.sec, fun x hx => by simp at hx, h.ok.left, h.ok.keep⟩ rfl (.inr ⟨rfl, rfl⟩) rfl (World.cell?_setCell_same _ _ _ h.cvw) (by decide) ((h.other _ _ _ (by decide)).trans h.off)
    ((h.other _ _ _ (by decide)).trans h.left) ((h.other _ _ _ (by decide)).trans h.keep) ((h.other _ _ _ (by decide)).trans h.calls)
/-- One more waits: its row is there, and the field is told. -/
theorem IsRef.push {w1 : World} {vw' : Value} {i : Nat} {s : List UInt8} (h : IsRef w b vi vw st) (hb : w1.heap[b]? = w.heap[b]?) (hbi : ∀ k, vi.ownBlock = some k → w1.heap[k]? = w.heap[k]?)
    (hown : w1.ownsRow 0 64 2 vw' (st.wait.length + 1) (rcells st.wait ++ rcell (i, s))) (hne : vw'.ownBlock ≠ some b) (hni : ∀ k, vi.ownBlock = some k → vw'.ownBlock ≠ some k) (hi : i < st.size) (hs : s.length = 32) :
    IsRef (w1.setCell ⟨b, 1, none⟩ vw') b vi vw' (st.waits i s) := by
  have hc : ∀ o, w1.cell? ⟨b, o, none⟩ = w.cell? ⟨b, o, none⟩ := fun o => World.cell?_of_block (a := ⟨b, o, none⟩) hb
  have ho : ∀ o, 1 ≠ o → (w1.setCell ⟨b, 1, none⟩ vw').cell? ⟨b, o, none⟩ = w.cell? ⟨b, o, none⟩ := fun o h => (World.cell?_setCell_other _ _ _ _ (by simp <;> exact h)).trans (hc o)
  refine ⟨h.ok.waits hi hs, (ho _ (by decide)).trans h.cvi, ownsRow_setCell (ownsRow_keep h.is hbi) _ _ h.ni, World.cell?_setCell_same _ _ _ ((hc _).trans h.cvw), ?_, (ho _ (by decide)).trans h.off, (ho _ (by decide)).trans h.left,
    (ho _ (by decide)).trans h.keep, (ho _ (by decide)).trans h.calls, fun o => by rw [World.frozen?_setCell]; exact (World.frozen?_of_block (a := ⟨b, o, none⟩) hb).trans (h.fro o), h.ni, hne, hni⟩
  have e : (st.waits i s).wait.length = st.wait.length + 1 := by simp [PS.waits]
  rw [e, PS.waits, rcells_snoc]
  exact ownsRow_setCell hown _ _ hne
/-- What lasts in a sector is told anew. -/
theorem IsRef.setSec {g cap : Nat} (h : IsRef w b (.slice (some ⟨g, 0, none⟩) st.is.length cap) vw st) (i : Nat) (s : List UInt8) (hs : s.length = 32) :
    IsRef (w.setCell ⟨g, i, none⟩ (str s)) b (.slice (some ⟨g, 0, none⟩) st.is.length cap) vw { st with is := st.is.set i s } := by
  have hgb : g ≠ b := fun e => h.ni (by simp [Value.ownBlock, e])
  have ho : ∀ o, (w.setCell ⟨g, i, none⟩ (str s)).cell? ⟨b, o, none⟩ = w.cell? ⟨b, o, none⟩ := fun o => World.cell?_setCell_other _ _ _ _ (by simp <;> exact fun e => absurd e hgb)
  refine ⟨⟨h.ok.lo, h.ok.hi, by simpa using h.ok.len, fun x hx => ?_, h.ok.wt, h.ok.left, h.ok.keep⟩, (ho _).trans h.cvi, ?_, (ho _).trans h.cvw, ownsRow_setCell h.wait _ _ ?_, (ho _).trans h.off, (ho _).trans h.left,
    (ho _).trans h.keep, (ho _).trans h.calls, fun o => by rw [World.frozen?_setCell]; exact h.fro o, h.ni, h.nw, h.iw⟩
  · rcases List.mem_or_eq_of_mem_set hx with h1 | h1
    · exact h.ok.sec x h1
    · rw [h1]; exact hs
  · have := (h.is.stored i (str s)).1
    simpa [scells, List.map_set] using this
  · exact h.iw g rfl
end
end Go.Proofs.Ytahmnehfadiegaa
