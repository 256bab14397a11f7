/- The plate of the program as it lies in memory: the cells of block b read as the plain state st; what stays so. -/
import Derived.Test.YtkbncbkmaakpkaaDoorBase
import Derived.Test.YtkbncbkmaakpkaaDoorPs
namespace Go.Proofs.YtkbncbkmaakpkaaDoor
open Go.RowKit

def wcell (x : Nat × List UInt8) : List Value := .int .i64 (x.1 : Int) :: bcells x.2
def wcells (l : List (Nat × List UInt8)) : List Value := l.flatMap wcell
theorem one_wcell (x : Nat × List UInt8) : ∀ v ∈ wcell x, v.oneCell' = true := by
  intro v hv
  rcases List.mem_cons.1 hv with h | h
  · subst h; rfl
  · exact one_bcells _ v h
theorem wcells_at : ∀ (l : List (Nat × List UInt8)) (k : Nat) (x : Nat × List UInt8), (∀ y ∈ l, y.2.length = 32) → l[k]? = some x → ∀ j v, (wcell x)[j]? = some v → (wcells l)[k * 33 + j]? = some v
  | [], k, x, _, h, _, _, _ => by simp at h
  | y :: r, 0, x, _, h, j, v, hv => by
    simp at h
    subst h
    have hj : j < (wcell y).length := (List.getElem?_eq_some_iff.1 hv).1
    show (wcell y ++ wcells r)[0 * 33 + j]? = _
    rw [Nat.zero_mul, Nat.zero_add, List.getElem?_append_left hj]
    exact hv
  | y :: r, k + 1, x, hl, h, j, v, hv => by
    have hy : (wcell y).length = 33 := by simp [wcell, length_bcells, hl y (by simp)]
    show (wcell y ++ wcells r)[(k + 1) * 33 + j]? = _
    rw [List.getElem?_append_right (by omega), hy, show (k + 1) * 33 + j - 33 = k * 33 + j by omega]
    exact wcells_at r k x (fun z hz => hl z (by simp [hz])) (by simpa using h) j v hv
theorem wcells_snoc (l : List (Nat × List UInt8)) (x : Nat × List UInt8) : wcells (l ++ [x]) = wcells l ++ wcell x := by simp [wcells]

/-- The plate that lies in block b; v: the slice of what waits. -/
structure IsPlate (w : World) (b : Nat) (v : Value) (st : PS) : Prop where
  ok : st.ok
  size : w.cell? ⟨b, 0, none⟩ = some (.int .i64 (st.size : Int))
  sec : ∀ i s, st.is[i]? = some s → w.rangeAt b (1 + i * 32) (bcells s)
  wv : w.cell? ⟨b, 4097, none⟩ = some v
  own : w.ownsRow 0 274 33 v st.wait.length (wcells st.wait)
  off : w.cell? ⟨b, 4098, none⟩ = some (.bool st.off)
  left : w.cell? ⟨b, 4099, none⟩ = some (.int .i64 (st.left : Int))
  keep : w.cell? ⟨b, 4100, none⟩ = some (.int .u64 (st.keep : Int))
  calls : w.cell? ⟨b, 4101, none⟩ = some (.int .i64 (st.calls : Int))
  fro : ∀ o, w.frozen? ⟨b, o, none⟩ = false
  ne : v.ownBlock ≠ some b

/-- The blocks of a plate. -/
def pfp (b : Nat) (v : Value) (k : Nat) : Prop := k = b ∨ v.ownBlock = some k

theorem IsPlate.lt {w : World} {b : Nat} {v : Value} {st : PS} (h : IsPlate w b v st) : ∀ k, pfp b v k → k < w.heap.size := by
  intro k hk
  rcases hk with rfl | hk
  · exact World.block_lt_of_cell? w _ h.size
  · exact (h.own.lt k hk).2
theorem IsPlate.keeps {w w' : World} {b : Nat} {v : Value} {st : PS} (h : IsPlate w b v st) (hk : ∀ k, pfp b v k → w'.heap[k]? = w.heap[k]?) : IsPlate w' b v st := by
  have hb := hk b (.inl rfl)
  have hc : ∀ o, w'.cell? ⟨b, o, none⟩ = w.cell? ⟨b, o, none⟩ := fun o => World.cell?_of_block (a := ⟨b, o, none⟩) hb
  exact ⟨h.ok, (hc _).trans h.size, fun i s hs => rangeAt_congr (h.sec i s hs) hb, (hc _).trans h.wv, ownsRow_keep h.own fun k hv => hk k (.inr hv),
    (hc _).trans h.off, (hc _).trans h.left, (hc _).trans h.keep, (hc _).trans h.calls, fun o => (World.frozen?_of_block (a := ⟨b, o, none⟩) hb).trans (h.fro o), h.ne⟩
/-- What turns elsewhere leaves it. -/
theorem IsPlate.moves {w w' : World} {b : Nat} {v : Value} {st : PS} {F : Nat → Prop} (h : IsPlate w b v st) (hm : Moves F w w') (hd : ∀ k, pfp b v k → ¬ F k) : IsPlate w' b v st :=
  h.keeps fun k hk => hm.block k (h.lt k hk) (hd k hk)
theorem IsPlate.alloc {w : World} {b : Nat} {v : Value} {st : PS} (h : IsPlate w b v st) (o : Obj) : IsPlate (w.alloc o) b v st :=
  h.keeps fun k hk => Below.heap_alloc _ _ _ (h.lt k hk)

section
variable {w : World} {b : Nat} {v : Value} {st : PS}
theorem IsPlate.secEnd (h : IsPlate w b v st) {i : Nat} {s : List UInt8} (hs : st.is[i]? = some s) : 1 + i * 32 + (bcells s).length ≤ 4097 := by
  have h1 := (List.getElem?_eq_some_iff.1 hs).1
  have h2 := h.ok.sec s (List.mem_of_getElem? hs)
  have h3 := h.ok.len
  have h4 := h.ok.hi
  simp only [length_bcells]
  omega
theorem IsPlate.setOff (h : IsPlate w b v st) (x : Bool) : IsPlate (w.setCell ⟨b, 4098, none⟩ (.bool x)) b v { st with off := x } := by
  have ho : ∀ o, o ≠ 4098 → (w.setCell ⟨b, 4098, none⟩ (.bool x)).cell? ⟨b, o, none⟩ = w.cell? ⟨b, o, none⟩ := fun o h => World.cell?_setCell_other _ _ _ _ (by simp <;> omega)
  refine ⟨⟨h.ok.lo, h.ok.hi, h.ok.len, h.ok.sec, h.ok.wt, h.ok.left, h.ok.keep⟩, (ho _ (by decide)).trans h.size, fun i s hs => rangeAt_setCell (h.sec i s hs) _ _ (.inr (.inr ?_)), (ho _ (by decide)).trans h.wv,
    ownsRow_setCell h.own _ _ h.ne, World.cell?_setCell_same _ _ _ h.off, (ho _ (by decide)).trans h.left, (ho _ (by decide)).trans h.keep, (ho _ (by decide)).trans h.calls, fun o => by simp [h.fro], h.ne⟩
  exact Nat.le_trans (h.secEnd hs) (by simp)
theorem IsPlate.setLeft (h : IsPlate w b v st) (x : Nat) (hx : x ≤ 9223372036854775807) : IsPlate (w.setCell ⟨b, 4099, none⟩ (.int .i64 (x : Int))) b v { st with left := x } := by
  have ho : ∀ o, o ≠ 4099 → (w.setCell ⟨b, 4099, none⟩ (.int .i64 (x : Int))).cell? ⟨b, o, none⟩ = w.cell? ⟨b, o, none⟩ := fun o h => World.cell?_setCell_other _ _ _ _ (by simp <;> omega)
  refine ⟨⟨h.ok.lo, h.ok.hi, h.ok.len, h.ok.sec, h.ok.wt, hx, h.ok.keep⟩, (ho _ (by decide)).trans h.size, fun i s hs => rangeAt_setCell (h.sec i s hs) _ _ (.inr (.inr ?_)), (ho _ (by decide)).trans h.wv,
    ownsRow_setCell h.own _ _ h.ne, (ho _ (by decide)).trans h.off, World.cell?_setCell_same _ _ _ h.left, (ho _ (by decide)).trans h.keep, (ho _ (by decide)).trans h.calls, fun o => by simp [h.fro], h.ne⟩
  exact Nat.le_trans (h.secEnd hs) (by simp)
theorem IsPlate.setKeep (h : IsPlate w b v st) (x : Nat) (hx : x < 18446744073709551616) : IsPlate (w.setCell ⟨b, 4100, none⟩ (.int .u64 (x : Int))) b v { st with keep := x } := by
  have ho : ∀ o, o ≠ 4100 → (w.setCell ⟨b, 4100, none⟩ (.int .u64 (x : Int))).cell? ⟨b, o, none⟩ = w.cell? ⟨b, o, none⟩ := fun o h => World.cell?_setCell_other _ _ _ _ (by simp <;> omega)
  refine ⟨⟨h.ok.lo, h.ok.hi, h.ok.len, h.ok.sec, h.ok.wt, h.ok.left, hx⟩, (ho _ (by decide)).trans h.size, fun i s hs => rangeAt_setCell (h.sec i s hs) _ _ (.inr (.inr ?_)), (ho _ (by decide)).trans h.wv,
    ownsRow_setCell h.own _ _ h.ne, (ho _ (by decide)).trans h.off, (ho _ (by decide)).trans h.left, World.cell?_setCell_same _ _ _ h.keep, (ho _ (by decide)).trans h.calls, fun o => by simp [h.fro], h.ne⟩
  exact Nat.le_trans (h.secEnd hs) (by simp)
theorem IsPlate.setCalls (h : IsPlate w b v st) : IsPlate (w.setCell ⟨b, 4101, none⟩ (.int .i64 ((st.calls : Int) + 1))) b v st.counts := by
  have ho : ∀ o, o ≠ 4101 → (w.setCell ⟨b, 4101, none⟩ (.int .i64 ((st.calls : Int) + 1))).cell? ⟨b, o, none⟩ = w.cell? ⟨b, o, none⟩ := fun o h => World.cell?_setCell_other _ _ _ _ (by simp <;> omega)
  refine ⟨h.ok.counts, (ho _ (by decide)).trans h.size, fun i s hs => rangeAt_setCell (h.sec i s hs) _ _ (.inr (.inr ?_)), (ho _ (by decide)).trans h.wv,
    ownsRow_setCell h.own _ _ h.ne, (ho _ (by decide)).trans h.off, (ho _ (by decide)).trans h.left, (ho _ (by decide)).trans h.keep, ?_, fun o => by simp [h.fro], h.ne⟩
  · exact Nat.le_trans (h.secEnd hs) (by simp)
  · rw [World.cell?_setCell_same _ _ _ h.calls]; simp [PS.counts]
/-- A sector is written in part. -/
theorem IsPlate.setSec (h : IsPlate w b v st) (i k : Nat) (s : List UInt8) (hi : i < st.size) (hk : k ≤ 32) (hs : s.length = 32) :
    IsPlate (w.setCells b (1 + i * 32) (bcells (s.take k))) b v { st with is := put1 st.is i k s } := by
  have hlen : (bcells (s.take k)).length = k := by simp [length_bcells, hs]; omega
  have h4 := h.ok.hi
  have h3 := h.ok.len
  have ho : ∀ o, 4097 ≤ o ∨ o = 0 → (w.setCells b (1 + i * 32) (bcells (s.take k))).cell? ⟨b, o, none⟩ = w.cell? ⟨b, o, none⟩ := fun o ho => World.cell?_setCells_out b _ _ w _ (fun _ _ => by
    rcases ho with ho | ho
    · right; rw [hlen]; show _ ≤ o; omega
    · left; show o < _; omega)
  have hold : st.is[i]? = some (st.is.getD i []) := by rw [List.getD_eq_getElem?_getD, List.getElem?_eq_getElem (by omega)]; rfl
  have holen : (st.is.getD i []).length = 32 := h.ok.sec _ (List.mem_of_getElem? hold)
  have hcell := h.sec i _ hold
  refine ⟨⟨h.ok.lo, h.ok.hi, (length_put1 _ _ _ _).trans h.ok.len, put1_len h.ok.sec hs (by omega), h.ok.wt, h.ok.left, h.ok.keep⟩, (ho _ (by simp)).trans h.size, ?_, (ho _ (by simp)).trans h.wv,
    ownsRow_setCells h.own _ _ _ h.ne, (ho _ (by simp)).trans h.off, (ho _ (by simp)).trans h.left, (ho _ (by simp)).trans h.keep, (ho _ (by simp)).trans h.calls, fun o => by rw [World.frozen?_setCells]; exact h.fro o, h.ne⟩
  intro n t ht
  simp only [put1] at ht
  by_cases hn : i = n
  · subst hn
    rw [List.getElem?_set_self (by omega)] at ht
    simp only [Option.some.injEq] at ht
    subst ht
    intro j u hu
    have hj : j < 32 := by
      have := (List.getElem?_eq_some_iff.1 hu).1
      simp only [length_bcells, List.length_append, List.length_take, List.length_drop, hs, holen] at this
      omega
    simp only [bcells, List.map_append] at hu
    by_cases hjk : j < k
    · rw [List.getElem?_append_left (by simp [hs]; omega)] at hu
      have hjl : j < (bcells (s.take k)).length := by omega
      rw [World.cell?_setCells_in b _ _ w (fun q hq => by
        have hq' : q < (bcells (st.is.getD i [])).length := by rw [length_bcells, holen]; omega
        rw [hcell q _ (List.getElem?_eq_getElem hq')]; rfl) j hjl]
      rw [← hu]
      exact (List.getElem?_eq_getElem hjl).symm
    · rw [List.getElem?_append_right (by simp [hs]; omega)] at hu
      rw [World.cell?_setCells_out b _ _ w _ (fun _ _ => by right; rw [hlen]; show _ ≤ 1 + i * 32 + j; omega)]
      refine hcell j u ?_
      rw [← hu]
      have e : (List.map (fun b : UInt8 => Value.int IntKind.u8 (b.toNat : Int)) (List.take k s)).length = k := by simp [hs]; omega
      rw [e]
      simp only [bcells, List.getElem?_map, List.getElem?_drop]
      rw [show k + (j - k) = j by omega]
  · rw [List.getElem?_set_ne hn] at ht
    have h1 := (List.getElem?_eq_some_iff.1 ht).1
    have h2 := h.ok.sec t (List.mem_of_getElem? ht)
    refine World.rangeAt_setCells_apart (h.sec n t ht) _ _ _ (.inr ?_)
    rw [hlen, length_bcells, h2]
    omega
end
/-- Nothing waits any more. -/
theorem IsPlate.setNil {w : World} {b : Nat} {v : Value} {st : PS} (h : IsPlate w b v st) : IsPlate (w.setCell ⟨b, 4097, none⟩ (.slice none 0 0)) b (.slice none 0 0) { st with wait := [] } := by
  have ho : ∀ o, o ≠ 4097 → (w.setCell ⟨b, 4097, none⟩ (.slice none 0 0)).cell? ⟨b, o, none⟩ = w.cell? ⟨b, o, none⟩ := fun o h => World.cell?_setCell_other _ _ _ _ (by simp <;> omega)
  refine ⟨⟨h.ok.lo, h.ok.hi, h.ok.len, h.ok.sec, fun x hx => by simp at hx, h.ok.left, h.ok.keep⟩, (ho _ (by decide)).trans h.size, fun i s hs => rangeAt_setCell (h.sec i s hs) _ _ (.inr (.inr ?_)), World.cell?_setCell_same _ _ _ h.wv,
    World.ownsRow_nil _ _ _ _, (ho _ (by decide)).trans h.off, (ho _ (by decide)).trans h.left, (ho _ (by decide)).trans h.keep, (ho _ (by decide)).trans h.calls, fun o => by simp [h.fro], by simp [Value.ownBlock]⟩
  exact Nat.le_trans (h.secEnd hs) (by simp)
/-- One more waits: its row is there, and the field is told. -/
theorem IsPlate.push {w w1 : World} {b : Nat} {v v' : Value} {st : PS} {i : Nat} {s : List UInt8} (h : IsPlate w b v st) (hb : w1.heap[b]? = w.heap[b]?)
    (hown : w1.ownsRow 0 274 33 v' (st.wait.length + 1) (wcells st.wait ++ wcell (i, s))) (hne : v'.ownBlock ≠ some b) (hi : i < st.size) (hs : s.length = 32) :
    IsPlate (w1.setCell ⟨b, 4097, none⟩ v') b v' (st.waits i s) := by
  have hc : ∀ o, w1.cell? ⟨b, o, none⟩ = w.cell? ⟨b, o, none⟩ := fun o => World.cell?_of_block (a := ⟨b, o, none⟩) hb
  have ho : ∀ o, o ≠ 4097 → (w1.setCell ⟨b, 4097, none⟩ v').cell? ⟨b, o, none⟩ = w.cell? ⟨b, o, none⟩ := fun o h => (World.cell?_setCell_other _ _ _ _ (by simp <;> omega)).trans (hc o)
  refine ⟨h.ok.waits hi hs, (ho _ (by decide)).trans h.size, fun i s hs => rangeAt_setCell (rangeAt_congr (h.sec i s hs) hb) _ _ (.inr (.inr ?_)), World.cell?_setCell_same _ _ _ ((hc _).trans h.wv),
    ?_, (ho _ (by decide)).trans h.off, (ho _ (by decide)).trans h.left, (ho _ (by decide)).trans h.keep, (ho _ (by decide)).trans h.calls,
    fun o => by rw [World.frozen?_setCell]; exact (World.frozen?_of_block (a := ⟨b, o, none⟩) hb).trans (h.fro o), hne⟩
  · exact Nat.le_trans (h.secEnd hs) (by simp)
  · have e : (st.waits i s).wait.length = st.wait.length + 1 := by simp [PS.waits]
    rw [e, PS.waits, wcells_snoc]
    exact ownsRow_setCell hown _ _ hne
end Go.Proofs.YtkbncbkmaakpkaaDoor
