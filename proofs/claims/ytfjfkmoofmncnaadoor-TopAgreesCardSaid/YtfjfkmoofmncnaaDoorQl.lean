/- quorum: Len; nine Learns make the logs one; a group over a law's loops. -/
import Derived.Test.YtfjfkmoofmncnaaDoorQk
import Derived.Test.YtfjfkmoofmncnaaDoorRp
namespace Go.Proofs.YtfjfkmoofmncnaaDoor
open Go.RowKit
theorem PX.take_log (s : PX ByteArray) (i o j : Nat) : (s.take i o).log j = if j = i ∧ (s.log i).length < (s.log o).length then s.log o else s.log j := by
  unfold PX.take
  by_cases h : (s.log i).length < (s.log o).length
  · rw [if_pos h]
    show (if j = i then s.log o else s.log j) = _
    by_cases hj : j = i
    · rw [if_pos hj, if_pos ⟨hj, h⟩]
    · rw [if_neg hj, if_neg fun e => hj e.1]
  · rw [if_neg h, if_neg fun e => h e.2]
/-- m of the nine Learns. -/
def lrn (s : PX ByteArray) : Nat → PX ByteArray
  | 0 => s
  | m + 1 => (lrn s m).take (m / 3) (m % 3)
section
variable {G : ByteArray → Prop} {s : PX ByteArray} {k : Nat}
theorem PB.up (h : PB G s k) : PB G s (k + 1) :=
  ⟨h.inv, fun i hi => by have := h.r i hi; omega, fun i hi => by have := h.p i hi; omega, fun i hi => by have := h.l i hi; omega, h.gv, h.gl⟩
theorem PB.ups (h : PB G s k) : ∀ {m : Nat}, k ≤ m → PB G s m
  | m, hm => by
    obtain ⟨d, rfl⟩ := Nat.le.dest hm
    clear hm
    induction d with
    | zero => exact h
    | succ d ih => exact ih.up
theorem PB.take (h : PB G s k) {me o : Nat} (ho : o < 3) : PB G (s.take me o) k := by
  unfold PX.take
  split
  · exact h.learn ho
  · exact h
theorem PB.lrn (h : PB G s k) : ∀ m, PB G (lrn s m) k
  | 0 => h
  | m + 1 => (PB.lrn h m).take (Nat.mod_lt _ (by decide))
theorem lrn_len (s : PX ByteArray) : ((lrn s 9).log 1).length = ((lrn s 9).log 0).length ∧ ((lrn s 9).log 2).length = ((lrn s 9).log 0).length := by
  obtain ⟨L, hL⟩ : ∃ L : Nat → Nat → Nat, ∀ m j, L m j = ((lrn s m).log j).length := ⟨fun m j => ((lrn s m).log j).length, fun _ _ => rfl⟩
  have st : ∀ m j, L (m + 1) j = if j = m / 3 ∧ L m (m / 3) < L m (m % 3) then L m (m % 3) else L m j := fun m j => by
    rw [hL, hL, hL, hL]
    show (((lrn s m).take (m / 3) (m % 3)).log j).length = _
    rw [PX.take_log]
    split <;> rfl
  have oth : ∀ m j, j ≠ m / 3 → L (m + 1) j = L m j := fun m j hj => by rw [st, if_neg fun e => hj e.1]
  have same : ∀ m, L (m + 1) (m / 3) = max (L m (m / 3)) (L m (m % 3)) := fun m => by
    rw [st]
    split <;> omega
  rw [← hL, ← hL, ← hL]
  have a0 : L 1 0 = max (L 0 0) (L 0 0) := same 0
  have a1 : L 1 1 = L 0 1 := oth 0 1 (by decide)
  have a2 : L 1 2 = L 0 2 := oth 0 2 (by decide)
  have b0 : L 2 0 = max (L 1 0) (L 1 1) := same 1
  have b1 : L 2 1 = L 1 1 := oth 1 1 (by decide)
  have b2 : L 2 2 = L 1 2 := oth 1 2 (by decide)
  have c0 : L 3 0 = max (L 2 0) (L 2 2) := same 2
  have c1 : L 3 1 = L 2 1 := oth 2 1 (by decide)
  have c2 : L 3 2 = L 2 2 := oth 2 2 (by decide)
  have d0 : L 4 0 = L 3 0 := oth 3 0 (by decide)
  have d1 : L 4 1 = max (L 3 1) (L 3 0) := same 3
  have d2 : L 4 2 = L 3 2 := oth 3 2 (by decide)
  have e0 : L 5 0 = L 4 0 := oth 4 0 (by decide)
  have e1 : L 5 1 = max (L 4 1) (L 4 1) := same 4
  have e2 : L 5 2 = L 4 2 := oth 4 2 (by decide)
  have f0 : L 6 0 = L 5 0 := oth 5 0 (by decide)
  have f1 : L 6 1 = max (L 5 1) (L 5 2) := same 5
  have f2 : L 6 2 = L 5 2 := oth 5 2 (by decide)
  have g0 : L 7 0 = L 6 0 := oth 6 0 (by decide)
  have g1 : L 7 1 = L 6 1 := oth 6 1 (by decide)
  have g2 : L 7 2 = max (L 6 2) (L 6 0) := same 6
  have h0 : L 8 0 = L 7 0 := oth 7 0 (by decide)
  have h1 : L 8 1 = L 7 1 := oth 7 1 (by decide)
  have h2 : L 8 2 = max (L 7 2) (L 7 1) := same 7
  have i0 : L 9 0 = L 8 0 := oth 8 0 (by decide)
  have i1 : L 9 1 = L 8 1 := oth 8 1 (by decide)
  have i2 : L 9 2 = max (L 8 2) (L 8 2) := same 8
  clear st oth same hL
  omega
theorem log_same (h : Inv s) {i : Nat} (hi : i < 3) (hl : (s.log i).length = (s.log 0).length) : s.log i = s.log 0 := by
  refine List.ext_getElem? fun m => ?_
  by_cases hm : m < (s.log 0).length
  · have h1 := List.getElem?_eq_getElem hm
    have h2 := List.getElem?_eq_getElem (l := s.log i) (i := m) (by omega)
    rw [h1, h2]
    exact congrArg some (h.agree hi (by decide) h2 h1)
  · rw [List.getElem?_eq_none (by omega), List.getElem?_eq_none (by omega)]
/-- Behind the nine: one log. -/
theorem lrn_one (h : PB G s k) : ∀ i, i < 3 → (lrn s 9).log i = (lrn s 9).log 0 := fun i hi => by
  obtain ⟨l1, l2⟩ := lrn_len s
  refine log_same (h.lrn 9).inv hi ?_
  rcases (by omega : i = 0 ∨ i = 1 ∨ i = 2) with rfl | rfl | rfl
  · rfl
  · exact l1
  · exact l2
end
/-- What is sent: an Encode's text. -/
def GC (x : ByteArray) : Prop := ∃ c : Cm, c.Fits ∧ x = bstr (encC c)
theorem GC.size {x : ByteArray} (h : GC x) : x.size ≤ 1024 := by
  obtain ⟨c, -, rfl⟩ := h
  rw [bstr_size, encC_len]
  decide
theorem texts_of : ∀ (l : List ByteArray), (∀ x ∈ l, GC x) → ∃ cs, FitsAll cs ∧ l = texts cs
  | [], _ => ⟨[], fun _ h => by simp at h, rfl⟩
  | x :: l, h => by
    obtain ⟨c, hc, rfl⟩ := h x (by simp)
    obtain ⟨cs, h1, rfl⟩ := texts_of l fun y hy => h y (by simp [hy])
    refine ⟨c :: cs, fun y hy => ?_, rfl⟩
    rcases List.mem_cons.1 hy with rfl | hy
    · exact hc
    · exact h1 y hy
/-- The group behind m of the nine Learns. -/
def LQ (B m gb : Nat) (w : World) : Prop := ∃ q X I f n s, q.gb = gb ∧ IsQ w q X I f n (lrn s m) ∧ (∀ j, X j → B ≤ j) ∧ PB GC s 20
section
variable {w w' : World} {B k m gb : Nat} {G : ByteArray → Prop}
theorem QS.up (h : QS G B k gb w) : QS G B (k + 1) gb w := by
  obtain ⟨q, X, I, f, n, s, h1, h2, h3, h4, h5⟩ := h
  exact ⟨q, X, I, f, n, s, h1, h2, h3, by omega, h5.up⟩
theorem QS.below (h : QS G B k gb w) (hb : Below w.heap.size w w') : QS G B k gb w' := by
  obtain ⟨q, X, I, f, n, s, h1, h2, h3⟩ := h
  exact ⟨q, X, I, f, n, s, h1, h2.below hb, h3⟩
theorem QS.lq (h : QS GC B k gb w) (hk : k ≤ 20) : LQ B 0 gb w := by
  obtain ⟨q, X, I, f, n, s, h1, h2, h3, _, h5⟩ := h
  exact ⟨q, X, I, f, n, s, h1, h2, h3, h5.ups hk⟩
theorem LQ.below (h : LQ B m gb w) (hb : Below w.heap.size w w') : LQ B m gb w' := by
  obtain ⟨q, X, I, f, n, s, h1, h2, h3⟩ := h
  exact ⟨q, X, I, f, n, s, h1, h2.below hb, h3⟩
theorem QS.propose (h : QS GC B k gb w) (hB : B ≤ w.heap.size) (hk : k ≤ 20) {who : Nat} (hw : who < 3) {t : ByteArray} (ht : GC t) (loss : Int) :
    Calls Tryd.prog 8 #[.pointer (some ⟨gb, 0, none⟩), .int .i64 (who : Int), .string t, .int .u64 loss] w fun e w' => (∃ v, e = .returned v) ∧ Below B w w' ∧ QS GC B (k + 1) gb w' := by
  obtain ⟨q, X, I, f, n, s, rfl, h2, h3, h4, h5⟩ := h
  exact propose_any h2 hB h3 h4 h5 hk hw ht (fun _ hy => hy.size) loss
theorem LQ.learn (h : LQ B m gb w) (hB : B ≤ w.heap.size) {i o : Nat} (hi : i < 3) (ho : o < 3) (hm : m = 3 * i + o) :
    Calls Tryd.prog 9 #[.pointer (some ⟨gb, 0, none⟩), .int .i64 (i : Int), .int .i64 (o : Int)] w fun e w' => (∃ v, e = .returned v) ∧ Below B w w' ∧ LQ B (m + 1) gb w' := by
  obtain ⟨q, X, I, f, n, s, rfl, h2, h3, h5⟩ := h
  refine (learn_any h2 hi ho fun j hj => ?_).mono fun e w' ⟨hv, q', X', hg, hq, hX, hM⟩ => ⟨hv, hM.below hB h3, q', X', I, f, n, s, hg, ?_, fun j hj => ?_, h5⟩
  · have := (h5.lrn m).l j hj
    omega
  · have e1 : m / 3 = i := by omega
    have e2 : m % 3 = o := by omega
    show IsQ w' q' X' I f n ((lrn s m).take (m / 3) (m % 3))
    rw [e1, e2]
    exact hq
  · rcases hX j hj with hj | hj
    · exact h3 j hj
    · exact Nat.le_trans hB hj
/-- One log, of commands that fit: each node gives it. -/
theorem LQ.logs (h : LQ B 9 gb w) : ∃ cs : List Cm, FitsAll cs ∧ cs.length ≤ 1000 ∧ ∃ q X I f n s, q.gb = gb ∧ IsQ w q X I f n s ∧ ∀ i, i < 3 → s.log i = texts cs := by
  obtain ⟨q, X, I, f, n, s, rfl, h2, h3, h5⟩ := h
  have h9 := h5.lrn 9
  obtain ⟨cs, hc, e⟩ := texts_of _ fun x hx => h9.gl 0 x (by decide) hx
  refine ⟨cs, hc, ?_, q, X, I, f, n, _, rfl, h2, fun i hi => (lrn_one h5 i hi).trans e⟩
  have := h9.l 0 (by decide)
  rw [e] at this
  simp [texts] at this
  omega
theorem QS.len (h : QS G B k gb w) : Calls Tryd.prog 6 #[.pointer (some ⟨gb, 0, none⟩)] w fun e w' => e = .returned (.int .i64 3) ∧ w = w' := by
  obtain ⟨q, X, I, f, n, s, rfl, h2, _⟩ := h
  exact qlen_any h2.c0
end
end Go.Proofs.YtfjfkmoofmncnaaDoor
