/- Three acceptors in a row, as TopBallots has them; rows of votes that grow. -/
import Derived.Test.YtkbncbkmaakpkaaDoorLoad
import Derived.Test.YtkbncbkmaakpkaaDoorChoose
namespace Go.Proofs.YtkbncbkmaakpkaaDoor
open Go.RowKit
def upI {α : Type} (f : Nat → α) (i : Nat) (x : α) (j : Nat) : α := if j = i then x else f j
def XB (bs : Nat → Nat) (q : Nat) : Prop := ∃ j, j < 3 ∧ q = bs j
def XE (E : Nat → Prop) (bs : Nat → Nat) (q : Nat) : Prop := XB bs q ∨ E q
structure A3 (w0 : World) (E : Nat → Prop) (W : World) (g : Nat) (bs : Nat → Nat) (ps : Nat → Int) (Vs : Nat → Nat → Option Vt) : Prop where
  b : Below w0.heap.size w0 W
  gl : w0.heap.size ≤ g
  cl : ∀ i, i < 3 → W.cell? ⟨g, i, none⟩ = some (.pointer (some ⟨bs i, 0, none⟩))
  fr : ∀ o, W.frozen? ⟨g, o, none⟩ = false
  gne : ∀ i, i < 3 → g ≠ bs i
  ne : ∀ i j, i < 3 → j < 3 → i ≠ j → bs i ≠ bs j
  ac : ∀ i, i < 3 → Acc W (XE E bs) (bs i) (ps i) (Vs i)
  lo : ∀ i, i < 3 → w0.heap.size ≤ bs i
section
variable {w0 W W' : World} {E : Nat → Prop} {g : Nat} {bs : Nat → Nat} {ps : Nat → Int} {Vs : Nat → Nat → Option Vt}
theorem A3.gw (h : A3 w0 E W g bs ps Vs) : g < W.heap.size := World.block_lt_of_cell? W _ (h.cl 0 (by omega))
theorem A3.xl (h : A3 w0 (fun _ => False) W g bs ps Vs) : ∀ q, XE (fun _ => False) bs q → q < W.heap.size := fun q hq => by
  rcases hq with ⟨j, hj, e⟩ | hq
  · subst e; exact (h.ac j hj).lt
  · exact hq.elim
theorem A3.xb (_ : A3 w0 E W g bs ps Vs) {i : Nat} (hi : i < 3) : XE E bs (bs i) := .inl ⟨i, hi, rfl⟩
theorem A3.more (h : A3 w0 E W g bs ps Vs) (hb : Below W.heap.size W W') : A3 w0 E W' g bs ps Vs :=
  ⟨h.b.trans (hb.mono h.b.size), h.gl, fun i hi => (World.cell?_of_block (a := ⟨g, i, none⟩) (hb.block g h.gw)).trans (h.cl i hi), fun o => (World.frozen?_of_block (a := ⟨g, o, none⟩) (hb.block g h.gw)).trans (h.fr o), h.gne, h.ne, fun i hi => (h.ac i hi).below hb, h.lo⟩
/-- One of them has turned. -/
theorem A3.turn (h : A3 w0 E W g bs ps Vs) {i : Nat} (hi : i < 3) {p : Int} {V : Nat → Option Vt} (ha : Acc W' (XE E bs) (bs i) p V) (hm : Moves (fun q => q = bs i) W W') : A3 w0 E W' g bs (upI ps i p) (upI Vs i V) := by
  refine ⟨h.b.trans (hm.below h.b.size fun k hk => by subst hk; exact h.lo i hi), h.gl, fun j hj => (World.cell?_of_block (a := ⟨g, j, none⟩) (hm.block g h.gw (h.gne i hi))).trans (h.cl j hj), fun o => (World.frozen?_of_block (a := ⟨g, o, none⟩) (hm.block g h.gw (h.gne i hi))).trans (h.fr o), h.gne, h.ne, fun j hj => ?_, h.lo⟩
  unfold upI
  by_cases hji : j = i
  · subst hji; rw [if_pos rfl, if_pos rfl]; exact ha
  · rw [if_neg hji, if_neg hji]; exact (h.ac j hj).moves hm (.inl ⟨i, hi, rfl⟩) (h.ne j i hj hi hji)
/-- What E lies in has turned. -/
theorem A3.others {F : Nat → Prop} (h : A3 w0 E W g bs ps Vs) (hm : Moves F W W') (hF : ∀ q, F q → E q ∧ w0.heap.size ≤ q ∧ q ≠ g ∧ ∀ i, i < 3 → q ≠ bs i) : A3 w0 E W' g bs ps Vs := by
  have hg := hm.block g h.gw fun hf => (hF g hf).2.2.1 rfl
  refine ⟨h.b.trans (hm.below h.b.size fun k hk => (hF k hk).2.1), h.gl, fun j hj => (World.cell?_of_block (a := ⟨g, j, none⟩) hg).trans (h.cl j hj), fun o => (World.frozen?_of_block (a := ⟨g, o, none⟩) hg).trans (h.fr o), h.gne, h.ne, fun j hj => ?_, h.lo⟩
  obtain ⟨B, b1, b2⟩ := h.ac j hj
  exact ⟨B, b1.keep (hm.block _ b1.lt fun hf => (hF _ hf).2.2.2 j hj rfl) fun i x hx => hm.block _ (b1.vs i x hx).lt fun hf => b2 i x hx (.inr (hF _ hf).1), b2⟩
theorem A3.since (h : A3 w0 (fun _ => False) W g bs ps Vs) : A3 w0 (fun q => W.heap.size ≤ q) W g bs ps Vs :=
  ⟨h.b, h.gl, h.cl, h.fr, h.gne, h.ne, fun i hi => (h.ac i hi).also fun q hq hx => by
    rcases hx with hx | hx
    · exact .inl hx
    · exact absurd hx (by omega), h.lo⟩
/-- One of them is another one, told into its place. -/
theorem A3.swap (h : A3 w0 (fun _ => False) W g bs ps Vs) {i : Nat} (hi : i < 3) {a : Nat} {p : Int} {V : Nat → Option Vt} (hb : Below W.heap.size W W') (hal : W.heap.size ≤ a) (ha : Acc W' (fun q => q < W.heap.size ∨ q = a) a p V) :
    A3 w0 (fun _ => False) (W'.setCell ⟨g, i, none⟩ (.pointer (some ⟨a, 0, none⟩))) g (upI bs i a) (upI ps i p) (upI Vs i V) := by
  have h2 := h.more hb
  have hgw := h.gw
  have hga : g ≠ a := by omega
  have hbl : ∀ j, j < 3 → bs j < W.heap.size := fun j hj => (h.ac j hj).lt
  have hset : Moves (fun q => q = g) W' (W'.setCell ⟨g, i, none⟩ (.pointer (some ⟨a, 0, none⟩))) := (Moves.refl _ _).setCell _ _ (.inl rfl)
  have keep : ∀ {X : Nat → Prop} {b : Nat} {p : Int} {V : Nat → Option Vt}, Acc W' X b p V → b ≠ g → X g → Acc (W'.setCell ⟨g, i, none⟩ (.pointer (some ⟨a, 0, none⟩))) X b p V := fun hA hne hX => hA.moves hset hX hne
  refine ⟨h2.b.setCell h.gl _, h.gl, fun j hj => ?_, fun o => by rw [World.frozen?_setCell]; exact h2.fr o, fun j hj => ?_, fun j k hj hk hjk => ?_, fun j hj => ?_, fun j hj => ?_⟩
  · unfold upI
    by_cases hji : j = i
    · subst hji; rw [if_pos rfl]; exact World.cell?_setCell_same _ _ _ (h2.cl j hj)
    · rw [if_neg hji, World.cell?_setCell_other _ _ _ _ (by intro e; injection e with e1 e2; exact hji e2.symm)]; exact h2.cl j hj
  · unfold upI
    split
    · exact hga
    · exact h.gne j hj
  · unfold upI
    have hj2 := hbl j hj
    have hk2 := hbl k hk
    split <;> split
    · omega
    · omega
    · omega
    · exact h.ne j k hj hk hjk
  · have hY : ∀ {b : Nat} {p : Int} {V : Nat → Option Vt}, Acc W (fun q => XB bs q ∨ q = g ∨ W.heap.size ≤ q) b p V → b ≠ g → Acc (W'.setCell ⟨g, i, none⟩ (.pointer (some ⟨a, 0, none⟩))) (XE (fun _ => False) (upI bs i a)) b p V := fun hA hne => by
      refine (keep (hA.below hb) hne (.inr (.inl rfl))).also fun q _ hq => ?_
      rcases hq with ⟨k, hk, rfl⟩ | hq
      case inr => exact hq.elim
      unfold upI
      split
      · exact .inr (.inr hal)
      · exact .inl ⟨k, hk, rfl⟩
    unfold upI
    by_cases hji : j = i
    · subst hji
      rw [if_pos rfl, if_pos rfl, if_pos rfl]
      refine (keep ha (by omega) (.inl hgw)).also fun q _ hq => ?_
      rcases hq with ⟨k, hk, rfl⟩ | hq
      case inr => exact hq.elim
      dsimp only
      split
      · exact .inr rfl
      · exact .inl (hbl k hk)
    · rw [if_neg hji, if_neg hji, if_neg hji]
      obtain ⟨B, b1, b2⟩ := h.ac j hj
      have hgv : ∀ i x, Vs j i = some x → B i ≠ g := fun i' x hx e => by
        have h3 := b1.vs i' x hx 0 _ rfl
        rw [e] at h3
        have h4 := h.cl 0 (by omega)
        rw [h3] at h4
        cases h4
      have hA : Acc W (fun q => XB bs q ∨ q = g ∨ W.heap.size ≤ q) (bs j) (ps j) (Vs j) := ⟨B, b1, fun i' x hx hq => by
        rcases hq with hq | hq | hq
        · exact b2 i' x hx (.inl hq)
        · exact hgv i' x hx hq
        · have := (b1.vs i' x hx).lt; omega⟩
      exact hY hA (fun e => h.gne j hj e.symm)
  · unfold upI
    split
    · have := h.b.size; omega
    · exact h.lo j hj
end
/-- A row of rows of votes, all made since base. -/
def SetsB (base : Nat) (w : World) (v : Value) (S : List (List Vote)) : Prop :=
  ∃ vals : List Value, vals.length = S.length ∧ w.ownsRow base 28 1 v S.length vals ∧ (∀ x ∈ vals, x.oneCell' = true) ∧ ∀ (i : Nat) (l : List Vote), S[i]? = some l → ∃ x : Value, vals[i]? = some x ∧ w.ownsRow base 33 3 x l.length (vrows l) ∧ ∀ q, x.ownBlock = some q → v.ownBlock ≠ some q
section
variable {base : Nat} {w w' : World} {v v' : Value} {S : List (List Vote)} {l : List Vote}
theorem SetsB.moves {F : Nat → Prop} (h : SetsB base w v S) (hm : Moves F w w') (hF : ∀ q, F q → q < base) : SetsB base w' v S := by
  obtain ⟨vals, h0, h1, h3, h2⟩ := h
  refine ⟨vals, h0, ownsRow_keep h1 fun k hk => hm.block k (h1.lt k hk).2 (fun hf => by have := hF k hf; have := (h1.lt k hk).1; omega), h3, fun i l hl => ?_⟩
  obtain ⟨x, hx, ho, hn⟩ := h2 i l hl
  exact ⟨x, hx, ownsRow_keep ho fun k hk => hm.block k (ho.lt k hk).2 (fun hf => by have := hF k hf; have := (ho.lt k hk).1; omega), hn⟩
theorem SetsB.below (h : SetsB base w v S) (hb : Below w.heap.size w w') : SetsB base w' v S := h.moves (F := fun _ => False) (Moves.of_below hb) fun _ h => h.elim
theorem SetsB.sets (h : SetsB base w v S) : Sets w v S := by
  obtain ⟨vals, h0, h1, h3, h2⟩ := h
  refine ⟨vals, h0, ownsRow_base h1 fun _ _ => Nat.zero_le _, fun i l hl => ?_⟩
  obtain ⟨x, hx, ho, hn⟩ := h2 i l hl
  exact ⟨x, hx, ownsRow_base ho fun _ _ => Nat.zero_le _⟩
theorem SetsB.nil (w : World) (hb : base ≤ w.heap.size) : SetsB base (w.alloc (.cells #[] 28)) (.slice (some ⟨w.heap.size, 0, none⟩) 0 0) [] :=
  ⟨[], rfl, ownsRow_base (World.ownsRow_lit (base := w.heap.size) (size := 1) (e := 28) w #[] 0 (Nat.le_refl _) (by unfold maxLen; omega) rfl) (fun k hk => by simp [Value.ownBlock] at hk; omega), fun x hx => by simp at hx, fun i l hl => by simp at hl⟩
theorem SetsB.lens (h : SetsB base w v S) : ∃ a cap, v = .slice a S.length cap := by
  obtain ⟨vals, h0, h1, h2⟩ := h
  exact row_lens h1
/-- One row more. -/
theorem SetsB.push {x : Value} {vals : List Value} (hx1 : x.oneCell' = true) (h0 : vals.length = S.length) (h3 : ∀ x ∈ vals, x.oneCell' = true) (h2 : ∀ (i : Nat) (l : List Vote), S[i]? = some l → ∃ x : Value, vals[i]? = some x ∧ w.ownsRow base 33 3 x l.length (vrows l) ∧ ∀ q, x.ownBlock = some q → v.ownBlock ≠ some q)
    (hx : w.ownsRow base 33 3 x l.length (vrows l)) (hn : ∀ q, x.ownBlock = some q → v.ownBlock ≠ some q) (hg : w.grownBy w' v.ownBlock) (ho : w'.ownsRow base 28 1 v' (S.length + 1) (vals ++ [x])) (hor : v'.ownBlock = v.ownBlock ∨ v'.ownBlock = some w.heap.size) : SetsB base w' v' (S ++ [l]) := by
  have hk : ∀ {y : Value} {m : List Vote}, w.ownsRow base 33 3 y m.length (vrows m) → (∀ q, y.ownBlock = some q → v.ownBlock ≠ some q) → w'.ownsRow base 33 3 y m.length (vrows m) ∧ ∀ q, y.ownBlock = some q → v'.ownBlock ≠ some q := fun {y m} hy hny =>
    ⟨ownsRow_keep hy fun k hk => hg.block k (hy.lt k hk).2 (fun e => hny k hk e.symm), fun q hq => by
      rcases hor with h | h
      · rw [h]; exact hny q hq
      · rw [h]; intro e; cases e; have := (hy.lt _ hq).2; omega⟩
  refine ⟨vals ++ [x], by simp [h0], by rw [List.length_append]; exact ho, fun y hy => ?_, fun i m hm => ?_⟩
  · rcases List.mem_append.1 hy with hy | hy
    · exact h3 y hy
    · simp at hy; subst hy; exact hx1
  · by_cases hi : i < S.length
    · rw [List.getElem?_append_left hi] at hm
      obtain ⟨y, hy, ho2, hn2⟩ := h2 i m hm
      exact ⟨y, by rw [List.getElem?_append_left (by omega)]; exact hy, hk ho2 hn2⟩
    · have : i = S.length := by
        have := (List.getElem?_eq_some_iff.1 hm).1
        simp at this; omega
      subst this
      simp at hm
      subst hm
      exact ⟨x, by rw [← h0]; simp, hk hx hn⟩
end
theorem Tryd.infoSet : (Tryd.prog.info? 28).map (fun i => (i.zero, i.size, i.bytes)) = some (some (.slice none 0 0), 1, 24) := by kernel_rfl
def oneV (t : ByteArray) : Nat → Option Vt := updV (fun _ => none) 0 ⟨9, t⟩
theorem votes_none (lo : Int) (k : Nat) : votesTo (fun _ => none) lo k = [] := by
  induction k with
  | zero => rfl
  | succ k ih => rw [votesTo_succ, ih]; simp
theorem votes_one (t : ByteArray) (k : Nat) : votesTo (oneV t) 0 (k + 1) = [⟨0, 9, t⟩] := by
  induction k with
  | zero => rw [votesTo_succ]; simp [votesTo, oneV, updV]
  | succ k ih => rw [votesTo_succ, ih]; simp [oneV, updV]
end Go.Proofs.YtkbncbkmaakpkaaDoor
