/- The service of locks in memory; client, clash, lives. -/
import Derived.Test.YtfjfkmoofmncnaaDoorMc
import Derived.Test.YtfjfkmoofmncnaaDoorMapV
import Derived.BigRegion
namespace Go.Proofs.YtfjfkmoofmncnaaDoor
open Go.RowKit
def byV (f : Nat → Option Nat) (i : Int) : Option Value := if 0 ≤ i then (f i.toNat).map fun x => .int .i64 (x : Int) else none
/-- The blocks of a service. -/
def fps (b tb kb mb : Nat) (wv : Value) (k : Nat) : Prop := k = b ∨ k = tb ∨ k = kb ∨ k = mb ∨ wv.ownBlock = some k
structure IsSvc (w : World) (b tb kb mb : Nat) (wv : Value) (n : Nat) (s : GS) : Prop where
  c0 : w.cell? ⟨b, 0, none⟩ = some (.pointer (some ⟨tb, 0, none⟩))
  c1 : w.cell? ⟨b, 1, none⟩ = some (.pointer (some ⟨kb, 0, none⟩))
  c2 : w.cell? ⟨b, 2, none⟩ = some wv
  c3 : w.cell? ⟨b, 3, none⟩ = some (.int .i64 (s.last : Int))
  c4 : w.cell? ⟨b, 4, none⟩ = some (.map (some mb))
  fro : ∀ o, w.frozen? ⟨b, o, none⟩ = false
  tab : IsTab w tb s.R
  book : IsBook w kb s.B
  row : w.ownsRow 0 57 4 wv s.wait.length (hrows s.wait)
  ma : IMap Tryd.prog 3 w mb n (byV s.by')
  d1 : b ≠ tb ∧ b ≠ kb ∧ b ≠ mb ∧ tb ≠ kb ∧ tb ≠ mb ∧ kb ≠ mb
  d2 : ∀ k, wv.ownBlock = some k → k ≠ b ∧ k ≠ tb ∧ k ≠ kb ∧ k ≠ mb
  whole : Whole w
  g : ∀ k, fps b tb kb mb wv k → 2 ≤ k
section
variable {w w' : World} {b tb kb mb n : Nat} {wv : Value} {s : GS}
theorem IsSvc.lt (h : IsSvc w b tb kb mb wv n s) : ∀ k, fps b tb kb mb wv k → k < w.heap.size := by
  intro k hk
  rcases hk with rfl | rfl | rfl | rfl | hk
  · exact World.block_lt_of_cell? w _ h.c0
  · exact h.tab.lt
  · exact h.book.lt
  · exact h.ma.lt
  · exact (h.row.lt k hk).2
theorem IsSvc.keep (h : IsSvc w b tb kb mb wv n s) (hk : ∀ k, fps b tb kb mb wv k ∨ k = 1 → w'.heap[k]? = w.heap[k]?) : IsSvc w' b tb kb mb wv n s := by
  have hb := hk b (.inl (.inl rfl))
  have hc : ∀ o v, w.cell? ⟨b, o, none⟩ = some v → w'.cell? ⟨b, o, none⟩ = some v := fun o v h => (World.cell?_of_block (a := ⟨b, o, none⟩) hb).trans h
  exact ⟨hc _ _ h.c0, hc _ _ h.c1, hc _ _ h.c2, hc _ _ h.c3, hc _ _ h.c4, fun o => (World.frozen?_of_block (a := ⟨b, o, none⟩) hb).trans (h.fro o), h.tab.keep (hk _ (.inl (.inr (.inl rfl)))), h.book.keep (hk _ (.inl (.inr (.inr (.inl rfl))))), ownsRow_keep h.row fun k hv => hk k (.inl (.inr (.inr (.inr (.inr hv))))),
    h.ma.keep (hk _ (.inl (.inr (.inr (.inr (.inl rfl)))))), h.d1, h.d2, h.whole.keep (hk _ (.inr rfl)), h.g⟩
theorem IsSvc.below (h : IsSvc w b tb kb mb wv n s) (hb : Below w.heap.size w w') : IsSvc w' b tb kb mb wv n s := h.keep fun k hk => hb.block k (by rcases hk with hk | rfl; exact h.lt k hk; exact h.whole.lt)
theorem IsSvc.moves {F : Nat → Prop} (h : IsSvc w b tb kb mb wv n s) (hm : Moves F w w') (hF : ∀ k, F k → ¬ fps b tb kb mb wv k ∧ k ≠ 1) : IsSvc w' b tb kb mb wv n s := h.keep fun k hk => hm.block k (by rcases hk with hk | rfl; exact h.lt k hk; exact h.whole.lt) fun hf => by
  rcases hk with hk | rfl
  · exact (hF k hf).1 hk
  · exact (hF _ hf).2 rfl
/-- The table has turned. -/
theorem IsSvc.tabs (h : IsSvc w b tb kb mb wv n s) {R : Nat → Nat → Nat} (hT : IsTab w' tb R) (hm : Moves (fun k => k = tb) w w') : IsSvc w' b tb kb mb wv n ⟨R, s.B, s.wait, s.last, s.by'⟩ := by
  obtain ⟨e1, e2, e3, e4, e5, e6⟩ := h.d1
  have hl := h.lt
  have hb := hm.block b (hl b (.inl rfl)) e1
  have hc : ∀ o v, w.cell? ⟨b, o, none⟩ = some v → w'.cell? ⟨b, o, none⟩ = some v := fun o v h => (World.cell?_of_block (a := ⟨b, o, none⟩) hb).trans h
  exact ⟨hc _ _ h.c0, hc _ _ h.c1, hc _ _ h.c2, hc _ _ h.c3, hc _ _ h.c4, fun o => (World.frozen?_of_block (a := ⟨b, o, none⟩) hb).trans (h.fro o), hT, h.book.keep (hm.block _ h.book.lt (Ne.symm e4)), ownsRow_keep h.row fun k hv => hm.block k (h.row.lt k hv).2 (h.d2 k hv).2.1,
    h.ma.keep (hm.block _ h.ma.lt (Ne.symm e5)), h.d1, h.d2, h.whole.keep (hm.block _ h.whole.lt (fun e => by have h2 := h.g tb (.inr (.inl rfl)); rw [← e] at h2; exact absurd h2 (by decide))), h.g⟩
/-- The book has turned. -/
theorem IsSvc.books (h : IsSvc w b tb kb mb wv n s) {B : Nat → Ent} (hT : IsBook w' kb B) (hm : Moves (fun k => k = kb) w w') : IsSvc w' b tb kb mb wv n ⟨s.R, B, s.wait, s.last, s.by'⟩ := by
  obtain ⟨e1, e2, e3, e4, e5, e6⟩ := h.d1
  have hl := h.lt
  have hb := hm.block b (hl b (.inl rfl)) e2
  have hc : ∀ o v, w.cell? ⟨b, o, none⟩ = some v → w'.cell? ⟨b, o, none⟩ = some v := fun o v h => (World.cell?_of_block (a := ⟨b, o, none⟩) hb).trans h
  exact ⟨hc _ _ h.c0, hc _ _ h.c1, hc _ _ h.c2, hc _ _ h.c3, hc _ _ h.c4, fun o => (World.frozen?_of_block (a := ⟨b, o, none⟩) hb).trans (h.fro o), h.tab.keep (hm.block _ h.tab.lt e4), hT, ownsRow_keep h.row fun k hv => hm.block k (h.row.lt k hv).2 (h.d2 k hv).2.2.1,
    h.ma.keep (hm.block _ h.ma.lt (Ne.symm e6)), h.d1, h.d2, h.whole.keep (hm.block _ h.whole.lt (fun e => by have h2 := h.g kb (.inr (.inr (.inl rfl))); rw [← e] at h2; exact absurd h2 (by decide))), h.g⟩
/-- The map has turned. -/
theorem IsSvc.maps (h : IsSvc w b tb kb mb wv n s) {m : Nat} {y : Nat → Option Nat} (hT : IMap Tryd.prog 3 w' mb m (byV y)) (hm : Moves (fun k => k = mb) w w') : IsSvc w' b tb kb mb wv m ⟨s.R, s.B, s.wait, s.last, y⟩ := by
  obtain ⟨e1, e2, e3, e4, e5, e6⟩ := h.d1
  have hl := h.lt
  have hb := hm.block b (hl b (.inl rfl)) e3
  have hc : ∀ o v, w.cell? ⟨b, o, none⟩ = some v → w'.cell? ⟨b, o, none⟩ = some v := fun o v h => (World.cell?_of_block (a := ⟨b, o, none⟩) hb).trans h
  exact ⟨hc _ _ h.c0, hc _ _ h.c1, hc _ _ h.c2, hc _ _ h.c3, hc _ _ h.c4, fun o => (World.frozen?_of_block (a := ⟨b, o, none⟩) hb).trans (h.fro o), h.tab.keep (hm.block _ h.tab.lt e5), h.book.keep (hm.block _ h.book.lt e6), ownsRow_keep h.row fun k hv => hm.block k (h.row.lt k hv).2 (h.d2 k hv).2.2.2,
    hT, h.d1, h.d2, h.whole.keep (hm.block _ h.whole.lt (fun e => by have h2 := h.g mb (.inr (.inr (.inr (.inl rfl)))); rw [← e] at h2; exact absurd h2 (by decide))), h.g⟩
/-- The last number is told. -/
theorem IsSvc.lasts (h : IsSvc w b tb kb mb wv n s) (m : Nat) : IsSvc (w.setCell ⟨b, 3, none⟩ (.int .i64 (m : Int))) b tb kb mb wv n ⟨s.R, s.B, s.wait, m, s.by'⟩ := by
  obtain ⟨e1, e2, e3, e4, e5, e6⟩ := h.d1
  have hk : ∀ k, k ≠ b → (w.setCell ⟨b, 3, none⟩ (.int .i64 (m : Int))).heap[k]? = w.heap[k]? := fun k hk => Below.heap_setCell _ _ _ _ hk
  refine ⟨?_, ?_, ?_, World.cell?_setCell_same _ _ _ h.c3, ?_, fun o => by rw [World.frozen?_setCell]; exact h.fro o, h.tab.keep (hk _ (Ne.symm e1)), h.book.keep (hk _ (Ne.symm e2)), ownsRow_keep h.row fun k hv => hk k (h.d2 k hv).1, h.ma.keep (hk _ (Ne.symm e3)), h.d1, h.d2, h.whole.keep (hk _ (fun e => by have h2 := h.g b (.inl rfl); rw [← e] at h2; exact absurd h2 (by decide))), h.g⟩
  · rw [oth_cell _ _ _ (by omega)]; exact h.c0
  · rw [oth_cell _ _ _ (by omega)]; exact h.c1
  · rw [oth_cell _ _ _ (by omega)]; exact h.c2
  · rw [oth_cell _ _ _ (by omega)]; exact h.c4
/-- Another row waits. -/
theorem IsSvc.waits (h : IsSvc w b tb kb mb wv n s) {wv' : Value} {l : List Hd} (hr : w.ownsRow 0 57 4 wv' l.length (hrows l)) (hn : ∀ k, wv'.ownBlock = some k → k ≠ b ∧ k ≠ tb ∧ k ≠ kb ∧ k ≠ mb) (hg : ∀ k, wv'.ownBlock = some k → 2 ≤ k) :
    IsSvc (w.setCell ⟨b, 2, none⟩ wv') b tb kb mb wv' n ⟨s.R, s.B, l, s.last, s.by'⟩ := by
  obtain ⟨e1, e2, e3, e4, e5, e6⟩ := h.d1
  have hk : ∀ k, k ≠ b → (w.setCell ⟨b, 2, none⟩ wv').heap[k]? = w.heap[k]? := fun k hk => Below.heap_setCell _ _ _ _ hk
  refine ⟨?_, ?_, World.cell?_setCell_same _ _ _ h.c2, ?_, ?_, fun o => by rw [World.frozen?_setCell]; exact h.fro o, h.tab.keep (hk _ (Ne.symm e1)), h.book.keep (hk _ (Ne.symm e2)), ownsRow_keep hr fun k hv => hk k (hn k hv).1, h.ma.keep (hk _ (Ne.symm e3)), h.d1, hn, h.whole.keep (hk _ (fun e => by have h2 := h.g b (.inl rfl); rw [← e] at h2; exact absurd h2 (by decide))), fun k hf => ?_⟩
  · rw [oth_cell _ _ _ (by omega)]; exact h.c0
  · rw [oth_cell _ _ _ (by omega)]; exact h.c1
  · rw [oth_cell _ _ _ (by omega)]; exact h.c3
  · rw [oth_cell _ _ _ (by omega)]; exact h.c4
  · rcases hf with hf | hf | hf | hf | hf
    · exact h.g k (.inl hf)
    · exact h.g k (.inr (.inl hf))
    · exact h.g k (.inr (.inr (.inl hf)))
    · exact h.g k (.inr (.inr (.inr (.inl hf))))
    · exact hg k hf
set_option maxRecDepth 100000 in
theorem gclient_any (c : Nat) : Calls Tryd.prog 119 #[.int .i64 (c : Int)] w fun e w' => e = .returned (.bool (decide (c < 8))) ∧ w = w' := by
  have e1 : decide ((0 : Int) ≤ (c : Int)) = true := by simp
  have e2 : decide ((c : Int) < 8) = decide (c < 8) := by
    by_cases h : c < 8
    · rw [decide_eq_true h, decide_eq_true]; omega
    · rw [decide_eq_false h, decide_eq_false]; omega
  go_enter Tryd.func119, Tryd.ntmps119
  go_wp2_with fail
  go_ret
  exact ⟨by first | rfl | simp, rfl⟩
theorem bdead_any {K : Nat → Ent} (h : IsBook w kb K) (c : Nat) : Calls Tryd.prog 105 #[.pointer (some ⟨kb, 0, none⟩), .int .i64 (c : Int)] w fun e w' => e = .returned (.bool (deadB K c)) ∧ w = w' := by
  by_cases hc : c < 8
  · have := dead_ok h c hc
    rwa [show (K c).dead = deadB K c by unfold deadB; rw [decide_eq_true hc, Bool.true_and]] at this
  · have := dead_none (w := w) (b := kb) (c : Int) (.inr (by omega))
    rwa [show false = deadB K c by unfold deadB; rw [decide_eq_false hc, Bool.false_and]] at this
set_option maxRecDepth 100000 in
theorem lives_any (h : IsSvc w b tb kb mb wv n s) (c : Nat) : Calls Tryd.prog 120 #[.pointer (some ⟨b, 0, none⟩), .int .i64 (c : Int)] w fun e w' => e = .returned (.bool (livesB s.B c)) ∧ w = w' := by
  have c1 := h.c1
  have hd := bdead_any h.book c
  by_cases hc : c < 8
  · have hu := until_ok h.book c hc
    have e1 : deadB s.B c = (s.B c).dead := by unfold deadB; rw [decide_eq_true hc, Bool.true_and]
    rw [e1] at hd
    have e2 : livesB s.B c = (!(s.B c).dead && decide (0 ≤ (s.B c).till)) := by unfold livesB; rw [decide_eq_true hc, Bool.true_and]
    rw [e2]
    clear h
    cases hq : (s.B c).dead with
    | true =>
      rw [hq] at hd
      go_enter Tryd.func120, Tryd.ntmps120
      go_wp2_with (first | (go_at_call 105; refine hd.mono ?_; clear hd; rintro e w1 ⟨rfl, rfl⟩) | (go_at_call 138; refine hu.mono ?_; clear hu; rintro e w1 ⟨rfl, rfl⟩))
      go_ret
      exact ⟨rfl, rfl⟩
    | false =>
      rw [hq] at hd
      go_enter Tryd.func120, Tryd.ntmps120
      go_wp2_with (first | (go_at_call 105; refine hd.mono ?_; clear hd; rintro e w1 ⟨rfl, rfl⟩) | (go_at_call 138; refine hu.mono ?_; clear hu; rintro e w1 ⟨rfl, rfl⟩))
      go_ret
      exact ⟨by first | rfl | simp, rfl⟩
  · have hu := until_none (w := w) (b := kb) (c : Int) (.inr (by omega))
    have e1 : deadB s.B c = false := by unfold deadB; rw [decide_eq_false hc, Bool.false_and]
    rw [e1] at hd
    have e2 : livesB s.B c = false := by unfold livesB; rw [decide_eq_false hc, Bool.false_and, Bool.false_and]
    rw [e2]
    clear h
    go_enter Tryd.func120, Tryd.ntmps120
    go_wp2_with (first | (go_at_call 105; refine hd.mono ?_; clear hd; rintro e w1 ⟨rfl, rfl⟩) | (go_at_call 138; refine hu.mono ?_; clear hu; rintro e w1 ⟨rfl, rfl⟩))
    go_ret
    exact ⟨rfl, rfl⟩
theorem int_eq2 (r : Nat) : ((r : Int) == 2) = decide (r = 2) := by
  by_cases h : r = 2
  · simp [h]
  · have : ((r : Int) == 2) = false := by simp; omega
    simp [h, this]
theorem clash_t {x y : Hd} (hc : ¬ x.c = y.c) (hp : max x.a y.a < min x.b y.b) (r : Nat) (hr : max x.m y.m = r) : clashB x y = ((r : Int) == 2) := by
  unfold clashB
  rw [decide_eq_true (show x.c ≠ y.c from hc), decide_eq_true hp, Bool.true_and, Bool.true_and, hr, int_eq2]
theorem clash_f {x y : Hd} (hp : ¬ max x.a y.a < min x.b y.b) : clashB x y = false := by
  unfold clashB
  rw [decide_eq_false hp, Bool.and_false, Bool.false_and]
set_option maxRecDepth 100000 in
set_option maxHeartbeats 2000000 in
theorem clash_any (x y : Hd) : Calls Tryd.prog 141 #[x.val, y.val] w fun e w' => e = .returned (.bool (clashB x y)) ∧ Below w.heap.size w w' := by
  have hb : Below w.heap.size w ((w.alloc (.cells #[.int .i64 (x.a : Int), .int .i64 (x.b : Int), .int .i64 (x.c : Int), .int .i64 (x.m : Int)] 57)).alloc (.cells #[.int .i64 (y.a : Int), .int .i64 (y.b : Int), .int .i64 (y.c : Int), .int .i64 (y.m : Int)] 57)) := ((Below.refl _ _).alloc (Nat.le_refl _) _).alloc (by simp) _
  have HB := Lib.hid hb
  clear hb
  by_cases hc : x.c = y.c
  · have e1 : ((x.c : Int) != (y.c : Int)) = false := by simp [hc]
    have e0 : clashB x y = false := by simp [clashB, hc]
    rw [e0]
    clear e0 hc
    unfold Hd.val
    go_enter Tryd.func141, Tryd.ntmps141
    go_wp2_with fail
    go_ret
    exact ⟨rfl, HB.out⟩
  · have e1 : ((x.c : Int) != (y.c : Int)) = true := by simp; omega
    have HC := Lib.hid hc
    clear hc
    unfold Hd.val
    go_enter Tryd.func141, Tryd.ntmps141
    go_wp2_with fail
    all_goals go_ret
    all_goals first
      | exact ⟨congrArg (fun b => Ending.returned (.bool b)) (clash_t HC.out (by omega) y.m (by omega)).symm, HB.out⟩
      | exact ⟨congrArg (fun b => Ending.returned (.bool b)) (clash_t HC.out (by omega) x.m (by omega)).symm, HB.out⟩
      | exact ⟨congrArg (fun b => Ending.returned (.bool b)) (clash_f (x := x) (y := y) (by omega)).symm, HB.out⟩
end
end Go.Proofs.YtfjfkmoofmncnaaDoor
