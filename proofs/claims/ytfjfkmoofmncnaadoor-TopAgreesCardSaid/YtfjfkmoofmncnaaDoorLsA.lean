/- lease: a book in memory; of, Until, Dead. -/
import Derived.Test.YtfjfkmoofmncnaaDoorQmA
namespace Go.Proofs.YtfjfkmoofmncnaaDoor
open Go.RowKit
structure Ent where
  till : Int
  seq : Int
  dead : Bool
/-- The book that lies in block b. -/
structure IsBook (w : World) (b : Nat) (K : Nat → Ent) : Prop where
  t : ∀ c, c < 8 → w.cell? ⟨b, c * 3, none⟩ = some (.int .i64 (K c).till)
  s : ∀ c, c < 8 → w.cell? ⟨b, c * 3 + 1, none⟩ = some (.int .i64 (K c).seq)
  d : ∀ c, c < 8 → w.cell? ⟨b, c * 3 + 2, none⟩ = some (.bool (K c).dead)
  fro : ∀ o, w.frozen? ⟨b, o, none⟩ = false
section
variable {w w' : World} {b : Nat} {K : Nat → Ent}
theorem IsBook.keep (h : IsBook w b K) (hk : w'.heap[b]? = w.heap[b]?) : IsBook w' b K :=
  ⟨fun c hc => (World.cell?_of_block (a := ⟨b, c * 3, none⟩) hk).trans (h.t c hc), fun c hc => (World.cell?_of_block (a := ⟨b, c * 3 + 1, none⟩) hk).trans (h.s c hc), fun c hc => (World.cell?_of_block (a := ⟨b, c * 3 + 2, none⟩) hk).trans (h.d c hc), fun o => (World.frozen?_of_block (a := ⟨b, o, none⟩) hk).trans (h.fro o)⟩
theorem IsBook.lt (h : IsBook w b K) : b < w.heap.size := World.block_lt_of_cell? w _ (h.t 0 (by omega))
set_option maxRecDepth 100000 in
theorem of_any (c : Nat) (hc : c < 8) : Calls Tryd.prog 132 #[.pointer (some ⟨b, 0, none⟩), .int .i64 (c : Int)] w fun e w' => e = .returned (.pointer (some ⟨b, c * 3, none⟩)) ∧ w = w' := by
  have e1 : decide ((c : Int) < 0) = false := by simp
  have e2 : decide ((8 : Int) ≤ (c : Int)) = false := by simp; omega
  go_enter Tryd.func132, Tryd.ntmps132
  go_wp2_with fail
  go_ret
  exact ⟨rfl, rfl⟩
set_option maxRecDepth 100000 in
theorem of_none (c : Int) (hc : c < 0 ∨ 8 ≤ c) : Calls Tryd.prog 132 #[.pointer (some ⟨b, 0, none⟩), .int .i64 c] w fun e w' => e = .returned (.pointer none) ∧ w = w' := by
  by_cases h0 : c < 0
  · have e1 : decide (c < 0) = true := by simpa using h0
    go_enter Tryd.func132, Tryd.ntmps132
    go_wp2_with fail
    go_ret
    exact ⟨rfl, rfl⟩
  · have e1 : decide (c < 0) = false := by simpa using h0
    have e2 : decide ((8 : Int) ≤ c) = true := by simp; omega
    go_enter Tryd.func132, Tryd.ntmps132
    go_wp2_with fail
    go_ret
    exact ⟨rfl, rfl⟩
set_option maxRecDepth 100000 in
theorem until_ok (h : IsBook w b K) (c : Nat) (hc : c < 8) : Calls Tryd.prog 138 #[.pointer (some ⟨b, 0, none⟩), .int .i64 (c : Int)] w fun e w' => e = .returned (.int .i64 (K c).till) ∧ w = w' := by
  have ho := of_any (w := w) (b := b) c hc
  have ht := h.t c hc
  go_enter Tryd.func138, Tryd.ntmps138
  go_wp2_with fail
  refine ho.mono ?_
  rintro e w' ⟨rfl, rfl⟩
  clear ho
  go_wp2_with fail
  go_ret
  exact ⟨rfl, rfl⟩
set_option maxRecDepth 100000 in
theorem until_none (c : Int) (hc : c < 0 ∨ 8 ≤ c) : Calls Tryd.prog 138 #[.pointer (some ⟨b, 0, none⟩), .int .i64 c] w fun e w' => e = .returned (.int .i64 (-1)) ∧ w = w' := by
  have ho := of_none (w := w) (b := b) c hc
  go_enter Tryd.func138, Tryd.ntmps138
  go_wp2_with fail
  refine ho.mono ?_
  rintro e w' ⟨rfl, rfl⟩
  clear ho
  go_wp2_with fail
  go_ret
  exact ⟨rfl, rfl⟩
set_option maxRecDepth 100000 in
theorem dead_ok (h : IsBook w b K) (c : Nat) (hc : c < 8) : Calls Tryd.prog 105 #[.pointer (some ⟨b, 0, none⟩), .int .i64 (c : Int)] w fun e w' => e = .returned (.bool (K c).dead) ∧ w = w' := by
  have ho := of_any (w := w) (b := b) c hc
  have ht := h.d c hc
  go_enter Tryd.func105, Tryd.ntmps105
  go_wp2_with fail
  refine ho.mono ?_
  rintro e w' ⟨rfl, rfl⟩
  clear ho
  go_wp2_with fail
  go_ret
  exact ⟨rfl, rfl⟩
set_option maxRecDepth 100000 in
theorem dead_none (c : Int) (hc : c < 0 ∨ 8 ≤ c) : Calls Tryd.prog 105 #[.pointer (some ⟨b, 0, none⟩), .int .i64 c] w fun e w' => e = .returned (.bool false) ∧ w = w' := by
  have ho := of_none (w := w) (b := b) c hc
  go_enter Tryd.func105, Tryd.ntmps105
  go_wp2_with fail
  refine ho.mono ?_
  rintro e w' ⟨rfl, rfl⟩
  clear ho
  go_wp2_with fail
  go_ret
  exact ⟨rfl, rfl⟩
def updE (K : Nat → Ent) (c : Nat) (x : Ent) (i : Nat) : Ent := if i = c then x else K i
theorem oth_cell (w : World) (b : Nat) {o q : Nat} (v : Value) (h : o ≠ q) : (w.setCell ⟨b, q, none⟩ v).cell? ⟨b, o, none⟩ = w.cell? ⟨b, o, none⟩ := World.cell?_setCell_other _ _ _ _ (by intro e; injection e with _ e2; exact h e2.symm)
theorem IsBook.setT (h : IsBook w b K) (c : Nat) (x : Int) : IsBook (w.setCell ⟨b, c * 3, none⟩ (.int .i64 x)) b (updE K c ⟨x, (K c).seq, (K c).dead⟩) := by
  refine ⟨fun i hi => ?_, fun i hi => ?_, fun i hi => ?_, fun o => by rw [World.frozen?_setCell]; exact h.fro o⟩
  · by_cases e : i = c
    · subst e
      unfold updE
      rw [if_pos rfl]
      exact World.cell?_setCell_same _ _ _ (h.t i hi)
    · unfold updE
      rw [if_neg e, oth_cell _ _ _ (by omega)]
      exact h.t i hi
  · rw [oth_cell _ _ _ (by omega), h.s i hi]
    unfold updE
    split
    · subst_vars; rfl
    · rfl
  · rw [oth_cell _ _ _ (by omega), h.d i hi]
    unfold updE
    split
    · subst_vars; rfl
    · rfl
theorem IsBook.setD (h : IsBook w b K) (c : Nat) (x : Bool) : IsBook (w.setCell ⟨b, c * 3 + 2, none⟩ (.bool x)) b (updE K c ⟨(K c).till, (K c).seq, x⟩) := by
  refine ⟨fun i hi => ?_, fun i hi => ?_, fun i hi => ?_, fun o => by rw [World.frozen?_setCell]; exact h.fro o⟩
  · rw [oth_cell _ _ _ (by omega), h.t i hi]
    unfold updE
    split
    · subst_vars; rfl
    · rfl
  · rw [oth_cell _ _ _ (by omega), h.s i hi]
    unfold updE
    split
    · subst_vars; rfl
    · rfl
  · by_cases e : i = c
    · subst e
      unfold updE
      rw [if_pos rfl]
      exact World.cell?_setCell_same _ _ _ (h.d i hi)
    · unfold updE
      rw [if_neg e, oth_cell _ _ _ (by omega)]
      exact h.d i hi
theorem updE_twice (K : Nat → Ent) (c : Nat) (x y : Ent) : updE (updE K c x) c y = updE K c y := by
  funext i
  unfold updE
  split <;> rfl
set_option maxRecDepth 100000 in
theorem forgive_dead (h : IsBook w b K) (c : Nat) (hc : c < 8) (hd : (K c).dead = true) : Calls Tryd.prog 136 #[.pointer (some ⟨b, 0, none⟩), .int .i64 (c : Int)] w fun e w' => e = .returned (.int .i64 0) ∧ IsBook w' b (updE K c ⟨-1, (K c).seq, false⟩) ∧ Moves (fun k => k = b) w w' := by
  have ho := of_any (w := w) (b := b) c hc
  have ht := h.d c hc
  rw [hd] at ht
  have hu := h.t c hc
  have f0 := h.fro (c * 3)
  have f2 := h.fro (c * 3 + 2)
  have H := Lib.hid h
  clear h
  go_enter Tryd.func136, Tryd.ntmps136
  go_wp2_with fail
  refine ho.mono ?_
  rintro e w' ⟨rfl, rfl⟩
  clear ho
  go_wp2_with fail
  go_ret
  have h1 := (H.out.setD c false).setT c (-1)
  rw [updE_twice] at h1
  have e : (updE K c ⟨(K c).till, (K c).seq, false⟩ c) = ⟨(K c).till, (K c).seq, false⟩ := by unfold updE; rw [if_pos rfl]
  rw [e] at h1
  exact ⟨rfl, h1, (Moves.setCell (F := fun k => k = b) (Moves.refl _ _) _ _ (.inl rfl)).setCell _ _ (.inl rfl)⟩
set_option maxRecDepth 100000 in
theorem forgive_alive (h : IsBook w b K) (c : Nat) (hc : c < 8) (hd : (K c).dead = false) : Calls Tryd.prog 136 #[.pointer (some ⟨b, 0, none⟩), .int .i64 (c : Int)] w fun e w' => e = .returned (.int .i64 3) ∧ w = w' := by
  have ho := of_any (w := w) (b := b) c hc
  have ht := h.d c hc
  rw [hd] at ht
  go_enter Tryd.func136, Tryd.ntmps136
  go_wp2_with fail
  refine ho.mono ?_
  rintro e w' ⟨rfl, rfl⟩
  clear ho
  go_wp2_with fail
  go_ret
  exact ⟨rfl, rfl⟩
end
end Go.Proofs.YtfjfkmoofmncnaaDoor
