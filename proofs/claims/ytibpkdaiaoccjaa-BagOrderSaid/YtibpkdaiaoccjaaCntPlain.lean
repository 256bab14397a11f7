/- The counts of a message; a row that another one runs through: plain facts. No program in sight. -/
import Derived.Test.YtibpkdaiaoccjaaBagE
import Derived.Test.YtibpkdaiaoccjaaMsEq
namespace Go.Proofs.Ytibpkdaiaoccjaa
def cnt (m : Ms) : List Ms → Nat
  | [] => 0
  | x :: r => (if x = m then 1 else 0) + cnt m r
theorem cnt_app (m : Ms) : ∀ (a b : List Ms), cnt m (a ++ b) = cnt m a + cnt m b
  | [], b => by simp [cnt]
  | x :: r, b => by simp only [List.cons_append, cnt, cnt_app m r b]; omega
theorem cnt_snoc (m x : Ms) (a : List Ms) : cnt m (a ++ [x]) = cnt m a + if x = m then 1 else 0 := by rw [cnt_app]; simp [cnt]
theorem cnt_le (m : Ms) : ∀ (a : List Ms), cnt m a ≤ a.length
  | [] => Nat.le_refl _
  | x :: r => by have := cnt_le m r; simp only [cnt, List.length_cons]; split <;> omega
theorem cnt_erase (m : Ms) : ∀ (l : List Ms) (n : Nat) (x : Ms), l[n]? = some x → cnt m (l.eraseIdx n) + (if x = m then 1 else 0) = cnt m l
  | [], n, x, h => by simp at h
  | y :: r, 0, x, h => by simp at h; subst h; simp only [List.eraseIdx_cons_zero, cnt]; omega
  | y :: r, n + 1, x, h => by
    have := cnt_erase m r n x (by simpa using h)
    simp only [List.eraseIdx_cons_succ, cnt]; omega
theorem cnt_keep (m : Ms) (wish : Nat → Ms → Bool) (hw : ∀ i j x, wish i x = wish j x) : ∀ (l : List Ms) (i : Nat), cnt m (keepL wish i l) = if wish 0 m then 0 else cnt m l
  | [], i => by simp [keepL, cnt]
  | x :: r, i => by
    have ih := cnt_keep m wish hw r (i + 1)
    simp only [keepL]
    by_cases hx : wish i x = true
    · rw [if_pos hx, ih]
      by_cases he : x = m
      · subst he; rw [hw 0 i, hx]; simp
      · simp only [cnt, if_neg he, Nat.zero_add]
    · rw [if_neg hx]
      simp only [cnt, ih]
      by_cases he : x = m
      · subst he
        have : wish 0 x = false := by rw [hw 0 i]; simpa using hx
        rw [this]; simp
      · simp only [if_neg he, Nat.zero_add]
theorem atB_some {l : List Ms} {i : Int} (h : atB l i = true) : 0 ≤ i ∧ l[i.toNat]? = some (atM l i) := by
  unfold atB at h
  simp at h
  refine ⟨h.1, ?_⟩
  rw [atM, if_pos h.1]
  have : i.toNat < l.length := by omega
  simp [List.getD_eq_getElem?_getD, List.getElem?_eq_getElem this]
/-- There is m at a place. -/
def isAt (l : List Ms) (i : Int) (m : Ms) : Bool := atB l i && decide (atM l i = m)
theorem cnt_pos {m : Ms} : ∀ {l : List Ms}, m ∈ l → 1 ≤ cnt m l
  | [], h => by simp at h
  | x :: r, h => by
    simp only [cnt]
    rcases List.mem_cons.1 h with h1 | h1
    · rw [if_pos h1.symm]; omega
    · have := cnt_pos h1; omega
theorem cnt_isAt {m : Ms} {l : List Ms} {i : Int} (h : isAt l i m = true) : 1 ≤ cnt m l := by
  unfold isAt at h
  simp only [Bool.and_eq_true, decide_eq_true_eq] at h
  refine cnt_pos ?_
  have := (atM_mem h.1).1
  rwa [h.2] at this
theorem cnt_take (m : Ms) (l : List Ms) (i : Int) : (cnt m (takeL l i) : Int) = (cnt m l : Int) - (if isAt l i m then 1 else 0) := by
  unfold takeL isAt
  cases hB : atB l i
  · simp
  · have h := cnt_erase m l i.toNat (atM l i) (atB_some hB).2
    simp only [if_true, Bool.true_and, decide_eq_true_eq]
    split at h <;> simp_all <;> omega
theorem cnt_late (m : Ms) (l : List Ms) (i : Int) : cnt m (lateL l i) = cnt m l := by
  unfold lateL
  cases hB : atB l i
  · simp
  · have h := cnt_erase m l i.toNat (atM l i) (atB_some hB).2
    simp only [if_true, cnt_snoc]
    exact h
theorem cnt_twice (m : Ms) (l : List Ms) (i : Int) : (cnt m (twiceL l i) : Int) = (cnt m l : Int) + (if twiceE l i = 0 ∧ isAt l i m = true then 1 else 0) := by
  unfold twiceL isAt twiceE
  cases hB : atB l i
  · simp
  · by_cases hl : l.length < 64
    · simp only [hl, and_self, if_true, cnt_snoc, Bool.true_and, decide_eq_true_eq, true_and]
      split <;> simp
    · simp [hl]
theorem cnt_send (m x : Ms) (l : List Ms) : (cnt m (sendS l x) : Int) = (cnt m l : Int) + (if sendE l x = 0 ∧ x = m then 1 else 0) := by
  unfold sendS sendE
  by_cases hc : x.check = 0
  · by_cases hl : l.length < 64
    · simp only [hc, hl, and_self, if_true, cnt_snoc, true_and]
      split <;> simp
    · simp [hc, hl]
  · simp [hc]
theorem cnt_cut (m : Ms) (l : List Ms) (z : Int) : cnt m (keepL (wishOf z) 0 l) = if (m.dst == z) || (m.src == z) then 0 else cnt m l := cnt_keep m (wishOf z) (fun _ _ _ => rfl) l 0
/-- BagTwice: what is there at its end. -/
theorem twice_end (l : List Ms) (hl : l.length ≤ 30) (k : Nat) (hk : k < l.length) :
    ∃ m x L, l[k]? = some m ∧ l[0]? = some x ∧ twiceE l k = 0 ∧ twiceL l k = l ++ [m] ∧ atB (twiceL l k) 0 = true ∧ atM (twiceL l k) 0 = x ∧
      atB (lateL (twiceL l k) 0) (l.length : Int) = true ∧ atM (lateL (twiceL l k) 0) (l.length : Int) = x ∧ takeL (lateL (twiceL l k) 0) (l.length : Int) = L ∧ L.length = l.length ∧
      (cnt m L : Int) = (cnt m l : Int) + 1 - (cnt m [x] : Int) := by
  obtain ⟨m, hm⟩ : ∃ m, l[k]? = some m := ⟨_, List.getElem?_eq_getElem hk⟩
  match l, hm with
  | x :: r, hm =>
    have hB : atB (x :: r) (k : Int) = true := by rw [atB, decide_eq_true (by omega), decide_eq_true (by omega)]; rfl
    have hM : atM (x :: r) (k : Int) = m := by rw [atM, if_pos (by omega)]; simp [List.getD_eq_getElem?_getD, hm]
    have eT : twiceL (x :: r) (k : Int) = (x :: r) ++ [m] := by
      rw [twiceL, if_pos ⟨hB, by omega⟩, hM]
    have hB0 : atB ((x :: r) ++ [m]) 0 = true := by rw [atB, decide_eq_true (by omega), decide_eq_true (by simp <;> omega)]; rfl
    have hM0 : atM ((x :: r) ++ [m]) 0 = x := by rw [atM, if_pos (by omega)]; rfl
    have eL : lateL ((x :: r) ++ [m]) 0 = (r ++ [m]) ++ [x] := by
      rw [lateL, hB0, if_pos rfl, hM0]; rfl
    have hB1 : atB ((r ++ [m]) ++ [x]) ((x :: r).length : Int) = true := by rw [atB, decide_eq_true (by omega), decide_eq_true (by simp)]; rfl
    have hg : ((r ++ [m]) ++ [x])[(x :: r).length]? = some x := by
      rw [List.getElem?_append_right (by simp)]; simp
    have hM1 : atM ((r ++ [m]) ++ [x]) ((x :: r).length : Int) = x := by
      rw [atM, if_pos (by omega), Int.toNat_natCast, List.getD_eq_getElem?_getD, hg]; rfl
    have eE : takeL ((r ++ [m]) ++ [x]) ((x :: r).length : Int) = r ++ [m] := by
      rw [takeL, hB1, if_pos rfl, Int.toNat_natCast, List.eraseIdx_append_of_length_le (by simp)]; simp
    refine ⟨m, x, r ++ [m], hm, rfl, ?_, eT, ?_, ?_, ?_, ?_, ?_, by simp, ?_⟩
    · rw [twiceE, hB, if_pos rfl, if_pos (by omega)]
    · rw [eT]; exact hB0
    · rw [eT]; exact hM0
    · rw [eT, eL]; exact hB1
    · rw [eT, eL]; exact hM1
    · rw [eT, eL]; exact eE
    · rw [cnt_snoc, if_pos rfl]; simp only [cnt]; omega
/-- BagOrder: of what is there now, all but the last one run through what was. -/
def Runs (now was : List Ms) : Prop := now.dropLast.Sublist was
theorem Runs.skip {x y : Ms} {now was : List Ms} (h : Runs (x :: now) (y :: was)) (hn : now ≠ []) (hne : y ≠ x) : Runs (x :: now) was := by
  unfold Runs at *
  rw [List.dropLast_cons_of_ne_nil hn] at *
  cases h with
  | cons _ h => exact h
  | cons_cons _ h => exact absurd rfl hne
theorem Runs.meet {x : Ms} {now was : List Ms} (h : Runs (x :: now) (x :: was)) (hn : now ≠ []) : Runs now was := by
  unfold Runs at *
  rw [List.dropLast_cons_of_ne_nil hn] at h
  exact List.cons_sublist_cons.1 h
theorem Runs.some {x : Ms} {now was : List Ms} (h : Runs (x :: now) was) (hn : now ≠ []) : was ≠ [] := by
  unfold Runs at *
  rw [List.dropLast_cons_of_ne_nil hn] at h
  intro e; subst e; cases h
theorem runs_of_snoc (l : List Ms) (x : Ms) : Runs (l ++ [x]) l := by unfold Runs; rw [List.dropLast_concat]; exact List.Sublist.refl _
theorem runs_of_sub {l l' : List Ms} (h : l.Sublist l') : Runs l l' := (List.dropLast_sublist _).trans h
theorem runs_send (l : List Ms) (x : Ms) : Runs (sendS l x) l := by unfold sendS; split; exact runs_of_snoc _ _; exact runs_of_sub (List.Sublist.refl _)
theorem runs_take (l : List Ms) (i : Int) : Runs (takeL l i) l := by unfold takeL; split; exact runs_of_sub (List.eraseIdx_sublist _ _); exact runs_of_sub (List.Sublist.refl _)
theorem runs_twice (l : List Ms) (i : Int) : Runs (twiceL l i) l := by unfold twiceL; split; exact runs_of_snoc _ _; exact runs_of_sub (List.Sublist.refl _)
theorem runs_late (l : List Ms) (i : Int) : Runs (lateL l i) l := by
  unfold lateL; split
  · unfold Runs; rw [List.dropLast_concat]; exact List.eraseIdx_sublist _ _
  · exact runs_of_sub (List.Sublist.refl _)
theorem keepL_sub (wish : Nat → Ms → Bool) : ∀ (l : List Ms) (i : Nat), (keepL wish i l).Sublist l
  | [], _ => by simp [keepL]
  | x :: r, i => by
    simp only [keepL]
    split
    · exact (keepL_sub wish r (i + 1)).cons _
    · exact (keepL_sub wish r (i + 1)).cons_cons _
theorem runs_cut (l : List Ms) (z : Int) : Runs (keepL (wishOf z) 0 l) l := runs_of_sub (keepL_sub _ _ _)
end Go.Proofs.Ytibpkdaiaoccjaa
