/- ExtentFirst: the plain law. -/
import Derived.Test.YtajbodfdohhhoaaExtL
namespace Go.Proofs.Ytajbodfdohhhoaa
def noWin (n : Int) (L : List Rg) (i : Int) : Prop := ∀ a, 0 ≤ a → a + n ≤ i → ¬ allIn L a (a + n)
/-- What the law's scan has found, up to place i. -/
def FInv (n : Int) (L : List Rg) (i run best : Int) : Prop :=
  (best = -1 ∧ 0 ≤ run ∧ run ≤ i ∧ (∀ j, i - run ≤ j → j < i → isIn L j = true) ∧ (i - run = 0 ∨ isIn L (i - run - 1) = false) ∧ run < n ∧ noWin n L i) ∨
  (0 ≤ best ∧ best ≤ 50 ∧ allIn L best (best + n) ∧ noWin n L (best + n - 1))
theorem FInv.start {n : Int} (hn : 1 ≤ n) (L : List Rg) : FInv n L 0 0 (-1) :=
  .inl ⟨rfl, by omega, by omega, fun j h1 h2 => by omega, .inl rfl, by omega, fun a h0 h1 => by omega⟩
theorem FInv.free {n i run : Int} {L : List Rg} (hi : i < 50) (h : FInv n L i run (-1)) (hf : isIn L i = true) : 0 ≤ run ∧ run ≤ i ∧ (run + 1 = n → 0 ≤ i - n + 1 ∧ FInv n L (i + 1) (run + 1) (i - n + 1)) ∧ (run + 1 ≠ n → FInv n L (i + 1) (run + 1) (-1)) := by
  rcases h with ⟨-, h1, h2, h3, h4, h5, h6⟩ | ⟨h1, _⟩
  · refine ⟨h1, h2, fun hn => ⟨by omega, .inr ⟨by omega, by omega, fun j j0 j1 => ?_, fun a a0 a1 => h6 a a0 (by omega)⟩⟩, fun hn => .inl ⟨rfl, by omega, by omega, fun j j0 j1 => ?_, ?_, by omega, fun a a0 a1 hall => ?_⟩⟩
    · by_cases hj : j = i
      · rw [hj]; exact hf
      · exact h3 j (by omega) (by omega)
    · by_cases hj : j = i
      · rw [hj]; exact hf
      · exact h3 j (by omega) (by omega)
    · rw [show i + 1 - (run + 1) = i - run by omega]; exact h4
    · by_cases ha : a + n ≤ i
      · exact h6 a a0 ha hall
      · rcases h4 with h4 | h4
        · omega
        · have := hall (i - run - 1) (by omega) (by omega)
          rw [h4] at this; cases this
  · omega
theorem FInv.held {n i run : Int} {L : List Rg} (hn : 1 ≤ n) (h : FInv n L i run (-1)) (hf : isIn L i = false) : 0 ≤ run ∧ run ≤ i ∧ FInv n L (i + 1) 0 (-1) := by
  rcases h with ⟨-, h1, h2, h3, h4, h5, h6⟩ | ⟨h1, _⟩
  · refine ⟨h1, h2, .inl ⟨rfl, by omega, by omega, fun j j0 j1 => by omega, .inr ?_, by omega, fun a a0 a1 hall => ?_⟩⟩
    · rw [show i + 1 - 0 - 1 = i by omega]; exact hf
    · by_cases ha : a + n ≤ i
      · exact h6 a a0 ha hall
      · have := hall i (by omega) (by omega)
        rw [hf] at this; cases this
  · omega
theorem first_none {n : Int} {L : List Rg} (h : Rises 50 (-1) L) (hn : 1 ≤ n) (hw : noWin n L 50) : allocE n L = 2 ∧ allocR n L = Rg.zero := by
  have hx : L[fitR n L]? = none := by
    cases hx : L[fitR n L]? with
    | none => rfl
    | some x =>
      have h1 := fitR_at n L x hx
      have h2 := h.one (List.mem_of_getElem? hx)
      exact absurd (fun i a b => isIn_one (List.mem_of_getElem? hx) a (by omega)) (hw x.lo (by omega) (by omega))
  unfold allocE allocR
  rw [if_neg (by omega), if_neg (by omega), hx]
  exact ⟨rfl, rfl⟩
theorem first_some {n best : Int} {L : List Rg} (h : Rises 50 (-1) L) (hn : 1 ≤ n) (hb : 0 ≤ best) (hall : allIn L best (best + n)) (hw : noWin n L (best + n - 1)) : allocE n L = 0 ∧ allocR n L = ⟨best, best + n⟩ := by
  obtain ⟨x, hx⟩ : ∃ x, L[atR best L]? = some x := by
    cases hx : L[atR best L]? with
    | none => exact absurd hall (take_none h hb (by omega) hx)
    | some x => exact ⟨x, rfl⟩
  obtain ⟨x1, x2⟩ := (take_test h hb (by omega) rfl hx).1 hall
  have hql := (List.getElem?_eq_some_iff.1 hx).1
  have hpart := (atR_part best L).1
  obtain ⟨y, hy⟩ : ∃ y, L[fitR n L]? = some y := by
    cases hy : L[fitR n L]? with
    | none =>
      have h1 := List.getElem?_eq_none_iff.1 hy
      have := fitR_ahead n L _ x (by omega) hx
      omega
    | some y => exact ⟨y, rfl⟩
  have y1 := fitR_at n L y hy
  have y2 := h.one (List.mem_of_getElem? hy)
  have y3 : best ≤ y.lo := by
    refine Int.not_lt.1 fun hlt => hw y.lo (by omega) (by omega) fun i a b => isIn_one (List.mem_of_getElem? hy) a (by omega)
  have y4 : y.lo ≤ best := by
    rcases Nat.lt_trichotomy (fitR n L) (atR best L) with hc | hc | hc
    · have := hpart y (List.mem_iff_getElem?.2 ⟨fitR n L, by rw [List.getElem?_take, if_pos hc]; exact hy⟩)
      omega
    · rw [hc, hx] at hy; cases hy; exact x1
    · have := fitR_ahead n L _ x hc hx
      omega
  have e : y.lo = best := by omega
  unfold allocE allocR
  rw [if_neg (by omega), if_neg (by omega), hy]
  exact ⟨rfl, by simp only [e]⟩
end Go.Proofs.Ytajbodfdohhhoaa
