/- The reference's list and count of what is free: the plain law. -/
import Derived.Test.YtajbodfdohhhoaaExtSame
namespace Go.Proofs.Ytajbodfdohhhoaa
/-- The ranges, cut off at i. -/
def cutL (i : Int) : List Rg → List Rg
  | [] => []
  | r :: L => if r.hi ≤ i then r :: cutL i L else bit r.lo i
theorem bit_nil {a b : Int} (h : b ≤ a) : bit a b = [] := by unfold bit; rw [if_neg (by omega)]
theorem bit_one {a b : Int} (h : a < b) : bit a b = [⟨a, b⟩] := by unfold bit; rw [if_pos h]
theorem cutL_nil {n : Int} : ∀ {L : List Rg} {c i : Int}, Rises n c L → i ≤ c + 1 → cutL i L = []
  | [], _, _, _, _ => rfl
  | r :: L, c, i, ⟨h1, h2, h3, h4⟩, hi => by rw [cutL, if_neg (by omega), bit_nil (by omega)]
theorem cutL_all {n : Int} : ∀ {L : List Rg} {c : Int}, Rises n c L → cutL n L = L
  | [], _, _ => rfl
  | r :: L, c, ⟨h1, h2, h3, h4⟩ => by rw [cutL, if_pos h3, cutL_all h4]
theorem in_cons (r : Rg) (L : List Rg) (i : Int) (h : isIn (r :: L) i = false) : ¬ (r.lo ≤ i ∧ i < r.hi) ∧ isIn L i = false := by
  simp only [isIn, Bool.or_eq_false_iff] at h
  refine ⟨fun hc => ?_, h.2⟩
  rw [decide_eq_true hc.1, decide_eq_true hc.2] at h
  cases h.1
theorem cutL_off {n : Int} : ∀ {L : List Rg} {c i : Int}, Rises n c L → isIn L i = false → cutL (i + 1) L = cutL i L
  | [], _, _, _, _ => rfl
  | r :: L, c, i, ⟨h1, h2, h3, h4⟩, hi => by
    obtain ⟨k1, k2⟩ := in_cons r L i hi
    rw [cutL, cutL]
    by_cases hr : r.hi ≤ i
    · rw [if_pos hr, if_pos (by omega), cutL_off h4 k2]
    · rw [if_neg hr, if_neg (by omega), bit_nil (by omega), bit_nil (by omega)]
theorem cutL_new {n : Int} : ∀ {L : List Rg} {c i : Int}, Rises n c L → c < i → isIn L i = true → (i = c + 1 ∨ isIn L (i - 1) = false) → cutL (i + 1) L = cutL i L ++ [⟨i, i + 1⟩]
  | [], _, _, _, _, hi, _ => by cases hi
  | r :: L, c, i, ⟨h1, h2, h3, h4⟩, hci, hi, hp => by
    rw [cutL, cutL]
    by_cases hr : r.hi ≤ i
    · have hi2 : isIn L i = true := by
        rcases (isIn_cons r L i).1 hi with h | h
        · omega
        · exact h
      have hm := (h4.mem hi2).1
      have hp2 : isIn L (i - 1) = false := by
        rcases hp with hp | hp
        · omega
        · exact (in_cons r L _ hp).2
      rw [if_pos hr, if_pos (by omega), cutL_new h4 (by omega) hi2 (.inr hp2)]; rfl
    · have hlo : r.lo = i := by
        rcases (isIn_cons r L i).1 hi with h | h
        · rcases hp with hp | hp
          · omega
          · have := (in_cons r L _ hp).1; omega
        · have := (h4.mem h).1; omega
      rw [if_neg hr, bit_nil (a := r.lo) (b := i) (by omega)]
      by_cases hr2 : r.hi ≤ i + 1
      · rw [if_pos hr2, cutL_nil h4 (by omega)]
        have : r.hi = i + 1 := by omega
        cases r; simp_all
      · rw [if_neg hr2, bit_one (a := r.lo) (b := i + 1) (by omega), hlo]; rfl
theorem cutL_ext {n : Int} : ∀ {L : List Rg} {c i : Int}, Rises n c L → isIn L i = true → isIn L (i - 1) = true → ∃ P lo, cutL i L = P ++ [⟨lo, i⟩] ∧ cutL (i + 1) L = P ++ [⟨lo, i + 1⟩]
  | [], _, _, _, hi, _ => by cases hi
  | r :: L, c, i, ⟨h1, h2, h3, h4⟩, hi, hp => by
    rw [cutL, cutL]
    by_cases hr : r.hi ≤ i
    · have hi2 : isIn L i = true := by
        rcases (isIn_cons r L i).1 hi with h | h
        · omega
        · exact h
      have hm := (h4.mem hi2).1
      have hp2 : isIn L (i - 1) = true := by
        rcases (isIn_cons r L _).1 hp with h | h
        · omega
        · exact h
      obtain ⟨P, lo, e1, e2⟩ := cutL_ext h4 hi2 hp2
      rw [if_pos hr, if_pos (by omega), e1, e2]
      exact ⟨r :: P, lo, rfl, rfl⟩
    · have hlo : r.lo ≤ i - 1 := by
        rcases (isIn_cons r L _).1 hp with h | h
        · exact h.1
        · have := (h4.mem h).1; omega
      rw [if_neg hr, bit_one (by omega)]
      refine ⟨[], r.lo, rfl, ?_⟩
      by_cases hr2 : r.hi ≤ i + 1
      · rw [if_pos hr2, cutL_nil h4 (by omega)]
        have : r.hi = i + 1 := by omega
        cases r; simp_all
      · rw [if_neg hr2, bit_one (by omega)]; rfl
/-- What is free ahead of i. -/
theorem sum_off {n : Int} {L : List Rg} {i : Int} (h : Rises n (-1) L) (hi : isIn L i = false) : sumR (cutL (i + 1) L) = sumR (cutL i L) := by rw [cutL_off h hi]
theorem sum_on {n : Int} {L : List Rg} {i : Int} (h : Rises n (-1) L) (h0 : 0 ≤ i) (hi : isIn L i = true) : sumR (cutL (i + 1) L) = sumR (cutL i L) + 1 := by
  cases hp : isIn L (i - 1) with
  | true =>
    obtain ⟨P, lo, e1, e2⟩ := cutL_ext h hi hp
    rw [e1, e2, sumR_app, sumR_app]; simp only [sumR]; omega
  | false =>
    rw [cutL_new h (by omega) hi (.inr hp), sumR_app]; simp only [sumR]; omega
theorem cutL_len {n : Int} : ∀ {L : List Rg} (i : Int), (cutL i L).length ≤ L.length + 1
  | [], _ => by simp [cutL]
  | r :: L, i => by
    rw [cutL]
    split
    · have := cutL_len (n := n) (L := L) i; simp; omega
    · unfold bit; split <;> simp
theorem cutL_sum {n : Int} : ∀ {L : List Rg} {c i : Int}, Rises n c L → 0 ≤ sumR (cutL i L) ∧ sumR (cutL i L) ≤ sumR L
  | [], _, _, _ => ⟨Int.le_refl _, Int.le_refl _⟩
  | r :: L, c, i, ⟨h1, h2, h3, h4⟩ => by
    have hs := h4.sum (by omega)
    rw [cutL]
    split
    · have := cutL_sum (i := i) h4
      simp only [sumR]; omega
    · unfold bit; split
      · simp only [sumR]; omega
      · simp only [sumR]; omega
end Go.Proofs.Ytajbodfdohhhoaa
