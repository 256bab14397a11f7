/- ExtentApart: the plain law. -/
import Derived.Test.YtajbodfdohhhoaaExtSame
namespace Go.Proofs.Ytajbodfdohhhoaa
def Ap (a b : Rg) : Prop := a.hi ≤ b.lo ∨ b.hi ≤ a.lo
theorem Ap.symm {a b : Rg} (h : Ap a b) : Ap b a := Or.symm h
structure AInv (L H : List Rg) : Prop where
  one : ∀ h ∈ H, 0 ≤ h.lo ∧ h.lo < h.hi ∧ h.hi ≤ 100 ∧ noneIn L h.lo h.hi
  apart : H.Pairwise Ap
  sum : sumR H + sumR L = 100
theorem AInv.start : AInv [⟨0, 100⟩] [] := ⟨fun _ h => (nomatch h), List.Pairwise.nil, rfl⟩
theorem sumR_one (a : Rg) : sumR [a] = a.hi - a.lo := by simp [sumR]
theorem AInv.alloc {L H : List Rg} {a : Rg} (h : AInv L H) (hr : Rises 100 (-1) L) (ha : takeE 100 L a = 0) : AInv (takeS 100 L a) (H ++ [a]) := by
  obtain ⟨hm, -, hall, hs⟩ := takeE_zero hr ha
  obtain ⟨r0, r1, r2⟩ := mayE_zero hm
  obtain ⟨t1, t2⟩ := takeR_ok hr r0 r1 hall
  rw [hs]
  refine ⟨fun x hx => ?_, ?_, ?_⟩
  · rcases List.mem_append.1 hx with hx | hx
    · obtain ⟨h1, h2, h3, h4⟩ := h.one x hx
      exact ⟨h1, h2, h3, fun i i1 i2 => by rw [t2, h4 i i1 i2]; rfl⟩
    · obtain rfl := List.mem_singleton.1 hx
      exact ⟨r0, r1, r2, fun i i1 i2 => by rw [t2, decide_eq_true i1, decide_eq_true i2]; simp⟩
  · rw [List.pairwise_append]
    refine ⟨h.apart, List.pairwise_singleton _ _, fun x hx y hy => ?_⟩
    obtain rfl := List.mem_singleton.1 hy
    obtain ⟨h1, h2, h3, h4⟩ := h.one x hx
    by_cases hc : x.hi ≤ y.lo ∨ y.hi ≤ x.lo
    · exact hc
    · have h5 := h4 (max x.lo y.lo) (by omega) (by omega)
      have h6 := hall (max x.lo y.lo) (by omega) (by omega)
      rw [h5] at h6; cases h6
  · rw [takeR_sum hr r0 r1 hall, sumR_app, sumR_one]
    have := h.sum
    omega
theorem AInv.give {L H : List Rg} {a : Rg} {K : Nat} (h : AInv L H) (hr : Rises 100 (-1) L) (hK : H[K]? = some a) : giveE 100 L a = 0 ∧ AInv (giveS 100 L a) (H.take K ++ H.drop (K + 1)) := by
  obtain ⟨r0, r1, r2, hno⟩ := h.one a (List.mem_of_getElem? hK)
  have hm : mayE 100 a = 0 := by unfold mayE; rw [if_neg (by omega), if_neg (by omega)]
  have hok := (okG_iff hr r0 r1).2 hno
  have e1 : giveE 100 L a = 0 := by simp [giveE, hm, hok]
  have e2 : giveS 100 L a = giveR L a.lo a.hi := by simp [giveS, hm, hok]
  obtain ⟨g1, g2⟩ := giveR_ok hr r0 r1 r2 hno
  have hp := part_at hK
  have hsub : ∀ x ∈ H.take K ++ H.drop (K + 1), x ∈ H := fun x hx => by
    rcases List.mem_append.1 hx with hx | hx
    · exact List.mem_of_mem_take hx
    · exact List.mem_of_mem_drop hx
  have hapt := h.apart
  rw [hp, List.pairwise_append, List.pairwise_cons] at hapt
  obtain ⟨p1, ⟨p2, p3⟩, p4⟩ := hapt
  refine ⟨e1, ?_⟩
  rw [e2]
  refine ⟨fun x hx => ?_, ?_, ?_⟩
  · obtain ⟨h1, h2, h3, h4⟩ := h.one x (hsub x hx)
    have hapx : Ap x a := by
      rcases List.mem_append.1 hx with hx | hx
      · exact p4 x hx a (List.mem_cons_self ..)
      · exact (p2 x hx).symm
    refine ⟨h1, h2, h3, fun i i1 i2 => ?_⟩
    rw [g2, h4 i i1 i2]
    rcases hapx with hc | hc
    · rw [decide_eq_false (by omega : ¬ a.lo ≤ i)]; rfl
    · rw [decide_eq_false (by omega : ¬ i < a.hi)]; simp
  · rw [List.pairwise_append]
    exact ⟨p1, p3, fun x hx y hy => p4 x hx y (List.mem_cons_of_mem _ hy)⟩
  · rw [giveR_sum hr r0 r1 r2 hno, sumR_app]
    have := h.sum
    rw [hp, sumR_app] at this
    simp only [sumR] at this
    omega
theorem sumR_nn : ∀ {H : List Rg}, (∀ h ∈ H, h.lo < h.hi) → 0 ≤ sumR H
  | [], _ => Int.le_refl _
  | r :: H, h => by
    have h1 := h r (List.mem_cons_self ..)
    have h2 := sumR_nn (H := H) fun x hx => h x (List.mem_cons_of_mem _ hx)
    simp only [sumR]; omega
theorem AInv.scan {L H : List Rg} (h : AInv L H) (hr : Rises 100 (-1) L) {k : Nat} {x : Rg} (hx : H[k]? = some x) :
    0 ≤ x.lo ∧ x.lo < x.hi ∧ x.hi ≤ 100 ∧ 0 ≤ sumR (H.take k) ∧ sumR (H.take k) ≤ 100 ∧ sumR (H.take (k + 1)) = sumR (H.take k) + (x.hi - x.lo) ∧ ∀ j y, j < k → H[j]? = some y → 0 ≤ y.lo ∧ y.hi ≤ 100 ∧ ¬ (max x.lo y.lo < min x.hi y.hi) := by
  obtain ⟨r0, r1, r2, -⟩ := h.one x (List.mem_of_getElem? hx)
  have s1 := sumR_nn (H := H.take k) fun y hy => (h.one y (List.mem_of_mem_take hy)).2.1
  have s2 := sumR_nn (H := H.drop k) fun y hy => (h.one y (List.mem_of_mem_drop hy)).2.1
  have s3 := h.sum
  have s4 := (hr.sum (by omega)).1
  rw [← List.take_append_drop k H, sumR_app] at s3
  have e : H.take (k + 1) = H.take k ++ [x] := by rw [List.take_add_one, hx]; rfl
  refine ⟨r0, r1, r2, s1, by omega, by rw [e, sumR_app, sumR_one], fun j y hj hy => ?_⟩
  obtain ⟨q0, q1, q2, -⟩ := h.one y (List.mem_of_getElem? hy)
  have hj1 := (List.getElem?_eq_some_iff.1 hy)
  have hk1 := (List.getElem?_eq_some_iff.1 hx)
  have := List.pairwise_iff_getElem.1 h.apart j k hj1.1 hk1.1 hj
  rw [hj1.2, hk1.2] at this
  refine ⟨q0, q2, ?_⟩
  rcases this with h1 | h1 <;> omega
end Go.Proofs.Ytajbodfdohhhoaa
