/- What lasts in a sector that no waiting write is for. No program in sight. -/
import Derived.Test.YtahmnehfadiegaaReadsPlain
namespace Go.Proofs.Ytahmnehfadiegaa
theorem settle_other (of : Nat → Nat) (i : Nat) : ∀ (l : List (Nat × List UInt8)) (j : Nat) (is : List (List UInt8)), (∀ x ∈ l, x.1 ≠ i) → (settle of j l is).getD i [] = is.getD i []
  | [], _, _, _ => rfl
  | x :: r, j, is, h => by
    show (settle of (j + 1) r (put1 is x.1 (of j) x.2)).getD i [] = _
    rw [settle_other of i r (j + 1) _ fun y hy => h y (by simp [hy])]
    have hx : x.1 ≠ i := h x (by simp)
    rw [put1, List.getD_eq_getElem?_getD, List.getElem?_set_ne hx, List.getD_eq_getElem?_getD]
namespace PS
theorem live.wait_write {st : PS} (h : st.live) (i : Int) (s : List UInt8) : (st.writeS i s).is = st.is ∧ ∀ x ∈ (st.writeS i s).wait, x ∈ st.wait ∨ (st.writeE i s = 0 ∧ (x.1 : Int) = i) := by
  rw [h.writeS]
  by_cases hc : st.wrong i = 0 ∧ s.length ≤ 32
  · rw [if_pos hc]
    refine ⟨rfl, fun x hx => ?_⟩
    have hx' : x ∈ st.wait ++ [(i.toNat, pad s)] := hx
    rcases List.mem_append.1 hx' with h1 | h1
    · exact .inl h1
    · have := PS.wrong_lt hc.1
      simp at h1
      refine .inr ⟨by rw [h.writeE, if_pos hc.1, if_pos hc.2], ?_⟩
      rw [h1]; simp; omega
  · rw [if_neg hc]
    exact ⟨rfl, fun x hx => .inl hx⟩
theorem live.write_same {st : PS} (h : st.live) (i : Int) (s : List UInt8) (he : st.writeE i s ≠ 0) : st.writeS i s = st := by
  rw [h.writeS, if_neg]
  intro hc
  apply he
  rw [h.writeE, if_pos hc.1, if_pos hc.2]
theorem live.write_in {st : PS} (h : st.live) (i : Int) (s : List UInt8) (he : st.writeE i s = 0) : 0 ≤ i ∧ i < (st.size : Int) := by
  rw [h.writeE] at he
  by_cases h1 : st.wrong i = 0
  · have := PS.wrong_lt h1; omega
  · rw [if_neg h1] at he; exact absurd he h1
/-- Behind a crash and a new start: what a sector reads. -/
theorem readV_again (st : PS) (keep : Nat) (k : Nat) (hk : k < st.size) (hoff : st.off = false) (hn : ∀ x ∈ st.wait, x.1 ≠ k) : ((st.crash keep).power).readV k = st.is.getD k [] ∧ ((st.crash keep).power).wrong k = 0 := by
  have hw : ((st.crash keep).power).wrong k = 0 := by
    simp only [PS.crash, hoff, PS.power, PS.wrong, PS.crashOn]
    simp
    omega
  refine ⟨?_, hw⟩
  unfold PS.readV
  rw [if_pos hw]
  simp only [PS.crash, hoff, PS.power, PS.crashOn]
  show PS.curOf _ [] ((settle (cutOf keep) 0 st.wait st.is).getD _ []) = _
  exact settle_other _ _ _ _ _ hn
theorem wrong_again (st : PS) (keep : Nat) (k : Nat) (hk : k < st.size) (hoff : st.off = false) : ((st.crash keep).power).wrong k = 0 := by
  simp only [PS.crash, hoff, PS.power, PS.wrong, PS.crashOn]
  simp
  omega
end PS
end Go.Proofs.Ytahmnehfadiegaa
