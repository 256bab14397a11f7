/- PlateCuts in plain Lean: the power goes at just the call that was ordered. -/
import Derived.Test.YtahmnehfadiegaaPs
namespace Go.Proofs.Ytahmnehfadiegaa
/-- Behind i calls, of which the k-th was ordered to be the last. -/
structure CInv (k i : Nat) (st : PS) : Prop where
  size : st.size = 4
  off : st.off = decide (0 < k ∧ k ≤ i)
  calls : st.calls = if 0 < k ∧ k ≤ i then k else i
  left : st.left = if 0 < k ∧ k ≤ i then 0 else if k = 0 then 0 else k - i
  wait : st.wait.length ≤ i
theorem size_lastS (st : PS) : st.lastS.size = st.size := by
  unfold PS.lastS; split
  · rfl
  · split
    · unfold PS.crash; split <;> rfl
    · rfl
theorem off_lastS (st : PS) (h : st.off = false) : st.lastS.off = st.lastB := by
  unfold PS.lastS PS.lastB
  by_cases h0 : st.left = 0
  · simp [h0, PS.counts, h]
  · by_cases h1 : st.left = 1
    · simp [h1, PS.counts, PS.crash, h, PS.crashOn]
    · simp [h0, h1, PS.counts, h]
theorem left_lastS (st : PS) (h : st.off = false) : st.lastS.left = st.left - 1 := by
  unfold PS.lastS
  by_cases h0 : st.left = 0
  · simp [h0, PS.counts]
  · by_cases h1 : st.left = 1
    · simp [h1, PS.counts, PS.crash, h, PS.crashOn]
    · simp [h0, h1]
theorem cinv_last {k i : Nat} {st : PS} (hs : st.size = 4) (ho : st.off = false) (hc : st.calls = i) (hl : st.left = k - i) (hg : ¬ (0 < k ∧ k ≤ i)) (hw : st.wait.length ≤ i + 1) :
    CInv k (i + 1) st.lastS ∧ st.lastB = decide (0 < k ∧ k ≤ i + 1) := by
  have hb : st.lastB = decide (0 < k ∧ k ≤ i + 1) := by
    unfold PS.lastB
    rw [hl]
    by_cases h : 0 < k ∧ k ≤ i + 1
    · have : k - i = 1 := by omega
      simp [this, h]
    · have : k - i ≠ 1 := by omega
      simp [this]
      omega
  refine ⟨⟨(size_lastS st).trans hs, (off_lastS st ho).trans hb, ?_, ?_, Nat.le_trans (PS.wait_lastS st) hw⟩, hb⟩
  · rw [PS.calls_lastS, hc]; split <;> omega
  · rw [left_lastS st ho, hl]; split
    · omega
    · split <;> omega
theorem CInv.sync {k i : Nat} {st : PS} (h : CInv k i st) : CInv k (i + 1) st.syncS ∧ st.syncE = if 0 < k ∧ k ≤ i + 1 then 70 else 0 := by
  by_cases hg : 0 < k ∧ k ≤ i
  · have ho : st.off = true := by rw [h.off]; simp [hg]
    have h1 : 0 < k ∧ k ≤ i + 1 := by omega
    have e : st.syncS = st := by simp [PS.syncS, ho]
    refine ⟨?_, by simp [PS.syncE, ho, h1]⟩
    rw [e]
    exact ⟨h.size, by rw [ho]; simp [h1], by rw [h.calls, if_pos hg, if_pos h1], by rw [h.left, if_pos hg, if_pos h1], by have := h.wait; omega⟩
  · have ho : st.off = false := by rw [h.off]; simp [hg]
    have hc : st.calls = i := by rw [h.calls, if_neg hg]
    have hl : st.left = k - i := by rw [h.left, if_neg hg]; split <;> omega
    obtain ⟨hi, hb⟩ := cinv_last h.size ho hc hl hg (by have := h.wait; omega)
    by_cases h1 : 0 < k ∧ k ≤ i + 1
    · have hb' : st.lastB = true := by rw [hb]; simp [h1]
      have e : st.syncS = st.lastS := by simp [PS.syncS, ho, hb']
      exact ⟨by rw [e]; exact hi, by simp [PS.syncE, hb', h1]⟩
    · have hb' : st.lastB = false := by rw [hb]; simp; omega
      have e : st.syncS = st.lastS.settled := by simp [PS.syncS, ho, hb']
      exact ⟨by rw [e]; exact ⟨hi.size, hi.off, hi.calls, hi.left, by simp [PS.settled]⟩, by simp [PS.syncE, ho, hb', h1]⟩
theorem CInv.write {k i : Nat} {st : PS} (h : CInv k i st) (j : Int) (hj0 : 0 ≤ j) (hj : j < 4) (s : List UInt8) (hs : s.length ≤ 32) : CInv k (i + 1) (st.writeS j s) ∧ st.writeE j s = if 0 < k ∧ k ≤ i + 1 then 70 else 0 := by
  by_cases hg : 0 < k ∧ k ≤ i
  · have ho : st.off = true := by rw [h.off]; simp [hg]
    have h1 : 0 < k ∧ k ≤ i + 1 := by omega
    have hwr : st.wrong j = 70 := by simp [PS.wrong, ho]
    have e : st.writeS j s = st := by simp [PS.writeS, hwr]
    refine ⟨?_, by simp [PS.writeE, hwr, h1]⟩
    rw [e]
    exact ⟨h.size, by rw [ho]; simp [h1], by rw [h.calls, if_pos hg, if_pos h1], by rw [h.left, if_pos hg, if_pos h1], by have := h.wait; omega⟩
  · have ho : st.off = false := by rw [h.off]; simp [hg]
    have hc : st.calls = i := by rw [h.calls, if_neg hg]
    have hl : st.left = k - i := by rw [h.left, if_neg hg]; split <;> omega
    have hwr : st.wrong j = 0 := by
      have := h.size
      simp [PS.wrong, ho]
      omega
    have e : st.writeS j s = (st.waits j.toNat (pad s)).lastS := by simp [PS.writeS, hwr, hs]
    obtain ⟨hi, hb⟩ := cinv_last (st := st.waits j.toNat (pad s)) h.size ho hc hl hg (by have := h.wait; simp [PS.waits]; omega)
    have hb2 : st.lastB = decide (0 < k ∧ k ≤ i + 1) := hb
    refine ⟨by rw [e]; exact hi, ?_⟩
    simp [PS.writeE, hwr, hs, hb2]
theorem CInv.new (k : Nat) (keep : Nat) : CInv k 0 ((PS.new 4).cut (k : Int) keep) := by
  refine ⟨rfl, ?_, ?_, ?_, by simp [PS.new, PS.cut]⟩
  · simp [PS.new, PS.cut]; omega
  · simp [PS.new, PS.cut]
    omega
  · by_cases h : k = 0 <;> simp [PS.cut, h]
end Go.Proofs.Ytahmnehfadiegaa
