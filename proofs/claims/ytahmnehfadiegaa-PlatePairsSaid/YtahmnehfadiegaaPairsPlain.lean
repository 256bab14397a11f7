/- Even cuts tear no pair. No program in sight. -/
import Derived.Test.YtahmnehfadiegaaReadsPlain
namespace Go.Proofs.Ytahmnehfadiegaa
/-- Each pair of s at an even place is one of those in may. -/
def Pairs (may : List (List UInt8)) (s : List UInt8) : Prop := ∀ k, k % 2 = 0 → k + 2 ≤ 32 → ∃ m ∈ may, (m.drop k).take 2 = (s.drop k).take 2
theorem cutOf_even (keep j : Nat) : cutOf keep j % 2 = 0 := by unfold cutOf; split <;> omega
theorem Pairs.cut {may : List (List UInt8)} {s x : List UInt8} (h : Pairs may s) (c : Nat) (hc : c % 2 = 0) (hc2 : c ≤ 32) (hx : x.length = 32) (_hs : s.length = 32) (hm : x ∈ may) : Pairs may (x.take c ++ s.drop c) := by
  intro k hk hk2
  by_cases hkc : k + 2 ≤ c
  · refine ⟨x, hm, ?_⟩
    rw [List.drop_append_of_le_length (by rw [List.length_take]; omega), List.take_append_of_le_length (by rw [List.length_drop, List.length_take]; omega), List.drop_take, List.take_take]
    congr 1
    omega
  · obtain ⟨m, h1, h2⟩ := h k hk hk2
    refine ⟨m, h1, h2.trans ?_⟩
    have hl : (x.take c).length = c := by rw [List.length_take]; omega
    rw [List.drop_append, hl, List.drop_eq_nil_of_le (show (x.take c).length ≤ k by omega), List.nil_append, List.drop_drop]
    congr 2
    omega
theorem Pairs.mono {may may' : List (List UInt8)} {s : List UInt8} (h : Pairs may s) (hm : ∀ x ∈ may, x ∈ may') : Pairs may' s := fun k h1 h2 => by
  obtain ⟨m, h3, h4⟩ := h k h1 h2
  exact ⟨m, hm m h3, h4⟩
theorem pairs_settle (keep i : Nat) (may : List (List UInt8)) : ∀ (ms : List (List UInt8)) (j : Nat) (is : List (List UInt8)), i < is.length → (∀ s ∈ is, s.length = 32) → (∀ m ∈ ms, m.length = 32 ∧ m ∈ may) → Pairs may (is.getD i []) →
    Pairs may ((settle (cutOf keep) j (ms.map fun m => (i, m)) is).getD i []) ∧ ((settle (cutOf keep) j (ms.map fun m => (i, m)) is).getD i []).length = 32
  | [], _, is, hi, hs, _, h => ⟨h, by rw [List.map_nil, settle, List.getD_eq_getElem?_getD, List.getElem?_eq_getElem hi]; exact hs _ (List.getElem_mem _)⟩
  | m :: r, j, is, hi, hs, hm, h => by
    have hg : (is.getD i []).length = 32 := by rw [List.getD_eq_getElem?_getD, List.getElem?_eq_getElem hi]; exact hs _ (List.getElem_mem _)
    show Pairs may ((settle (cutOf keep) (j + 1) (r.map fun m => (i, m)) (put1 is i (cutOf keep j) m)).getD i []) ∧ _
    refine pairs_settle keep i may r (j + 1) _ (by rw [length_put1]; exact hi) (put1_len hs (hm m (by simp)).1 hi) (fun x hx => hm x (by simp [hx])) ?_
    have e : (put1 is i (cutOf keep j) m).getD i [] = m.take (cutOf keep j) ++ (is.getD i []).drop (cutOf keep j) := by
      rw [put1, List.getD_eq_getElem?_getD, List.getElem?_set_self hi]; rfl
    rw [e]
    exact h.cut _ (cutOf_even _ _) (cutOf_le _ _) (hm m (by simp)).1 hg (hm m (by simp)).2
namespace PS
/-- What sector 2 has behind a crash and a new start. -/
theorem again_pairs {st : PS} (h : st.live) (keep : Nat) (hsz : 2 < st.size) (o : List UInt8) (ms : List (List UInt8)) (hw : st.wait = ms.map fun m => (2, m)) (hm : ∀ m ∈ ms, m.length = 32) (ho : st.is.getD 2 [] = o) :
    Pairs (o :: ms) ((st.crash keep).power.readV 2) ∧ ((st.crash keep).power.readV 2).length = 32 ∧ (st.crash keep).power.wrong 2 = 0 := by
  have hi : 2 < st.is.length := by rw [h.1.len]; exact hsz
  have hwr : (st.crash keep).power.wrong 2 = 0 := by
    simp only [PS.crash, h.2.1, PS.power, PS.wrong, PS.crashOn]
    simp
    omega
  have hr : (st.crash keep).power.readV 2 = (settle (cutOf keep) 0 (ms.map fun m => (2, m)) st.is).getD 2 [] := by
    unfold PS.readV
    rw [if_pos hwr]
    simp only [PS.crash, h.2.1, PS.power, PS.crashOn]
    rw [← hw]
    rfl
  have := pairs_settle keep 2 (o :: ms) ms 0 st.is hi h.1.sec (fun m hx => ⟨hm m hx, by simp [hx]⟩) (by rw [ho]; exact fun k _ _ => ⟨o, by simp, rfl⟩)
  rw [hr]
  exact ⟨this.1, this.2, hwr⟩
/-- A write of sector 2 that is taken. -/
theorem live.write_two {st : PS} (h : st.live) (hsz : 2 < st.size) (s : List UInt8) (hs : s.length ≤ 32) : st.writeS 2 s = (st.waits 2 (pad s)).counts ∧ st.writeE 2 s = 0 := by
  have hw : st.wrong 2 = 0 := by rw [h.wrong, if_neg (by omega)]
  exact ⟨by rw [h.writeS, if_pos ⟨hw, hs⟩]; rfl, by rw [h.writeE, if_pos hw, if_pos hs]⟩
theorem live.write_long {st : PS} (h : st.live) (hsz : 2 < st.size) (s : List UInt8) (hs : ¬ s.length ≤ 32) : st.writeS 2 s = st ∧ st.writeE 2 s = 11 := by
  have hw : st.wrong 2 = 0 := by rw [h.wrong, if_neg (by omega)]
  exact ⟨by rw [h.writeS, if_neg (fun hc => hs hc.2)], by rw [h.writeE, if_pos hw, if_neg hs]⟩
/-- The first of all: written and synced. -/
theorem first_two (old : List UInt8) (ho : old.length ≤ 32) : ((PS.new 4).writeS 2 old).live ∧ (PS.new 4).writeE 2 old = 0 ∧ ((PS.new 4).writeS 2 old).syncE = 0 ∧ ((PS.new 4).writeS 2 old).syncS.live ∧ ((PS.new 4).writeS 2 old).syncS.size = 4 ∧
    ((PS.new 4).writeS 2 old).syncS.wait = [] ∧ ((PS.new 4).writeS 2 old).syncS.is.getD 2 [] = pad old ∧ ((PS.new 4).writeS 2 old).syncS.calls = 2 ∧ ((PS.new 4).writeS 2 old).calls = 1 ∧ ((PS.new 4).writeS 2 old).wait.length = 1 := by
  have hn : (PS.new 4).live := live_new 4 (by decide) (by decide)
  obtain ⟨e1, e2⟩ := hn.write_two (by decide) old ho
  have hl := hn.write 2 old
  refine ⟨hl, e2, hl.syncE, hl.sync, ?_, ?_, ?_, ?_, ?_, ?_⟩
  · rw [hl.syncS, e1]; rfl
  · rw [hl.syncS]; rfl
  · rw [hl.syncS, e1]
    show (settle (fun _ => 32) 0 [(2, pad old)] (List.replicate 4 (Zn 32))).getD 2 [] = _
    have hp : (pad old).length = 32 := length_pad old ho
    simp [settle, put1, List.replicate]
    rw [List.take_of_length_le (by omega), List.drop_eq_nil_of_le (by simp [Zn]), List.append_nil]
  · rw [hl.syncS, e1]; rfl
  · rw [e1]; rfl
  · rw [e1]; rfl
end PS
end Go.Proofs.Ytahmnehfadiegaa
