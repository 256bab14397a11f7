/- A plate whose power is there and stays: what is read behind a write, behind a sync. No program in sight. -/
import Derived.Test.YtahmnehfadiegaaPs
namespace Go.Proofs.Ytahmnehfadiegaa
namespace PS
/-- The power is there, and no order to cut it. -/
def live (st : PS) : Prop := st.ok ∧ st.off = false ∧ st.left = 0
theorem live_new (n : Nat) (h1 : 4 ≤ n) (h2 : n ≤ 128) : (PS.new n).live := ⟨ok_new n h1 h2, rfl, rfl⟩
theorem live.lastS {st : PS} (h : st.live) : st.lastS = st.counts := by simp [PS.lastS, h.2.2]
theorem live.lastB {st : PS} (h : st.live) : st.lastB = false := by simp [PS.lastB, h.2.2]
theorem live.writeS {st : PS} (h : st.live) (i : Int) (s : List UInt8) : st.writeS i s = if st.wrong i = 0 ∧ s.length ≤ 32 then (st.waits i.toNat (pad s)).counts else st := by
  unfold PS.writeS
  split
  · rw [PS.lastS, if_pos (show (st.waits i.toNat (pad s)).left = 0 from h.2.2)]
  · rfl
theorem live.write {st : PS} (h : st.live) (i : Int) (s : List UInt8) : (st.writeS i s).live := by
  refine ⟨h.1.writeS i s, ?_⟩
  rw [h.writeS]
  split
  · exact ⟨h.2.1, h.2.2⟩
  · exact h.2
theorem live.size_write {st : PS} (h : st.live) (i : Int) (s : List UInt8) : (st.writeS i s).size = st.size := by
  rw [h.writeS]; split <;> rfl
theorem live.wrong {st : PS} (h : st.live) (i : Int) : st.wrong i = if i < 0 ∨ (st.size : Int) ≤ i then 71 else 0 := by simp [PS.wrong, h.2.1]
theorem live.writeE {st : PS} (h : st.live) (i : Int) (s : List UInt8) : st.writeE i s = if st.wrong i = 0 then (if s.length ≤ 32 then 0 else 11) else st.wrong i := by simp [PS.writeE, h.lastB]
theorem live.syncE {st : PS} (h : st.live) : st.syncE = 0 := by simp [PS.syncE, h.2.1, h.lastB]
theorem live.syncS {st : PS} (h : st.live) : st.syncS = st.counts.settled := by simp [PS.syncS, h.2.1, h.lastB, h.lastS]
theorem live.sync {st : PS} (h : st.live) : st.syncS.live := ⟨h.1.syncS, by rw [h.syncS]; exact h.2⟩
theorem live.size_sync {st : PS} (h : st.live) : st.syncS.size = st.size := by rw [h.syncS]; rfl
end PS
theorem settle_all32 (i : Nat) : ∀ (l : List (Nat × List UInt8)) (j : Nat) (is : List (List UInt8)), (∀ x ∈ l, x.1 < is.length ∧ x.2.length = 32) → (∀ s ∈ is, s.length = 32) →
    (settle (fun _ => 32) j l is).getD i [] = PS.curOf i l (is.getD i [])
  | [], _, _, _, _ => rfl
  | x :: r, j, is, hl, hs => by
    obtain ⟨hx1, hx2⟩ := hl x (by simp)
    have e1 : put1 is x.1 32 x.2 = is.set x.1 x.2 := by
      have h3 : (is.getD x.1 []).length = 32 := by rw [List.getD_eq_getElem?_getD, List.getElem?_eq_getElem hx1]; exact hs _ (List.getElem_mem _)
      rw [put1, List.take_of_length_le (by omega), List.drop_eq_nil_of_le (by omega), List.append_nil]
    show (settle (fun _ => 32) (j + 1) r (put1 is x.1 32 x.2)).getD i [] = PS.curOf i r (if x.1 = i then x.2 else is.getD i [])
    rw [e1, settle_all32 i r (j + 1) (is.set x.1 x.2) (fun y hy => by simpa using hl y (by simp [hy])) (fun y hy => by
      rcases List.mem_or_eq_of_mem_set hy with h1 | h1
      · exact hs y h1
      · rw [h1]; exact hx2)]
    congr 1
    by_cases h : x.1 = i
    · subst h
      rw [if_pos rfl, List.getD_eq_getElem?_getD, List.getElem?_set_self hx1]; rfl
    · rw [if_neg h, List.getD_eq_getElem?_getD, List.getElem?_set_ne h, List.getD_eq_getElem?_getD]
namespace PS
theorem live.readV_sync {st : PS} (h : st.live) (i : Int) : st.syncS.readV i = st.readV i := by
  have hw : st.syncS.wrong i = st.wrong i := by rw [h.sync.wrong, h.wrong, h.size_sync]
  unfold PS.readV
  rw [hw]
  split
  · rw [h.syncS]
    show PS.curOf i.toNat [] ((settle (fun _ => 32) 0 st.wait st.is).getD i.toNat []) = _
    rw [settle_all32 _ _ _ _ (fun x hx => by rw [h.1.len]; exact h.1.wt x hx) h.1.sec]
    rfl
  · rfl
theorem live.readV_write {st : PS} (h : st.live) (i : Int) (s : List UInt8) (k : Nat) (hk : k < st.size) : (st.writeS i s).readV k = if st.writeE i s = 0 ∧ i = (k : Int) then pad s else st.readV k := by
  have hw : (st.writeS i s).wrong k = 0 := by rw [(h.write i s).wrong, h.size_write, if_neg (by omega)]
  have hw0 : st.wrong k = 0 := by rw [h.wrong, if_neg (by omega)]
  unfold PS.readV
  rw [if_pos hw, if_pos hw0]
  by_cases hc : st.wrong i = 0 ∧ s.length ≤ 32
  · have he : st.writeE i s = 0 := by rw [h.writeE, if_pos hc.1, if_pos hc.2]
    have hi := PS.wrong_lt hc.1
    rw [h.writeS, if_pos hc]
    show PS.curOf _ (st.wait ++ [(i.toNat, pad s)]) (st.is.getD _ []) = _
    rw [curOf_snoc]
    by_cases hik : i = (k : Int)
    · rw [if_pos (by omega), if_pos ⟨he, hik⟩]
    · rw [if_neg (by intro e; apply hik; simp only at e; omega), if_neg (fun hh => hik hh.2)]
  · have he : st.writeE i s ≠ 0 := by
      rw [h.writeE]
      by_cases h1 : st.wrong i = 0
      · rw [if_pos h1, if_neg (fun h2 => hc ⟨h1, h2⟩)]; decide
      · rw [if_neg h1]; exact h1
    rw [h.writeS, if_neg hc, if_neg (fun hh => he hh.1)]
theorem live.readV_len {st : PS} (h : st.live) (k : Nat) (hk : k < st.size) : (st.readV k).length = 32 := by
  have hw0 : st.wrong k = 0 := by rw [h.wrong, if_neg (by omega)]
  unfold PS.readV
  rw [if_pos hw0]
  refine curOf_len _ _ _ (fun x hx => (h.1.wt x hx).2) ?_
  have hk2 : (k : Int).toNat < st.is.length := by rw [h.1.len]; simpa using hk
  rw [List.getD_eq_getElem?_getD, List.getElem?_eq_getElem hk2]
  exact h.1.sec _ (List.getElem_mem _)
end PS
end Go.Proofs.Ytahmnehfadiegaa
