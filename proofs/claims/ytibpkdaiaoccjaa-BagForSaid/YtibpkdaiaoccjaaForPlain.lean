/- BagFor and the counts: plain facts on lists of messages. No program in sight. -/
import Derived.Test.YtibpkdaiaoccjaaBagF
namespace Go.Proofs.Ytibpkdaiaoccjaa
theorem forI_app (z : Int) : ∀ (l1 l2 : List Ms) (i : Nat), forI z i (l1 ++ l2) = forI z i l1 ++ forI z (i + l1.length) l2
  | [], l2, i => by simp [forI]
  | x :: r, l2, i => by
    have ih := forI_app z r l2 (i + 1)
    rw [show i + 1 + r.length = i + (x :: r).length by simp; omega] at ih
    simp only [List.cons_append, forI, ih]
    split <;> simp
theorem forI_mem (z : Int) : ∀ (l : List Ms) (i q : Nat), q ∈ forI z i l → i ≤ q ∧ ∃ m, l[q - i]? = some m ∧ m.dst = z
  | [], i, q, h => by simp [forI] at h
  | x :: r, i, q, h => by
    have ih := forI_mem z r (i + 1) q
    simp only [forI] at h
    have hr : q ∈ forI z (i + 1) r → i ≤ q ∧ ∃ m, (x :: r)[q - i]? = some m ∧ m.dst = z := fun h => by
      obtain ⟨h1, m, h2, h3⟩ := ih h
      refine ⟨by omega, m, ?_, h3⟩
      rw [show q - i = (q - (i + 1)) + 1 by omega]
      simpa using h2
    split at h
    · rename_i hd
      rcases List.mem_cons.1 h with h1 | h1
      · subst h1
        exact ⟨Nat.le_refl _, x, by simp, hd⟩
      · exact hr h1
    · exact hr h
theorem forI_sorted (z : Int) : ∀ (l : List Ms) (i : Nat), (forI z i l).Pairwise (· < ·)
  | [], _ => by simp [forI]
  | x :: r, i => by
    have ih := forI_sorted z r (i + 1)
    simp only [forI]
    split
    · refine List.pairwise_cons.2 ⟨fun q hq => ?_, ih⟩
      have := (forI_mem z r (i + 1) q hq).1
      omega
    · exact ih
theorem forI_lt {z : Int} {l : List Ms} {t t' q q' : Nat} (h : (forI z 0 l)[t]? = some q) (h' : (forI z 0 l)[t']? = some q') (ht : t < t') : q < q' := by
  have hp := List.pairwise_iff_getElem.1 (forI_sorted z l 0)
  obtain ⟨h1, e1⟩ := List.getElem?_eq_some_iff.1 h
  obtain ⟨h2, e2⟩ := List.getElem?_eq_some_iff.1 h'
  have := hp t t' h1 h2 ht
  omega
theorem forI_at {z : Int} {l : List Ms} {t q : Nat} (h : (forI z 0 l)[t]? = some q) : ∃ m, l[q]? = some m ∧ m.dst = z := by
  obtain ⟨h1, e1⟩ := List.getElem?_eq_some_iff.1 h
  obtain ⟨-, m, h2, h3⟩ := forI_mem z l 0 q (by rw [← e1]; exact List.getElem_mem h1)
  exact ⟨m, by simpa using h2, h3⟩
/-- The place that the next one to z has in the list of places. -/
theorem forI_next {z : Int} {l : List Ms} {i : Nat} {m : Ms} (h : l[i]? = some m) (hd : m.dst = z) : (forI z 0 l)[(forI z 0 (l.take i)).length]? = some i := by
  have hi := (List.getElem?_eq_some_iff.1 h).1
  have e : l = l.take i ++ (m :: l.drop (i + 1)) := by
    have h3 : l.drop i = m :: l.drop (i + 1) := by rw [List.drop_eq_getElem_cons hi]; congr 1; exact (List.getElem?_eq_some_iff.1 h).2
    rw [← h3, List.take_append_drop]
  have e2 := forI_app z (l.take i) (m :: l.drop (i + 1)) 0
  rw [← e, Nat.zero_add, List.length_take, Nat.min_eq_left (by omega)] at e2
  rw [e2, List.getElem?_append_right (Nat.le_refl _), Nat.sub_self, forI, if_pos hd]
  rfl
/-- Behind the taking of the last ones, from the j-th on. -/
def TakenFrom (z : Int) (l : List Ms) (j : Nat) (L : List Ms) : Prop :=
  L.length + ((forI z 0 l).length - j) = l.length ∧ ∀ t q, (forI z 0 l)[t]? = some q → t < j → L[q]? = l[q]?
theorem TakenFrom.start (z : Int) (l : List Ms) : TakenFrom z l (forI z 0 l).length l := ⟨by omega, fun _ _ _ _ => rfl⟩
theorem TakenFrom.step {z : Int} {l L : List Ms} {j q : Nat} (h : TakenFrom z l (j + 1) L) (hq : (forI z 0 l)[j]? = some q) :
    atB L (q : Int) = true ∧ (atM L (q : Int)).dst = z ∧ TakenFrom z l j (takeL L (q : Int)) := by
  obtain ⟨h1, h2⟩ := h
  obtain ⟨m, hm, hz⟩ := forI_at hq
  have hL : L[q]? = some m := (h2 j q hq (by omega)).trans hm
  have hlt := (List.getElem?_eq_some_iff.1 hL).1
  have hj := (List.getElem?_eq_some_iff.1 hq).1
  have hB : atB L (q : Int) = true := by rw [atB, decide_eq_true (by omega), decide_eq_true (by omega)]; rfl
  have e : takeL L (q : Int) = L.eraseIdx q := by rw [takeL, hB]; rfl
  refine ⟨hB, ?_, ?_, ?_⟩
  · rw [atM, if_pos (by omega)]
    simp [List.getD_eq_getElem?_getD, hL, hz]
  · rw [e, List.length_eraseIdx_of_lt hlt]; omega
  · intro t q' ht htj
    have hlt2 := forI_lt ht hq htj
    rw [e, List.getElem?_eraseIdx_of_lt hlt2]
    exact h2 t q' ht (by omega)
theorem keepL_none (wish : Nat → Ms → Bool) (hw : ∀ i j m, wish i m = wish j m) : ∀ (l : List Ms) (i : Nat), ∀ m ∈ keepL wish i l, wish 0 m = false
  | [], _, m, h => by simp [keepL] at h
  | x :: r, i, m, h => by
    simp only [keepL] at h
    split at h
    · exact keepL_none wish hw r (i + 1) m h
    · rename_i hx
      rcases List.mem_cons.1 h with h1 | h1
      · subst h1; rw [hw 0 i]; simpa using hx
      · exact keepL_none wish hw r (i + 1) m h1
theorem cut_none {z : Int} {l : List Ms} {m : Ms} (h : m ∈ keepL (wishOf z) 0 l) : (m.dst == z) = false ∧ (m.src == z) = false := by
  have := keepL_none (wishOf z) (fun _ _ _ => rfl) l 0 m h
  simpa [wishOf] using this
end Go.Proofs.Ytibpkdaiaoccjaa
