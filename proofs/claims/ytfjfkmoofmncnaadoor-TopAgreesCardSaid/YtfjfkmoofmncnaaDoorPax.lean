/- Three nodes that agree: what a proposal does, as plain data; a slot that one node learned has that value at each. No program in sight. -/
namespace Go.Proofs.YtfjfkmoofmncnaaDoor
/-- Two nodes of three. -/
def maj (Q : Nat → Prop) : Prop := ∃ i j, i ≠ j ∧ i < 3 ∧ j < 3 ∧ Q i ∧ Q j
theorem maj_meet {Q R : Nat → Prop} (h : maj Q) (k : maj R) : ∃ i, i < 3 ∧ Q i ∧ R i := by
  obtain ⟨i, j, hij, hi, hj, qi, qj⟩ := h
  obtain ⟨x, y, hxy, hx, hy, rx, ry⟩ := k
  rcases (by omega : x = i ∨ x = j ∨ y = i ∨ y = j) with e | e | e | e
  · exact ⟨i, hi, qi, e ▸ rx⟩
  · exact ⟨j, hj, qj, e ▸ rx⟩
  · exact ⟨i, hi, qi, e ▸ ry⟩
  · exact ⟨j, hj, qj, e ▸ ry⟩
theorem maj.mono {Q R : Nat → Prop} (h : maj Q) (hm : ∀ i, i < 3 → Q i → R i) : maj R := by
  obtain ⟨i, j, hij, hi, hj, qi, qj⟩ := h
  exact ⟨i, j, hij, hi, hj, hm i hi qi, hm j hj qj⟩
/-- What each node has promised, voted, learned; its round. -/
structure PX (α : Type) where
  p : Nat → Int
  V : Nat → Nat → Option (Int × α)
  log : Nat → List α
  round : Nat → Nat
variable {α : Type}
def num (round who : Nat) : Int := (round : Int) * 8 + (who : Int) + 1
theorem num_inj {r r' o o' : Nat} (ho : o < 3) (ho' : o' < 3) (h : num r o = num r' o') : r = r' ∧ o = o' := by
  unfold num at h
  omega
/-- A slot is settled: by b0 and more, each vote has the value. -/
def Settled (s : PX α) (slot : Nat) (x : α) : Prop :=
  ∃ b0, maj (fun i => b0 ≤ s.p i ∧ ∃ b, s.V i slot = some (b, x) ∧ b0 ≤ b) ∧ ∀ j b y, j < 3 → s.V j slot = some (b, y) → b0 ≤ b → y = x
structure Inv (s : PX α) : Prop where
  le : ∀ j k b x, j < 3 → s.V j k = some (b, x) → b ≤ s.p j
  many : ∀ j k b x, j < 3 → s.V j k = some (b, x) → maj fun i => b ≤ s.p i
  own : ∀ j k b x, j < 3 → s.V j k = some (b, x) → ∃ o r, o < 3 ∧ b = num r o ∧ r < s.round o
  log : ∀ who k x, who < 3 → (s.log who)[k]? = some x → Settled s k x
/-- Nodes P have promised b. -/
def PX.prep (s : PX α) (P : Nat → Bool) (b : Int) : PX α := { s with p := fun i => if P i then b else s.p i }
/-- Nodes A have voted. -/
def PX.acc (s : PX α) (A : Nat → Bool) (b : Int) (slot : Nat) (x : α) : PX α :=
  { s with p := fun i => if A i then b else s.p i, V := fun i k => if A i && k == slot then some (b, x) else s.V i k }
def PX.learn (s : PX α) (who : Nat) (l : List α) : PX α := { s with log := fun i => if i = who then l else s.log i }
def PX.turn (s : PX α) (who r : Nat) : PX α := { s with round := fun i => if i = who then r else s.round i }
theorem Inv.turn {s : PX α} (h : Inv s) (who r : Nat) (hr : s.round who ≤ r) : Inv (s.turn who r) := by
  refine ⟨h.le, h.many, fun j k b x hj hv => ?_, h.log⟩
  obtain ⟨o, r', ho, hb, hr'⟩ := h.own j k b x hj hv
  refine ⟨o, r', ho, hb, ?_⟩
  unfold PX.turn
  dsimp only
  split
  · subst_vars; omega
  · exact hr'
theorem Inv.prep {s : PX α} (h : Inv s) (P : Nat → Bool) (b : Int) (hP : ∀ i, i < 3 → P i = true → s.p i ≤ b) : Inv (s.prep P b) := by
  have up : ∀ i, i < 3 → s.p i ≤ (s.prep P b).p i := fun i hi => by
    unfold PX.prep
    dsimp only
    split
    · exact hP i hi (by assumption)
    · exact Int.le_refl _
  refine ⟨fun j k c x hj hv => Int.le_trans (h.le j k c x hj hv) (up j hj), fun j k c x hj hv => (h.many j k c x hj hv).mono fun i hi hq => Int.le_trans hq (up i hi), h.own, fun who k x hw hx => ?_⟩
  obtain ⟨b0, h1, h2⟩ := h.log who k x hw hx
  exact ⟨b0, h1.mono fun i hi hq => ⟨Int.le_trans hq.1 (up i hi), hq.2⟩, h2⟩
theorem Inv.learn {s : PX α} (h : Inv s) (who : Nat) (l : List α) (hl : ∀ k x, l[k]? = some x → Settled s k x) : Inv (s.learn who l) := by
  refine ⟨h.le, h.many, h.own, fun w k x hw hx => ?_⟩
  unfold PX.learn at hx
  dsimp only at hx
  split at hx
  · exact hl k x hx
  · exact h.log w k x hw hx
theorem Settled.same {s : PX α} {k : Nat} {x y : α} (h : Settled s k x) (g : Settled s k y) : x = y := by
  obtain ⟨b0, h1, h2⟩ := h
  obtain ⟨c0, g1, g2⟩ := g
  rcases Int.le_total b0 c0 with hb | hb
  · obtain ⟨i, j, -, hi, -, ⟨-, b, hv, hl⟩, -⟩ := g1
    exact (h2 i b y hi hv (Int.le_trans hb hl)).symm
  · obtain ⟨i, j, -, hi, -, ⟨-, b, hv, hl⟩, -⟩ := h1
    exact g2 i b x hi hv (Int.le_trans hb hl)
/-- Two logs of one state have no slot with two values. -/
theorem Inv.agree {s : PX α} (h : Inv s) {i j k : Nat} {x y : α} (hi : i < 3) (hj : j < 3) (hx : (s.log i)[k]? = some x) (hy : (s.log j)[k]? = some y) : x = y := (h.log i k x hi hx).same (h.log j k y hj hy)
/-- The votes: P of a majority have promised b, x is what the best vote of a heard majority has. -/
theorem Inv.vote {s : PX α} (h : Inv s) (who : Nat) (hw : who < 3) (slot : Nat) (A : Nat → Bool) (x : α) (hA : ∀ i, i < 3 → A i = true → s.p i ≤ num (s.round who) who)
    (H : Nat → Prop) (hH : maj H) (hp : ∀ i, i < 3 → H i → s.p i = num (s.round who) who)
    (hbest : (∀ i, i < 3 → H i → s.V i slot = none) ∨ ∃ i c, i < 3 ∧ H i ∧ s.V i slot = some (c, x) ∧ ∀ j d y, j < 3 → H j → s.V j slot = some (d, y) → d ≤ c) :
    Inv ((s.acc A (num (s.round who) who) slot x).turn who (s.round who + 1)) ∧ (maj (fun i => A i = true) → Settled ((s.acc A (num (s.round who) who) slot x).turn who (s.round who + 1)) slot x) := by
  generalize hb : num (s.round who) who = b at *
  -- every vote there is has a lower ballot
  have low : ∀ j k c y, j < 3 → s.V j k = some (c, y) → c < b := fun j k c y hj hv => by
    obtain ⟨i, hi, hq, hr⟩ := maj_meet hH (h.many j k c y hj hv)
    have h1 := hp i hi hq
    obtain ⟨o, r, ho, hc, hr2⟩ := h.own j k c y hj hv
    have hne : c ≠ b := fun e => by
      rw [e, ← hb] at hc
      obtain ⟨e1, e2⟩ := num_inj hw ho hc
      subst e2
      omega
    omega
  have up : ∀ i, i < 3 → s.p i ≤ (if A i = true then b else s.p i) := fun i hi => by
    split
    · exact hA i hi (by assumption)
    · exact Int.le_refl _
  have vv : ∀ j k c y, ((s.acc A b slot x).turn who (s.round who + 1)).V j k = some (c, y) → (A j = true ∧ k = slot ∧ c = b ∧ y = x) ∨ s.V j k = some (c, y) := fun j k c y hv => by
    unfold PX.turn PX.acc at hv
    dsimp only at hv
    split at hv
    · rename_i h1
      simp at h1
      injection hv with hv
      injection hv with e1 e2
      exact .inl ⟨h1.1, h1.2, e1.symm, e2.symm⟩
    · exact .inr hv
  have old : ∀ k y, Settled s k y → (k = slot → y = x) → Settled ((s.acc A b slot x).turn who (s.round who + 1)) k y := fun k y hs hk => by
    obtain ⟨b0, h1, h2⟩ := hs
    refine ⟨b0, h1.mono fun i hi hq => ?_, fun j c z hj hv hc => ?_⟩
    · obtain ⟨g1, c, g2, g3⟩ := hq
      refine ⟨Int.le_trans g1 (up i hi), ?_⟩
      by_cases e : (A i && k == slot) = true
      · refine ⟨b, ?_, Int.le_trans g3 (Int.le_of_lt (low i k c y hi g2))⟩
        have e2 := e
        simp at e2
        show (if (A i && k == slot) = true then some (b, x) else s.V i k) = _
        rw [if_pos e, hk e2.2]
      · refine ⟨c, ?_, g3⟩
        show (if (A i && k == slot) = true then some (b, x) else s.V i k) = _
        rw [if_neg e, g2]
    · rcases vv j k c z hv with ⟨-, e, -, rfl⟩ | hv
      · exact (hk e).symm
      · exact h2 j c z hj hv hc
  have best : ∀ y, Settled s slot y → y = x := fun y hs => by
    obtain ⟨b0, h1, h2⟩ := hs
    obtain ⟨i, hi, hq, -, c, g2, g3⟩ := maj_meet hH h1
    rcases hbest with hn | ⟨i2, c2, hi2, hq2, hv2, hmax⟩
    · rw [hn i hi hq] at g2
      cases g2
    · exact (h2 i2 c2 x hi2 hv2 (Int.le_trans g3 (hmax i c y hi hq g2))).symm
  refine ⟨⟨fun j k c y hj hv => ?_, fun j k c y hj hv => ?_, fun j k c y hj hv => ?_, fun w k y hw' hx => ?_⟩, fun hm => ?_⟩
  · rcases vv j k c y hv with ⟨hAj, -, rfl, -⟩ | hv
    · show c ≤ (if A j = true then c else s.p j)
      rw [if_pos hAj]
      exact Int.le_refl _
    · exact Int.le_trans (h.le j k c y hj hv) (up j hj)
  · rcases vv j k c y hv with ⟨-, -, rfl, -⟩ | hv
    · exact hH.mono fun i hi hq => by
        show c ≤ (if A i = true then c else s.p i)
        rw [hp i hi hq]
        split <;> exact Int.le_refl _
    · exact (h.many j k c y hj hv).mono fun i hi hq => Int.le_trans hq (up i hi)
  · have hr : ∀ o r, r < s.round o → r < (if o = who then s.round who + 1 else s.round o) := fun o r hr => by
      split
      · subst_vars; omega
      · exact hr
    rcases vv j k c y hv with ⟨-, -, rfl, -⟩ | hv
    · refine ⟨who, s.round who, hw, hb.symm, ?_⟩
      show s.round who < (if who = who then s.round who + 1 else s.round who)
      rw [if_pos rfl]
      omega
    · obtain ⟨o, r, ho, hc, hr2⟩ := h.own j k c y hj hv
      exact ⟨o, r, ho, hc, hr o r hr2⟩
  · exact old k y (h.log w k y hw' hx) fun e => by
      subst e
      exact best y (h.log w k y hw' hx)
  · refine ⟨b, hm.mono fun i hi hq => ⟨?_, b, ?_, Int.le_refl _⟩, fun j c z hj hv hc => ?_⟩
    · show b ≤ (if A i = true then b else s.p i)
      rw [if_pos hq]
      exact Int.le_refl _
    · show (if (A i && slot == slot) = true then some (b, x) else s.V i slot) = _
      rw [if_pos (by simp [hq])]
    · rcases vv j slot c z hv with ⟨-, -, -, e⟩ | hv
      · exact e
      · have := low j slot c z hj hv
        omega
end Go.Proofs.YtfjfkmoofmncnaaDoor
