/- A map of free ranges as plain data: rising ranges that do not touch; its places; Take, Give, Alloc. No program in sight. -/
import Derived.WalkKit
namespace Go.Proofs.Ytajbodfdohhhoaa
structure Rg where
  lo : Int
  hi : Int
theorem Rg.ext' {a b : Rg} (h1 : a.lo = b.lo) (h2 : a.hi = b.hi) : a = b := by cases a; cases b; simp_all
/-- Rising, not touching, not empty, behind c, at most to n. -/
def Rises (n : Int) : Int → List Rg → Prop
  | _, [] => True
  | c, r :: L => c < r.lo ∧ r.lo < r.hi ∧ r.hi ≤ n ∧ Rises n r.hi L
/-- Is a place free? -/
def isIn : List Rg → Int → Bool
  | [], _ => false
  | r :: L, i => (decide (r.lo ≤ i) && decide (i < r.hi)) || isIn L i
def endOf : Int → List Rg → Int
  | c, [] => c
  | _, r :: L => endOf r.hi L
theorem endOf_app (c : Int) : ∀ (P S : List Rg), endOf c (P ++ S) = endOf (endOf c P) S
  | [], _ => rfl
  | r :: P, S => by simp only [List.cons_append, endOf]; exact endOf_app r.hi P S
theorem isIn_app (i : Int) : ∀ (P S : List Rg), isIn (P ++ S) i = (isIn P i || isIn S i)
  | [], S => by simp [isIn]
  | r :: P, S => by simp only [List.cons_append, isIn, isIn_app i P S, Bool.or_assoc]
theorem rises_app (n : Int) : ∀ (P S : List Rg) (c : Int), Rises n c (P ++ S) ↔ Rises n c P ∧ Rises n (endOf c P) S
  | [], S, c => by simp [Rises, endOf]
  | r :: P, S, c => by
    simp only [List.cons_append, Rises, endOf, rises_app n P S r.hi]
    constructor
    · rintro ⟨h1, h2, h3, h4, h5⟩; exact ⟨⟨h1, h2, h3, h4⟩, h5⟩
    · rintro ⟨⟨h1, h2, h3, h4⟩, h5⟩; exact ⟨h1, h2, h3, h4, h5⟩
theorem Rises.end_ge {n : Int} : ∀ {L : List Rg} {c : Int}, Rises n c L → c ≤ endOf c L
  | [], _, _ => Int.le_refl _
  | r :: L, c, h => by have := h.2.2.2.end_ge; have := h.1; have := h.2.1; simp only [endOf]; omega
theorem Rises.end_le {n : Int} : ∀ {L : List Rg} {c : Int}, Rises n c L → c ≤ n → endOf c L ≤ n
  | [], _, _, h => h
  | r :: L, c, h, _ => by simp only [endOf]; exact h.2.2.2.end_le h.2.2.1
theorem Rises.weak {n : Int} : ∀ {L : List Rg} {c c' : Int}, Rises n c L → c' ≤ c → Rises n c' L
  | [], _, _, _, _ => trivial
  | r :: L, _, _, h, hc => ⟨by have := h.1; omega, h.2.1, h.2.2.1, h.2.2.2⟩
/-- What is free lies behind c, below the end, and below n. -/
theorem Rises.mem {n : Int} : ∀ {L : List Rg} {c i : Int}, Rises n c L → isIn L i = true → c < i ∧ i < endOf c L ∧ i < n
  | [], _, _, _, h => by simp [isIn] at h
  | r :: L, c, i, h, hi => by
    obtain ⟨h1, h2, h3, h4⟩ := h
    have he := h4.end_ge
    simp only [isIn, Bool.or_eq_true, Bool.and_eq_true, decide_eq_true_eq] at hi
    simp only [endOf]
    rcases hi with ⟨h5, h6⟩ | h5
    · omega
    · have := h4.mem h5; omega
theorem Rises.not_mem {n : Int} {L : List Rg} {c i : Int} (h : Rises n c L) (hi : i ≤ c) : isIn L i = false := by
  cases hb : isIn L i
  · rfl
  · have := (h.mem hb).1; omega
theorem Rises.not_end {n : Int} {L : List Rg} {c i : Int} (h : Rises n c L) (hi : endOf c L ≤ i) : isIn L i = false := by
  cases hb : isIn L i
  · rfl
  · have := (h.mem hb).2.1; omega
theorem isIn_cons (r : Rg) (L : List Rg) (i : Int) : isIn (r :: L) i = true ↔ (r.lo ≤ i ∧ i < r.hi) ∨ isIn L i = true := by
  simp [isIn]
theorem isIn_app_iff (P S : List Rg) (i : Int) : isIn (P ++ S) i = true ↔ isIn P i = true ∨ isIn S i = true := by
  simp [isIn_app]
/-- The places tell the ranges. -/
theorem Rises.same {n n' : Int} : ∀ {L L' : List Rg} {c c' : Int}, Rises n c L → Rises n' c' L' → (∀ i, isIn L i = isIn L' i) → L = L'
  | [], [], _, _, _, _, _ => rfl
  | [], r :: L', _, _, _, h, he => by
    have := he r.lo
    have h2 : isIn (r :: L') r.lo = true := (isIn_cons _ _ _).2 (.inl ⟨Int.le_refl _, h.2.1⟩)
    rw [h2] at this; simp [isIn] at this
  | r :: L, [], _, _, h, _, he => by
    have := he r.lo
    have h2 : isIn (r :: L) r.lo = true := (isIn_cons _ _ _).2 (.inl ⟨Int.le_refl _, h.2.1⟩)
    rw [h2] at this; simp [isIn] at this
  | r :: L, r' :: L', c, c', h, h', he => by
    have hr : isIn (r :: L) r.lo = true := (isIn_cons _ _ _).2 (.inl ⟨Int.le_refl _, h.2.1⟩)
    have hr' : isIn (r' :: L') r'.lo = true := (isIn_cons _ _ _).2 (.inl ⟨Int.le_refl _, h'.2.1⟩)
    have e1 : r.lo = r'.lo := by
      have a1 : r'.lo ≤ r.lo := by
        have := he r.lo; rw [hr] at this
        rcases (isIn_cons _ _ _).1 this.symm with h1 | h1
        · exact h1.1
        · have h3 := (h'.2.2.2.mem h1).1; have := h'.2.1; omega
      have a2 : r.lo ≤ r'.lo := by
        have := he r'.lo; rw [hr'] at this
        rcases (isIn_cons _ _ _).1 this with h1 | h1
        · exact h1.1
        · have h3 := (h.2.2.2.mem h1).1; have := h.2.1; omega
      omega
    have e2 : r.hi = r'.hi := by
      have b1 : ¬ r.hi < r'.hi := by
        intro hlt
        have h1 : isIn (r' :: L') r.hi = true := (isIn_cons _ _ _).2 (.inl ⟨by have := h.2.1; omega, hlt⟩)
        rw [← he] at h1
        rcases (isIn_cons _ _ _).1 h1 with h2 | h2
        · omega
        · have := (h.2.2.2.mem h2).1; omega
      have b2 : ¬ r'.hi < r.hi := by
        intro hlt
        have h1 : isIn (r :: L) r'.hi = true := (isIn_cons _ _ _).2 (.inl ⟨by have := h'.2.1; omega, hlt⟩)
        rw [he] at h1
        rcases (isIn_cons _ _ _).1 h1 with h2 | h2
        · omega
        · have := (h'.2.2.2.mem h2).1; omega
      omega
    obtain rfl := Rg.ext' e1 e2
    have := h.2.2.2.same h'.2.2.2 fun i => by
      have hi := he i
      by_cases hx : i < r.hi
      · rw [h.2.2.2.not_mem (by omega), h'.2.2.2.not_mem (by omega)]
      · simp only [isIn] at hi
        rw [decide_eq_false hx] at hi
        simpa using hi
    rw [this]
/-- The place of the first range that ends behind i. -/
def atR (i : Int) : List Rg → Nat
  | [] => 0
  | r :: L => if r.hi ≤ i then atR i L + 1 else 0
theorem atR_le (i : Int) : ∀ L : List Rg, atR i L ≤ L.length
  | [] => Nat.le_refl _
  | r :: L => by have := atR_le i L; simp only [atR, List.length_cons]; split <;> omega
/-- The row, parted there: the ranges ahead end at or ahead of i; the first one behind ends behind i. -/
theorem atR_part (i : Int) : ∀ L : List Rg, (∀ r ∈ L.take (atR i L), r.hi ≤ i) ∧ ∀ r, L[atR i L]? = some r → i < r.hi
  | [] => by simp [atR]
  | r :: L => by
    obtain ⟨h1, h2⟩ := atR_part i L
    simp only [atR]
    split
    · rename_i h
      refine ⟨fun x hx => ?_, fun x hx => h2 x (by simpa using hx)⟩
      simp only [List.take_succ_cons, List.mem_cons] at hx
      rcases hx with rfl | hx
      · exact h
      · exact h1 x hx
    · rename_i h
      refine ⟨fun x hx => by simp at hx, fun x hx => ?_⟩
      simp at hx; subst hx; omega
theorem endOf_le {c i : Int} : ∀ {P : List Rg}, c ≤ i → (∀ r ∈ P, r.hi ≤ i) → endOf c P ≤ i
  | [], hc, _ => hc
  | r :: P, _, h => by simp only [endOf]; exact endOf_le (h r (by simp)) fun x hx => h x (by simp [hx])
/-- A range, if it is none that is empty. -/
def bit (a b : Int) : List Rg := if a < b then [⟨a, b⟩] else []
theorem isIn_bit (a b i : Int) : isIn (bit a b) i = (decide (a ≤ i) && decide (i < b)) := by
  unfold bit
  split
  · simp [isIn]
  · simp only [isIn]
    symm
    rw [Bool.and_eq_false_iff, decide_eq_false_iff_not, decide_eq_false_iff_not]
    omega
/-- Are all places of a range free (1), or none (0)? -/
def allIn (L : List Rg) (a b : Int) : Prop := ∀ i, a ≤ i → i < b → isIn L i = true
def noneIn (L : List Rg) (a b : Int) : Prop := ∀ i, a ≤ i → i < b → isIn L i = false
section
variable {n : Int} {L : List Rg} {a b : Int}
/-- Where the range that ends behind a has all of a to b, and where not. -/
theorem take_test (h : Rises n (-1) L) (h0 : 0 ≤ a) (hab : a < b) {k : Nat} (hk : k = atR a L) {x : Rg} (hx : L[k]? = some x) : allIn L a b ↔ x.lo ≤ a ∧ b ≤ x.hi := by
  subst hk
  obtain ⟨p1, p2⟩ := atR_part a L
  have hlt := (List.getElem?_eq_some_iff.1 hx).1
  have e : L = L.take (atR a L) ++ x :: L.drop (atR a L + 1) := by
    have h3 : L.drop (atR a L) = x :: L.drop (atR a L + 1) := by rw [List.drop_eq_getElem_cons hlt]; congr 1; exact (List.getElem?_eq_some_iff.1 hx).2
    rw [← h3, List.take_append_drop]
  generalize hP : L.take (atR a L) = P at e p1
  generalize hS : L.drop (atR a L + 1) = S at e
  have hxa := p2 x hx
  rw [e] at h ⊢
  obtain ⟨hr1, hr2⟩ := (rises_app n P _ (-1)).1 h
  have hend : endOf (-1) P ≤ a := endOf_le (by omega) p1
  obtain ⟨x1, x2, x3, x4⟩ := hr2
  constructor
  · intro hall
    have i1 := hall a (Int.le_refl _) hab
    rw [isIn_app, hr1.not_end hend, Bool.false_or] at i1
    have hxl : x.lo ≤ a := by
      rcases (isIn_cons _ _ _).1 i1 with h1 | h1
      · exact h1.1
      · have := (x4.mem h1).1; omega
    refine ⟨hxl, ?_⟩
    rcases Int.lt_or_le x.hi b with hb | hb
    · have i2 := hall x.hi (by omega) hb
      rw [isIn_app, hr1.not_end (by omega), Bool.false_or] at i2
      rcases (isIn_cons _ _ _).1 i2 with h1 | h1
      · omega
      · have := (x4.mem h1).1; omega
    · exact hb
  · rintro ⟨h1, h2⟩ i hi1 hi2
    rw [isIn_app_iff]
    exact .inr ((isIn_cons _ _ _).2 (.inl ⟨by omega, by omega⟩))
theorem take_none (h : Rises n (-1) L) (h0 : 0 ≤ a) (hab : a < b) (hx : L[atR a L]? = none) : ¬ allIn L a b := by
  intro hall
  have hl : atR a L = L.length := Nat.le_antisymm (atR_le a L) (List.getElem?_eq_none_iff.1 hx)
  obtain ⟨p1, -⟩ := atR_part a L
  rw [hl, List.take_length] at p1
  have := hall a (Int.le_refl _) hab
  rw [h.not_end (endOf_le (by omega) p1)] at this
  simp at this
/-- Take: the list that it leaves. -/
def takeR (L : List Rg) (a b : Int) : List Rg :=
  match L[atR a L]? with
  | some x => L.take (atR a L) ++ ((bit x.lo a ++ bit b x.hi) ++ L.drop (atR a L + 1))
  | none => L
theorem part_at {k : Nat} {x : Rg} (hx : L[k]? = some x) : L = L.take k ++ x :: L.drop (k + 1) := by
  have hlt := (List.getElem?_eq_some_iff.1 hx).1
  have h3 : L.drop k = x :: L.drop (k + 1) := by rw [List.drop_eq_getElem_cons hlt]; congr 1; exact (List.getElem?_eq_some_iff.1 hx).2
  rw [← h3, List.take_append_drop]
theorem takeR_some {x : Rg} (hx : L[atR a L]? = some x) : takeR L a b = L.take (atR a L) ++ ((bit x.lo a ++ bit b x.hi) ++ L.drop (atR a L + 1)) := by rw [takeR, hx]
theorem takeR_ok (h : Rises n (-1) L) (h0 : 0 ≤ a) (hab : a < b) (hall : allIn L a b) :
    Rises n (-1) (takeR L a b) ∧ ∀ i, isIn (takeR L a b) i = (isIn L i && !(decide (a ≤ i) && decide (i < b))) := by
  cases hx : L[atR a L]? with
  | none => exact absurd hall (take_none h h0 hab hx)
  | some x =>
    obtain ⟨t1, t2⟩ := (take_test h h0 hab rfl hx).1 hall
    rw [takeR_some hx]
    have e := part_at hx
    generalize L.take (atR a L) = P at e ⊢
    generalize L.drop (atR a L + 1) = S at e ⊢
    subst e
    obtain ⟨hr1, hr2⟩ := (rises_app n P _ (-1)).1 h
    obtain ⟨x1, x2, x3, x4⟩ := hr2
    constructor
    · rw [rises_app]
      refine ⟨hr1, ?_⟩
      unfold bit
      split <;> split
      · exact ⟨x1, by assumption, by show a ≤ n; omega, by show a < b; omega, by assumption, x3, x4⟩
      · exact ⟨x1, by assumption, by show a ≤ n; omega, x4.weak (by show a ≤ x.hi; omega)⟩
      · exact ⟨by show endOf (-1) P < b; omega, by assumption, x3, x4⟩
      · exact x4.weak (by omega)
    · intro i
      rw [isIn_app, isIn_app, isIn_app, isIn_app, isIn_bit, isIn_bit]
      simp only [isIn]
      cases hP : isIn P i
      · cases hS : isIn S i
        · simp only [Bool.false_or, Bool.or_false]
          rw [Bool.eq_iff_iff]; simp; omega
        · have := (x4.mem hS).1
          rw [Bool.eq_iff_iff]; simp; omega
      · have := (hr1.mem hP).2.1
        rw [Bool.eq_iff_iff]; simp; omega
/-- Where the range may be given back. -/
theorem give_test (h : Rises n (-1) L) (h0 : 0 ≤ a) (hab : a < b) {x : Rg} (hx : L[atR a L]? = some x) : noneIn L a b ↔ b ≤ x.lo := by
  obtain ⟨p1, p2⟩ := atR_part a L
  have hxa := p2 x hx
  have e := part_at hx
  generalize L.take (atR a L) = P at e p1
  generalize L.drop (atR a L + 1) = S at e
  subst e
  obtain ⟨hr1, hr2⟩ := (rises_app n P _ (-1)).1 h
  have hend : endOf (-1) P ≤ a := endOf_le (by omega) p1
  obtain ⟨x1, x2, x3, x4⟩ := hr2
  constructor
  · intro hn
    rcases Int.lt_or_le x.lo b with hb | hb
    · rcases Int.lt_or_le x.lo a with hc | hc
      · have := hn a (Int.le_refl _) hab
        rw [isIn_app, hr1.not_end hend, Bool.false_or, (isIn_cons _ _ _).2 (.inl ⟨by omega, hxa⟩)] at this
        simp at this
      · have := hn x.lo hc hb
        rw [isIn_app, (isIn_cons _ _ _).2 (.inl ⟨by omega, x2⟩)] at this
        simp at this
    · exact hb
  · intro hb i hi1 hi2
    rw [isIn_app, hr1.not_end (by omega), Bool.false_or]
    cases hq : isIn (x :: S) i
    · rfl
    · rcases (isIn_cons _ _ _).1 hq with h1 | h1
      · omega
      · have := (x4.mem h1).1; omega
theorem give_none (h : Rises n (-1) L) (h0 : 0 ≤ a) (_hab : a < b) (hx : L[atR a L]? = none) : noneIn L a b := by
  have hl : atR a L = L.length := Nat.le_antisymm (atR_le a L) (List.getElem?_eq_none_iff.1 hx)
  obtain ⟨p1, -⟩ := atR_part a L
  rw [hl, List.take_length] at p1
  intro i hi1 _
  exact h.not_end (Int.le_trans (endOf_le (by omega) p1) hi1)
/-- Give, step by step: the range is put in; it grows into the next one; the one ahead grows into it. -/
def give1 (L : List Rg) (a b : Int) : List Rg := L.take (atR a L) ++ ⟨a, b⟩ :: L.drop (atR a L)
def give2 (L : List Rg) (a b : Int) : List Rg :=
  match L[atR a L]? with
  | some y => if y.lo = b then L.take (atR a L) ++ ⟨a, y.hi⟩ :: L.drop (atR a L + 1) else give1 L a b
  | none => give1 L a b
def giveR (L : List Rg) (a b : Int) : List Rg :=
  match (give2 L a b)[atR a L]?, atR a L with
  | some q, k + 1 => match L[k]? with
    | some p => if p.hi = a then L.take k ++ ⟨p.lo, q.hi⟩ :: (give2 L a b).drop (k + 2) else give2 L a b
    | none => give2 L a b
  | _, _ => give2 L a b
/-- The row behind give2: the ranges ahead; one from a on; those behind. -/
theorem give2_form (h : Rises n (-1) L) (h0 : 0 ≤ a) (hab : a < b) (hbn : b ≤ n) (hn : noneIn L a b) :
    ∃ e T, give2 L a b = L.take (atR a L) ++ ⟨a, e⟩ :: T ∧ a < e ∧ e ≤ n ∧ Rises n e T ∧ (∀ i, ((decide (a ≤ i) && decide (i < e)) || isIn T i) = ((decide (a ≤ i) && decide (i < b)) || isIn (L.drop (atR a L)) i)) := by
  have hl := atR_le a L
  cases hx : L[atR a L]? with
  | none =>
    have hd : L.drop (atR a L) = [] := List.drop_eq_nil_of_le (List.getElem?_eq_none_iff.1 hx)
    refine ⟨b, [], ?_, hab, hbn, trivial, fun i => by rw [hd]⟩
    rw [give2, hx]; simp only [give1, hd]
  | some y =>
    have hb := (give_test h h0 hab hx).1 hn
    have hlt := (List.getElem?_eq_some_iff.1 hx).1
    have hd : L.drop (atR a L) = y :: L.drop (atR a L + 1) := by rw [List.drop_eq_getElem_cons hlt]; congr 1; exact (List.getElem?_eq_some_iff.1 hx).2
    have e := part_at hx
    have hr := h
    rw [e] at hr
    obtain ⟨-, y1, y2, y3, y4⟩ := (rises_app n _ _ (-1)).1 hr
    by_cases hy : y.lo = b
    · refine ⟨y.hi, L.drop (atR a L + 1), ?_, by omega, y3, y4, fun i => ?_⟩
      · rw [give2, hx]; simp only [if_pos hy]
      · rw [hd]; simp only [isIn]
        cases hS : isIn (L.drop (atR a L + 1)) i
        · rw [Bool.eq_iff_iff]; simp; omega
        · simp
    · refine ⟨b, y :: L.drop (atR a L + 1), ?_, hab, hbn, ⟨by omega, y2, y3, y4⟩, fun i => by rw [hd]⟩
      rw [give2, hx]; simp only [if_neg hy, give1, hd]
theorem endOf_take {L : List Rg} {k : Nat} {p : Rg} (hp : L[k]? = some p) (c : Int) : endOf c (L.take (k + 1)) = p.hi := by
  rw [List.take_add_one, hp, endOf_app]; rfl
theorem giveR_ok (h : Rises n (-1) L) (h0 : 0 ≤ a) (hab : a < b) (hbn : b ≤ n) (hn : noneIn L a b) :
    Rises n (-1) (giveR L a b) ∧ ∀ i, isIn (giveR L a b) i = (isIn L i || (decide (a ≤ i) && decide (i < b))) := by
  obtain ⟨e, T, hg, hae, hen, hT, hin⟩ := give2_form h h0 hab hbn hn
  have hl := atR_le a L
  obtain ⟨p1, -⟩ := atR_part a L
  have hr := h
  rw [← List.take_append_drop (atR a L) L] at hr
  obtain ⟨hr1, hr2⟩ := (rises_app n _ _ (-1)).1 hr
  have hend : endOf (-1) (L.take (atR a L)) ≤ a := endOf_le (by omega) p1
  have hq : (give2 L a b)[atR a L]? = some ⟨a, e⟩ := by
    rw [hg, List.getElem?_append_right (by simp; omega)]
    simp [Nat.min_eq_left hl]
  have hLin : ∀ i, isIn L i = (isIn (L.take (atR a L)) i || isIn (L.drop (atR a L)) i) := fun i => by rw [← isIn_app, List.take_append_drop]
  have plain : giveR L a b = give2 L a b → endOf (-1) (L.take (atR a L)) < a → Rises n (-1) (giveR L a b) ∧ ∀ i, isIn (giveR L a b) i = (isIn L i || (decide (a ≤ i) && decide (i < b))) := by
    intro hgr hlt
    rw [hgr, hg]
    refine ⟨(rises_app n _ _ _).2 ⟨hr1, hlt, hae, hen, hT⟩, fun i => ?_⟩
    rw [isIn_app, hLin, Bool.or_assoc, Bool.or_comm (isIn (L.drop _) i), ← hin i]
    rfl
  cases hk : atR a L with
  | zero =>
    refine plain (by rw [giveR, hq, hk]) ?_
    rw [hk]; show (-1 : Int) < a; omega
  | succ k =>
    obtain ⟨p, hp⟩ : ∃ p, L[k]? = some p := ⟨_, List.getElem?_eq_getElem (by omega)⟩
    have hgr : giveR L a b = if p.hi = a then L.take k ++ ⟨p.lo, e⟩ :: (give2 L a b).drop (k + 2) else give2 L a b := by
      rw [giveR, hq, hk]; simp only [hp]
    have hpe : endOf (-1) (L.take (atR a L)) = p.hi := by rw [hk]; exact endOf_take hp (-1)
    by_cases hpa : p.hi = a
    · rw [if_pos hpa] at hgr
      have htk : L.take (atR a L) = L.take k ++ [p] := by rw [hk, List.take_add_one, hp]; rfl
      have hdr : (give2 L a b).drop (k + 2) = T := by
        rw [hg, htk, List.append_assoc, List.drop_append, List.drop_eq_nil_of_le (by simp; omega), List.nil_append, List.length_take, Nat.min_eq_left (by omega), show k + 2 - k = 2 by omega]
        rfl
      rw [hdr] at hgr
      rw [htk] at hr1
      obtain ⟨r1, r2, r3, r4, -⟩ := (rises_app n _ _ (-1)).1 hr1
      rw [hgr]
      refine ⟨(rises_app n _ _ _).2 ⟨r1, r2, by show p.lo < e; omega, hen, hT⟩, fun i => ?_⟩
      rw [isIn_app, hLin, htk, isIn_app, Bool.or_assoc, Bool.or_assoc, Bool.or_comm (isIn (L.drop _) i), ← hin i]
      congr 1
      simp only [isIn, Bool.or_false]
      cases hTi : isIn T i
      · rw [Bool.eq_iff_iff]; simp; omega
      · simp
    · rw [if_neg hpa] at hgr
      exact plain hgr (by omega)
/-- Alloc: the place of the first range that is long enough. -/
def fitR (k : Int) : List Rg → Nat
  | [] => 0
  | r :: L => if k ≤ r.hi - r.lo then 0 else fitR k L + 1
theorem fitR_le (k : Int) : ∀ L : List Rg, fitR k L ≤ L.length
  | [] => Nat.le_refl _
  | r :: L => by have := fitR_le k L; simp only [fitR, List.length_cons]; split <;> omega
theorem fitR_at (k : Int) : ∀ (L : List Rg) (x : Rg), L[fitR k L]? = some x → k ≤ x.hi - x.lo
  | [], x, h => by simp at h
  | r :: L, x, h => by
    simp only [fitR] at h
    split at h
    · simp at h; subst h; assumption
    · exact fitR_at k L x (by simpa using h)
theorem fitR_ahead (k : Int) : ∀ (L : List Rg) (j : Nat) (x : Rg), j < fitR k L → L[j]? = some x → x.hi - x.lo < k
  | [], j, x, _, h => by simp at h
  | r :: L, j, x, hj, h => by
    simp only [fitR] at hj
    split at hj
    · omega
    · match j, h with
      | 0, h => simp at h; subst h; omega
      | j + 1, h => exact fitR_ahead k L j x (by omega) (by simpa using h)
/-- How many places are free. -/
def sumR : List Rg → Int
  | [] => 0
  | r :: L => (r.hi - r.lo) + sumR L
theorem sumR_app : ∀ (P S : List Rg), sumR (P ++ S) = sumR P + sumR S
  | [], S => by simp [sumR]
  | r :: P, S => by simp only [List.cons_append, sumR, sumR_app P S]; omega
theorem sumR_bit {a b : Int} (h : a ≤ b) : sumR (bit a b) = b - a := by unfold bit; split <;> simp [sumR]; omega
theorem Rises.sum {n : Int} : ∀ {L : List Rg} {c : Int}, Rises n c L → c ≤ n → 0 ≤ sumR L ∧ sumR L ≤ n - c
  | [], c, _, h => by simp only [sumR]; omega
  | r :: L, c, h, _ => by
    obtain ⟨h1, h2, h3, h4⟩ := h
    have := h4.sum h3
    simp only [sumR]; omega
theorem takeR_sum (h : Rises n (-1) L) (h0 : 0 ≤ a) (hab : a < b) (hall : allIn L a b) : sumR (takeR L a b) = sumR L - (b - a) := by
  cases hx : L[atR a L]? with
  | none => exact absurd hall (take_none h h0 hab hx)
  | some x =>
    obtain ⟨t1, t2⟩ := (take_test h h0 hab rfl hx).1 hall
    rw [takeR_some hx]
    have e := part_at hx
    generalize L.take (atR a L) = P at e ⊢
    generalize L.drop (atR a L + 1) = S at e ⊢
    subst e
    rw [sumR_app, sumR_app, sumR_app, sumR_app, sumR_bit t1, sumR_bit t2]
    simp only [sumR]
    omega
end
/-- The sum is told by the places: a row that is as another one but for a range. -/
theorem giveR_sum {n : Int} {L : List Rg} {a b : Int} (h : Rises n (-1) L) (h0 : 0 ≤ a) (hab : a < b) (hbn : b ≤ n) (hn : noneIn L a b) : sumR (giveR L a b) = sumR L + (b - a) := by
  obtain ⟨g1, g2⟩ := giveR_ok h h0 hab hbn hn
  have hall : allIn (giveR L a b) a b := fun i hi1 hi2 => by rw [g2, decide_eq_true hi1, decide_eq_true hi2]; simp
  obtain ⟨t1, t2⟩ := takeR_ok g1 h0 hab hall
  have hs := takeR_sum g1 h0 hab hall
  have e : takeR (giveR L a b) a b = L := t1.same h fun i => by
    rw [t2, g2]
    by_cases hi : a ≤ i ∧ i < b
    · rw [hn i hi.1 hi.2, decide_eq_true hi.1, decide_eq_true hi.2]; rfl
    · have : (decide (a ≤ i) && decide (i < b)) = false := by rw [Bool.and_eq_false_iff, decide_eq_false_iff_not, decide_eq_false_iff_not]; omega
      rw [this]; simp
  rw [e] at hs
  omega
theorem give_take {n : Int} {L : List Rg} {a b : Int} (h : Rises n (-1) L) (h0 : 0 ≤ a) (hab : a < b) (hbn : b ≤ n) (hall : allIn L a b) : giveR (takeR L a b) a b = L := by
  obtain ⟨t1, t2⟩ := takeR_ok h h0 hab hall
  have hno : noneIn (takeR L a b) a b := fun i hi1 hi2 => by rw [t2, decide_eq_true hi1, decide_eq_true hi2]; simp
  obtain ⟨g1, g2⟩ := giveR_ok t1 h0 hab hbn hno
  refine g1.same h fun i => ?_
  rw [g2, t2]
  by_cases hi : a ≤ i ∧ i < b
  · rw [hall i hi.1 hi.2, decide_eq_true hi.1, decide_eq_true hi.2]; rfl
  · have : (decide (a ≤ i) && decide (i < b)) = false := by rw [Bool.and_eq_false_iff, decide_eq_false_iff_not, decide_eq_false_iff_not]; omega
    rw [this]; simp
end Go.Proofs.Ytajbodfdohhhoaa
