/- ExtentWhole: the plain law. -/
import Derived.Test.YtajbodfdohhhoaaExtSame
namespace Go.Proofs.Ytajbodfdohhhoaa
open Go.RowKit
/-- Those that are done: of the rounds ahead of k all, of round k those ahead of i. -/
def TK (d k i j : Nat) : Prop := j % d < k ∨ (j % d = k ∧ j < i)
def WTake (s d k i : Nat) (L : List Rg) : Prop := ∀ x : Int, isIn L x = true ↔ ∃ j : Nat, x = (j : Int) ∧ j < s ∧ ¬ TK d k i j
def WGive (s d k i : Nat) (L : List Rg) : Prop := ∀ x : Int, isIn L x = true ↔ ∃ j : Nat, x = (j : Int) ∧ j < s ∧ TK d k i j
theorem TK.enter (d k j : Nat) : TK d k k j ↔ TK d k 0 j := by
  unfold TK
  have := Nat.mod_le j d
  omega
theorem TK.next {d k i : Nat} (hd : 0 < d) (hi : i % d = k) (j : Nat) : TK d k (i + d) j ↔ TK d k i j ∨ j = i := by
  unfold TK
  constructor
  · rintro (h | ⟨h1, h2⟩)
    · exact .inl (.inl h)
    · by_cases h3 : j < i
      · exact .inl (.inr ⟨h1, h3⟩)
      · have h4 := Nat.sub_mod_eq_zero_of_mod_eq (h1.trans hi.symm)
        rw [Nat.mod_eq_of_lt (by omega)] at h4
        exact .inr (by omega)
  · rintro ((h | ⟨h1, h2⟩) | rfl)
    · exact .inl h
    · exact .inr ⟨h1, by omega⟩
    · exact .inr ⟨hi, by omega⟩
theorem TK.self {d k i : Nat} (hi : i % d = k) : ¬ TK d k i i := by
  unfold TK; omega
theorem TK.leave {s d k i j : Nat} (hi : s ≤ i) (hj : j < s) : TK d k i j ↔ TK d (k + 1) 0 j := by
  unfold TK; omega
theorem TK.all {d j : Nat} (hd : 0 < d) : TK d d 0 j := .inl (Nat.mod_lt j hd)
theorem TK.none (d j : Nat) : ¬ TK d 0 0 j := by unfold TK; omega
section
variable {s d k i : Nat} {L : List Rg}
theorem WTake.start (s d : Nat) : WTake s d 0 0 [⟨0, s⟩] := fun x => by
  rw [isIn_cons]
  constructor
  · rintro (⟨h1, h2⟩ | h)
    · exact ⟨x.toNat, by simp at h1 h2; omega, by simp at h1 h2; omega, TK.none _ _⟩
    · cases h
  · rintro ⟨j, rfl, hj, -⟩
    exact .inl ⟨by simp, by simp; omega⟩
theorem WTake.enter (h : WTake s d k 0 L) : WTake s d k k L := fun x => by rw [h x]; simp only [TK.enter]
theorem WGive.enter (h : WGive s d k 0 L) : WGive s d k k L := fun x => by rw [h x]; simp only [TK.enter]
theorem WTake.leave (hi : s ≤ i) (h : WTake s d k i L) : WTake s d (k + 1) 0 L := fun x => by
  rw [h x]
  exact ⟨fun ⟨j, a, b, c⟩ => ⟨j, a, b, fun t => c ((TK.leave hi b).2 t)⟩, fun ⟨j, a, b, c⟩ => ⟨j, a, b, fun t => c ((TK.leave hi b).1 t)⟩⟩
theorem WGive.leave (hi : s ≤ i) (h : WGive s d k i L) : WGive s d (k + 1) 0 L := fun x => by
  rw [h x]
  exact ⟨fun ⟨j, a, b, c⟩ => ⟨j, a, b, (TK.leave hi b).1 c⟩, fun ⟨j, a, b, c⟩ => ⟨j, a, b, (TK.leave hi b).2 c⟩⟩
theorem may_one {s i : Nat} (hi : i < s) : mayE (s : Int) ⟨(i : Int), (i : Int) + 1⟩ = 0 := by
  unfold mayE
  rw [if_neg (by show ¬ (i : Int) + 1 ≤ i; omega), if_neg (by show ¬ ((i : Int) < 0 ∨ (s : Int) < i + 1); omega)]
theorem WTake.next (hr : Rises (s : Int) (-1) L) (hd : 0 < d) (hi : i < s) (hk : i % d = k) (h : WTake s d k i L) : takeE s L ⟨(i : Int), (i : Int) + 1⟩ = 0 ∧ WTake s d k (i + d) (takeS s L ⟨(i : Int), (i : Int) + 1⟩) := by
  have hall : allIn L (i : Int) ((i : Int) + 1) := fun x h1 h2 => by
    obtain rfl : x = (i : Int) := by omega
    exact (h _).2 ⟨i, rfl, hi, TK.self hk⟩
  have hok := (okT_iff (r := ⟨(i : Int), (i : Int) + 1⟩) hr (by show (0 : Int) ≤ i; omega) (by show (i : Int) < i + 1; omega)).2 hall
  have e1 : takeE s L ⟨(i : Int), (i : Int) + 1⟩ = 0 := by simp [takeE, may_one hi, hok]
  have e2 : takeS s L ⟨(i : Int), (i : Int) + 1⟩ = takeR L i (i + 1) := by simp [takeS, may_one hi, hok]
  refine ⟨e1, fun x => ?_⟩
  rw [e2, (takeR_ok hr (by omega) (by omega) hall).2, Bool.and_eq_true, h x]
  constructor
  · rintro ⟨⟨j, rfl, hj, ht⟩, h2⟩
    refine ⟨j, rfl, hj, fun t => ?_⟩
    rcases (TK.next hd hk j).1 t with t | rfl
    · exact ht t
    · simp at h2; omega
  · rintro ⟨j, rfl, hj, ht⟩
    refine ⟨⟨j, rfl, hj, fun t => ht ((TK.next hd hk j).2 (.inl t))⟩, ?_⟩
    have : j ≠ i := fun e => ht ((TK.next hd hk j).2 (.inr e))
    simp; omega
theorem WGive.next (hr : Rises (s : Int) (-1) L) (hd : 0 < d) (hi : i < s) (hk : i % d = k) (h : WGive s d k i L) : giveE s L ⟨(i : Int), (i : Int) + 1⟩ = 0 ∧ WGive s d k (i + d) (giveS s L ⟨(i : Int), (i : Int) + 1⟩) := by
  have hno : noneIn L (i : Int) ((i : Int) + 1) := fun x h1 h2 => by
    obtain rfl : x = (i : Int) := by omega
    rw [Bool.eq_false_iff]
    intro hx
    obtain ⟨j, e, hj, ht⟩ := (h _).1 hx
    obtain rfl : i = j := by omega
    exact TK.self hk ht
  have hok := (okG_iff (r := ⟨(i : Int), (i : Int) + 1⟩) hr (by show (0 : Int) ≤ i; omega) (by show (i : Int) < i + 1; omega)).2 hno
  have e1 : giveE s L ⟨(i : Int), (i : Int) + 1⟩ = 0 := by simp [giveE, may_one hi, hok]
  have e2 : giveS s L ⟨(i : Int), (i : Int) + 1⟩ = giveR L i (i + 1) := by simp [giveS, may_one hi, hok]
  refine ⟨e1, fun x => ?_⟩
  rw [e2, (giveR_ok hr (by omega) (by omega) (by omega) hno).2, Bool.or_eq_true, h x]
  constructor
  · rintro (⟨j, rfl, hj, ht⟩ | h2)
    · exact ⟨j, rfl, hj, (TK.next hd hk j).2 (.inl ht)⟩
    · simp only [Bool.and_eq_true, decide_eq_true_eq] at h2
      exact ⟨i, by omega, hi, (TK.next hd hk i).2 (.inr rfl)⟩
  · rintro ⟨j, rfl, hj, ht⟩
    rcases (TK.next hd hk j).1 ht with t | rfl
    · exact .inl ⟨j, rfl, hj, t⟩
    · exact .inr (by simp; omega)
theorem WTake.done (hr : Rises (s : Int) (-1) L) (hd : 0 < d) (h : WTake s d d 0 L) : L = [] := by
  refine hr.same (n' := s) (c' := -1) (L' := []) trivial fun x => ?_
  have : isIn L x = false := by
    rw [Bool.eq_false_iff]
    intro hx
    obtain ⟨j, -, -, ht⟩ := (h x).1 hx
    exact ht (TK.all hd)
  rw [this]; rfl
theorem WGive.start (s d : Nat) : WGive s d 0 0 [] := fun x => ⟨fun h => (by cases h), fun ⟨j, _, _, ht⟩ => absurd ht (TK.none _ _)⟩
theorem WGive.done (hr : Rises (s : Int) (-1) L) (hs : 1 ≤ s) (hd : 0 < d) (h : WGive s d d 0 L) : L = [⟨0, s⟩] := by
  refine hr.same (n' := s) (c' := -1) (L' := [⟨0, s⟩]) ⟨by simp, by simp; omega, by simp, trivial⟩ fun x => ?_
  rw [Bool.eq_iff_iff, h x, WTake.start s d x]
  exact ⟨fun ⟨j, a, b, _⟩ => ⟨j, a, b, TK.none _ _⟩, fun ⟨j, a, b, _⟩ => ⟨j, a, b, TK.all hd⟩⟩
end
theorem goMod {kk m : Nat} (h : kk < 256) (hm : 1 ≤ m) (hm2 : m ≤ 60) : ∃ n : Nat, wrap64 (1 + (wrap64 (kk : Int)).tmod m) = (n : Int) ∧ 1 ≤ n ∧ n ≤ m := by
  have e1 : wrap64 (kk : Int) = (kk : Int) := by unfold wrap64; omega
  have e2 : (kk : Int).tmod m = ((kk % m : Nat) : Int) := by rw [Int.tmod_eq_emod_of_nonneg (Int.natCast_nonneg _)]; omega
  have h3 := Nat.mod_lt kk (show 0 < m by omega)
  generalize kk % m = q at e2 h3
  refine ⟨1 + q, ?_, by omega, by omega⟩
  rw [e1, e2]
  unfold wrap64; omega
end Go.Proofs.Ytajbodfdohhhoaa
