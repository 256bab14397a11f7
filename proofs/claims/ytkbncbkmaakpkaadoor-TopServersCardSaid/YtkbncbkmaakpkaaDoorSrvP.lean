/- What a plate has behind two Puts, of which a cut may have ended the second. -/
import Derived.Test.YtkbncbkmaakpkaaDoorSrvA
namespace Go.Proofs.YtkbncbkmaakpkaaDoor
open Go.RowKit
/-- A plate that nothing waits on. -/
def still (n : Nat) (is : List (List UInt8)) (off : Bool) (left keep calls : Nat) : PS := { size := n, is := is, wait := [], off := off, left := left, keep := keep, calls := calls }
theorem pad_full {t : List UInt8} (h : t.length = 32) : pad t = t := by simp [pad, h, Zn]
section
variable {n : Nat} {is : List (List UInt8)} {left keep calls i : Nat} {t o : List UInt8}
theorem put1_full (hs : ∀ x ∈ is, x.length = 32) (hi : i < is.length) (ht : t.length = 32) : put1 is i 32 t = is.set i t := by
  have h1 : (is.getD i []).length = 32 := by
    rw [List.getD_eq_getElem?_getD, List.getElem?_eq_getElem hi]
    exact hs _ (List.getElem_mem hi)
  unfold put1
  rw [List.take_of_length_le (by omega), List.drop_eq_nil_of_le (by omega), List.append_nil]
theorem wr_free (hs : ∀ x ∈ is, x.length = 32) (hl : is.length = n) (hi : i < n) (ht : t.length = 32) (hc : left = 0 ∨ 3 ≤ left) :
    wrE (still n is false left keep calls) i t = 0 ∧ wrS (still n is false left keep calls) i t = still n (is.set i t) false (left - 2) keep (calls + 2) := by
  have h2 := put1_full hs (by omega : i < is.length) ht
  have n1 : ¬ (i : Int) < 0 := by omega
  have n2 : ¬ n ≤ i := by omega
  rcases hc with rfl | hc
  · simp [wrE, wrS, still, PS.writeE, PS.writeS, PS.syncE, PS.syncS, PS.wrong, PS.lastB, PS.lastS, PS.waits, PS.counts, PS.settled, settle, pad_full ht, ht, n1, n2, h2]
  · obtain ⟨k, rfl⟩ : ∃ k, left = k + 3 := ⟨left - 3, by omega⟩
    simp [wrE, wrS, still, PS.writeE, PS.writeS, PS.syncE, PS.syncS, PS.wrong, PS.lastB, PS.lastS, PS.waits, PS.counts, PS.settled, settle, pad_full ht, ht, n1, n2, h2]
theorem wr_cut (hi : i < n) (ht : t.length = 32) (hc : left = 1 ∨ left = 2) :
    wrE (still n is false left keep calls) i t = 70 ∧ wrS (still n is false left keep calls) i t = still n (put1 is i (cutOf keep 0) t) true 0 keep (calls + left) := by
  have n1 : ¬ (i : Int) < 0 := by omega
  have n2 : ¬ n ≤ i := by omega
  rcases hc with rfl | rfl
  · simp [wrE, wrS, still, PS.writeE, PS.writeS, PS.wrong, PS.lastB, PS.lastS, PS.waits, PS.counts, PS.crash, PS.crashOn, settle, pad_full ht, ht, n1, n2]
  · simp [wrE, wrS, still, PS.writeE, PS.writeS, PS.syncE, PS.syncS, PS.wrong, PS.lastB, PS.lastS, PS.waits, PS.counts, PS.crash, PS.crashOn, settle, pad_full ht, ht, n1, n2]
theorem put_free {t0 t1 : List UInt8} (hs : ∀ x ∈ is, x.length = 32) (hl : is.length = n) (hi : i < n) (h0 : t0.length = 32) (h1 : t1.length = 32) (hc : left = 0 ∨ 5 ≤ left) :
    putE (still n is false left keep calls) i t0 t1 = 0 ∧ putS (still n is false left keep calls) i t0 t1 = still n (is.set i t1) false (left - 4) keep (calls + 4) := by
  obtain ⟨a, b⟩ := wr_free (keep := keep) (calls := calls) hs hl hi h0 (hc.imp id (by omega) : left = 0 ∨ 3 ≤ left)
  have hs2 : ∀ x ∈ is.set i t0, x.length = 32 := fun x hx => (List.mem_or_eq_of_mem_set hx).elim (hs x) (fun e => e ▸ h0)
  obtain ⟨c, d⟩ := wr_free (left := left - 2) (keep := keep) (calls := calls + 2) hs2 (by simpa using hl) hi h1 (by omega)
  unfold putE putS
  rw [if_pos a, if_pos a, b, c, d, List.set_set, show left - 2 - 2 = left - 4 by omega]
  exact ⟨rfl, rfl⟩
/-- A Put that a cut may end, and the crash behind it. -/
theorem put_cut {r : List UInt8} (hs : ∀ x ∈ is, x.length = 32) (hl : is.length = n) (hi : i < n) (hz : is[i]? = some (Zn 32)) (hr : r.length = 31) (h1 : 1 ≤ left) (h6 : left ≤ 6) :
    ((putE (still n is false left keep calls) i (0 :: r) (1 :: r) = 0 ∧ (putS (still n is false left keep calls) i (0 :: r) (1 :: r)).off = false) ∨ (putE (still n is false left keep calls) i (0 :: r) (1 :: r) = 70 ∧ (putS (still n is false left keep calls) i (0 :: r) (1 :: r)).off = true)) ∧
      (putS (still n is false left keep calls) i (0 :: r) (1 :: r)).wait = [] ∧
      ∃ x cc, (putS (still n is false left keep calls) i (0 :: r) (1 :: r)).crash keep = still n (is.set i x) true 0 keep cc ∧ (x[0]? ≠ some 1 ∨ x = 1 :: r) ∧ (putE (still n is false left keep calls) i (0 :: r) (1 :: r) = 0 → x = 1 :: r) := by
  have g0 : ((0 : UInt8) :: r).length = 32 := by simp [hr]
  have g1 : ((1 : UInt8) :: r).length = 32 := by simp [hr]
  have hi2 : i < is.length := by omega
  rcases (by omega : left = 1 ∨ left = 2 ∨ left = 3 ∨ left = 4 ∨ 5 ≤ left) with hc | hc | hc | hc | hc
  iterate 2
    · obtain ⟨a, b⟩ := wr_cut (is := is) (keep := keep) (calls := calls) hi g0 (by omega : left = 1 ∨ left = 2)
      have a' : ¬ wrE (still n is false left keep calls) i (0 :: r) = 0 := by rw [a]; decide
      unfold putE putS
      rw [if_neg a', if_neg a', a, b]
      refine ⟨.inr ⟨rfl, rfl⟩, rfl, (0 :: r).take (cutOf keep 0) ++ (Zn 32).drop (cutOf keep 0), calls + left, ?_, .inl ?_, fun h => absurd h (by decide)⟩
      · have hg : is.getD i [] = Zn 32 := by rw [List.getD_eq_getElem?_getD, hz]; rfl
        simp only [PS.crash, still, put1, hg, if_true]
      · cases cutOf keep 0 <;> simp [Zn]
  iterate 2
    · obtain ⟨a, b⟩ := wr_free (keep := keep) (calls := calls) hs hl hi g0 (by omega : left = 0 ∨ 3 ≤ left)
      obtain ⟨c, d⟩ := wr_cut (is := is.set i (0 :: r)) (left := left - 2) (keep := keep) (calls := calls + 2) hi g1 (by omega)
      unfold putE putS
      rw [if_pos a, if_pos a, b, c, d]
      refine ⟨.inr ⟨rfl, rfl⟩, rfl, (1 :: r).take (cutOf keep 0) ++ (0 :: r).drop (cutOf keep 0), calls + 2 + (left - 2), ?_, ?_, fun h => absurd h (by decide)⟩
      · have hg : (is.set i (0 :: r)).getD i [] = 0 :: r := by rw [List.getD_eq_getElem?_getD, List.getElem?_set_self hi2]; rfl
        simp only [PS.crash, still, put1, hg, if_true, List.set_set]
      · cases cutOf keep 0 with
        | zero => exact .inl (by simp)
        | succ k => exact .inr (by simp)
  · obtain ⟨a, b⟩ := put_free (t0 := 0 :: r) (t1 := 1 :: r) (keep := keep) (calls := calls) hs hl hi g0 g1 (.inr hc)
    rw [a, b]
    exact ⟨.inl ⟨rfl, rfl⟩, rfl, 1 :: r, calls + 4, rfl, .inr rfl, fun _ => rfl⟩
end
/-- What the first two sectors have: the old block, and the new one or none. -/
def KK (b : Nat) (d d' : ByteArray) (y : Bool) (i : Nat) : Option Pl := if i = 0 then some ⟨b, 1, d, 0⟩ else if i = 1 ∧ y = true then some ⟨b, 2, d', 1⟩ else none
theorem KK_open (b : Nat) (d d' : ByteArray) (y : Bool) : openA (KK b d d' y) 9 b = some (if y then ⟨b, 2, d', 1⟩ else ⟨b, 1, d, 0⟩) := by
  cases y <;> simp [openA, KK, updA]
theorem KK_recs (b : Nat) (hb : b < 256) (d d' : ByteArray) (hd : d.size ≤ 16) (hd' : d'.size ≤ 16) (y : Bool) (st : PS) (x : List UInt8) (hsz : st.size = 9) (his : st.is = ((List.replicate 9 (Zn 32)).set 0 (recB b 1 d.data.toList 1)).set 1 x)
    (hx : if y then x = recB b 2 d'.data.toList 1 else x[0]? ≠ some 1) : Recs st (KK b d d' y) := by
  have h0 : st.is[0]? = some (recB b 1 d.data.toList 1) := by rw [his]; simp
  have h1 : st.is[1]? = some x := by rw [his]; simp
  refine ⟨fun i s hi hs hk => ?_, fun i s p hi hs hk => ?_, fun i p q hk ho => ?_⟩
  · rcases (by omega : i = 0 ∨ i = 1 ∨ 2 ≤ i) with rfl | rfl | h2
    · simp [KK] at hk
    · cases y with
      | true => simp [KK] at hk
      | false =>
        rw [h1] at hs
        injection hs with hs
        rw [← hs]
        simpa using hx
    · have e : s = Zn 32 := by
        rw [his, List.getElem?_set_ne (by omega), List.getElem?_set_ne (by omega)] at hs
        exact List.eq_of_mem_replicate (List.mem_of_getElem? hs)
      rw [e]
      simp [Zn]
  · rcases (by omega : i = 0 ∨ i = 1 ∨ 2 ≤ i) with rfl | rfl | h2
    · rw [h0] at hs
      injection hs with hs
      simp only [KK, if_true] at hk
      injection hk with hk
      subst hk
      exact ⟨hs.symm, hb, by show 1 ≤ 1; omega, by show 1 ≤ 1099511627776; omega, hd, rfl⟩
    · cases y with
      | false => simp [KK] at hk
      | true =>
        rw [h1] at hs
        injection hs with hs
        simp [KK] at hk
        subst hk
        simp at hx
        exact ⟨by rw [← hs, hx], hb, by show 1 ≤ 2; omega, by show 2 ≤ 1099511627776; omega, hd', rfl⟩
    · have e : KK b d d' y i = none := by unfold KK; rw [if_neg (by omega), if_neg fun h => by have := h.1; omega]
      rw [e] at hk
      cases hk
  · rcases (by omega : i = 0 ∨ i = 1 ∨ 2 ≤ i) with rfl | rfl | h2
    · simp [openA] at ho
    · cases y with
      | false => simp [KK] at hk
      | true =>
        simp [KK] at hk
        subst hk
        simp [openA, KK, updA] at ho
        subst ho
        exact ⟨by show 1 < 2; omega, by show 0 < 1000; omega⟩
    · have e : KK b d d' y i = none := by unfold KK; rw [if_neg (by omega), if_neg fun h => by have := h.1; omega]
      rw [e] at hk
      cases hk
end Go.Proofs.YtkbncbkmaakpkaaDoor
