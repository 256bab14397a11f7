/- A sealed text with one bit turned is no seal. -/
import Derived.Test.YtkbncbkmaakpkaaDoorTmMem
namespace Go.Proofs.YtkbncbkmaakpkaaDoor
open Go.RowKit
theorem xor64_ne (x : UInt8) : x ^^^ 64 ≠ x := by
  intro h
  have h2 := congrArg UInt8.toNat h
  rw [UInt8.toNat_xor] at h2
  have h3 : x.toNat ^^^ (x.toNat ^^^ 64) = x.toNat ^^^ x.toNat := by rw [show x.toNat ^^^ 64 = x.toNat from h2]
  rw [← Nat.xor_assoc, Nat.xor_self, Nat.zero_xor] at h3
  omega
/-- A seal with another byte at J: what Open reads of it. -/
theorem flip_bad (l : List UInt8) {J : Nat} {x : UInt8} (hx : (sealB l)[J]? = some x) : ∃ l' s, (sealB l).take J ++ (x ^^^ 64) :: (sealB l).drop (J + 1) = l' ++ s ∧ l'.length = l.length ∧ s.length = 4 ∧ s ≠ lastB l' := by
  have hJ := (List.getElem?_eq_some_iff.1 hx).1
  rw [length_seal] at hJ
  have h4 := length_last l
  by_cases h : J < l.length
  · refine ⟨l.take J ++ (x ^^^ 64) :: l.drop (J + 1), lastB l, ?_, ?_, h4, fun e => ?_⟩
    · rw [sealB, List.take_append_of_le_length (by omega), List.drop_append_of_le_length (by omega)]
      simp
    · simp; omega
    · have hxl : l[J]? = some x := by rwa [sealB, List.getElem?_append_left h] at hx
      have hl : l = l.take J ++ x :: l.drop (J + 1) := by
        rw [List.getElem?_eq_getElem h] at hxl
        rw [← Option.some.inj hxl, ← List.drop_eq_getElem_cons h, List.take_append_drop]
      have hs := leN_inj (sum_lt _) (sum_lt _) e
      rw [hl] at hs
      have hne := sum_other ((l.take J)) (l.drop (J + 1)) (x := x) (y := x ^^^ 64) (fun e => xor64_ne x e.symm)
      apply hne
      have h1 : (l.take J ++ x :: l.drop (J + 1)).take J = l.take J := by rw [List.take_left' (by simp; omega)]
      have h2 : (l.take J ++ x :: l.drop (J + 1)).drop (J + 1) = l.drop (J + 1) := by rw [← hl]
      rw [h1, h2] at hs
      exact hs
  · refine ⟨l, (lastB l).take (J - l.length) ++ (x ^^^ 64) :: (lastB l).drop (J - l.length + 1), ?_, rfl, ?_, fun e => ?_⟩
    · rw [sealB, List.take_append, List.drop_append, List.take_of_length_le (by omega), List.drop_eq_nil_of_le (by omega)]
      simp [show J + 1 - l.length = J - l.length + 1 by omega]
    · simp; omega
    · have hxl : (lastB l)[J - l.length]? = some x := by rwa [sealB, List.getElem?_append_right (by omega)] at hx
      have h5 := congrArg (fun L : List UInt8 => L[J - l.length]?) e
      rw [hxl,  List.getElem?_append_right (by simp; omega), List.length_take, h4, show J - l.length - min (J - l.length) 4 = 0 by omega] at h5
      exact xor64_ne x (by simpa using h5)
theorem bstr_flip (S : List UInt8) {J : Nat} (y : UInt8) : (bstr S).extract 0 J ++ bstr [y] ++ (bstr S).extract (J + 1) S.length = bstr (S.take J ++ y :: S.drop (J + 1)) := by
  rw [bstr_extract, bstr_extract, bstr_app, bstr_app, List.drop_zero, Nat.sub_zero, List.take_of_length_le (show (S.drop (J + 1)).length ≤ S.length - (J + 1) by simp)]
  simp
theorem xor_u8 (x : UInt8) : bits .xor .u8 (x.toNat : Int) 64 = ((x ^^^ 64).toNat : Int) := by
  have h := x.toNat_lt
  have hx : x.toNat ^^^ 64 < 2 ^ 8 := Nat.xor_lt_two_pow (by omega) (by omega)
  have h1 : (BitVec.ofInt 8 (x.toNat : Int)).toNat = x.toNat := by
    rw [BitVec.ofInt_natCast, BitVec.toNat_ofNat]; exact Nat.mod_eq_of_lt (by omega)
  have h2 : (BitVec.ofInt 8 (64 : Int)).toNat = 64 := by decide
  show IntKind.u8.wrap ((BitVec.ofInt 8 (x.toNat : Int) ^^^ BitVec.ofInt 8 (64 : Int)).toNat : Int) = _
  rw [BitVec.toNat_xor, h1, h2, IntKind.wrap_u8, UInt8.toNat_xor]
  show ((x.toNat ^^^ 64 : Nat) : Int) % 256 = ((x.toNat ^^^ 64 : Nat) : Int)
  omega
/-- The place that the law turns. -/
theorem place_ok (a : Int) (n : Nat) (hn : 0 < n) (hn2 : n ≤ 2000) : ∃ J : Nat, J < n ∧ Int.tmod (Int.tmod a (n : Int) + (n : Int)) (n : Int) = (J : Int) ∧ -(n : Int) < Int.tmod a (n : Int) ∧ Int.tmod a (n : Int) < (n : Int) := by
  have h1 : Int.tmod a (n : Int) < (n : Int) := Int.tmod_lt_of_pos _ (by omega)
  have h2 : -(n : Int) < Int.tmod a (n : Int) := by
    rcases Int.le_total 0 a with h | h
    · have := Int.tmod_nonneg (n : Int) h
      omega
    · have h3 := Int.tmod_lt_of_pos (-a) (show (0 : Int) < (n : Int) by omega)
      rw [Int.neg_tmod] at h3
      omega
  obtain ⟨s, hs⟩ := Int.eq_ofNat_of_zero_le (show 0 ≤ Int.tmod a (n : Int) + (n : Int) by omega)
  refine ⟨s % n, Nat.mod_lt _ hn, ?_, h2, h1⟩
  rw [hs]
  exact (Int.ofNat_tmod s n).symm
end Go.Proofs.YtkbncbkmaakpkaaDoor
