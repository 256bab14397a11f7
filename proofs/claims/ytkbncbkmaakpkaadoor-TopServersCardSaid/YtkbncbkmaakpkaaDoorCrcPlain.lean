/- The sum of a text, plain; each byte of a text tells in it. -/
import Derived.Test.YtkbncbkmaakpkaaDoorFw
import Derived.Laws.BitsLemmas
namespace Go.Proofs.YtkbncbkmaakpkaaDoor
theorem xor_rc {a b c : Nat} (h : a ^^^ c = b ^^^ c) : a = b := by
  have := congrArg (· ^^^ c) h
  simpa [Nat.xor_assoc] using this
theorem xor_lc {a b c : Nat} (h : c ^^^ a = c ^^^ b) : a = b := by rw [Nat.xor_comm c a, Nat.xor_comm c b] at h; exact xor_rc h
def tab : List Nat := [0, 498536548, 997073096, 651767980, 1994146192, 1802195444, 1303535960, 1342533948, 3988292384, 4027552580, 3604390888, 3412177804, 2607071920, 2262029012, 2685067896, 3183342108]
def tabAt (i : Nat) : Nat := tab.getD i 0
def nib (c : Nat) : Nat := (c / 16) ^^^ tabAt (c % 16)
def eat (c : Nat) (b : UInt8) : Nat := nib (nib (c ^^^ b.toNat))
def eats (c : Nat) (l : List UInt8) : Nat := l.foldl eat c
def sumB (l : List UInt8) : Nat := eats 4294967295 l ^^^ 4294967295
def lastB (l : List UInt8) : List UInt8 := leN (sumB l) 4
def sealB (l : List UInt8) : List UInt8 := l ++ lastB l
theorem tab_lt : ∀ i, i < 16 → tabAt i < 2 ^ 32 := by decide
theorem tab_top : ∀ i, i < 16 → ∀ j, j < 16 → tabAt i / 2 ^ 28 = tabAt j / 2 ^ 28 → i = j := by decide
theorem nib_lt {c : Nat} (h : c < 2 ^ 32) : nib c < 2 ^ 32 := Nat.xor_lt_two_pow (by omega) (tab_lt _ (Nat.mod_lt _ (by omega)))
theorem eat_lt {c : Nat} (h : c < 2 ^ 32) (b : UInt8) : eat c b < 2 ^ 32 := nib_lt (nib_lt (Nat.xor_lt_two_pow h (by have := b.toNat_lt; omega)))
theorem eats_lt {c : Nat} (h : c < 2 ^ 32) (l : List UInt8) : eats c l < 2 ^ 32 := by
  induction l generalizing c with
  | nil => exact h
  | cons b l ih => exact ih (eat_lt h b)
theorem sum_lt (l : List UInt8) : sumB l < 2 ^ 32 := Nat.xor_lt_two_pow (eats_lt (by decide) l) (by decide)
theorem eats_snoc (c : Nat) (l : List UInt8) (b : UInt8) : eats c (l ++ [b]) = eat (eats c l) b := by simp [eats]
theorem nib_top {c : Nat} (h : c < 2 ^ 32) : nib c / 2 ^ 28 = tabAt (c % 16) / 2 ^ 28 := by
  unfold nib
  rw [← Nat.shiftRight_eq_div_pow, Nat.shiftRight_xor_distrib, Nat.shiftRight_eq_div_pow, Nat.shiftRight_eq_div_pow, show c / 16 / 2 ^ 28 = 0 by omega, Nat.zero_xor]
theorem nib_inj {a b : Nat} (ha : a < 2 ^ 32) (hb : b < 2 ^ 32) (h : nib a = nib b) : a = b := by
  have h1 : a % 16 = b % 16 := tab_top _ (Nat.mod_lt _ (by omega)) _ (Nat.mod_lt _ (by omega)) (by rw [← nib_top ha, ← nib_top hb, h])
  have h2 : a / 16 = b / 16 := by
    unfold nib at h
    rw [h1] at h
    exact xor_rc h
  omega
theorem eat_inj {a b : Nat} (ha : a < 2 ^ 32) (hb : b < 2 ^ 32) {x y : UInt8} (h : eat a x = eat b y) : a ^^^ x.toNat = b ^^^ y.toNat := by
  have hx := x.toNat_lt
  have hy := y.toNat_lt
  exact nib_inj (Nat.xor_lt_two_pow ha (by omega)) (Nat.xor_lt_two_pow hb (by omega)) (nib_inj (nib_lt (Nat.xor_lt_two_pow ha (by omega))) (nib_lt (Nat.xor_lt_two_pow hb (by omega))) h)
theorem eats_inj {a b : Nat} (ha : a < 2 ^ 32) (hb : b < 2 ^ 32) (l : List UInt8) (h : eats a l = eats b l) : a = b := by
  induction l generalizing a b with
  | nil => exact h
  | cons x l ih => exact xor_rc (eat_inj ha hb (ih (eat_lt ha x) (eat_lt hb x) h))
/-- Another byte in a text's midst tells in its sum. -/
theorem sum_other (p s : List UInt8) {x y : UInt8} (h : x ≠ y) : sumB (p ++ x :: s) ≠ sumB (p ++ y :: s) := by
  intro he
  have h1 : eats 4294967295 (p ++ x :: s) = eats 4294967295 (p ++ y :: s) := xor_rc he
  have hp : eats 4294967295 p < 2 ^ 32 := eats_lt (by decide) p
  have h2 : eats (eat (eats 4294967295 p) x) s = eats (eat (eats 4294967295 p) y) s := by simpa [eats] using h1
  have h3 := eat_inj hp hp (eats_inj (eat_lt hp x) (eat_lt hp y) s h2)
  have h4 : x.toNat = y.toNat := xor_lc h3
  exact h (UInt8.toNat_inj.1 h4)
theorem leN_inj {a b : Nat} (ha : a < 2 ^ 32) (hb : b < 2 ^ 32) (h : leN a 4 = leN b 4) : a = b := by
  simp [leN, List.range_succ] at h
  obtain ⟨h0, h1, h2, h3⟩ := h
  have k0 := congrArg UInt8.toNat h0
  have k1 := congrArg UInt8.toNat h1
  have k2 := congrArg UInt8.toNat h2
  have k3 := congrArg UInt8.toNat h3
  simp only [UInt8.toNat_ofNat'] at k0 k1 k2 k3
  omega
theorem length_last (l : List UInt8) : (lastB l).length = 4 := length_leN _ _
theorem length_seal (l : List UInt8) : (sealB l).length = l.length + 4 := by rw [sealB, List.length_append, length_last]
theorem bits_u32 (a b : Nat) (ha : a < 2 ^ 32) (hb : b < 2 ^ 32) : bits .xor .u32 (a : Int) (b : Int) = ((a ^^^ b : Nat) : Int) := by
  have hx : a ^^^ b < 2 ^ 32 := Nat.xor_lt_two_pow ha hb
  have h1 : (BitVec.ofInt 32 (a : Int)).toNat = a := by
    rw [BitVec.ofInt_natCast, BitVec.toNat_ofNat]; exact Nat.mod_eq_of_lt ha
  have h2 : (BitVec.ofInt 32 (b : Int)).toNat = b := by
    rw [BitVec.ofInt_natCast, BitVec.toNat_ofNat]; exact Nat.mod_eq_of_lt hb
  show IntKind.u32.wrap ((BitVec.ofInt 32 (a : Int) ^^^ BitVec.ofInt 32 (b : Int)).toNat : Int) = _
  rw [BitVec.toNat_xor, h1, h2, IntKind.wrap_u32]
  omega
theorem and15_u32 (a : Nat) (ha : a < 2 ^ 32) : bits .and .u32 (a : Int) 15 = ((a % 16 : Nat) : Int) := by
  have h := bits_mask .u32 32 (by decide) (fun n h₀ h₁ => by rw [IntKind.wrap_u32]; omega) 4 (by decide) (a : Int) (by omega) (by omega)
  simpa using h
end Go.Proofs.YtkbncbkmaakpkaaDoor
