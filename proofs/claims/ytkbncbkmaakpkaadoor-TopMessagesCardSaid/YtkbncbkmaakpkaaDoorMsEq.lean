/- Two messages: are they the same? -/
import Derived.Test.YtkbncbkmaakpkaaDoorBagMem
import Derived.Laws.StructEq
namespace Go.Proofs.YtkbncbkmaakpkaaDoor
open Go.RowKit
theorem toListLoop_data (bs : ByteArray) : ∀ (n i : Nat) (r : List UInt8), bs.size - i = n → ByteArray.toList.loop bs i r = r.reverse ++ bs.data.toList.drop i := by
  intro n
  induction n with
  | zero =>
    intro i r h
    unfold ByteArray.toList.loop
    rw [if_neg (by omega), List.drop_eq_nil_of_le (by have : bs.data.toList.length = bs.size := rfl; omega), List.append_nil]
  | succ n ih =>
    intro i r h
    unfold ByteArray.toList.loop
    rw [if_pos (by omega), ih (i + 1) _ (by omega)]
    have hi : i < bs.data.toList.length := by have : bs.data.toList.length = bs.size := rfl; omega
    have hg : bs.get! i = bs.data.toList[i] := by
      rw [ByteArray.get!]
      have : bs.data[i]! = bs.data[i]'(by simpa using hi) := getElem!_pos _ _ _
      rw [this]; simp
    rw [List.drop_eq_getElem_cons hi]
    simp [hg]
theorem bytes_data (bs : ByteArray) : bs.toList = bs.data.toList := by
  have := toListLoop_data bs bs.size 0 [] rfl
  simpa [ByteArray.toList] using this
theorem bytes_eq {a b : ByteArray} (h : a.toList = b.toList) : a = b := by
  rw [bytes_data, bytes_data] at h
  exact ByteArray.ext (Array.toList_inj.1 h)
def Ms.eqb (a b : Ms) : Bool := (a.kind == b.kind) && ((a.src == b.src) && ((a.dst == b.dst) && ((a.epoch == b.epoch) && ((a.seq == b.seq) && ((a.off == b.off) && ((a.len == b.len) && (a.data.toList == b.data.toList)))))))
theorem Ms.eqb_iff (a b : Ms) : a.eqb b = true ↔ a = b := by
  unfold Ms.eqb
  simp only [Bool.and_eq_true, beq_iff_eq]
  constructor
  · rintro ⟨h0, h1, h2, h3, h4, h5, h6, h7⟩
    have := bytes_eq h7
    cases a; cases b; simp_all
  · rintro rfl; simp
instance : DecidableEq Ms := fun a b => decidable_of_iff (a.eqb b = true) (Ms.eqb_iff a b)
theorem Ms.eqb_dec (a b : Ms) : a.eqb b = decide (a = b) := by
  rw [Bool.eq_iff_iff, Ms.eqb_iff]; simp
theorem ok_ite (p : Prop) [Decidable p] (x : Bool) (w : World) : (if p then (Result.ok (Value.bool x) w : Result Value) else Result.ok (Value.bool false) w) = Result.ok (Value.bool (decide p && x)) w := by
  split <;> simp [*]
theorem int_beq (a b : Int) : (a == b) = decide (a = b) := by rw [Bool.eq_iff_iff]; simp
theorem list_beq (a b : List UInt8) : (a == b) = decide (a = b) := by rw [Bool.eq_iff_iff]; simp
set_option maxRecDepth 100000 in
theorem run_eql_msg (a b : Ms) (w : World) : (binOp .eql 51 a.val b.val).run Tryd.prog w = .ok (.bool (a.eqb b)) w := by
  unfold Ms.val Ms.eqb
  cases h0 : (a.kind == b.kind)
  all_goals go_simp
  simp only [ok_ite, int_beq, list_beq, Bool.and_true]
end Go.Proofs.YtkbncbkmaakpkaaDoor
