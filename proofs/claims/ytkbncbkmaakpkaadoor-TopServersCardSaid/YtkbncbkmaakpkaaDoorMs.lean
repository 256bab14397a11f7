/- A message as plain data, and as it lies in memory; Check, the program's and the reference's. -/
import Derived.Test.YtkbncbkmaakpkaaDoorBase
import Derived.Test.YtkbncbkmaakpkaaDoorProg
import Derived.WalkLawsBesides
import Derived.Lib.Hide
namespace Go.Proofs.YtkbncbkmaakpkaaDoor
open Go.RowKit
structure Ms where
  kind : Int
  src : Int
  dst : Int
  epoch : Int
  seq : Int
  off : Int
  len : Int
  data : ByteArray
def i64 (x : Int) : Prop := -9223372036854775808 ≤ x ∧ x ≤ 9223372036854775807
namespace Ms
def fits (m : Ms) : Prop := i64 m.kind ∧ i64 m.src ∧ i64 m.dst ∧ i64 m.epoch ∧ i64 m.seq ∧ i64 m.off ∧ i64 m.len ∧ m.data.size ≤ maxLen
def cells (m : Ms) : List Value := [.int .i64 m.kind, .int .i64 m.src, .int .i64 m.dst, .int .i64 m.epoch, .int .i64 m.seq, .int .i64 m.off, .int .i64 m.len, .string m.data]
def val (m : Ms) : Value := .agg #[.int .i64 m.kind, .int .i64 m.src, .int .i64 m.dst, .int .i64 m.epoch, .int .i64 m.seq, .int .i64 m.off, .int .i64 m.len, .string m.data]
def zero : Ms := ⟨0, 0, 0, 0, 0, 0, 0, ⟨#[]⟩⟩
/-- Its numbers are in their bounds. -/
def inB (x most : Int) : Bool := decide (0 ≤ x) && decide (x ≤ most)
def nums (m : Ms) : Bool := inB m.kind 255 && (inB m.src 7 && inB m.dst 7) && (inB m.epoch 1099511627776 && inB m.seq 1099511627776) && (inB m.off 256 && inB m.len 256)
def check (m : Ms) : Int := if m.nums then (if 1024 < m.data.size then 11 else 0) else 1
end Ms
theorem val_eq (m : Ms) : m.val = .agg m.cells.toArray := rfl
theorem len_mcells (m : Ms) : m.cells.length = 8 := rfl
theorem one_mcells (m : Ms) : ∀ v ∈ m.cells, v.oneCell' = true := by
  intro v hv
  simp only [Ms.cells, List.mem_cons, List.not_mem_nil, or_false] at hv
  rcases hv with rfl | rfl | rfl | rfl | rfl | rfl | rfl | rfl <;> rfl
section
variable {w : World}
set_option maxRecDepth 100000 in
set_option maxHeartbeats 1000000 in
theorem within_any (most : Int) (zs : List Int) (b cap : Nat) (h : ∀ i z, zs[i]? = some z → w.cell? ⟨b, i, none⟩ = some (.int .i64 z)) (hn : zs.length ≤ 1000) :
    Calls Tryd.prog 102 #[.int .i64 most, .slice (some ⟨b, 0, none⟩) zs.length cap] w fun e w' => e = .returned (.bool (zs.all fun z => Ms.inB z most)) ∧ w = w' := by
  go_enter Tryd.func102, Tryd.ntmps102
  go_wp2_with fail
  go_loopw [9] (fun i wr => ∃ k : Nat, k ≤ zs.length ∧ i = .int .i64 (k : Int) ∧ Hid (zs.all (fun z => Ms.inB z most) = (zs.drop k).all fun z => Ms.inB z most) ∧ wr = w)
    (fun i _ => zs.length - (intOf i).toNat)
  case atStart => exact ⟨0, Nat.zero_le _, rfl, by rw [List.drop_zero]; exact rfl, rfl⟩
  case round =>
    obtain ⟨k, hk, rfl, hall, rfl⟩ := hrel
    by_cases hlt : k < zs.length
    · obtain ⟨z, hz⟩ : ∃ z, zs[k]? = some z := ⟨_, List.getElem?_eq_getElem hlt⟩
      have c := h k z hz
      have ed : zs.drop k = z :: zs.drop (k + 1) := by rw [List.drop_eq_getElem_cons hlt]; congr 1; rw [List.getElem?_eq_getElem hlt] at hz; exact Option.some.inj hz
      by_cases h0 : 0 ≤ z
      · by_cases h1 : z ≤ most
        · have hb : Hid (zs.all (fun z => Ms.inB z most) = (zs.drop (k + 1)).all fun z => Ms.inB z most) := by
            have := hall.out
            rw [ed, List.all_cons, Ms.inB, decide_eq_true h0, decide_eq_true h1] at this
            show _ = _
            simpa using this
          clear hall ed hz h
          go_wp2_with fail
          go_roundw
          case rel => exact ⟨k + 1, by omega, by go_num, hb, trivial⟩
          case measure => simp [intOf]; omega
        · have hb : Hid (zs.all (fun z => Ms.inB z most) = false) := by
            have := hall.out
            rw [ed, List.all_cons, Ms.inB, decide_eq_true h0, decide_eq_false h1] at this
            show _ = _
            simpa using this
          clear hall ed hz h
          go_wp2_with fail
          go_ret
          rw [hb.out]
          exact ⟨rfl, rfl⟩
      · have hb : Hid (zs.all (fun z => Ms.inB z most) = false) := by
          have := hall.out
          rw [ed, List.all_cons, Ms.inB, decide_eq_false h0] at this
          show _ = _
          simpa using this
        clear hall ed hz h
        go_wp2_with fail
        go_ret
        rw [hb.out]
        exact ⟨rfl, rfl⟩
    · have hb : Hid (zs.all (fun z => Ms.inB z most) = true) := by
        have := hall.out
        rw [List.drop_eq_nil_of_le (by omega)] at this
        exact this
      clear hall
      go_wp2_with fail
      go_ret
      rw [hb.out]
      exact ⟨rfl, rfl⟩
end
end Go.Proofs.YtkbncbkmaakpkaaDoor
