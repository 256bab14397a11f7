/- The plate's New. -/
import Derived.Test.YtkbncbkmaakpkaaDoorPlateB
namespace Go.Proofs.YtkbncbkmaakpkaaDoor
open Go.RowKit
def zPlate : List Value := .int .i64 0 :: (List.replicate 4096 (.int .u8 0) ++ [.slice none 0 0, .bool false, .int .i64 0, .int .u64 0, .int .i64 0])
set_option maxRecDepth 1000000 in
theorem Tryd.infoPlate : (Tryd.prog.info? 209).map (fun i => (i.zero, i.size)) = some (some (.agg zPlate.toArray), 4102) := by kernel_rfl
theorem zPlate_sec (n : Value) (o : Nat) (h1 : 1 ≤ o) (h2 : o < 4097) : (zPlate.set 0 n)[o]? = some (.int .u8 0) := by
  obtain ⟨k, rfl⟩ : ∃ k, o = k + 1 := ⟨o - 1, by omega⟩
  unfold zPlate
  rw [List.set_cons_zero, List.getElem?_cons_succ, List.getElem?_append_left (by rw [List.length_replicate]; omega), List.getElem?_replicate, if_pos (by omega)]
theorem zPlate_end (n : Value) (k : Nat) : (zPlate.set 0 n)[4097 + k]? = [Value.slice none 0 0, .bool false, .int .i64 0, .int .u64 0, .int .i64 0][k]? := by
  unfold zPlate
  rw [List.set_cons_zero, show 4097 + k = (4096 + k) + 1 by omega, List.getElem?_cons_succ, List.getElem?_append_right (by rw [List.length_replicate]; omega), List.length_replicate, Nat.add_sub_cancel_left]
theorem newPlate_is (w : World) (n : Nat) (h1 : 4 ≤ n) (h2 : n ≤ 128) : IsPlate (w.alloc (.cells (zPlate.set 0 (.int .i64 (n : Int))).toArray 209)) w.heap.size (.slice none 0 0) (PS.new n) := by
  have hc : ∀ o, (w.alloc (.cells (zPlate.set 0 (.int .i64 (n : Int))).toArray 209)).cell? ⟨w.heap.size, o, none⟩ = (zPlate.set 0 (.int .i64 (n : Int)))[o]? := fun o => by
    rw [World.cell?_alloc_new, List.getElem?_toArray]
  refine ⟨PS.ok_new n h1 h2, ?_, ?_, ?_, World.ownsRow_nil _ _ _ _, ?_, ?_, ?_, ?_, fun o => World.frozen?_alloc_new _ _ _ _, by simp [Value.ownBlock]⟩
  · rw [hc]; rfl
  · intro i s hs j u hu
    have hi : i < n := by have := (List.getElem?_eq_some_iff.1 hs).1; simpa [PS.new] using this
    have e : s = Zn 32 := by simp [PS.new, List.getElem?_replicate] at hs; exact hs.2.symm
    subst e
    have hj : j < 32 := by have := (List.getElem?_eq_some_iff.1 hu).1; simpa [length_bcells, Zn] using this
    rw [hc, zPlate_sec _ _ (by omega) (by omega)]
    simp only [bcells, Zn, List.map_replicate, List.getElem?_replicate, hj, if_true] at hu
    exact hu
  · rw [hc]; exact zPlate_end _ 0
  · rw [hc]; exact zPlate_end _ 1
  · rw [hc]; exact zPlate_end _ 2
  · rw [hc]; exact zPlate_end _ 3
  · rw [hc]; exact zPlate_end _ 4
/-- How many sectors are made. -/
def sizeOfN (n : Int) : Nat := (max 4 (min n 128)).toNat
set_option maxRecDepth 100000 in
set_option maxHeartbeats 1000000 in
theorem new_any {w : World} (n : Int) : Calls Tryd.prog 82 #[.int .i64 n] w fun e w' => e = .returned (.pointer (some ⟨w.heap.size, 0, none⟩)) ∧ IsPlate w' w.heap.size (.slice none 0 0) (PS.new (sizeOfN n)) ∧ Below w.heap.size w w' := by
  have hz := (zero_of_info Tryd.infoPlate).1
  have hne : ¬ zPlate = [] := by unfold zPlate; exact List.cons_ne_nil _ _
  have hfin : ∀ m : Nat, 4 ≤ m → m ≤ 128 → m = sizeOfN n → IsPlate (w.alloc (.cells (zPlate.set 0 (.int .i64 (m : Int))).toArray 209)) w.heap.size (.slice none 0 0) (PS.new (sizeOfN n)) ∧ Below w.heap.size w (w.alloc (.cells (zPlate.set 0 (.int .i64 (m : Int))).toArray 209)) := by
    intro m h1 h2 h3
    rw [← h3]
    exact ⟨newPlate_is w m h1 h2, (Below.refl _ _).alloc (Nat.le_refl _) _⟩
  have Hfin := Lib.hid hfin
  clear hfin
  by_cases h1 : 128 < n
  · have e := Hfin.out 128 (by omega) (by omega) (by unfold sizeOfN; omega)
    have E := Lib.hid e
    clear e
    go_enter Tryd.func82, Tryd.ntmps82
    go_wp2_with fail
    go_ret
    exact ⟨rfl, E.out⟩
  by_cases h2 : 4 < n
  · obtain ⟨m, rfl⟩ := Int.eq_ofNat_of_zero_le (show 0 ≤ n by omega)
    have e := Hfin.out m (by omega) (by omega) (by unfold sizeOfN; omega)
    have E := Lib.hid e
    clear e
    go_enter Tryd.func82, Tryd.ntmps82
    go_wp2_with fail
    go_ret
    exact ⟨rfl, E.out⟩
  · have e := Hfin.out 4 (by omega) (by omega) (by unfold sizeOfN; omega)
    have E := Lib.hid e
    clear e
    go_enter Tryd.func82, Tryd.ntmps82
    go_wp2_with fail
    go_ret
    exact ⟨rfl, E.out⟩
end Go.Proofs.YtkbncbkmaakpkaaDoor
