/- The plate's small calls: Size, Dead, Calls, wrong, Power, Cut, and what a crash settles of each write. -/
import Derived.Test.YtkbncbkmaakpkaaDoorProg
import Derived.Test.YtkbncbkmaakpkaaDoorPlateMem
import Derived.WalkLawsBesides
namespace Go.Proofs.YtkbncbkmaakpkaaDoor
open Go.RowKit

section
variable {b : Nat} {v : Value} {st : PS} {w : World}
set_option maxHeartbeats 400000 in
theorem size_any (h : IsPlate w b v st) : Calls Tryd.prog 153 #[.pointer (some ⟨b, 0, none⟩)] w fun e w' => e = .returned (.int .i64 (st.size : Int)) ∧ w = w' := by
  have h1 := h.size
  go_enter Tryd.func153, Tryd.ntmps153
  go_wp2
  go_ret
  exact ⟨rfl, rfl⟩
set_option maxHeartbeats 400000 in
theorem dead_any (h : IsPlate w b v st) : Calls Tryd.prog 85 #[.pointer (some ⟨b, 0, none⟩)] w fun e w' => e = .returned (.bool st.off) ∧ w = w' := by
  have h1 := h.off
  go_enter Tryd.func85, Tryd.ntmps85
  go_wp2
  go_ret
  exact ⟨rfl, rfl⟩
set_option maxHeartbeats 400000 in
theorem wrong_any (h : IsPlate w b v st) (i : Int) : Calls Tryd.prog 168 #[.pointer (some ⟨b, 0, none⟩), .int .i64 i] w fun e w' => e = .returned (.int .i64 (st.wrong i)) ∧ w = w' := by
  have h1 := h.off
  have h2 := h.size
  unfold PS.wrong
  cases ho : st.off
  · rw [ho] at h1
    clear ho
    by_cases h3 : i < 0
    · have h4 : decide (i < 0) = true := by simpa using h3
      simp only [h3, true_or, if_true, Bool.false_eq_true, if_false]
      go_enter Tryd.func168, Tryd.ntmps168
      go_wp2
      go_ret
      exact ⟨rfl, rfl⟩
    · have h4 : decide (i < 0) = false := by simpa using h3
      by_cases h5 : (st.size : Int) ≤ i
      · simp only [h3, h5, or_true, if_true, Bool.false_eq_true, if_false]
        go_enter Tryd.func168, Tryd.ntmps168
        go_wp2
        go_ret
        exact ⟨rfl, rfl⟩
      · simp only [h3, h5, or_self, Bool.false_eq_true, if_false]
        go_enter Tryd.func168, Tryd.ntmps168
        go_wp2
        go_ret
        exact ⟨rfl, rfl⟩
  · rw [ho] at h1
    clear ho
    simp only [if_true]
    go_enter Tryd.func168, Tryd.ntmps168
    go_wp2
    go_ret
    exact ⟨rfl, rfl⟩
set_option maxHeartbeats 400000 in
theorem power_any (h : IsPlate w b v st) : Calls Tryd.prog 89 #[.pointer (some ⟨b, 0, none⟩)] w fun e w' => e = .returned (.tuple #[]) ∧ IsPlate w' b v st.power ∧ Moves (pfp b v) w w' := by
  have h1 := h.off
  have h2 := h.left
  have h3 := h.fro 4098
  have h4 := h.fro 4099
  go_enter Tryd.func89, Tryd.ntmps89
  go_wp2
  go_end0
  exact ⟨rfl, (h.setOff false).setLeft 0 (by omega), ((Moves.refl _ _).setCell _ _ (.inl (.inl rfl))).setCell _ _ (.inl (.inl rfl))⟩
set_option maxHeartbeats 400000 in
theorem cut_any (h : IsPlate w b v st) (n : Int) (hn : n ≤ 9223372036854775807) (keep : Nat) (hk : keep < 18446744073709551616) :
    Calls Tryd.prog 36 #[.pointer (some ⟨b, 0, none⟩), .int .i64 n, .int .u64 (keep : Int)] w fun e w' => e = .returned (.tuple #[]) ∧ IsPlate w' b v (st.cut n keep) ∧ Moves (pfp b v) w w' := by
  have h1 := h.left
  have h2 := h.keep
  have h3 := h.fro 4099
  have h4 := h.fro 4100
  by_cases hneg : n < 0
  · have e : n.toNat = 0 := by omega
    have hp := (h.setLeft n.toNat (by omega)).setKeep keep hk
    rw [e] at hp
    have Hp : st.cut n keep = { st with left := 0, keep := keep } := by simp [PS.cut, e]
    rw [Hp]
    clear e Hp
    go_enter Tryd.func36, Tryd.ntmps36
    go_wp2
    go_end0
    exact ⟨rfl, hp, ((Moves.refl _ _).setCell _ _ (.inl (.inl rfl))).setCell _ _ (.inl (.inl rfl))⟩
  · obtain ⟨m, rfl⟩ := Int.eq_ofNat_of_zero_le (show 0 ≤ n by omega)
    have hp := (h.setLeft m (by omega)).setKeep keep hk
    go_enter Tryd.func36, Tryd.ntmps36
    go_wp2
    go_end0
    exact ⟨rfl, hp, ((Moves.refl _ _).setCell _ _ (.inl (.inl rfl))).setCell _ _ (.inl (.inl rfl))⟩
end

/-- The closure of Sync: all of each write. -/
theorem all_any (j : Int) (w : World) : Calls Tryd.prog 180 #[.int .i64 j] w fun e w' => e = .returned (.int .i64 32) ∧ w = w' := by
  go_enter Tryd.func180, Tryd.ntmps180
  go_wp2
  go_ret
  exact ⟨rfl, rfl⟩
theorem and15 (x : Nat) (h : x < 18446744073709551616) : bits BinOp.and IntKind.u64 (x : Int) 15 = ((x % 16 : Nat) : Int) := by
  have := bits_mask .u64 64 (by decide) (fun n h0 h1 => by rw [IntKind.wrap_u64]; omega) 4 (by decide) (x : Int) (by omega) (by omega)
  simpa using this
set_option maxHeartbeats 400000 in
/-- The closure of Crash: of the j-th write the first bytes that keep tells. -/
theorem part_any (kb : Nat) (w : World) (j : Nat) (hj : j < 1000000000) (keep : Nat) (hk : keep < 18446744073709551616) (h : w.cell? ⟨kb, 0, none⟩ = some (.int .u64 (keep : Int))) :
    Calls Tryd.prog 88 #[.int .i64 (j : Int), .pointer (some ⟨kb, 0, none⟩)] w fun e w' => e = .returned (.int .i64 (cutOf keep j : Int)) ∧ w = w' := by
  have h16 := tOf_lt keep j
  have hlt : keep / 2 ^ (j % 16 * 4) < 18446744073709551616 := Nat.lt_of_le_of_lt (Nat.div_le_self _ _) hk
  have hb : bits BinOp.and IntKind.u64 ((keep : Int) / 2 ^ (j % 16 * 4)) 15 = (tOf keep j : Int) := by
    have := and15 _ hlt
    rw [tOf, ← this]
    simp
  have Hc : Hid (cutOf keep j = if tOf keep j < 15 then 2 * tOf keep j else 32) := Eq.refl _
  generalize tOf keep j = t at *
  generalize cutOf keep j = c at *
  clear hlt
  by_cases ht : t < 15
  · go_enter Tryd.func88, Tryd.ntmps88
    go_wp2
    go_ret
    exact ⟨by rw [Hc.out, if_pos ht]; simp, rfl⟩
  · go_enter Tryd.func88, Tryd.ntmps88
    go_wp2
    go_ret
    exact ⟨by rw [Hc.out, if_neg ht]; simp, rfl⟩
end Go.Proofs.YtkbncbkmaakpkaaDoor
