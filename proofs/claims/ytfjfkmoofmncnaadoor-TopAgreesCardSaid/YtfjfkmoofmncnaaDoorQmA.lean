/- quorum: Len, has, most of three nodes; ballot.Owner. -/
import Derived.Test.YtfjfkmoofmncnaaDoorMa
namespace Go.Proofs.YtfjfkmoofmncnaaDoor
open Go.RowKit
section
variable {w : World}
set_option maxRecDepth 100000 in
theorem qlen_any {g nb : Nat} {cap : Nat} (h : w.cell? ⟨g, 0, none⟩ = some (.slice (some ⟨nb, 0, none⟩) 3 cap)) : Calls Tryd.prog 6 #[.pointer (some ⟨g, 0, none⟩)] w fun e w' => e = .returned (.int .i64 3) ∧ w = w' := by
  go_enter Tryd.func6, Tryd.ntmps6
  go_wp2_with fail
  go_ret
  exact ⟨rfl, rfl⟩
set_option maxRecDepth 100000 in
theorem qhas_any {g nb : Nat} {cap : Nat} (h : w.cell? ⟨g, 0, none⟩ = some (.slice (some ⟨nb, 0, none⟩) 3 cap)) (i : Int) (h0 : 0 ≤ i) (h3 : i < 3) : Calls Tryd.prog 22 #[.pointer (some ⟨g, 0, none⟩), .int .i64 i] w fun e w' => e = .returned (.bool true) ∧ w = w' := by
  have e1 : decide (0 ≤ i) = true := by simpa using h0
  have e2 : decide (i < 3) = true := by simpa using h3
  go_enter Tryd.func22, Tryd.ntmps22
  go_wp2_with fail
  go_ret
  exact ⟨rfl, rfl⟩
set_option maxRecDepth 100000 in
theorem qmost_any {g nb : Nat} {cap : Nat} (h : w.cell? ⟨g, 0, none⟩ = some (.slice (some ⟨nb, 0, none⟩) 3 cap)) (n : Nat) (hn : n ≤ 3) : Calls Tryd.prog 29 #[.pointer (some ⟨g, 0, none⟩), .int .i64 (n : Int)] w fun e w' => e = .returned (.bool (decide (2 ≤ n))) ∧ w = w' := by
  have e1 : IntKind.i64.wrap (2 * (n : Int)) = 2 * (n : Int) := by rw [IntKind.wrap_i64]; omega
  have e2 : decide ((3 : Int) < 2 * (n : Int)) = decide (2 ≤ n) := by
    by_cases h : 2 ≤ n
    · rw [decide_eq_true h, decide_eq_true]; omega
    · rw [decide_eq_false h, decide_eq_false]; omega
  go_enter Tryd.func29, Tryd.ntmps29
  go_wp2_with fail
  go_ret
  exact ⟨rfl, rfl⟩
set_option maxRecDepth 100000 in
theorem owner_any (n : Int) (h1 : 1 ≤ n) (h2 : n ≤ 1099511627776) : Calls Tryd.prog 45 #[.int .i64 n] w fun e w' => e = .returned (.tuple #[.int .i64 ((n - 1) / 8), .int .i64 ((n - 1) % 8)]) ∧ w = w' := by
  have hy := ballot_yes (w := w) n h1 h2
  go_enter Tryd.func45, Tryd.ntmps45
  go_wp2_with fail
  refine hy.mono ?_
  rintro e w' ⟨rfl, rfl⟩
  clear hy
  go_wp2_with fail
  go_ret2
  exact ⟨rfl, rfl⟩
end
end Go.Proofs.YtfjfkmoofmncnaaDoor
