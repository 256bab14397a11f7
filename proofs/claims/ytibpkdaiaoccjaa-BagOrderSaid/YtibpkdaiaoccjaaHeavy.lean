/- The bound of the laws: heavy. -/
import Derived.Test.YtibpkdaiaoccjaaSteps
import Derived.WalkLawsBesides
import Derived.BigQuiet
namespace Go.Proofs.Ytibpkdaiaoccjaa
open Go.RowKit
/-- What heavy tells: a row that is not heavy has at most 200 calls. -/
def Heavy (l : List Stp) (w : World) (e : Ending) (w' : World) : Prop := ∃ B : Bool, e = .returned (.bool B) ∧ (B = false → l.length ≤ 200) ∧ w = w'
set_option maxRecDepth 100000 in
set_option maxHeartbeats 1000000 in
theorem heavy_any {w : World} {v : Value} {l : List Stp} (ha : ArgRow w v 10 (l.map Stp.cells)) :
    Calls Try.prog 17 #[v] w (Heavy l w) := by
  obtain ⟨base, cap, hv, hm⟩ := ha.slice
  have hst : ∀ k s, l[k]? = some s → _ := fun k s hk => ha.step (k := k) (s := s) hk
  subst hv
  have Hst := Lib.hid hst
  clear hst ha
  unfold maxLen at hm
  have hmn : ∀ (n : Nat) (W : World), (Builtin.min_ #[3, 3] 3 #[.int .i64 (n : Int), .int .i64 1048576]).run Try.prog W = .ok (.int .i64 (min (n : Int) 1048576)) W := by
    intro n W
    rw [run_min_int2, show (if (1048576 : Int) < (n : Int) then (1048576 : Int) else (n : Int)) = min (n : Int) 1048576 by split <;> omega]
  go_enter Try.func17, Try.ntmps17
  go_wp2_with fail
  go_loop [3, 4] (fun n i => ∃ (k N : Nat), k ≤ l.length ∧ i = .int .i64 (k : Int) ∧ N ≤ 1048576 + 8192 ∧ n = .int .i64 (N : Int)) (fun _ i => l.length - (intOf i).toNat)
  case atStart => exact ⟨0, min l.length 1048576, Nat.zero_le _, rfl, by omega, by congr 1; omega⟩
  case round =>
    obtain ⟨k, N, hk, rfl, hN, rfl⟩ := hrel
    by_cases hlt : k < l.length
    · by_cases hn : N ≤ 8192
      · obtain ⟨s, hs⟩ : ∃ s, l[k]? = some s := ⟨_, List.getElem?_eq_getElem hlt⟩
        obtain ⟨b, off, cap', hv, hb, hc⟩ := Hst.out k s hs
        simp only [Value.slice.injEq, true_and] at hv
        obtain ⟨rfl, rfl⟩ := hv
        have c9 := hc 9 _ rfl
        have e1 : decide ((k : Int) < (l.length : Int)) = true := by simpa using hlt
        have e2 : decide ((N : Int) ≤ 8192) = true := by simp; omega
        have hmin : (min (s.m.data.size : Int) 1048576) = ((min s.m.data.size 1048576 : Nat) : Int) := by omega
        have Hm := Lib.hid hmin
        have hm9 : (N : Int) + (min (s.m.data.size : Int) 1048576) ≤ 2000000 := by omega
        have hm8 : 0 ≤ (N : Int) + (min (s.m.data.size : Int) 1048576) := by omega
        clear hs hc hmin
        go_wp2_with fail
        go_round
        case rel => exact ⟨k + 1, N + min s.m.data.size 1048576, by omega, by go_num, by omega, by rw [Hm.out]; go_num⟩
        case measure => simp [intOf]; omega
      · have e1 : decide ((k : Int) < (l.length : Int)) = true := by simpa using hlt
        have e2 : decide ((N : Int) ≤ 8192) = false := by simp; omega
        have e3 : decide ((8192 : Int) < (N : Int)) = true := by simp; omega
        go_wp2_with fail
        go_ret
        exact ⟨true, rfl, fun h => (nomatch h), rfl⟩
    · have e1 : decide ((k : Int) < (l.length : Int)) = false := by simpa using hlt
      by_cases hn : 8192 < N
      · have e3 : decide ((8192 : Int) < (N : Int)) = true := by simp; omega
        go_wp2_with fail
        go_ret
        exact ⟨true, rfl, fun h => (nomatch h), rfl⟩
      · have e3 : decide ((8192 : Int) < (N : Int)) = false := by simp; omega
        by_cases hl : 200 < l.length
        · have e4 : decide ((200 : Int) < (l.length : Int)) = true := by simp; omega
          go_wp2_with fail
          go_ret
          exact ⟨true, rfl, fun h => (nomatch h), rfl⟩
        · have e4 : decide ((200 : Int) < (l.length : Int)) = false := by simp; omega
          go_wp2_with fail
          go_ret
          exact ⟨false, rfl, fun _ => by omega, rfl⟩
end Go.Proofs.Ytibpkdaiaoccjaa
